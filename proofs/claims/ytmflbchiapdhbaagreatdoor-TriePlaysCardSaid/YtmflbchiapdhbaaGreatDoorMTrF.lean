/-
  The program's trie: set and remove, of any trie.
  The program's trie: Remove (over the contract of remove); Set and Remove of any map.
-/
import Derived.Test.YtmflbchiapdhbaaGreatDoorTrSetF
import Derived.Test.YtmflbchiapdhbaaGreatDoorTrSetL
import Derived.Test.YtmflbchiapdhbaaGreatDoorTrSet
import Derived.Test.YtmflbchiapdhbaaGreatDoorMTrE
import Derived.Test.YtmflbchiapdhbaaGreatDoorMTrD
namespace Go.Proofs.YtmflbchiapdhbaaGreatDoor
open Go.RowKit

section
variable {ka sa keya vala k sm key val : List UInt8}
theorem set_two (ha : LeafOk ka sa keya vala) (hx : LeafOk k sm key val) (hne : ka ≠ k) : ∀ (n d : Nat) (p : Nat → Nat), d + n = 256 → (∀ i, i < d → bitAt ka i = p i) → (∀ i, i < d → bitAt k i = p i) → ∀ w : World, Dig w →
    Calls Tryz.prog 34 #[(Tr.leaf ka sa keya vala).val, .agg (leafCells k sm key val), .int .i64 (d : Int)] w fun e w' => e = .returned (Tr.two (.leaf ka sa keya vala) (.leaf k sm key val) ka k n d).val ∧ Fresh w w'
  | 0, d, p, hd, h1, h2, w, hw => absurd (bits_inj ha.len hx.len fun i hi => (h1 i (by omega)).trans (h2 i (by omega)).symm) hne
  | n + 1, d, p, hd, h1, h2, w, hw => by
    have hsa : sa.length ≤ 1000000 := by rw [ha.2.1, sha_len]; omega
    have hsm : (Tr.leaf k sm key val).hash.length ≤ 1000000 := by rw [Tr.hash, hx.2.1, sha_len]; omega
    have e1 : ((d + 1 : Nat) : Int) = (d : Int) + 1 := rfl
    unfold Tr.two
    by_cases hb : bitAt ka d = bitAt k d
    · rw [if_pos hb]
      by_cases h0 : bitAt k d = 0
      · rw [if_pos h0]
        have hg := (two_good ha hx hne n (d + 1) (sideOf p d 0) (by omega) (sideOf_agree h1 (by omega)) (sideOf_agree h2 h0)).1
        have hl := Good.hash_len hg
        have ih := set_two ha hx hne n (d + 1) (sideOf p d 0) (by omega) (sideOf_agree h1 (by omega)) (sideOf_agree h2 h0)
        rw [e1] at ih
        exact set_other00 _ ka sa keya vala k sm key val d w hw ha.len hx.len hne (by omega) (by omega) h0 hsa (by omega) ih
      · rw [if_neg h0]
        have hg := (two_good ha hx hne n (d + 1) (sideOf p d 1) (by omega) (sideOf_agree h1 (by rw [hb]; exact bit_one h0)) (sideOf_agree h2 (bit_one h0))).1
        have hl := Good.hash_len hg
        have ih := set_two ha hx hne n (d + 1) (sideOf p d 1) (by omega) (sideOf_agree h1 (by rw [hb]; exact bit_one h0)) (sideOf_agree h2 (bit_one h0))
        rw [e1] at ih
        exact set_other11 _ ka sa keya vala k sm key val d w hw ha.len hx.len hne (by omega) (by rw [hb]; exact bit_one h0) (bit_one h0) hsa (by omega) ih
    · rw [if_neg hb]
      by_cases h0 : bitAt k d = 0
      · rw [if_pos h0]
        exact set_other10 _ ka sa keya vala k sm key val d w hw ha.len hx.len hne (by omega) (bit_one (by omega)) h0 hsa hsm (fun W _ => set_none k sm key val _ W)
      · rw [if_neg h0]
        have h3 := bit_one h0
        have h4 := bitAt_le ka d
        exact set_other01 _ ka sa keya vala k sm key val d w hw ha.len hx.len hne (by omega) (by omega) h3 hsa hsm (fun W _ => set_none k sm key val _ W)

theorem set_any (hx : LeafOk k sm key val) : ∀ (t : Tr) (d : Nat) (p : Nat → Nat), d ≤ 256 → Tr.Good p d t → (∀ i, i < d → bitAt k i = p i) → ∀ w : World, Dig w →
    Calls Tryz.prog 34 #[t.val, .agg (leafCells k sm key val), .int .i64 (d : Int)] w fun e w' => e = .returned (Tr.put (.leaf k sm key val) k d t).val ∧ Fresh w w'
  | .none, d, p, _, _, _, w, _ => set_none k sm key val _ w
  | .leaf ka sa keya vala, d, p, hd, hg, h2, w, hw => by
    rw [Tr.put]
    by_cases he : ka = k
    · subst he
      rw [if_pos rfl]
      exact set_same ka sa keya vala sm key val _ w
    · rw [if_neg he]
      exact set_two hg.1 hx he (256 - d) d p (by omega) hg.2 h2 w hw
  | .fork l r s, d, p, hd, hg, h2, w, hw => by
    obtain ⟨h256, hs, hl, hr, c1, c2⟩ := hg
    have e1 : ((d + 1 : Nat) : Int) = (d : Int) + 1 := rfl
    have hll := Good.hash_len hl
    have hlr := Good.hash_len hr
    rw [Tr.put]
    by_cases h0 : bitAt k d = 0
    · rw [if_pos h0]
      have hq := Good.hash_len (put_good hx l (d + 1) (sideOf p d 0) (by omega) hl (sideOf_agree h2 h0)).1
      have ih := set_any hx l (d + 1) (sideOf p d 0) (by omega) hl (sideOf_agree h2 h0)
      rw [e1] at ih
      exact set_fork0 l r _ s k sm key val d w hw hx.len h256 h0 (by omega) (by omega) ih
    · rw [if_neg h0]
      have hq := Good.hash_len (put_good hx r (d + 1) (sideOf p d 1) (by omega) hr (sideOf_agree h2 (bit_one h0))).1
      have ih := set_any hx r (d + 1) (sideOf p d 1) (by omega) hr (sideOf_agree h2 (bit_one h0))
      rw [e1] at ih
      exact set_fork1 l r _ s k sm key val d w hw hx.len h256 (bit_one h0) (by omega) (by omega) ih
end

theorem remove_any (k : List UInt8) (hk : k.length = 32) : ∀ (t : Tr) (d : Nat) (p : Nat → Nat), Tr.Good p d t → (∀ i, i < d → bitAt k i = p i) → ∀ w : World, Dig w →
    Calls Tryz.prog 46 #[t.val, .string (str k), .int .i64 (d : Int)] w fun e w' => e = .returned (.tuple #[(Tr.cut k d t).1.val, .bool (Tr.cut k d t).2]) ∧ Fresh w w'
  | .none, d, p, _, _, w, _ => remove_none k _ w
  | .leaf a b c e, d, p, _, _, w, _ => by
    have h := remove_leaf a b c e k (d : Int) w
    rw [Tr.cut]
    by_cases he : a = k
    · rw [if_pos he, decide_eq_true he] at h
      rw [if_pos he]
      exact h
    · rw [if_neg he, decide_eq_false he] at h
      rw [if_neg he]
      exact h
  | .fork l r s, d, p, hg, h2, w, hw => by
    obtain ⟨h256, hs, hl, hr, c1, c2⟩ := hg
    have e1 : ((d + 1 : Nat) : Int) = (d : Int) + 1 := rfl
    have hll := Good.hash_len hl
    have hlr := Good.hash_len hr
    rw [Tr.cut]
    by_cases h0 : bitAt k d = 0
    · rw [if_pos h0]
      have hq := Good.hash_len (cut_all k l (d + 1) (sideOf p d 0) hl (sideOf_agree h2 h0)).1
      have ih := remove_any k hk l (d + 1) (sideOf p d 0) hl (sideOf_agree h2 h0)
      rw [e1] at ih
      by_cases hc : (Tr.cut k (d + 1) l).2 = true
      · rw [if_pos hc]
        rw [hc] at ih
        exact remove_was0 l r _ s k d w hw hk h256 h0 (by omega) (by omega) ih
      · rw [if_neg hc]
        rw [Bool.not_eq_true] at hc
        rw [hc] at ih
        exact remove_not0 l r _ s k d w hw hk h256 h0 ih
    · rw [if_neg h0]
      have hq := Good.hash_len (cut_all k r (d + 1) (sideOf p d 1) hr (sideOf_agree h2 (bit_one h0))).1
      have ih := remove_any k hk r (d + 1) (sideOf p d 1) hr (sideOf_agree h2 (bit_one h0))
      rw [e1] at ih
      by_cases hc : (Tr.cut k (d + 1) r).2 = true
      · rw [if_pos hc]
        rw [hc] at ih
        exact remove_was1 l r _ s k d w hw hk h256 (bit_one h0) (by omega) (by omega) ih
      · rw [if_neg hc]
        rw [Bool.not_eq_true] at hc
        rw [hc] at ih
        exact remove_not1 l r _ s k d w hw hk h256 (bit_one h0) ih
end Go.Proofs.YtmflbchiapdhbaaGreatDoor

namespace Go.Proofs.YtmflbchiapdhbaaGreatDoor
open Go.RowKit

set_option maxRecDepth 100000 in
set_option maxHeartbeats 4000000 in
theorem removemap_any (b : Nat) (t t' : Tr) (was : Bool) (many : Int) (key : List UInt8) (w : World) (h : MapAt w b t many) (hd : Dig w) (hkey : key.length ≤ 200)
    (hrem : ∀ w, Dig w → Calls Tryz.prog 46 #[t.val, .string (str (sha key)), .int .i64 0] w fun e w' => e = .returned (.tuple #[t'.val, .bool was]) ∧ Fresh w w') :
    Calls Tryz.prog 17 #[.pointer (some ⟨b, 0, none⟩), .string (str key)] w fun e w' => e = .returned (.tuple #[.bool was, .int .i64 0]) ∧ Keeps (fun q => q = b) w w' ∧ MapAt w' b t' (if was then wrap64 (many - 1) else many) := by
  have hsz := str_size key
  obtain ⟨k, hk⟩ : ∃ k, sha key = k := ⟨_, rfl⟩
  have hsumk : ∀ W : World, Dig W → Calls Tryz.prog 15 #[.slice (some ⟨W.heap.size, 0, none⟩) 1 1] (W.alloc (.cells #[.string (str key)] 9)) fun e w' => e = .returned (.string (str k)) ∧ Fresh W w' := fun W hdW => by
    have := psum_one W.heap.size key _ (heap_alloc_new W _) (hdW.alloc _) (by omega)
    rw [hk] at this
    exact this.mono (fun e w' h => ⟨h.1, ((Keeps.refl _ _).alloc _).trans h.2⟩)
  rw [hk] at hrem
  obtain ⟨ty, dat, fn, hty, -, -, -⟩ := hash_any t
  obtain ⟨ty2, dat2, fn2, hty2, -, -, -⟩ := hash_any t'
  have HH : Hid (w.heap[b]? = some (.cells #[.iface ty dat, .int .i64 many] 54 (0, 0))) := by rw [← hty]; exact h
  rw [hty, hty2] at hrem
  have HTY2 := hid hty2
  have HSUMK := hid hsumk
  have HREM := hid hrem
  clear hsumk hrem hk h hty hty2
  cases was with
  | true =>
    go_enter Tryz.func17, Tryz.ntmps17
    go_wp2_with fail
    have hbb : w.drew.heap[b]? = _ := HH.out
    have f1 : Fresh w w.drew := (Keeps.refl _ _).drew
    have d0 := cell_at hbb 0
    simp at d0
    have e0 := (cell_at (((Keeps.refl (fun _ => False) w).alloc (.cells #[.string (str key)] 9)).at_ HH.out (fun h => h)) 0).trans rfl
    simp at e0
    go_region_law (first
        | (go_simp; go_at_call 15; refine (HSUMK.out _ (hd.fresh f1)).mono ?_; rintro e w5 ⟨rfl, fa⟩; have f1 := f1.trans fa; have hbb := fa.at_ hbb (fun h => h); have d0 := cell_at hbb 0; simp at d0)
        | (go_simp; go_at_call 46; refine (HREM.out _ (hd.fresh f1)).mono ?_; rintro e w6 ⟨rfl, fa⟩; have f2 := f1.trans fa; have hbb := fa.at_ hbb (fun h => h)))
    all_goals
      clear d0 e0
      have d0 := cell_at hbb 0
      have d1 := cell_at hbb 1
      have z0 := free_at hbb 0
      have z1 := free_at hbb 1
      simp at d0 d1
      clear f1 HSUMK HREM
      go_wp2_with fail
      go_ret2
      refine ⟨rfl, Keeps.setCell (S := fun q => q = b) (Keeps.setCell (S := fun q => q = b) (f2.mono (fun _ _ h => h.elim)) (p := ⟨b, 0, none⟩) (fun _ => rfl) _) (p := ⟨b, 1, none⟩) (fun _ => rfl) _, ?_⟩
      rw [MapAt, HTY2.out]
      exact heap_setCell_at (heap_setCell_at hbb 0 (.iface ty2 dat2)) 1 (.int .i64 (wrap64 (many - 1)))
  | false =>
    go_enter Tryz.func17, Tryz.ntmps17
    go_wp2_with fail
    have hbb : w.drew.heap[b]? = _ := HH.out
    have f1 : Fresh w w.drew := (Keeps.refl _ _).drew
    have d0 := cell_at hbb 0
    simp at d0
    have e0 := (cell_at (((Keeps.refl (fun _ => False) w).alloc (.cells #[.string (str key)] 9)).at_ HH.out (fun h => h)) 0).trans rfl
    simp at e0
    go_region_law (first
        | (go_simp; go_at_call 15; refine (HSUMK.out _ (hd.fresh f1)).mono ?_; rintro e w5 ⟨rfl, fa⟩; have f1 := f1.trans fa; have hbb := fa.at_ hbb (fun h => h); have d0 := cell_at hbb 0; simp at d0)
        | (go_simp; go_at_call 46; refine (HREM.out _ (hd.fresh f1)).mono ?_; rintro e w6 ⟨rfl, fa⟩; have f2 := f1.trans fa; have hbb := fa.at_ hbb (fun h => h)))
    all_goals
      clear d0 e0
      have d0 := cell_at hbb 0
      have d1 := cell_at hbb 1
      have z0 := free_at hbb 0
      have z1 := free_at hbb 1
      simp at d0 d1
      clear f1 HSUMK HREM
      go_wp2_with fail
      go_ret2
      refine ⟨rfl, Keeps.setCell (S := fun q => q = b) (f2.mono (fun _ _ h => h.elim)) (p := ⟨b, 0, none⟩) (fun _ => rfl) _, ?_⟩
      rw [MapAt, HTY2.out]
      exact heap_setCell_at hbb 0 (.iface ty2 dat2)

/-- a map whose trie is right -/
structure MapOk (w : World) (b : Nat) (t : Tr) : Prop where
  good : Tr.Good (fun _ => 0) 0 t
  at_ : ∃ many, MapAt w b t many

theorem leafOk_of (key value : List UInt8) (hkey : key.length ≤ 200) (hval : value.length ≤ 1000) : LeafOk (sha key) (sha (2 :: (sha key ++ sha value))) key value := ⟨rfl, rfl, hkey, hval⟩
def Tr.added (key value : List UInt8) (t : Tr) : Tr := Tr.put (.leaf (sha key) (sha (2 :: (sha key ++ sha value))) key value) (sha key) 0 t
theorem with_good {t : Tr} {key value : List UInt8} (h : Tr.Good (fun _ => 0) 0 t) (hkey : key.length ≤ 200) (hval : value.length ≤ 1000) : Tr.Good (fun _ => 0) 0 (t.added key value) :=
  (put_good (leafOk_of key value hkey hval) t 0 _ (by omega) h (fun i hi => by omega)).1

theorem setok_any (b : Nat) (t : Tr) (many : Int) (key value : List UInt8) (w : World) (h : MapAt w b t many) (hg : Tr.Good (fun _ => 0) 0 t) (hd : Dig w) (hb : 3 ≤ b) (hkey : key.length ≤ 200) (hval : value.length ≤ 1000) :
    Calls Tryz.prog 12 #[.pointer (some ⟨b, 0, none⟩), .string (str key), .string (str value)] w fun e w' => e = .returned (.int .i64 0) ∧ Keeps (fun q => q = b) w w' ∧ MapAt w' b (t.added key value) (if t.has (sha key) then many else wrap64 (many + 1)) :=
  setmap_any b t _ many key value w h hd hb hkey hval (Good.deep hg _) (fun W hW => set_any (leafOk_of key value hkey hval) t 0 _ (by omega) hg (fun i hi => by omega) W hW)
theorem removeok_any (b : Nat) (t : Tr) (many : Int) (key : List UInt8) (w : World) (h : MapAt w b t many) (hg : Tr.Good (fun _ => 0) 0 t) (hd : Dig w) (hkey : key.length ≤ 200) :
    Calls Tryz.prog 17 #[.pointer (some ⟨b, 0, none⟩), .string (str key)] w fun e w' => e = .returned (.tuple #[.bool (Tr.cut (sha key) 0 t).2, .int .i64 0]) ∧ Keeps (fun q => q = b) w w' ∧ MapAt w' b (Tr.cut (sha key) 0 t).1 (if (Tr.cut (sha key) 0 t).2 then wrap64 (many - 1) else many) :=
  removemap_any b t _ _ many key w h hd hkey (fun W hW => remove_any (sha key) (sha_len _) t 0 _ hg (fun i hi => by omega) W hW)
end Go.Proofs.YtmflbchiapdhbaaGreatDoor
