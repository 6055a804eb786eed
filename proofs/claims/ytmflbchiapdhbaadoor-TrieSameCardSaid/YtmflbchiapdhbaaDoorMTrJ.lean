/-
  The law's own map (filled), with how many keys it has; what Set and Remove of whatever key do to what a map has.
  What the law of two maps wants besides: pick; Prove of any map and any key; a list of numbers.
-/
import Derived.Test.YtmflbchiapdhbaaDoorMTrI
import Derived.Test.YtmflbchiapdhbaaDoorMTrB
import Derived.Test.YtmflbchiapdhbaaDoorTrProveN
namespace Go.Proofs.YtmflbchiapdhbaaDoor
open Go.RowKit

theorem set_step2 (b c : Nat) (t : Tr) (key value : List UInt8) (w : World) (h : Map w b t c) (hd : Dig w) (hb : 3 ≤ b) (hc : c ≤ 100000) (hkey : key.length ≤ 9223372036854775807) (hval : value.length ≤ 9223372036854775807) :
    Calls Tryd.prog 16 #[.pointer (some ⟨b, 0, none⟩), .string (str key), .string (str value)] w fun e w' => ∃ (ev : Int) (t' : Tr) (c' : Nat), e = .returned (.int .i64 ev) ∧ (ev = 0 ∨ ev = 242) ∧ c' ≤ c + 1 ∧ Map w' b t' c' ∧ Keeps (fun q => q = b) w w' ∧ ∀ k, t'.look k 0 ≠ none → t.look k 0 ≠ none ∨ (key.length ≤ 200 ∧ k = sha key) := by
  by_cases hl : 200 < key.length ∨ 1000 < value.length
  · exact (setmap_long b key value w hl hkey hval).mono fun e w' ⟨he, hf⟩ => ⟨242, t, c, he, .inr rfl, by omega, h.fresh hf, hf.mono (fun _ _ h => h.elim), fun k hk => .inl hk⟩
  · refine (set_map b c t key value w h hd hb (by omega) (by omega) (by omega)).mono ?_
    rintro e w' ⟨he, c2, hk, hm, hc2⟩
    refine ⟨0, _, c2, he, .inl rfl, by split at hc2 <;> omega, hm, hk, fun k hk => ?_⟩
    rw [added_look h.good (by omega) (by omega)] at hk
    by_cases e : k = sha key
    · exact .inr ⟨by omega, e⟩
    · rw [if_neg e] at hk; exact .inl hk
theorem remove_step (b c : Nat) (t : Tr) (key : List UInt8) (w : World) (h : Map w b t c) (hd : Dig w) (hc : c ≤ 100000) (hkey : key.length ≤ 9223372036854775807) :
    Calls Tryd.prog 17 #[.pointer (some ⟨b, 0, none⟩), .string (str key)] w fun e w' => ∃ (was : Bool) (ev : Int) (t' : Tr) (c' : Nat), e = .returned (.tuple #[.bool was, .int .i64 ev]) ∧ c' ≤ c ∧ Map w' b t' c' ∧ Keeps (fun q => q = b) w w' ∧ ∀ k, t'.look k 0 ≠ none → t.look k 0 ≠ none ∧ (key.length ≤ 200 → k ≠ sha key) := by
  by_cases hl : 200 < key.length
  · exact (removemap_long b key w hl hkey).mono fun e w' ⟨he, hf⟩ => ⟨_, _, t, c, he, by omega, h.fresh hf, hf.mono (fun _ _ h => h.elim), fun k hk => ⟨hk, fun h => by omega⟩⟩
  · refine (remove_map b c t key w h hd (by omega) (by omega)).mono ?_
    rintro e w' ⟨he, c2, hk, hm, hc2⟩
    refine ⟨_, _, _, c2, he, by omega, hm, hk, fun k hk => ?_⟩
    rw [(less_all h.good key).2.2.1] at hk
    by_cases e : k = sha key
    · rw [if_pos e] at hk; exact absurd rfl hk
    · rw [if_neg e] at hk; exact ⟨hk, fun _ => e⟩

set_option maxRecDepth 100000 in
set_option maxHeartbeats 4000000 in
theorem fill_any (v1 v2 : Value) (l1 l2 : List (List UInt8)) (w : World) (h1 : TextsAt w v1 l1) (h2 : TextsAt w v2 l2) (hd : Dig w) (hl1 : l1.length ≤ 9223372036854775807) (_hl2 : l2.length ≤ 9223372036854775807) (hs1 : ∀ s ∈ l1, s.length ≤ 9223372036854775807) (hs2 : ∀ s ∈ l2, s.length ≤ 9223372036854775807) :
    Calls Tryd.prog 11 #[v1, v2] w fun e w' => ∃ b, e = .returned (.pointer (some ⟨b, 0, none⟩)) ∧ w.heap.size ≤ b ∧ (∃ t c, c ≤ 200 ∧ Map w' b t c) ∧ Fresh w w' := by
  obtain ⟨ao1, cap1, rfl, hc1⟩ := h1
  obtain ⟨ao2, cap2, rfl, hc2⟩ := h2
  have HC1 := hid hc1
  have HC2 := hid hc2
  have HS1 := hid hs1
  have HS2 := hid hs2
  clear hc1 hc2 hs1 hs2
  go_enter Tryd.func11, Tryd.ntmps11
  go_wp2_with fail
  refine (new_map _).mono ?_
  rintro e w1 ⟨rfl, f1, hm⟩
  have hroom := hd.room
  obtain ⟨b, hbe⟩ : ∃ b, w.heap.size = b := ⟨_, rfl⟩
  have hbw : w.heap.size ≤ b := by omega
  have hbg : 3 ≤ b := by omega
  rw [hbe] at hm ⊢
  clear hbe hroom
  go_wp2_with fail
  go_loopw [6] (fun i wr => ∃ (n : Nat) (t : Tr) (c : Nat), i = .int .i64 (n : Int) ∧ n ≤ 200 ∧ n ≤ l1.length ∧ c ≤ n ∧ Map wr b t c ∧ Fresh w wr) (fun i _ => 200 - (intOf i).toNat)
  case atStart => exact ⟨0, .none, 0, rfl, by omega, by omega, by omega, hm, f1⟩
  case round =>
    obtain ⟨n, t, c, rfl, hn, hn1, hcn, hm, hf⟩ := hrel
    clear f1
    by_cases hlt1 : n < l1.length
    · by_cases hlt2 : n < l2.length
      · by_cases hlt3 : n < 200
        · obtain ⟨s1, hs1⟩ : ∃ s, l1[n]? = some s := ⟨l1[n], by simp⟩
          obtain ⟨s2, hs2⟩ : ∃ s, l2[n]? = some s := ⟨l2[n], by simp⟩
          obtain ⟨bb1, off1, hao1, hbb1, hcell1⟩ := HC1.out n s1 hs1
          obtain ⟨bb2, off2, hao2, hbb2, hcell2⟩ := HC2.out n s2 hs2
          have hcell1 := (hf.cell (p := ⟨bb1, off1 + n, none⟩) hbb1 (fun h => h)).trans hcell1
          have hcell2 := (hf.cell (p := ⟨bb2, off2 + n, none⟩) hbb2 (fun h => h)).trans hcell2
          have hset := set_step2 b c t s1 s2 wr.drew (hm.fresh ((Keeps.refl _ _).drew)) (hd.fresh hf).drew hbg (by omega) (HS1.out s1 (List.mem_of_getElem? hs1)) (HS2.out s2 (List.mem_of_getElem? hs2))
          have HSET := hid hset
          have hfd : Fresh w wr.drew := hf.drew
          subst hao1 hao2
          clear hs1 hs2 hset hm HC1 HC2 HS1 HS2 hd
          go_wp2_with fail
          go_region_law (first
            | (go_simp; go_at_call 16; refine HSET.out.mono ?_; rintro e w5 ⟨ev, t5, c5, rfl, hev, hc5, hm5, k5, -⟩))
          all_goals
            have f5 : Fresh w w5 := hfd.trans' k5 (fun i hi h => by omega)
            clear k5 hcell1 hcell2
            rcases hev with rfl | rfl
            · go_wp2_with fail
              go_roundw
              case rel => exact ⟨n + 1, t5, c5, by go_num, by omega, by omega, by omega, hm5, f5⟩
              case measure => simp [intOf]; omega
            · go_wp2_with fail
              go_roundw
              case rel => exact ⟨n + 1, t5, c5, by go_num, by omega, by omega, by omega, hm5, f5⟩
              case measure => simp [intOf]; omega
        · go_wp2_with fail
          go_ret
          exact ⟨b, rfl, hbw, ⟨t, c, by omega, hm⟩, hf⟩
      · go_wp2_with fail
        go_ret
        exact ⟨b, rfl, hbw, ⟨t, c, by omega, hm⟩, hf⟩
    · go_wp2_with fail
      go_ret
      exact ⟨b, rfl, hbw, ⟨t, c, by omega, hm⟩, hf⟩
end Go.Proofs.YtmflbchiapdhbaaDoor

namespace Go.Proofs.YtmflbchiapdhbaaDoor
open Go.RowKit

/-- what Prove tells: the sides, the words, the error -/
def Tr.proof (key : List UInt8) (t : Tr) : List (List UInt8) × (Bool × List UInt8 × List UInt8) × Int := if 200 < key.length then ([], (false, [], []), 242) else ((t.dig (sha key) 0).2, (t.dig (sha key) 0).1.told, 0)
theorem prove_map (b c : Nat) (t : Tr) (key : List UInt8) (w : World) (h : Map w b t c) (hd : Dig w) (hkey : key.length ≤ 9223372036854775807) :
    Calls Tryd.prog 12 #[.pointer (some ⟨b, 0, none⟩), .string (str key)] w fun e w' => ∃ v, e = .returned (.tuple #[lookupVal v (t.proof key).2.1, .int .i64 (t.proof key).2.2]) ∧ Fresh w w' ∧ OwnTexts w.heap.size w' v (t.proof key).1 := by
  unfold Tr.proof
  by_cases hl : 200 < key.length
  · simp only [if_pos hl]
    exact (prove_long b key w hl hkey).mono fun e w' ⟨he, hf⟩ => ⟨_, he, hf, World.ownsRow_nil _ _ _ _, fun _ h => nomatch h⟩
  · simp only [if_neg hl]
    exact prove_any b t c key w h.at_ h.good hd (by omega)
theorem proof_short {t : Tr} (hg : Tr.Good (fun _ => 0) 0 t) (key : List UInt8) : (t.proof key).1.length ≤ 256 := by
  unfold Tr.proof
  split
  · simp
  · exact Good.deep hg _

set_option maxRecDepth 100000 in
theorem pick_any (x : Int) (n : Nat) (w : World) (hn : 0 < n) (hn2 : n ≤ 1000000) (hx : -9223372036854775808 ≤ x) (hx2 : x ≤ 9223372036854775807) :
    Calls Tryd.prog 21 #[.int .i64 x, .int .i64 (n : Int)] w fun e w' => ∃ r : Nat, e = .returned (.int .i64 (r : Int)) ∧ r < n ∧ w = w' := by
  have fin : ∀ y : Int, 0 ≤ y → ∃ r : Nat, y.tmod (n : Int) = (r : Int) ∧ r < n := fun y hy => by
    have h1 := Int.tmod_nonneg (n : Int) hy
    have h2 := Int.tmod_lt_of_pos y (show (0 : Int) < (n : Int) by omega)
    exact ⟨(y.tmod (n : Int)).toNat, by omega, by omega⟩
  have hn0 : ¬ (n : Int) = 0 := by omega
  by_cases h : x < 0
  · obtain ⟨r, hr, hlt⟩ := fin (-(x + 1)) (by omega)
    go_enter Tryd.func21, Tryd.ntmps21
    go_wp2_with fail
    go_ret
    exact ⟨r, by rw [← hr]; rfl, hlt, rfl⟩
  · obtain ⟨r, hr, hlt⟩ := fin x (by omega)
    go_enter Tryd.func21, Tryd.ntmps21
    go_wp2_with fail
    go_ret
    exact ⟨r, by rw [← hr]; rfl, hlt, rfl⟩

/-- a list of numbers, as it came in -/
def IntsAt (w : World) (v : Value) (n : Nat) : Prop :=
  ∃ ao cap, v = .slice ao n cap ∧ ∀ k : Nat, k < n → ∃ bb off, ao = some ⟨bb, off, none⟩ ∧ bb < w.heap.size ∧ ∃ z : Int, -9223372036854775808 ≤ z ∧ z ≤ 9223372036854775807 ∧ w.cell? ⟨bb, off + k, none⟩ = some (.int .i64 z)
end Go.Proofs.YtmflbchiapdhbaaDoor
