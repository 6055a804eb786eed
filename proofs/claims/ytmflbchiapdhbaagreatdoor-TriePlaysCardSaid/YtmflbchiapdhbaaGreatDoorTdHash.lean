/-
  The document's trie map: hash, Root.
-/
import Derived.Test.YtmflbchiapdhbaaGreatDoorMTdA
import Derived.Test.YtmflbchiapdhbaaGreatDoorMShaB
import Derived.BigQuiet
import Derived.Deep.RegionLaw
namespace Go.Proofs.YtmflbchiapdhbaaGreatDoor
open Go.RowKit

set_option maxRecDepth 100000 in
set_option maxHeartbeats 2000000 in
theorem dhash_none (v : Value) (d : Int) (w : World) (h : ThingsAt w v []) :
    Calls Tryz.prog 33 #[v, .int .i64 d] w fun e w' => e = .returned (.string (str nought32)) ∧ Fresh w w' := by
  obtain ⟨ao, cap, rfl, -⟩ := h
  simp only [List.length_nil]
  go_enter Tryz.func33, Tryz.ntmps33
  go_wp2_with fail
  refine (noughts_any w).mono ?_
  rintro e w1 ⟨rfl, f1⟩
  go_wp2_with fail
  go_ret
  exact ⟨rfl, f1⟩

set_option maxRecDepth 100000 in
set_option maxHeartbeats 2000000 in
theorem dhash_one (v : Value) (d : Int) (x : Ent) (w : World) (h : ThingsAt w v [x]) :
    Calls Tryz.prog 33 #[v, .int .i64 d] w fun e w' => e = .returned (.string (str (sha (2 :: (sha x.1 ++ sha x.2))))) ∧ Fresh w w' := by
  obtain ⟨ao, cap, rfl, hc⟩ := h
  obtain ⟨bb, rfl, hbb, -, -, x2, x3⟩ := hc 0 x rfl
  simp only [Nat.zero_mul, Nat.zero_add] at x2 x3
  have h1 : (sha x.1).length = 32 := sha_len _
  have h2 : (sha x.2).length = 32 := sha_len _
  generalize sha x.1 = k at *
  generalize sha x.2 = u at *
  have HS : Hid (∀ W : World, Calls Tryz.prog 44 #[.string (str (2 :: (k ++ u)))] W fun e w' => e = .returned (.string (str (sha (2 :: (k ++ u))))) ∧ Fresh W w') := fun W => refsum_any _ W (by simp; omega)
  have hs1 := str_size k
  have hs2 := str_size u
  have hcat := str_cat
  have hov1 : ¬ 9223372036854775807 < 1 + k.length := by omega
  have hov2 : ¬ 9223372036854775807 < k.length + 1 + u.length := by omega
  have hs3 : (str (2 :: k)).size = k.length + 1 := str_size _
  have e1 : (⟨#[2]⟩ : ByteArray) = str [2] := rfl
  have hs4 : (str [2]).size = 1 := rfl
  generalize sha (2 :: (k ++ u)) = out at HS ⊢
  simp only [List.length_cons, List.length_nil]
  clear hc
  go_enter Tryz.func33, Tryz.ntmps33
  go_wp2_with fail
  go_region_law (first | (go_simp; go_at_call 44; refine (HS.out _).mono ?_; rintro e w2 ⟨rfl, f2⟩))
  all_goals
    go_wp2_with fail
    go_ret
    exact ⟨rfl, (Keeps.refl (fun _ => False) w).drew.trans f2⟩

set_option maxRecDepth 100000 in
set_option maxHeartbeats 2000000 in
theorem dhash_fork (v : Value) (d : Nat) (L : List Ent) (h0 h1 : List UInt8) (w : World) (h : ThingsAt w v L) (h2 : 2 ≤ L.length) (hl : L.length ≤ 1000000) (hd : d < 256) (hh0 : h0.length = 32) (hh1 : h1.length = 32)
    (H0 : ∀ W v', OwnThings W v' (sideL d 0 L) → Calls Tryz.prog 33 #[v', .int .i64 ((d : Int) + 1)] W fun e w' => e = .returned (.string (str h0)) ∧ Fresh W w')
    (H1 : ∀ W v', OwnThings W v' (sideL d 1 L) → Calls Tryz.prog 33 #[v', .int .i64 ((d : Int) + 1)] W fun e w' => e = .returned (.string (str h1)) ∧ Fresh W w') :
    Calls Tryz.prog 33 #[v, .int .i64 (d : Int)] w fun e w' => e = .returned (.string (str (sha (3 :: (h0 ++ h1))))) ∧ Fresh w w' := by
  have H := hid h
  have HH0 := hid H0
  have HH1 := hid H1
  obtain ⟨ao, cap, rfl, -⟩ := h
  have HS : Hid (∀ W : World, Calls Tryz.prog 44 #[.string (str (3 :: (h0 ++ h1)))] W fun e w' => e = .returned (.string (str (sha (3 :: (h0 ++ h1))))) ∧ Fresh W w') := fun W => refsum_any _ W (by simp; omega)
  have hs1 := str_size h0
  have hs2 := str_size h1
  have hcat := str_cat
  have hov1 : ¬ 9223372036854775807 < 1 + h0.length := by omega
  have hov2 : ¬ 9223372036854775807 < h0.length + 1 + h1.length := by omega
  have hs3 : (str (3 :: h0)).size = h0.length + 1 := str_size _
  have e1 : (⟨#[3]⟩ : ByteArray) = str [3] := rfl
  have HL := hid hl
  have q0 : ¬ (L.length : Int) = 0 := by omega
  have q1 : ¬ (L.length : Int) = 1 := by omega
  generalize sha (3 :: (h0 ++ h1)) = out at HS ⊢
  clear H0 H1 hl
  go_enter Tryz.func33, Tryz.ntmps33
  go_wp2_with fail
  refine (dside_any _ L d 0 _ H.out HL.out hd (by omega)).mono ?_
  rintro e w1 ⟨v1, rfl, f1, ho1, -⟩
  have HO1 := hid ho1
  obtain ⟨a1, c1, rfl⟩ := ownsRow_slice ho1
  clear ho1
  go_wp2_with fail
  refine (HH0.out _ _ HO1.out).mono ?_
  rintro e w2 ⟨rfl, f2⟩
  go_wp2_with fail
  refine (dside_any _ L d 1 _ (H.out.fresh (f1.trans f2)) HL.out hd (by omega)).mono ?_
  rintro e w3 ⟨v3, rfl, f3, ho3, -⟩
  have HO3 := hid ho3
  obtain ⟨a3, c3, rfl⟩ := ownsRow_slice ho3
  clear ho3
  go_wp2_with fail
  refine (HH1.out _ _ HO3.out).mono ?_
  rintro e w4 ⟨rfl, f4⟩
  go_wp2_with fail
  refine (HS.out _).mono ?_
  rintro e w5 ⟨rfl, f5⟩
  go_wp2_with fail
  go_ret
  exact ⟨rfl, (((f1.trans f2).trans f3).trans f4).trans f5⟩

theorem dhash_any : ∀ (t : Tr) (d : Nat) (p : Nat → Nat) (L : List Ent) (v : Value) (w : World), Tr.Good p d t → HasAt p d t L → ThingsAt w v L → L.length ≤ 1000000 →
    Calls Tryz.prog 33 #[v, .int .i64 (d : Int)] w fun e w' => e = .returned (.string (str t.hash)) ∧ Fresh w w'
  | .none, d, p, L, v, w, _, h, hv, _ => by
    obtain rfl := h.none_
    exact dhash_none v _ w hv
  | .leaf k s key val, d, p, L, v, w, hg, h, hv, _ => by
    obtain rfl := h.leaf_ hg
    have := dhash_one v (d : Int) (key, val) w hv
    have hs := hg.1.2.1
    rw [hg.1.1] at hs
    rw [Tr.hash, hs]
    exact this
  | .fork l r s, d, p, L, v, w, hg, h, hv, hl => by
    have h2 := h.fork_ hg
    have hg' := hg
    obtain ⟨h256, hs, hgl, hgr, -, -⟩ := hg
    have len : ∀ b, (sideL d b L).length ≤ 1000000 := fun b => by
      unfold sideL
      exact Nat.le_trans (List.length_filter_le _ _) hl
    have := dhash_fork v d L l.hash r.hash w hv h2 hl h256 (Good.hash_len hgl) (Good.hash_len hgr)
      (fun W v' ho => dhash_any l (d + 1) _ _ v' W hgl h.side0 ho.at_ (len 0)) (fun W v' ho => dhash_any r (d + 1) _ _ v' W hgr h.side1 ho.at_ (len 1))
    rw [Tr.hash, hs]
    exact this

set_option maxRecDepth 100000 in
theorem droot_any (y : Nat) (dv : Value) (L : List Ent) (t : Tr) (w : World) (h : DocAt w y dv L) (hl : L.length ≤ 1000000) (hg : Tr.Good (fun _ => 0) 0 t) (hh : Has t L) :
    Calls Tryz.prog 11 #[.pointer (some ⟨y, 0, none⟩)] w fun e w' => e = .returned (.string (str t.hash)) ∧ Fresh w w' := by
  have HC := hid (dhash_any t 0 _ L dv w hg hh h.row.at_ hl)
  obtain ⟨ao, cap, rfl, -⟩ := h.row.at_
  have c0 := cell_at h.box 0
  simp at c0
  clear h
  go_enter Tryz.func11, Tryz.ntmps11
  go_wp2_with fail
  refine HC.out.mono ?_
  rintro e w1 ⟨rfl, f1⟩
  go_wp2_with fail
  go_ret
  exact ⟨rfl, f1⟩
end Go.Proofs.YtmflbchiapdhbaaGreatDoor
