/-
  Package message: which fields a kind has; a number that may be a size; numbers that rise.
-/
import Derived.Test.YtpccaodkgboefaaGreatDoorMMsA
import Derived.Laws.Rows
namespace Go.Proofs.YtpccaodkgboefaaGreatDoor
open Go.RowKit

def hasV (h : Has) : Value := .agg #[.bool h.a, .bool h.b, .bool h.size, .bool h.list, .bool h.entries, .bool h.asks]
set_option maxRecDepth 100000 in
set_option maxHeartbeats 2000000 in
theorem which_any (k : Int) (w : World) : Calls Tryz.prog 62 #[.int .i64 k] w fun e w' => e = .returned (hasV (whichOf k)) ∧ Fresh w w' := by
  by_cases h : 1 ≤ k ∧ k ≤ 12 ∧ k ≠ 2
  · have h' : k = 1 ∨ k = 3 ∨ k = 4 ∨ k = 5 ∨ k = 6 ∨ k = 7 ∨ k = 8 ∨ k = 9 ∨ k = 10 ∨ k = 11 ∨ k = 12 := by omega
    clear h
    rcases h' with rfl | rfl | rfl | rfl | rfl | rfl | rfl | rfl | rfl | rfl | rfl
    all_goals
      go_enter Tryz.func62, Tryz.ntmps62
      go_wp2_with fail
      (try simp only [Exit.inBlock, Exit.then])
      refine bodyPost_ret (results_cell_row rfl _ _ w.heap.size 94 _ (0, 0) _ rfl (heap_alloc_new _ _) Tryz.underlying94 rfl (by kernel_rfl)) rfl ?_
      exact ⟨rfl, (Keeps.refl _ _).alloc _⟩
  · have hw : whichOf k = ⟨false, false, false, false, false, false⟩ := by
      unfold whichOf
      simp only [Has.mk.injEq, decide_eq_false_iff_not]
      omega
    rw [hw]
    have h1 : ¬ k = 1 := by omega
    have h3 : ¬ k = 3 := by omega
    have h4 : ¬ k = 4 := by omega
    have h5 : ¬ k = 5 := by omega
    have h6 : ¬ k = 6 := by omega
    have h7 : ¬ k = 7 := by omega
    have h8 : ¬ k = 8 := by omega
    have h9 : ¬ k = 9 := by omega
    have h10 : ¬ k = 10 := by omega
    have h11 : ¬ k = 11 := by omega
    have h12 : ¬ k = 12 := by omega
    clear h hw
    go_enter Tryz.func62, Tryz.ntmps62
    go_wp2_with fail
    (try simp only [Exit.inBlock, Exit.then])
    refine bodyPost_ret (results_cell_row rfl _ _ w.heap.size 94 _ (0, 0) _ rfl (heap_alloc_new _ _) Tryz.underlying94 rfl (by kernel_rfl)) rfl ?_
    exact ⟨rfl, (Keeps.refl _ _).alloc _⟩

set_option maxRecDepth 100000 in
set_option maxHeartbeats 1000000 in
theorem msize_any (S : Nat → Prop) (b : Nat) (st : WSt) (n : Int) (w : World) (h : WRep S w b st) (hlen : st.1.length < 70368744177664) :
    Calls Tryz.prog 66 #[.pointer (some ⟨b, 0, none⟩), .int .i64 n] w fun e w' => e = .returned (.tuple #[]) ∧ Acts S w w' fun S' => WRep S' w' b (mSize st n) := by
  by_cases hn : 1099511627776 < n
  · have hm : mSize st n = wNum st (-1) := by unfold mSize; rw [if_pos hn]
    rw [hm]
    have hc := wnum_any S b st (-1) w h hlen
    have HC := hid hc
    clear hc hm h
    go_enter Tryz.func66, Tryz.ntmps66
    go_wp2_with fail
    refine HC.out.mono ?_
    rintro e w' ⟨rfl, hA⟩
    go_wp2
    go_end0
    exact ⟨rfl, hA⟩
  · have hm : mSize st n = wNum st n := by unfold mSize; rw [if_neg hn]
    rw [hm]
    have hc := wnum_any S b st n w h hlen
    have HC := hid hc
    clear hc hm h
    go_enter Tryz.func66, Tryz.ntmps66
    go_wp2_with fail
    refine HC.out.mono ?_
    rintro e w' ⟨rfl, hA⟩
    go_wp2
    go_end0
    exact ⟨rfl, hA⟩

theorem inpart_any (k : Int) (w : World) : Calls Tryz.prog 68 #[.int .i64 k] w fun e w' => e = .returned (.bool (inPart k)) ∧ w = w' := by
  unfold inPart
  by_cases h3 : 3 ≤ k
  · by_cases h7 : k ≤ 7
    · rw [decide_eq_true h3, decide_eq_true h7]
      go_enter Tryz.func68, Tryz.ntmps68
      go_wp2_with fail
      go_ret
      exact ⟨rfl, rfl⟩
    · rw [decide_eq_true h3, decide_eq_false h7]
      go_enter Tryz.func68, Tryz.ntmps68
      go_wp2_with fail
      go_ret
      exact ⟨rfl, rfl⟩
  · rw [decide_eq_false h3, Bool.false_and]
    go_enter Tryz.func68, Tryz.ntmps68
    go_wp2_with fail
    go_ret
    exact ⟨rfl, rfl⟩

theorem ListAt.ints_ {w : World} {v : Value} {l : List Int} (h : ListAt w v (ints l)) :
    ∃ ao cap, v = .slice ao l.length cap ∧ ∀ (k : Nat) (s : Int), l[k]? = some s → ∃ bb off, ao = some ⟨bb, off, none⟩ ∧ bb < w.heap.size ∧ w.cell? ⟨bb, off + k, none⟩ = some (.int .i64 s) := by
  have hll : (ints l).length = l.length := by simp [ints]
  rcases h with ⟨hx, ao, cap, rfl⟩ | ⟨bb, off, cap, rfl, hbb, hc⟩
  · have : l = [] := by simpa [ints] using hx
    subst this
    exact ⟨ao, cap, rfl, fun k p hk => by simp at hk⟩
  · exact ⟨_, cap, by rw [hll], fun k p hk => ⟨bb, off, rfl, hbb, hc k _ (by simp [ints, hk])⟩⟩

set_option maxRecDepth 100000 in
set_option maxHeartbeats 1000000 in
theorem mrising_any (S : Nat → Prop) (b : Nat) (st : WSt) (v : Value) (l : List Int) (most : Nat) (w : World) (h : WRep S w b st) (hv : ListAt w v (ints l)) (hvS : ∀ g, v.ownBlock = some g → l ≠ [] → ¬ S g) (_hm : most ≤ 1000000)
    (hlen : st.1.length + 10 * l.length + 10 < 70368744177664) :
    Calls Tryz.prog 67 #[.pointer (some ⟨b, 0, none⟩), v, .int .i64 (most : Int)] w fun e w' => e = .returned (.tuple #[]) ∧ Acts S w w' fun S' => WRep S' w' b (mRising st l most) := by
  have hc1 := wnum_any S b st (-1) w h (by omega)
  have hc2 := wrising_if S b st v l w h hv hvS hlen
  obtain ⟨ao, cap, rfl, hc⟩ := hv.ints_
  have HC1 := hid hc1
  have HC2 := hid hc2
  clear hc1 hc2 h hvS
  by_cases h0 : l.length = 0
  · have hM : mRising st l most = wNum st (-1) := by unfold mRising; rw [if_pos (.inl h0)]
    rw [hM, h0]
    clear hM hc
    go_enter Tryz.func67, Tryz.ntmps67
    go_wp2_with fail
    refine HC1.out.mono ?_
    rintro e w' ⟨rfl, hA⟩
    go_wp2
    (try simp only [Exit.inBlock, Exit.then])
    refine bodyPost_ret (results_none rfl _ _ _) rfl ?_
    exact ⟨rfl, hA⟩
  · have h0' : ¬ ((l.length : Int) = 0) := by omega
    have h0b : ((l.length : Int) == 0) = false := by rw [beq_eq_false_iff_ne]; omega
    by_cases h1 : (most : Int) < l.length
    · have hM : mRising st l most = wNum st (-1) := by unfold mRising; rw [if_pos (.inr (.inl h1))]
      rw [hM]
      clear hM hc
      go_enter Tryz.func67, Tryz.ntmps67
      go_wp2_with fail
      refine HC1.out.mono ?_
      rintro e w' ⟨rfl, hA⟩
      go_wp2
      (try simp only [Exit.inBlock, Exit.then])
      refine bodyPost_ret (results_none rfl _ _ _) rfl ?_
      exact ⟨rfl, hA⟩
    · obtain ⟨x, hx⟩ : ∃ x, l[l.length - 1]? = some x := ⟨l[l.length - 1]'(by omega), by simp⟩
      obtain ⟨bb, off, rfl, hbb, hcell⟩ := hc _ x hx
      have hgd : l.getD (l.length - 1) 0 = x := by rw [List.getD_eq_getElem?_getD, hx]; rfl
      obtain ⟨p, hp⟩ : ∃ p : Nat, l.length = p + 1 := ⟨l.length - 1, by omega⟩
      rw [hp] at hcell
      simp only [Nat.add_sub_cancel] at hcell
      have hpw : ((p + 1 : Nat) : Int) - 1 = (p : Int) := by omega
      have hp0 : (0 : Int) ≤ (p : Int) := by omega
      have hp1 : (p : Int) < ((p + 1 : Nat) : Int) := by omega
      have hb0 : ((p : Int) + 1 == 0) = false := by simp; omega
      have hb1 : decide ((most : Int) < (p : Int) + 1) = false := by rw [decide_eq_false_iff_not]; omega
      by_cases h2 : 1099511627776 < x
      · have hM : mRising st l most = wNum st (-1) := by unfold mRising; rw [if_pos (.inr (.inr (by rw [hgd]; exact h2)))]
        rw [hM]
        rw [hp] at h0' h1
        rw [hp]
        clear hM hc hgd hx
        go_enter Tryz.func67, Tryz.ntmps67
        go_wp2_with fail
        refine HC1.out.mono ?_
        rintro e w' ⟨rfl, hA⟩
        go_wp2
        (try simp only [Exit.inBlock, Exit.then])
        refine bodyPost_ret (results_none rfl _ _ _) rfl ?_
        exact ⟨rfl, hA⟩
      · have hM : mRising st l most = wRising st l := by unfold mRising; rw [if_neg (by rw [hgd]; omega)]
        rw [hM]
        rw [hp] at h0' h1 HC2
        rw [hp]
        clear hM hc hgd hx
        go_enter Tryz.func67, Tryz.ntmps67
        go_wp2_with fail
        refine HC2.out.mono ?_
        rintro e w' ⟨rfl, hA⟩
        go_wp2
        go_end0
        exact ⟨rfl, hA⟩
end Go.Proofs.YtpccaodkgboefaaGreatDoor
