/-
  What is laid down and what is taken again: for each thing that a message holds. Plain.
-/
import Derived.Test.YtpccaodkgboefaaGreatDoorPlainFrameP
import Derived.Test.YtpccaodkgboefaaGreatDoorMMsA
namespace Go.Proofs.YtpccaodkgboefaaGreatDoor
open Go.RowKit

/-- from st to st' something was laid down: where nothing was wrong, f takes just it, and tells x -/
def Round {α : Type} (st st' : WSt) (f : RSt → α × RSt) (x : α) : Prop := st'.2 = 0 → st.2 = 0 ∧ ∃ d, st'.1 = st.1 ++ d ∧ ∀ l c, ∃ c', f (d ++ l, c, 0) = (x, (l, c', 0))

theorem first_ne (a b : Int) (h : b ≠ 0) : first a b ≠ 0 := by unfold first; split <;> assumption
theorem refuse_ne (st : WSt) (b : Int) (h : b ≠ 0) : (wRefuse st b).2 ≠ 0 := first_ne _ _ h
theorem rd_of {α : Type} {p : List UInt8 → Except Int (α × List UInt8)} {z x : α} {d l : List UInt8} (h : p (d ++ l) = .ok (x, l)) (c : Nat) : ∃ c', rd p z (d ++ l, c, 0) = (x, (l, c', 0)) := by
  unfold rd
  rw [if_neg (by simp)]
  simp only [h]
  exact ⟨_, rfl⟩
theorem wNum_minus (st : WSt) : (wNum st (-1)).2 ≠ 0 := by
  unfold wNum
  rw [if_pos (by omega)]
  exact refuse_ne _ _ (by decide)
theorem pNum_of (n : Nat) (l : List UInt8) (h : n ≤ 4611686018427387904) : pNum 0 0 (digs n ++ l) = .ok (n, l) := by
  have := pNum_digs n 0 0 l (by omega) (by omega) (.inr rfl) (by have := digs_len9 h; omega)
  simpa using this
theorem pCount_of (n : Nat) (many : Int) (l : List UInt8) (h : n ≤ 4611686018427387904) (hm : (n : Int) ≤ many) : pCount many (digs n ++ l) = .ok (n, l) := by
  unfold pCount
  rw [pNum_of n l h]
  simp only
  rw [if_neg (by omega)]
theorem round_num (st : WSt) (n : Int) : Round (α := Int) st (wNum st n) (fun r => (((rd (pNum 0 0) 0 r).1 : Nat), (rd (pNum 0 0) 0 r).2)) (n : Int) := by
  intro h
  unfold wNum at h ⊢
  by_cases hn : n < 0 ∨ 4611686018427387904 < n
  · rw [if_pos hn] at h
    exact absurd h (refuse_ne _ _ (by decide))
  · rw [if_neg hn] at h ⊢
    refine ⟨h, digs n.toNat, rfl, fun l c => ?_⟩
    obtain ⟨c', hc⟩ := rd_of (z := 0) (pNum_of n.toNat l (by omega)) c
    refine ⟨c', ?_⟩
    simp only [hc]
    rw [show ((n.toNat : Nat) : Int) = n by omega]
theorem round_size (st : WSt) (n : Int) : Round (α := Int) st (mSize st n) (fun r => (((rd (pNum 0 0) 0 r).1 : Nat), (rd (pNum 0 0) 0 r).2)) (n : Int) := by
  unfold mSize
  split
  · intro h
    exact absurd h (wNum_minus st)
  · exact round_num st n
theorem round_byte (st : WSt) (n : Int) : Round (α := Int) st (wByte st n) (fun r => (((rd pByte 0 r).1 : Nat), (rd pByte 0 r).2)) (n : Int) := by
  intro h
  unfold wByte at h ⊢
  by_cases hn : n < 0 ∨ 255 < n
  · rw [if_pos hn] at h
    exact absurd h (refuse_ne _ _ (by decide))
  · rw [if_neg hn] at h ⊢
    refine ⟨h, [UInt8.ofNat n.toNat], rfl, fun l c => ?_⟩
    obtain ⟨c', hc⟩ := rd_of (p := pByte) (z := 0) (x := (UInt8.ofNat n.toNat).toNat) (d := [UInt8.ofNat n.toNat]) (l := l) rfl c
    refine ⟨c', ?_⟩
    simp only [hc]
    rw [show (((UInt8.ofNat n.toNat).toNat : Nat) : Int) = n by
      have : n.toNat < 256 := by omega
      simp [UInt8.toNat_ofNat']
      omega]
theorem round_raw (st : WSt) (s : List UInt8) (n : Nat) (h : s.length = n) : Round st (wRaw st s) (rd (pRaw (n : Int)) []) s := by
  intro h0
  refine ⟨h0, s, rfl, fun l c => rd_of ?_ c⟩
  unfold pRaw
  rw [if_neg (by omega), if_neg (by simp; omega), ← h]
  simp
theorem round_root (st : WSt) (s : List UInt8) : Round st (mRoot st s) (rd (pRaw 32) []) s := by
  unfold mRoot
  by_cases h : s.length ≠ 32
  · rw [if_pos h]
    intro h0
    exact absurd h0 (wNum_minus st)
  · rw [if_neg h]
    exact round_raw st s 32 (by omega)
theorem rises_lay : ∀ (l : List Int) (last : Int) (t : List UInt8), -1 ≤ last → rises last l = true → pRiseN l.length last (deltas last l ++ t) = .ok (l, t)
  | [], _, _, _, _ => rfl
  | n :: r, last, t, h0, h => by
    simp [rises] at h
    obtain ⟨⟨h1, h2⟩, h3⟩ := h
    simp only [List.length_cons, deltas, pRiseN, List.append_assoc]
    rw [pNum_of _ _ (by omega)]
    simp only
    rw [if_neg (by omega), show last + (((n - (last + 1)).toNat : Nat) + 1 : Int) = n by omega, rises_lay r n t (by omega) h3]
theorem round_rising (st : WSt) (l : List Int) (most : Int) (hm : most ≤ 256) : Round st (mRising st l most) (rd (pRising 256) []) l := by
  unfold mRising
  split
  · intro h
    exact absurd h (wNum_minus st)
  · rename_i hn
    intro h
    unfold wRising at h ⊢
    by_cases hr : rises (-1) l = true
    · rw [if_pos hr] at h ⊢
      refine ⟨h, digs l.length ++ deltas (-1) l, by simp, fun t c => rd_of ?_ c⟩
      unfold pRising
      rw [if_neg (by omega), List.append_assoc, pCount_of _ _ _ (by omega) (by omega)]
      exact rises_lay l (-1) t (by omega) hr
    · rw [if_neg hr] at h
      exact absurd h (refuse_ne _ _ (by decide))
theorem round_fold (most : Int) (hmo : 0 ≤ most) (hb : most ≤ 4611686018427387904) : ∀ (xs : List (List UInt8)) (st : WSt), (xs.foldl (fun st s => wText st s most) st).2 = 0 → st.2 = 0 ∧ ∃ d, (xs.foldl (fun st s => wText st s most) st).1 = st.1 ++ d ∧ ∀ l, pElems (pText most) xs.length (d ++ l) = .ok (xs, l)
  | [], st, h => ⟨h, [], by simp, fun l => rfl⟩
  | x :: xs, st, h => by
    rw [List.foldl_cons] at h ⊢
    obtain ⟨h1, d, h2, h3⟩ := round_fold most hmo hb xs _ h
    unfold wText at h1
    rw [if_neg (by omega)] at h1
    by_cases hx : most < x.length
    · rw [if_pos hx] at h1
      exact absurd h1 (refuse_ne _ _ (by decide))
    · rw [if_neg hx] at h1
      refine ⟨h1, digs x.length ++ x ++ d, ?_, fun l => ?_⟩
      · rw [h2]
        unfold wText
        rw [if_neg (by omega), if_neg hx]
        simp
      · simp only [List.length_cons, pElems, List.append_assoc]
        rw [pText_frame x _ most (by omega) (by omega)]
        simp only
        rw [h3]
theorem round_texts (st : WSt) (l : List (List UInt8)) (many most : Int) (h1 : 0 ≤ many) (h2 : many ≤ 4611686018427387904) (h3 : 0 ≤ most) (h4 : most ≤ 4611686018427387904) : Round st (wTexts st l many most) (rd (pTexts many most) []) l := by
  intro h
  unfold wTexts at h ⊢
  rw [if_neg (by omega)] at h ⊢
  by_cases hm : many < l.length
  · rw [if_pos hm] at h
    exact absurd h (refuse_ne _ _ (by decide))
  · rw [if_neg hm] at h ⊢
    obtain ⟨g1, d, g2, g3⟩ := round_fold most h3 h4 l _ h
    rw [num_of_len st l.length (by omega)] at g1 g2 ⊢
    refine ⟨g1, digs l.length ++ d, by rw [g2]; simp, fun t c => rd_of ?_ c⟩
    unfold pTexts
    rw [if_neg (by omega), List.append_assoc, pCount_of _ _ _ (by omega) (by omega)]
    exact g3 t
theorem round_list : ∀ (xs : List (List UInt8)) (st : WSt), (wHashList st xs).2 = 0 → st.2 = 0 ∧ ∃ d, (wHashList st xs).1 = st.1 ++ d ∧ ∀ l, pElems p32 xs.length (d ++ l) = .ok (xs, l)
  | [], st, h => ⟨h, [], by simp [wHashList], fun l => rfl⟩
  | x :: xs, st, h => by
    unfold wHashList at h ⊢
    by_cases hx : x.length = 32
    · rw [if_pos hx] at h ⊢
      obtain ⟨h1, d, h2, h3⟩ := round_list xs _ h
      refine ⟨h1, x ++ d, by rw [h2]; simp [wRaw], fun l => ?_⟩
      have e : p32 (x ++ (d ++ l)) = .ok (x, d ++ l) := by
        unfold p32
        rw [if_neg (by simp; omega), ← hx]
        simp
      simp only [List.length_cons, pElems, List.append_assoc]
      rw [e]
      simp only
      rw [h3]
    · rw [if_neg hx] at h
      exact absurd h (refuse_ne _ _ (by decide))
theorem round_hashes (st : WSt) (l : List (List UInt8)) (many : Int) (h1 : 0 ≤ many) (h2 : many ≤ 4611686018427387904) : Round st (wHashes st l many) (rd (pHashes many) []) l := by
  intro h
  unfold wHashes at h ⊢
  rw [if_neg (by omega)] at h ⊢
  by_cases hm : many < l.length
  · rw [if_pos hm] at h
    exact absurd h (refuse_ne _ _ (by decide))
  · rw [if_neg hm] at h ⊢
    obtain ⟨g1, d, g2, g3⟩ := round_list l _ h
    rw [num_of_len st l.length (by omega)] at g1 g2 ⊢
    refine ⟨g1, digs l.length ++ d, by rw [g2]; simp, fun t c => rd_of ?_ c⟩
    unfold pHashes
    rw [if_neg (by omega), List.append_assoc, pCount_of _ _ _ (by omega) (by omega)]
    exact g3 t
end Go.Proofs.YtpccaodkgboefaaGreatDoor
