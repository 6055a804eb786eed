/-
  The plain law of frames: a frame is told as its payload and what stands behind it; a beginning of one is short. No program is in sight.
-/
import Derived.Test.YtpccaodkgboefaaGreatDoorCxFrameP
namespace Go.Proofs.YtpccaodkgboefaaGreatDoor

theorem pow128 (i : Nat) : 0 < 128 ^ i := Nat.pow_pos (by omega)

theorem pNum_digs (n : Nat) : ∀ (i m : Nat) (l : List UInt8), m + n * 128 ^ i ≤ 4611686018427387904 → i ≤ 8 → (0 < n ∨ i = 0) → i + (digs n).length ≤ 9 → pNum i m (digs n ++ l) = .ok (m + n * 128 ^ i, l) := by
  induction n using Nat.strongRecOn with
  | _ n ih =>
    intro i m l hb hi hn hlen
    by_cases h : 127 < n
    · have hc : (UInt8.ofNat (n % 128 + 128)).toNat = n % 128 + 128 := by simp; omega
      rw [digs_more h] at hlen ⊢
      have hp := digs_pos (n / 128)
      simp only [List.length_cons] at hlen
      have hi8 : ¬ i = 8 := by omega
      have hmod : (n % 128 + 128) % 128 = n % 128 := by omega
      have hsum : n % 128 * 128 ^ i + n / 128 * 128 ^ (i + 1) = n * 128 ^ i := by
        rw [Nat.pow_succ, Nat.mul_comm (128 ^ i) 128, ← Nat.mul_assoc, ← Nat.add_mul]
        congr 1; omega
      have := ih (n / 128) (by omega) (i + 1) (m + n % 128 * 128 ^ i) l (by omega) (by omega) (.inl (by omega)) (by omega)
      rw [List.cons_append, pNum, if_neg (by rw [hc]; omega), if_pos (by rw [hc]; omega), hc, hmod, this, Nat.add_assoc, hsum]
    · have hc : (UInt8.ofNat n).toNat = n := by simp; omega
      rw [digs_last (by omega)]
      rw [List.singleton_append, pNum, if_neg (by rw [hc]; omega), if_neg (by rw [hc]; omega), if_neg (by rw [hc]; omega), hc, if_neg (by omega)]

theorem pNum_short (n : Nat) : ∀ (i m c : Nat), c < (digs n).length → i + (digs n).length ≤ 9 → pNum i m ((digs n).take c) = .error 21 := by
  induction n using Nat.strongRecOn with
  | _ n ih =>
    intro i m c hc hlen
    rcases c with _ | c
    · rfl
    · by_cases h : 127 < n
      · have hb : (UInt8.ofNat (n % 128 + 128)).toNat = n % 128 + 128 := by simp; omega
        rw [digs_more h] at hlen hc ⊢
        simp only [List.length_cons] at hlen hc
        have hp := digs_pos (n / 128)
        rw [List.take_succ_cons, pNum, if_neg (by omega), if_pos (by rw [hb]; omega)]
        exact ih (n / 128) (by omega) _ _ c (by omega) (by omega)
      · rw [digs_last (by omega)] at hc
        simp at hc

theorem digs_len9 {n : Nat} (h : n ≤ 4611686018427387904) : (digs n).length ≤ 9 := digs_len 8 n (by omega)

theorem pText_frame (s b : List UInt8) (most : Int) (hs : (s.length : Int) ≤ most) (h : s.length ≤ 4611686018427387904) : pText most (digs s.length ++ (s ++ b)) = .ok (s, b) := by
  have h1 := pNum_digs s.length 0 0 (s ++ b) (by omega) (by omega) (.inr rfl) (by have := digs_len9 h; omega)
  have h2 : pCount most (digs s.length ++ (s ++ b)) = .ok (s.length, s ++ b) := by
    unfold pCount
    rw [h1]
    simp only [Nat.pow_zero, Nat.mul_one, Nat.zero_add]
    rw [if_neg (by omega)]
  unfold pText
  rw [h2]
  simp only
  rw [if_neg (by simp)]
  simp

theorem pText_short (s : List UInt8) (most : Int) (c : Nat) (hs : (s.length : Int) ≤ most) (h : s.length ≤ 4611686018427387904) (hc : c < (digs s.length ++ s).length) : pText most ((digs s.length ++ s).take c) = .error 21 := by
  have hl9 := digs_len9 h
  by_cases hcl : c < (digs s.length).length
  · have h1 := pNum_short s.length 0 0 c hcl (by omega)
    have e : (digs s.length ++ s).take c = (digs s.length).take c := by rw [List.take_append_of_le_length (by omega)]
    rw [e]
    simp [pText, pCount, h1]
  · have e : (digs s.length ++ s).take c = digs s.length ++ s.take (c - (digs s.length).length) := by rw [List.take_append, List.take_of_length_le (by omega)]
    have h1 := pNum_digs s.length 0 0 (s.take (c - (digs s.length).length)) (by omega) (by omega) (.inr rfl) (by omega)
    have h2 : pCount most (digs s.length ++ s.take (c - (digs s.length).length)) = .ok (s.length, s.take (c - (digs s.length).length)) := by
      unfold pCount
      rw [h1]
      simp only [Nat.pow_zero, Nat.mul_one, Nat.zero_add]
      rw [if_neg (by omega)]
    rw [e]
    unfold pText
    rw [h2]
    simp only
    rw [if_pos (by simp at hc ⊢; omega)]
end Go.Proofs.YtpccaodkgboefaaGreatDoor
