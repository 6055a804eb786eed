/-
  Texts joined; what is wrong with a number, a text; where they end.
-/
import Derived.Test.YtpccaodkgboefaaDoorMCxR
namespace Go.Proofs.YtpccaodkgboefaaDoor
open Go.RowKit


theorem str_append (a b : List UInt8) : str a ++ str b = str (a ++ b) := by
  apply ByteArray.ext
  simp [str, ByteArray.data_append]

theorem pNum_error {l : List UInt8} {f : Int} : ∀ {i n : Nat}, pNum i n l = .error f → f ≠ 0 := by
  induction l with
  | nil => intro i n h; simp [pNum] at h; omega
  | cons c l ih =>
    intro i n h
    unfold pNum at h
    split at h
    · injection h with h; omega
    · split at h
      · exact ih h
      · split at h
        · injection h with h; omega
        · split at h
          · injection h with h; omega
          · cases h

/-- what is left behind a number is an end of the bytes -/
theorem pNum_drop : ∀ (l : List UInt8) (i n m : Nat) (l' : List UInt8), pNum i n l = .ok (m, l') → l' = l.drop (l.length - l'.length)
  | [], _, _, _, _, h => by simp [pNum] at h
  | c :: l, i, n, m, l', h => by
    have hlt := (pNum_le _ _ _ _ _ h).2
    unfold pNum at h
    split at h
    · cases h
    · split at h
      · have ih := pNum_drop l _ _ _ _ h
        have := (pNum_le _ _ _ _ _ h).2
        rw [show (c :: l).length - l'.length = (l.length - l'.length) + 1 by simp; omega, List.drop_succ_cons]
        exact ih
      · split at h
        · cases h
        · split at h
          · cases h
          · injection h with h
            injection h with h h'
            subst h'
            simp

theorem pCount_error {many : Int} {l : List UInt8} {f : Int} (h : pCount many l = .error f) : f ≠ 0 := by
  unfold pCount at h
  cases hp : pNum 0 0 l with
  | error e => rw [hp] at h; injection h with h; rw [← h]; exact pNum_error hp
  | ok x =>
    rw [hp] at h
    simp only at h
    split at h
    · injection h with h; omega
    · cases h

theorem pText_error {most : Int} {l : List UInt8} {f : Int} (h : pText most l = .error f) : f ≠ 0 := by
  unfold pText at h
  cases hp : pCount most l with
  | error e => rw [hp] at h; injection h with h; rw [← h]; exact pCount_error hp
  | ok x =>
    rw [hp] at h
    simp only at h
    split at h
    · injection h with h; omega
    · cases h

theorem pCount_drop {many : Int} {l l' : List UInt8} {n : Nat} (h : pCount many l = .ok (n, l')) : l' = l.drop (l.length - l'.length) := by
  unfold pCount at h
  cases hp : pNum 0 0 l with
  | error e => rw [hp] at h; cases h
  | ok x =>
    rw [hp] at h
    simp only at h
    split at h
    · cases h
    · injection h with h
      injection h with h h'
      subst h'
      exact pNum_drop _ _ _ _ _ hp

theorem pText_drop {most : Int} {l t l' : List UInt8} (h : pText most l = .ok (t, l')) : l' = l.drop (l.length - l'.length) := by
  unfold pText at h
  cases hp : pCount most l with
  | error e => rw [hp] at h; cases h
  | ok x =>
    obtain ⟨n, l1⟩ := x
    rw [hp] at h
    simp only at h
    split at h
    · cases h
    · injection h with h
      injection h with h h'
      subst h'
      have hd := pCount_drop hp
      have hle := (pCount_le hp).2.1
      rw [hd, List.drop_drop]
      congr 1
      simp only [List.length_drop]
      omega
end Go.Proofs.YtpccaodkgboefaaDoor
