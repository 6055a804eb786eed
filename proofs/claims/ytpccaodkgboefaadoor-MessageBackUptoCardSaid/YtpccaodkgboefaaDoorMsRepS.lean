/-
  A reply that was taken is small.
-/
import Derived.Test.YtpccaodkgboefaaDoorMsRepJ
namespace Go.Proofs.YtpccaodkgboefaaDoor
open Go.RowKit

theorem p32_small {l x l' : List UInt8} (h : p32 l = .ok (x, l')) : x.length ≤ 32 := by
  unfold p32 at h
  split at h
  · cases h
  · injection h with h
    injection h with h _
    subst h
    simp
    omega
theorem pHashes_small {many : Int} {l : List UInt8} {xs : List (List UInt8)} {l' : List UInt8} (h : pHashes many l = .ok (xs, l')) : (xs.length : Int) ≤ many := by
  unfold pHashes at h
  split at h
  · cases h
  · cases h1 : pCount many l with
    | error e => rw [h1] at h; cases h
    | ok y =>
      rw [h1] at h
      have h2 := pElems_all (m := 32) (fun l x l' h => p32_small h) y.1 _ _ _ h
      have h3 := (pCount_le h1).2.2
      rw [h2.1]
      omega
theorem rdHashes_small (r : RSt) : (rd (pHashes 32768) [] r).1.length ≤ 32768 := by
  unfold rd
  split
  · simp
  · cases hp : pHashes 32768 r.1 with
    | error e => simp
    | ok x =>
      have := pHashes_small hp
      show x.1.length ≤ _
      omega
theorem rdRaw_small (r : RSt) : (rd (pRaw 32) [] r).1.length ≤ 32 := by
  unfold rd
  split
  · simp
  · cases hp : pRaw 32 r.1 with
    | error e => simp
    | ok x =>
      show x.1.length ≤ _
      unfold pRaw at hp
      split at hp
      · cases hp
      · split at hp
        · cases hp
        · injection hp with hp
          rw [← hp]
          simp
          omega
theorem rdTexts_small (r : RSt) : (rd (pTexts 4096 1000) [] r).1.length ≤ 4096 ∧ bulk (rd (pTexts 4096 1000) [] r).1 ≤ 4136960 := by
  unfold rd
  split
  · simp [bulk]
  · cases hp : pTexts 4096 1000 r.1 with
    | error e => simp [bulk]
    | ok x =>
      have := pTexts_small hp
      have h1 : x.1.length ≤ 4096 := by omega
      refine ⟨h1, ?_⟩
      have h2 := this.2
      have : x.1.length * ((1000 : Int).toNat + 10) ≤ 4096 * 1010 := Nat.mul_le_mul h1 (by decide)
      show bulk x.1 ≤ _
      omega
theorem rPart_small (r : RSt) : wtP (rPart r).1 ≤ 1081476 := by
  have he : rPart r = if (rd pByte 0 r).1 = 0 then (if (rd pByte 0 (rd pByte 0 r).2).1 = 1 then (.mk ((rd pByte 0 r).1 : Nat) 0 0 0 (rd (pRaw 32) [] (rd pByte 0 (rd pByte 0 r).2).2).1 [] [] [], (rd (pRaw 32) [] (rd pByte 0 (rd pByte 0 r).2).2).2) else (.mk ((rd pByte 0 r).1 : Nat) 0 0 0 [] (rd (pHashes 32768) [] (rd pByte 0 (rd pByte 0 r).2).2).1 [] [], (rd (pHashes 32768) [] (rd pByte 0 (rd pByte 0 r).2).2).2)) else (.mk ((rd pByte 0 r).1 : Nat) 0 0 0 [] [] [] [], (rd pByte 0 r).2) := rfl
  rw [he]
  unfold wtP
  split
  · split
    · have := rdRaw_small (rd pByte 0 (rd pByte 0 r).2).2
      simp only [Rep.hashes, Rep.root, List.length_nil]
      omega
    · have := rdHashes_small (rd pByte 0 (rd pByte 0 r).2).2
      simp only [Rep.hashes, Rep.root, List.length_nil]
      omega
  · simp only [Rep.hashes, Rep.root, List.length_nil]
    omega
theorem rParts_small : ∀ (n : Nat) (r : RSt), wtPs (rParts n r).1 ≤ n * 1081476
  | 0, r => by simp [rParts, wtPs]
  | n + 1, r => by
    rw [rParts]
    split
    · simp [wtPs]
    · have h1 := rPart_small r
      have h2 := rParts_small n (rPart r).2
      simp only [wtPs]
      rw [Nat.add_mul]
      omega
/-- small in each of its fields -/
def SmallR (R : Rep) : Prop := R.hashes.length ≤ 32768 ∧ R.entries.length ≤ 4096 ∧ bulk R.entries ≤ 4136960 ∧ R.root.length ≤ 32 ∧ wtPs R.replies ≤ 70295940
theorem rFld_small (f : Fld) (r : RSt) (R : Rep) (h : SmallR R) (hp : f = .parts → R.replies = []) : SmallR (rFld f r R).1 := by
  cases R with
  | mk z s a b t hh e p =>
    obtain ⟨h1, h2, h3, h4, h5⟩ := h
    simp only [Rep.hashes, Rep.entries, Rep.root, Rep.replies] at *
    cases f
    · exact ⟨h1, h2, h3, h4, h5⟩
    · exact ⟨h1, h2, h3, h4, h5⟩
    · exact ⟨h1, h2, h3, h4, h5⟩
    · exact ⟨h1, h2, h3, rdRaw_small _, h5⟩
    · exact ⟨rdHashes_small _, h2, h3, h4, h5⟩
    · exact ⟨h1, (rdTexts_small _).1, (rdTexts_small _).2, h4, h5⟩
    · refine ⟨h1, h2, h3, h4, ?_⟩
      have := hp rfl
      subst this
      show wtPs ([] ++ (rParts _ _).1) ≤ _
      rw [List.nil_append]
      refine Nat.le_trans (rParts_small _ _) (Nat.le_trans (Nat.mul_le_mul_right _ (Nat.min_le_right _ 65)) (by decide))
theorem SmallR.wt {R : Rep} (h : SmallR R) : wtR R ≤ 100000000 := by
  obtain ⟨h1, h2, h3, h4, h5⟩ := h
  unfold wtR
  omega
/-- parts stand alone -/
theorem parts_first (k : Int) {m : Nat} (h : (tableOf k)[m]? = some .parts) : m = 0 := by
  have hl := tableOf_len k
  have hm : m < 4 := by
    have := (List.getElem?_eq_some_iff.1 h).1
    omega
  unfold tableOf at h
  repeat' split at h
  all_goals
    match m, hm with
    | 0, _ => rfl
    | 1, _ => simp at h
    | 2, _ => simp at h
    | 3, _ => simp at h
end Go.Proofs.YtpccaodkgboefaaDoor
