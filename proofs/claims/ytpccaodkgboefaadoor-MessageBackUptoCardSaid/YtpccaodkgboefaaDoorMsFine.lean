/-
  What is laid down well has lists that a program can hold. Plain.
-/
import Derived.Test.YtpccaodkgboefaaDoorMsSame
import Derived.Test.YtpccaodkgboefaaDoorMMsK
namespace Go.Proofs.YtpccaodkgboefaaDoor
open Go.RowKit

def FlatR (x : Rep) : Prop := x.entries = [] ∧ x.replies = []
theorem rPart_flat (r : RSt) : FlatR (rPart r).1 := by
  unfold rPart
  dsimp only
  split
  · split <;> exact ⟨rfl, rfl⟩
  · exact ⟨rfl, rfl⟩
theorem rParts_flat : ∀ (n : Nat) (r : RSt), ∀ x ∈ (rParts n r).1, FlatR x
  | 0, r, x, h => by simp [rParts] at h
  | n + 1, r, x, h => by
    rw [rParts] at h
    split at h
    · simp at h
    · rcases List.mem_cons.1 h with rfl | h
      · exact rPart_flat r
      · exact rParts_flat n _ x h
theorem rFld_flat (f : Fld) (r : RSt) (R : Rep) (h : ∀ x ∈ R.replies, FlatR x) : ∀ x ∈ (rFld f r R).1.replies, FlatR x := by
  cases R
  cases f <;> try exact h
  intro x hx
  rcases List.mem_append.1 hx with hx | hx
  · exact h x hx
  · exact rParts_flat _ _ x hx
theorem rFlds_flat : ∀ (l : List Fld) (r : RSt) (R : Rep), (∀ x ∈ R.replies, FlatR x) → ∀ x ∈ (rFlds l r R).1.replies, FlatR x
  | [], _, _, h => h
  | f :: l, r, R, h => by
    rw [rFlds]
    exact rFlds_flat l _ _ (rFld_flat f r R h)
theorem takeRep_flat (k : Int) (p : List UInt8) : ∀ x ∈ (takeRep k p).2.1.replies, FlatR x := by
  rw [takeRep_eq]
  unfold bodyOf
  dsimp only
  split
  · exact rFlds_flat _ _ _ (fun x hx => by simp [Rep.replies] at hx)
  · intro x hx
    simp [Rep.replies] at hx
theorem FineRs.of : ∀ {l : List Rep}, (∀ x ∈ l, FineR x) → FineRs l
  | [], _ => by rw [FineRs]; trivial
  | x :: r, h => by
    rw [FineRs]
    exact ⟨h x (by simp), FineRs.of (fun y hy => h y (by simp [hy]))⟩
theorem wtP_mem : ∀ {l : List Rep} {x : Rep}, x ∈ l → wtP x ≤ wtPs l
  | y :: r, x, h => by
    unfold wtPs
    rcases List.mem_cons.1 h with rfl | h
    · omega
    · have := wtP_mem h; omega
theorem fineR_of {R : Rep} (hw : wtR R ≤ 9223372036854775807) (hf : ∀ x ∈ R.replies, FlatR x) : FineR R := by
  obtain ⟨z, s, a, b, r, h, e, p⟩ := R
  unfold wtR at hw
  simp only [Rep.hashes, Rep.entries, Rep.root, Rep.replies] at hw hf
  rw [FineR]
  refine ⟨by omega, by omega, FineRs.of fun x hx => ?_⟩
  obtain ⟨h1, h2⟩ := hf x hx
  have h3 := wtP_mem hx
  obtain ⟨z', s', a', b', r', h', e', p'⟩ := x
  simp only [Rep.entries, Rep.replies] at h1 h2
  subst h1 h2
  unfold wtP at h3
  simp only [Rep.hashes, Rep.root] at h3
  rw [FineR]
  exact ⟨by omega, by simp, by rw [FineRs]; trivial⟩
theorem encRep_fine {k : Int} {R : Rep} (h : (encRep k R).2 = 0) (hw : wtR R ≤ 9223372036854775807) : FineR R := by
  obtain ⟨p, c, _, _, ht, -⟩ := encRep_frame h
  have := takeRep_flat k p
  rw [ht] at this
  exact fineR_of hw this
theorem FineAll.of : ∀ {l : List Req}, (∀ x ∈ l, Fine x) → FineAll l
  | [], _ => by rw [FineAll]; trivial
  | x :: r, h => by
    rw [FineAll]
    exact ⟨h x (by simp), FineAll.of (fun y hy => h y (by simp [hy]))⟩
end Go.Proofs.YtpccaodkgboefaaDoor
