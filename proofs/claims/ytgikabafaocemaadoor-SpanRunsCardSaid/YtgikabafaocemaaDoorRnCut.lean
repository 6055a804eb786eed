/-
  Plain: a tree cut at a place: what is told of a run; what is known of a fold.
-/
import Derived.Test.YtgikabafaocemaaDoorRnPlain
namespace Go.Proofs.YtgikabafaocemaaDoor

def powB (m : Nat) : Bool := 2 ^ Nat.log2 m == m
theorem powB_pow (j : Nat) : powB (2 ^ j) = true := by simp [powB, Nat.log2_two_pow]
theorem powB_of {m : Nat} (h : powB m = true) : ∃ j, m = 2 ^ j := ⟨Nat.log2 m, by simpa [powB] using (beq_iff_eq.1 h).symm⟩
theorem splitN_powB (n : Nat) : powB (splitN n) = true := powB_pow _
/-- left of p, as great as may be -/
def ctF : Nat → Nat → Nat → Nat → List (Nat × Nat)
  | 0, p, s, t => if p ≤ s then [] else [(s, t)]
  | f + 1, p, s, t => if p ≤ s then [] else if t ≤ p ∧ powB (t - s) = true then [(s, t)] else ctF f p s (s + splitN (t - s)) ++ ctF f p (s + splitN (t - s)) t
/-- from p on -/
def rtF : Nat → Nat → Nat → Nat → List (Nat × Nat)
  | 0, p, s, t => if p ≤ s then [(s, t)] else []
  | f + 1, p, s, t => if p ≤ s then [(s, t)] else if t ≤ p then [] else rtF f p s (s + splitN (t - s)) ++ rtF f p (s + splitN (t - s)) t
theorem ctF_nil {f p s t : Nat} (h : p ≤ s) : ctF f p s t = [] := by cases f <;> rw [ctF, if_pos h]
theorem rtF_out {f p s t : Nat} (h : p ≤ s) : rtF f p s t = [(s, t)] := by cases f <;> rw [rtF, if_pos h]
theorem rtF_nil {f p s t : Nat} (h : s < t) (h2 : t ≤ p) : rtF f p s t = [] := by
  cases f with
  | zero => rw [rtF, if_neg (by omega)]
  | succ f => rw [rtF, if_neg (by omega), if_pos h2]
theorem told_ct : ∀ (f rb re s t : Nat), s < t → t - s ≤ 2 ^ f → rb < re → (t ≤ rb → powB (t - s) = true) → toldF f rb re s t = ctF f rb s t ++ rtF f re s t
  | 0, rb, re, s, t, h1, h2, h3, _ => by
    have : t = s + 1 := by simp at h2; omega
    subst this
    rw [toldF, ctF, rtF]
    by_cases q : re ≤ s
    · rw [if_pos (by omega), if_pos (by omega), if_pos q]; rfl
    · by_cases q2 : s + 1 ≤ rb
      · rw [if_pos (by omega), if_neg (by omega), if_neg q]; rfl
      · rw [if_neg (by omega), if_pos (by omega), if_neg q]; rfl
  | f + 1, rb, re, s, t, h1, h2, h3, h4 => by
    by_cases q : re ≤ s
    · rw [toldF_out (.inl q), ctF_nil (by omega), rtF_out q]; rfl
    by_cases q2 : t ≤ rb
    · rw [toldF_out (.inr q2), rtF_nil h1 (by omega), ctF, if_neg (by omega), if_pos ⟨q2, h4 q2⟩]; rfl
    by_cases q3 : rb ≤ s ∧ t ≤ re
    · rw [toldF_in _ rb re s t q3.1 q3.2 h1, ctF_nil q3.1, rtF_nil h1 q3.2]; rfl
    obtain ⟨g1, g2, g3⟩ := splitN_facts (n := t - s) (by omega)
    have g4 := splitN_le (n := t - s) (f := f) (by omega) h2
    rw [toldF_cut (by omega) q3, told_ct f rb re s (s + splitN (t - s)) (by omega) (by omega) h3 (fun _ => by rw [show s + splitN (t - s) - s = splitN (t - s) by omega]; exact splitN_powB _), told_ct f rb re (s + splitN (t - s)) t (by omega) (by omega) h3 (fun z => absurd z q2)]
    have e1 : ctF (f + 1) rb s t = ctF f rb s (s + splitN (t - s)) ++ ctF f rb (s + splitN (t - s)) t := by
      by_cases q4 : rb ≤ s
      · rw [ctF_nil q4, ctF_nil q4, ctF_nil (by omega)]; rfl
      · rw [ctF, if_neg q4, if_neg (fun z => q2 z.1)]
    have e2 : rtF (f + 1) re s t = rtF f re s (s + splitN (t - s)) ++ rtF f re (s + splitN (t - s)) t := by
      by_cases q4 : t ≤ re
      · rw [rtF_nil h1 q4, rtF_nil (by omega) (by omega), rtF_nil (by omega) q4]; rfl
      · rw [rtF, if_neg q, if_neg q4]
    rw [e1, e2]
    by_cases q5 : s + splitN (t - s) ≤ re
    · rw [rtF_nil (s := s) (t := s + splitN (t - s)) (by omega) q5]; simp
    · rw [ctF_nil (s := s + splitN (t - s)) (t := t) (by omega)]; simp

def spanOf (x : Nat × Nat) : Nat × Nat := (x.1, x.1 + 2 ^ x.2)
theorem pow_lt_of {j k : Nat} (h : 2 ^ j < 2 ^ k) : j < k := (Nat.pow_lt_pow_iff_right (by omega)).1 h
theorem pow_le_of {j k : Nat} (h : 2 ^ j ≤ 2 ^ k) : j ≤ k := (Nat.pow_le_pow_iff_right (by omega)).1 h
theorem ct_cut : ∀ (f p s t K : Nat), s < t → t - s ≤ 2 ^ f → t - s ≤ 2 ^ K → s % 2 ^ K = 0 → s ≤ p → ∃ l, Cut s (min p t) l ∧ ctF f p s t = l.map spanOf
  | 0, p, s, t, K, h1, h2, _, _, h5 => by
    have : t = s + 1 := by simp at h2; omega
    subst this
    by_cases q : p ≤ s
    · obtain rfl : p = s := by omega
      rw [ctF_nil q, show min p (p + 1) = p by omega]
      exact ⟨[], .nil _, rfl⟩
    · rw [ctF, if_neg q, show min p (s + 1) = s + 1 by omega]
      exact ⟨[(s, 0)], .cons ⟨by simp [Nat.mod_one], by simp, fun z => by have := z.2; simp at this⟩ (by simpa using Cut.nil (s + 1)), by simp [spanOf]⟩
  | f + 1, p, s, t, K, h1, h2, h3, h4, h5 => by
    by_cases q : p ≤ s
    · obtain rfl : p = s := by omega
      rw [ctF_nil q, show min p t = p by omega]
      exact ⟨[], .nil _, rfl⟩
    by_cases q2 : t ≤ p ∧ powB (t - s) = true
    · obtain ⟨j, hj⟩ := powB_of q2.2
      have hjK : j ≤ K := pow_le_of (by omega)
      rw [ctF, if_neg q, if_pos q2, show min p t = t by omega]
      have e : s + 2 ^ j = t := by omega
      have := pow_pos2 j
      refine ⟨[(s, j)], .cons ⟨mod_pow_le h4 hjK, by omega, fun z => by have := z.2; rw [pow_succ2] at this; omega⟩ (by rw [e]; exact .nil _), by simp [spanOf, e]⟩
    have ht2 : 2 ≤ t - s := by
      apply Classical.byContradiction
      intro z
      have e : t - s = 1 := by omega
      exact q2 ⟨by omega, by rw [e]; exact powB_pow 0⟩
    obtain ⟨g1, g2, g3⟩ := splitN_facts (n := t - s) ht2
    have g4 := splitN_le (n := t - s) (f := f) (by omega) h2
    rw [ctF, if_neg q, if_neg q2]
    obtain ⟨j, hj⟩ := powB_of (splitN_powB (t - s))
    rw [hj] at g1 g2 g3 g4 ⊢
    have hjK : j < K := pow_lt_of (by omega)
    have hs := mod_pow_le h4 (show j ≤ K by omega)
    obtain ⟨l1, c1, e1⟩ := ct_cut f p s (s + 2 ^ j) j (by omega) (by omega) (by omega) hs h5
    by_cases q3 : p ≤ s + 2 ^ j
    · rw [ctF_nil (s := s + 2 ^ j) q3, List.append_nil]
      exact ⟨l1, by rw [show min p t = min p (s + 2 ^ j) by omega]; exact c1, e1⟩
    · obtain ⟨l2, c2, e2⟩ := ct_cut f p (s + 2 ^ j) t j (by omega) (by omega) (by omega) (add_mod_pow hs (Nat.le_refl _)) (by omega)
      rw [show min p (s + 2 ^ j) = s + 2 ^ j by omega] at c1
      have c3 : Cut s (s + 2 ^ j) [(s, j)] := .cons ⟨hs, Nat.le_refl _, fun z => by have := z.2; rw [pow_succ2] at this; omega⟩ (.nil _)
      have := c1.unique c3
      subst this
      refine ⟨(s, j) :: l2, .cons ⟨hs, by omega, fun z => q2 ?_⟩ c2, by rw [e1, e2]; rfl⟩
      have hz := z.2
      rw [pow_succ2] at hz
      refine ⟨by omega, ?_⟩
      rw [show t - s = 2 ^ (j + 1) by rw [pow_succ2]; omega]
      exact powB_pow _

/-- the subtrees at which a fold that is cut at p ends -/
def dF (f p s t : Nat) : List (Nat × Nat) := ctF f p s t ++ rtF f p s t
theorem dF_step : ∀ (f p s t : Nat), s < t → t - s ≤ 2 ^ f → dF f p s t = [(s, t)] ∨ ∃ g, f = g + 1 ∧ 2 ≤ t - s ∧ s < p ∧ ¬ (t ≤ p ∧ powB (t - s) = true) ∧ s + splitN (t - s) - s ≤ 2 ^ g ∧ t - (s + splitN (t - s)) ≤ 2 ^ g ∧ dF f p s t = dF g p s (s + splitN (t - s)) ++ dF g p (s + splitN (t - s)) t
  | 0, p, s, t, h1, h2 => by
    have : t = s + 1 := by simp at h2; omega
    subst this
    left
    unfold dF
    by_cases q : p ≤ s
    · rw [ctF_nil q, rtF_out q]; rfl
    · rw [rtF_nil h1 (by omega), ctF, if_neg q]; rfl
  | f + 1, p, s, t, h1, h2 => by
    by_cases q : p ≤ s
    · left; unfold dF; rw [ctF_nil q, rtF_out q]; rfl
    by_cases q2 : t ≤ p ∧ powB (t - s) = true
    · left; unfold dF; rw [rtF_nil h1 q2.1, ctF, if_neg q, if_pos q2]; rfl
    right
    have ht2 : 2 ≤ t - s := by
      apply Classical.byContradiction
      intro z
      have e : t - s = 1 := by omega
      exact q2 ⟨by omega, by rw [e]; exact powB_pow 0⟩
    obtain ⟨g1, g2, g3⟩ := splitN_facts (n := t - s) ht2
    have g4 := splitN_le (n := t - s) (f := f) (by omega) h2
    refine ⟨f, rfl, ht2, by omega, q2, by omega, by omega, ?_⟩
    have e1 : ctF (f + 1) p s t = ctF f p s (s + splitN (t - s)) ++ ctF f p (s + splitN (t - s)) t := by rw [ctF, if_neg q, if_neg q2]
    have e2 : rtF (f + 1) p s t = rtF f p s (s + splitN (t - s)) ++ rtF f p (s + splitN (t - s)) t := by
      by_cases q4 : t ≤ p
      · rw [rtF_nil h1 q4, rtF_nil (by omega) (by omega), rtF_nil (by omega) q4]; rfl
      · rw [rtF, if_neg q, if_neg q4]
    unfold dF
    rw [e1, e2]
    by_cases q5 : s + splitN (t - s) ≤ p
    · rw [rtF_nil (s := s) (t := s + splitN (t - s)) (by omega) q5]; simp
    · rw [ctF_nil (s := s + splitN (t - s)) (t := t) (by omega)]; simp
theorem dF_mem : ∀ (f p s t : Nat), s < t → t - s ≤ 2 ^ f → ∀ x ∈ dF f p s t, s ≤ x.1 ∧ x.1 < x.2 ∧ x.2 ≤ t := by
  intro f
  induction f with
  | zero =>
    intro p s t h1 h2 x hx
    rcases dF_step 0 p s t h1 h2 with e | ⟨g, e, -⟩
    · rw [e, List.mem_singleton] at hx; subst hx; exact ⟨Nat.le_refl _, h1, Nat.le_refl _⟩
    · cases e
  | succ f ih =>
    intro p s t h1 h2 x hx
    rcases dF_step (f + 1) p s t h1 h2 with e | ⟨g, e0, h3, -, -, h4, h5, e⟩
    · rw [e, List.mem_singleton] at hx; subst hx; exact ⟨Nat.le_refl _, h1, Nat.le_refl _⟩
    · obtain rfl : f = g := by omega
      obtain ⟨g1, g2, g3⟩ := splitN_facts (n := t - s) h3
      rw [e] at hx
      rcases List.mem_append.1 hx with hx | hx
      · have := ih p s _ (by omega) h4 x hx; omega
      · have := ih p _ t (by omega) h5 x hx; omega
theorem dF_some : ∀ (f p s t : Nat), s < t → t - s ≤ 2 ^ f → 1 ≤ (dF f p s t).length := by
  intro f
  induction f with
  | zero =>
    intro p s t h1 h2
    rcases dF_step 0 p s t h1 h2 with e | ⟨g, e, -⟩
    · rw [e]; exact Nat.le_refl _
    · cases e
  | succ f ih =>
    intro p s t h1 h2
    rcases dF_step (f + 1) p s t h1 h2 with e | ⟨g, e0, h3, -, -, h4, h5, e⟩
    · rw [e]; exact Nat.le_refl _
    · obtain rfl : f = g := by omega
      obtain ⟨g1, g2, g3⟩ := splitN_facts (n := t - s) h3
      have := ih p s _ (by omega) h4
      rw [e, List.length_append]
      omega
end Go.Proofs.YtgikabafaocemaaDoor
