/-
  Plain: complete subtrees side by side, each as great as may be; rows of them; what a tree comes to.
-/
import Derived.Test.YtgikabafaocemaaDoorMSpB
import Derived.Test.YtgikabafaocemaaDoorMSpA
namespace Go.Proofs.YtgikabafaocemaaDoor

/-- at s, up to x, the greatest complete subtree has the level k -/
def Lev (s x k : Nat) : Prop := s % 2 ^ k = 0 ∧ s + 2 ^ k ≤ x ∧ ¬ (s % 2 ^ (k + 1) = 0 ∧ s + 2 ^ (k + 1) ≤ x)
theorem pow_pos2 (k : Nat) : 0 < 2 ^ k := Nat.pow_pos (by omega)
theorem pow_succ2 (k : Nat) : 2 ^ (k + 1) = 2 * 2 ^ k := by rw [Nat.pow_succ]; omega
theorem pow_mono2 {j k : Nat} (h : j ≤ k) : 2 ^ j ≤ 2 ^ k := Nat.pow_le_pow_right (by omega) h
theorem mod_pow_le {s j k : Nat} (h : s % 2 ^ k = 0) (hj : j ≤ k) : s % 2 ^ j = 0 := by
  obtain ⟨d, rfl⟩ := Nat.exists_eq_add_of_le hj
  rw [Nat.pow_add] at h
  exact Nat.mod_eq_zero_of_dvd (Nat.dvd_trans (Nat.dvd_mul_right _ _) (Nat.dvd_of_mod_eq_zero h))
theorem add_mod_pow {s k j : Nat} (h : s % 2 ^ k = 0) (hj : k ≤ j) : (s + 2 ^ j) % 2 ^ k = 0 := by
  have h2 : 2 ^ j % 2 ^ k = 0 := Nat.mod_eq_zero_of_dvd (Nat.pow_dvd_pow 2 hj)
  rw [Nat.add_mod, h, h2]
  simp
/-- behind a subtree at a place that could bear a greater one, none as great may stand -/
theorem add_mod_not {s k j : Nat} (h : s % 2 ^ (k + 1) = 0) (hj : k < j) : ¬ (s + 2 ^ k) % 2 ^ j = 0 := by
  intro q
  have h0 := pow_pos2 k
  have q2 := mod_pow_le q (show k + 1 ≤ j by omega)
  rw [Nat.add_mod, h, Nat.zero_add, Nat.mod_mod, pow_succ2, Nat.mod_eq_of_lt (by omega)] at q2
  omega
theorem div_even {s k : Nat} (h : s % 2 ^ (k + 1) = 0) : s / 2 ^ k % 2 = 0 := by
  have h0 := pow_pos2 k
  obtain ⟨m, rfl⟩ := Nat.dvd_of_mod_eq_zero h
  rw [pow_succ2, Nat.mul_comm 2, Nat.mul_assoc, Nat.mul_div_cancel_left _ h0]
  omega
theorem even_mod {s k : Nat} (h : s % 2 ^ k = 0) (h2 : s / 2 ^ k % 2 = 0) : s % 2 ^ (k + 1) = 0 := by
  have h0 := pow_pos2 k
  obtain ⟨m, rfl⟩ := Nat.dvd_of_mod_eq_zero h
  rw [Nat.mul_div_cancel_left _ h0] at h2
  obtain ⟨q, hq⟩ : ∃ q, m = 2 * q := ⟨m / 2, by omega⟩
  rw [pow_succ2, hq]
  exact Nat.mod_eq_zero_of_dvd ⟨q, by rw [Nat.mul_left_comm, Nat.mul_assoc]⟩
theorem Lev.unique {s x j k : Nat} (h1 : Lev s x j) (h2 : Lev s x k) : j = k := by
  rcases Nat.lt_trichotomy j k with h | h | h
  · exact (h1.2.2 ⟨mod_pow_le h2.1 h, by have := pow_mono2 (show j + 1 ≤ k by omega); have := h2.2.1; omega⟩).elim
  · exact h
  · exact (h2.2.2 ⟨mod_pow_le h1.1 h, by have := pow_mono2 (show k + 1 ≤ j by omega); have := h1.2.1; omega⟩).elim
theorem Lev.from {s x : Nat} : ∀ (f k : Nat), x ≤ k + f → s % 2 ^ k = 0 → s + 2 ^ k ≤ x → ∃ j, Lev s x j
  | 0, k, hf, h1, h2 => by have := Nat.lt_two_pow_self (n := k); omega
  | f + 1, k, hf, h1, h2 => by
    by_cases h : s % 2 ^ (k + 1) = 0 ∧ s + 2 ^ (k + 1) ≤ x
    · exact Lev.from f (k + 1) (by omega) h.1 h.2
    · exact ⟨k, h1, h2, h⟩
theorem Lev.exists {s x : Nat} (h : s < x) : ∃ k, Lev s x k := Lev.from x 0 (by omega) (by simp [Nat.mod_one]) (by simp; omega)

/-- from s up to x, each as great as may be: where it begins, its level -/
inductive Cut : Nat → Nat → List (Nat × Nat) → Prop
  | nil (s : Nat) : Cut s s []
  | cons {s x k : Nat} {l : List (Nat × Nat)} : Lev s x k → Cut (s + 2 ^ k) x l → Cut s x ((s, k) :: l)
theorem Cut.le {s x : Nat} {l : List (Nat × Nat)} (h : Cut s x l) : s + l.length ≤ x := by
  induction h with
  | nil s => simp
  | cons h1 h2 ih => rename_i s x k l; have := pow_pos2 k; simp only [List.length_cons]; omega
theorem Cut.unique {s x : Nat} {l m : List (Nat × Nat)} (h : Cut s x l) (h2 : Cut s x m) : l = m := by
  induction h generalizing m with
  | nil s => cases h2 with
    | nil => rfl
    | cons a b => rename_i k l; have := a.2.1; have := pow_pos2 k; omega
  | cons a b ih => cases h2 with
    | nil => rename_i s k l; have := a.2.1; have := pow_pos2 k; omega
    | cons c d =>
      have := a.unique c
      subst this
      rw [ih d]
theorem Cut.exists : ∀ (f s x : Nat), x - s ≤ f → s ≤ x → ∃ l, Cut s x l
  | 0, s, x, h1, h2 => by obtain rfl : s = x := by omega
                          exact ⟨[], .nil _⟩
  | f + 1, s, x, h1, h2 => by
    by_cases h : s < x
    · obtain ⟨k, hk⟩ := Lev.exists h
      have := pow_pos2 k
      have := hk.2.1
      obtain ⟨l, hl⟩ := Cut.exists f (s + 2 ^ k) x (by omega) (by omega)
      exact ⟨_, .cons hk hl⟩
    · obtain rfl : s = x := by omega
      exact ⟨[], .nil _⟩
theorem Cut.mem {s x : Nat} {l : List (Nat × Nat)} (h : Cut s x l) : ∀ p ∈ l, s ≤ p.1 ∧ p.1 + 2 ^ p.2 ≤ x := by
  induction h with
  | nil s => simp
  | cons a b ih =>
    rename_i s x k l
    intro p hp
    rcases List.mem_cons.1 hp with rfl | hp
    · exact ⟨Nat.le_refl _, a.2.1⟩
    · have := ih p hp
      have := pow_pos2 k
      omega
/-- what is made from the left -/
def CutTo (s at_ x : Nat) (out : List (Nat × Nat)) : Prop := ∀ r, Cut at_ x r → Cut s x (out ++ r)
theorem CutTo.start (s x : Nat) : CutTo s s x [] := fun _ h => h
theorem CutTo.step {s a x k : Nat} {out : List (Nat × Nat)} (h : CutTo s a x out) (hk : Lev a x k) : CutTo s (a + 2 ^ k) x (out ++ [(a, k)]) := fun r hr => by
  rw [List.append_assoc]
  exact h _ (.cons hk hr)
theorem CutTo.done {s x : Nat} {out : List (Nat × Nat)} (h : CutTo s x x out) : Cut s x out := by
  have := h [] (.nil _)
  rwa [List.append_nil] at this

/-- side by side, each where it may stand -/
inductive Row : Nat → Nat → List (Nat × Nat) → Prop
  | nil (p : Nat) : Row p p []
  | cons {p e k : Nat} {l : List (Nat × Nat)} : p % 2 ^ k = 0 → Row (p + 2 ^ k) e l → Row p e ((p, k) :: l)
/-- two make a whole -/
def Merges (a b : Nat × Nat) : Prop := a.2 = b.2 ∧ a.1 / 2 ^ a.2 % 2 = 0
/-- no two neighbours do -/
def Red : List (Nat × Nat) → Prop
  | a :: b :: l => ¬ Merges a b ∧ Red (b :: l)
  | _ => True
theorem Row.le {p e : Nat} {l : List (Nat × Nat)} (h : Row p e l) : p ≤ e := by
  induction h with
  | nil => exact Nat.le_refl _
  | cons a b ih => omega
theorem Red.tail {a : Nat × Nat} {l : List (Nat × Nat)} (h : Red (a :: l)) : Red l := by
  cases l with
  | nil => trivial
  | cons b l => exact h.2
theorem row_small : ∀ (l : List (Nat × Nat)) (q k e : Nat), Row q e ((q, k) :: l) → Red ((q, k) :: l) → q % 2 ^ (k + 1) = 0 → q + 2 ^ (k + 1) ≤ e → False
  | [], q, k, e, h, _, h1, h2 => by
    cases h with
    | cons a b => cases b with
      | nil => have := pow_pos2 k; rw [pow_succ2] at h2; omega
  | (q', k') :: l, q, k, e, h, r, h1, h2 => by
    cases h with
    | cons a b => cases b with
      | cons c d =>
        have hne : k ≠ k' := fun e => r.1 ⟨e, div_even h1⟩
        have hle : ¬ k < k' := fun q => add_mod_not h1 q c
        have hp := pow_mono2 (show k' + 1 ≤ k by omega)
        rw [pow_succ2 k] at h2
        exact row_small l (q + 2 ^ k) k' e (.cons c d) r.2 (add_mod_pow (mod_pow_le h1 (show k' + 1 ≤ k + 1 by omega)) (by omega)) (by omega)
theorem Row.cut {p e : Nat} {l : List (Nat × Nat)} (h : Row p e l) (r : Red l) : Cut p e l := by
  induction h with
  | nil p => exact .nil p
  | cons a b ih =>
    rename_i p e k l
    exact .cons ⟨a, b.le, fun q => row_small l p k e (.cons a b) r q.1 q.2⟩ (ih r.tail)
theorem Cut.row {p e : Nat} {l : List (Nat × Nat)} (h : Cut p e l) : Row p e l ∧ Red l := by
  induction h with
  | nil p => exact ⟨.nil p, trivial⟩
  | cons a b ih =>
    rename_i s x k l
    refine ⟨.cons a.1 ih.1, ?_⟩
    cases b with
    | nil => trivial
    | cons c d =>
      rename_i k' l'
      refine ⟨fun m => a.2.2 ⟨even_mod a.1 m.2, ?_⟩, ih.2⟩
      have := c.2.1
      have e : k = k' := m.1
      subst e
      rw [pow_succ2]
      omega
theorem Row.snoc {p q k : Nat} {l : List (Nat × Nat)} (h : Row p q l) (hk : q % 2 ^ k = 0) : Row p (q + 2 ^ k) (l ++ [(q, k)]) := by
  induction h with
  | nil p => exact .cons hk (.nil _)
  | cons a b ih => exact .cons a (ih hk)
theorem Row.unsnoc : ∀ {l : List (Nat × Nat)} {p e : Nat} {c : Nat × Nat}, Row p e (l ++ [c]) → Row p c.1 l ∧ c.1 % 2 ^ c.2 = 0 ∧ e = c.1 + 2 ^ c.2
  | [], p, e, c, h => by
    cases h with
    | cons a b => cases b with
      | nil => exact ⟨.nil _, a, rfl⟩
  | x :: l, p, e, c, h => by
    cases h with
    | cons a b =>
      obtain ⟨h1, h2, h3⟩ := Row.unsnoc b
      exact ⟨.cons a h1, h2, h3⟩
theorem Red.init : ∀ {l : List (Nat × Nat)} {c : Nat × Nat}, Red (l ++ [c]) → Red l
  | [], _, _ => trivial
  | [_], _, _ => trivial
  | _ :: b :: l, _, h => ⟨h.1, Red.init (l := b :: l) h.2⟩
theorem Red.snoc : ∀ {l : List (Nat × Nat)} {a c : Nat × Nat}, Red (l ++ [a]) → ¬ Merges a c → Red (l ++ [a, c])
  | [], _, _, _, h => ⟨h, trivial⟩
  | [_], _, _, h1, h => ⟨h1.1, h, trivial⟩
  | _ :: d :: l, _, _, h1, h => ⟨h1.1, Red.snoc (l := d :: l) h1.2 h⟩

/-- what a subtree comes to: A of those that are told (outside the run), lf of the run's leaves -/
def valN (rb re : Nat) (A : Nat × Nat → List UInt8) (lf : Nat → List UInt8) (s t : Nat) : List UInt8 :=
  if re ≤ s ∨ t ≤ rb then A (s, t)
  else if _h : t - s < 2 then lf s
  else nodeH (valN rb re A lf s (s + splitN (t - s))) (valN rb re A lf (s + splitN (t - s)) t)
termination_by t - s
decreasing_by
  · obtain ⟨g1, g2, -⟩ := splitN_facts (n := t - s) (by omega)
    omega
  · obtain ⟨g1, g2, -⟩ := splitN_facts (n := t - s) (by omega)
    omega
section
variable {rb re : Nat} {A : Nat × Nat → List UInt8} {lf : Nat → List UInt8}
theorem valN_out {s t : Nat} (h : re ≤ s ∨ t ≤ rb) : valN rb re A lf s t = A (s, t) := by rw [valN, if_pos h]
theorem valN_leaf {s : Nat} (h : ¬ (re ≤ s ∨ s + 1 ≤ rb)) : valN rb re A lf s (s + 1) = lf s := by rw [valN, if_neg h, dif_pos (by omega)]
theorem valN_node {s t : Nat} (h : ¬ (re ≤ s ∨ t ≤ rb)) (h2 : 2 ≤ t - s) : valN rb re A lf s t = nodeH (valN rb re A lf s (s + splitN (t - s))) (valN rb re A lf (s + splitN (t - s)) t) := by rw [valN, if_neg h, dif_neg (by omega)]
theorem valN_pow {s k : Nat} (h : ¬ (re ≤ s ∨ s + 2 ^ (k + 1) ≤ rb)) : valN rb re A lf s (s + 2 ^ (k + 1)) = nodeH (valN rb re A lf s (s + 2 ^ k)) (valN rb re A lf (s + 2 ^ k) (s + 2 ^ k + 2 ^ k)) := by
  have h0 := pow_pos2 k
  rw [valN_node h (by rw [pow_succ2]; omega), show s + 2 ^ (k + 1) - s = 2 ^ (k + 1) by omega, splitN_pow]
  rw [show s + 2 ^ (k + 1) = s + 2 ^ k + 2 ^ k by rw [pow_succ2]; omega]
theorem walkF_val : ∀ (f b e : Nat) (H M : List (List UInt8)), b < e → e - b ≤ 2 ^ f → rb < re →
    walkF f rb re b e ((toldF f rb re b e).map A ++ H) ((List.range' (max rb b) (min re e - max rb b)).map lf ++ M) = (valN rb re A lf b e, H, M)
  | 0, b, e, H, M, h1, h2, h4 => by
    have : e = b + 1 := by simp at h2; omega
    subst this
    unfold walkF toldF
    by_cases hc : re ≤ b ∨ b + 1 ≤ rb
    · rw [if_pos hc, if_pos hc, valN_out hc, show min re (b + 1) - max rb b = 0 by omega]
      rfl
    · rw [if_neg hc, if_neg hc, valN_leaf hc, show min re (b + 1) - max rb b = 1 by omega, show max rb b = b by omega]
      rfl
  | f + 1, b, e, H, M, h1, h2, h4 => by
    by_cases hc : re ≤ b ∨ e ≤ rb
    · rw [walkF, if_pos hc, toldF, if_pos hc, valN_out hc, show min re e - max rb b = 0 by omega]
      rfl
    · rw [walkF, if_neg hc]
      by_cases h6 : e - b = 1
      · have : e = b + 1 := by omega
        subst this
        rw [if_pos h6, toldF, if_neg hc, if_pos (by omega), valN_leaf hc, show min re (b + 1) - max rb b = 1 by omega, show max rb b = b by omega]
        rfl
      · rw [if_neg h6]
        obtain ⟨g1, g2, g3⟩ := splitN_facts (n := e - b) (by omega)
        have g4 := splitN_le (n := e - b) (f := f) (by omega) h2
        have hto : toldF (f + 1) rb re b e = toldF f rb re b (b + splitN (e - b)) ++ toldF f rb re (b + splitN (e - b)) e := by
          rw [toldF, if_neg hc]
          split
          · rename_i hw
            rw [toldF_in f rb re b _ hw.1 (by omega) (by omega), toldF_in f rb re _ e (by omega) hw.2 (by omega)]
            rfl
          · rfl
        have hsl : List.range' (max rb b) (min re e - max rb b) = List.range' (max rb b) (min re (b + splitN (e - b)) - max rb b) ++ List.range' (max rb (b + splitN (e - b))) (min re e - max rb (b + splitN (e - b))) := by
          by_cases q1 : re ≤ b + splitN (e - b)
          · rw [show min re e - max rb (b + splitN (e - b)) = 0 by omega, show min re e = min re (b + splitN (e - b)) by omega]
            simp
          · by_cases q2 : b + splitN (e - b) ≤ rb
            · rw [show min re (b + splitN (e - b)) - max rb b = 0 by omega, show max rb b = max rb (b + splitN (e - b)) by omega]
              simp
            · rw [show min re (b + splitN (e - b)) = b + splitN (e - b) by omega, show max rb (b + splitN (e - b)) = b + splitN (e - b) by omega]
              rw [show b + splitN (e - b) = max rb b + (b + splitN (e - b) - max rb b) by omega]
              rw [show max rb b + (b + splitN (e - b) - max rb b) - max rb b = b + splitN (e - b) - max rb b by omega]
              have := List.range'_append_1 (s := max rb b) (m := b + splitN (e - b) - max rb b) (n := min re e - (max rb b + (b + splitN (e - b) - max rb b)))
              rw [this]
              congr 1
              omega
        rw [hto, hsl, List.map_append, List.map_append, List.append_assoc, List.append_assoc]
        have a1 := walkF_val f b (b + splitN (e - b)) ((toldF f rb re (b + splitN (e - b)) e).map A ++ H) ((List.range' (max rb (b + splitN (e - b))) (min re e - max rb (b + splitN (e - b)))).map lf ++ M) (by omega) (by omega) h4
        have a2 := walkF_val f (b + splitN (e - b)) e H M (by omega) (by omega) h4
        simp only [a1, a2]
        rw [← valN_node hc (by omega)]
end
end Go.Proofs.YtgikabafaocemaaDoor
