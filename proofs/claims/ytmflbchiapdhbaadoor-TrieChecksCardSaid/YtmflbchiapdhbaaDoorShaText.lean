/-
  SHA-256 in parts: a state, what is left of the last block, and the text they stand for.
-/
import Derived.Test.YtmflbchiapdhbaaDoorShaPlain
namespace Go.Proofs.YtmflbchiapdhbaaDoor
open Go.RowKit

theorem shaBlocks_few (v : Eight) {l : List UInt8} (h : l.length < 64) : shaBlocks v l = v := by rw [shaBlocks, dif_pos h]
theorem shaBlocks_more (v : Eight) {l : List UInt8} (h : 64 ≤ l.length) : shaBlocks v l = shaBlocks (shaBlock v (l.take 64)) (l.drop 64) := by rw [shaBlocks, dif_neg (by omega)]
theorem shaBlocks_append : ∀ (n : Nat) (v : Eight) (l m : List UInt8), l.length = 64 * n → shaBlocks v (l ++ m) = shaBlocks (shaBlocks v l) m
  | 0, v, l, m, h => by
    have : l = [] := List.eq_nil_of_length_eq_zero (by omega)
    subst this
    rw [shaBlocks_few v (l := []) (by simp)]
    rfl
  | n + 1, v, l, m, h => by
    rw [shaBlocks_more v (l := l ++ m) (by simp; omega), shaBlocks_more v (l := l) (by omega), List.take_append_of_le_length (by omega), List.drop_append_of_le_length (by omega)]
    exact shaBlocks_append n _ _ m (by simp; omega)

/-- t, taken in parts: whole blocks q, of which v is the state, and r, with which what is kept begins -/
def Hashed (t : List UInt8) (v : Eight) (rest : List UInt8) : Prop :=
  ∃ q r, t = q ++ r ∧ q.length % 64 = 0 ∧ r.length < 64 ∧ v = shaBlocks eight0 q ∧ rest.length = 64 ∧ rest.take r.length = r
theorem Hashed.at_ {t : List UInt8} {v : Eight} {rest : List UInt8} (h : Hashed t v rest) : rest.length = 64 := by
  obtain ⟨q, r, _, _, _, _, h, _⟩ := h
  exact h
theorem Hashed.start (rest : List UInt8) (h : rest.length = 64) : Hashed [] eight0 rest := ⟨[], [], rfl, rfl, by simp, by rw [shaBlocks_few _ (by simp)], h, rfl⟩
/-- what is kept behind a part of n bytes -/
def keptOf (rest : List UInt8) (a : Nat) (p : List UInt8) : List UInt8 := rest.take a ++ p ++ rest.drop (a + p.length)
theorem keptOf_len {rest : List UInt8} {a : Nat} {p : List UInt8} (h : rest.length = 64) (ha : a + p.length ≤ 64) : (keptOf rest a p).length = 64 := by simp [keptOf]; omega
theorem Hashed.part {t : List UInt8} {v : Eight} {rest p : List UInt8} (h : Hashed t v rest) (hp : t.length % 64 + p.length < 64) : Hashed (t ++ p) v (keptOf rest (t.length % 64) p) := by
  obtain ⟨q, r, rfl, hq, hr, hv, hl, ht⟩ := h
  have e : (q ++ r).length % 64 = r.length := by simp; omega
  rw [e] at hp ⊢
  refine ⟨q, r ++ p, by simp, hq, by simp; omega, hv, keptOf_len hl (by omega), ?_⟩
  rw [keptOf, ht]
  exact List.take_left' (by simp)
theorem Hashed.full {t : List UInt8} {v : Eight} {rest p : List UInt8} (h : Hashed t v rest) (hp : t.length % 64 + p.length = 64) : Hashed (t ++ p) (shaBlock v (keptOf rest (t.length % 64) p)) (keptOf rest (t.length % 64) p) := by
  obtain ⟨q, r, rfl, hq, hr, rfl, hl, ht⟩ := h
  have e : (q ++ r).length % 64 = r.length := by simp; omega
  rw [e] at hp ⊢
  have hk : keptOf rest r.length p = r ++ p := by
    rw [keptOf, ht, List.drop_of_length_le (by omega), List.append_nil]
  rw [hk]
  refine ⟨q ++ (r ++ p), [], by simp, by simp; omega, by simp, ?_, by simp; omega, rfl⟩
  rw [shaBlocks_append (q.length / 64) _ q _ (by omega), shaBlocks_more _ (l := r ++ p) (by simp; omega), List.take_of_length_le (by simp; omega), List.drop_of_length_le (by simp; omega), shaBlocks_few (shaBlock _ (r ++ p)) (l := []) (by simp)]
/-- of a text that is filled up the state is all -/
theorem Hashed.whole {t : List UInt8} {v : Eight} {rest : List UInt8} (h : Hashed t v rest) (hl : t.length % 64 = 0) : v = shaBlocks eight0 t := by
  obtain ⟨q, r, rfl, hq, hr, rfl, _, _⟩ := h
  have : r = [] := List.eq_nil_of_length_eq_zero (by simp at hl; omega)
  subst this
  rw [List.append_nil]
end Go.Proofs.YtmflbchiapdhbaaDoor
