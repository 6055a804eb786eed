/-
  What is pending, as a list: the pages told, rising, each once; what lasts behind a flush.
-/
import Derived.Test.YtbhienlalpbflaaMDvA
import Derived.Lib.SlKeysI
namespace Go.Proofs.Ytbhienlalpbflaa
open Go.RowKit Go.Maps

theorem keys_told {P : Program} {k : TypeId} {R : Value → Option (DD × List MemPlace)} {w : World} {b n : Nat} {D : DD} (hown : w.ownsMap P k R b n D) (K : Keyed P k) (hk : P.underlying k = some (.int .i64)) :
    (intKeys D).Nodup ∧ ∀ p : Int, p ∈ intKeys D ↔ Maps.has D (pkey p) = true := by
  obtain ⟨es, hD, hp, _⟩ := hown.entries K
  obtain ⟨es', hD', hko⟩ := hown.keysOf
  obtain rfl : es = es' := by rw [hD] at hD'; simpa using hD'
  subst hD
  have hk2 : ∀ p ∈ es, ∃ x, p.1 = .int .i64 x := fun p hp => by obtain ⟨v, hv⟩ := hko p hp; obtain ⟨x, _, hx, _⟩ := Maps.keyOf_i64 hk hv; exact ⟨x, hx⟩
  constructor
  · show (es.map fun p => intOf p.1).Nodup
    refine List.pairwise_map.2 (hp.imp_of_mem fun {p q} hp' hq' hne e => hne ?_)
    obtain ⟨a, ha⟩ := hk2 p hp'
    obtain ⟨b, hb⟩ := hk2 q hq'
    rw [ha, hb] at e ⊢
    exact congrArg _ e
  · intro x
    rw [has_eq, List.any_eq_true]
    show x ∈ (es.map fun p => intOf p.1) ↔ _
    rw [List.mem_map]
    constructor
    · rintro ⟨p, hp', rfl⟩
      obtain ⟨a, ha⟩ := hk2 p hp'
      exact ⟨p, hp', by rw [ha]; simp [Lit.sameKey, intOf, pkey]⟩
    · rintro ⟨p, hp', hs⟩
      obtain ⟨a, ha⟩ := hk2 p hp'
      rw [ha] at hs
      exact ⟨p, hp', by rw [ha]; simpa [Lit.sameKey, intOf, pkey] using hs⟩
/-- the pages of which something is pending, of so many, rising -/
def told (f : Int → Option (List UInt8)) (n : Nat) : List Int := ((List.range n).map fun i : Nat => (i : Int)).filter fun p => (f p).isSome
def rise (l : List Int) : List Int := l.mergeSort fun x y => decide (x ≤ y)
theorem told_mem {f : Int → Option (List UInt8)} {n : Nat} {p : Int} : p ∈ told f n ↔ 0 ≤ p ∧ p < n ∧ (f p).isSome = true := by
  simp only [told, List.mem_filter, List.mem_map, List.mem_range]
  constructor
  · rintro ⟨⟨i, hi, rfl⟩, h⟩
    exact ⟨by omega, by omega, h⟩
  · rintro ⟨h1, h2, h3⟩
    exact ⟨⟨p.toNat, by omega, by omega⟩, h3⟩
theorem told_sorted (f : Int → Option (List UInt8)) (n : Nat) : (told f n).Pairwise (fun a b => a < b) := by
  refine List.Pairwise.filter _ ?_
  rw [List.pairwise_map]
  exact List.pairwise_lt_range.imp fun h => by omega
/-- the keys, rising: the pages told -/
theorem rise_told {P : Program} {k : TypeId} {R : Value → Option (DD × List MemPlace)} {w : World} {b m n : Nat} {D : DD} {f : Int → Option (List UInt8)} (hown : w.ownsMap P k R b m D) (K : Keyed P k) (hk : P.underlying k = some (.int .i64)) (hP : Pends D f)
    (hr : ∀ p, (f p).isSome = true → 0 ≤ p ∧ p < n) : rise (intKeys D) = told f n := by
  obtain ⟨hnd, hm⟩ := keys_told hown K hk
  have hperm : (intKeys D).Perm (told f n) := by
    refine (List.perm_ext_iff_of_nodup hnd ?_).2 fun p => ?_
    · exact (told_sorted f n).imp fun h => by omega
    · rw [hm p, (hP.2 p).1, told_mem]
      exact ⟨fun h => ⟨(hr p h).1, (hr p h).2, h⟩, fun h => h.2.2⟩
  refine List.Perm.eq_of_pairwise (le := fun a b => decide (a ≤ b) = true) (fun a b _ _ p q => by simp only [decide_eq_true_eq] at p q; omega) (List.pairwise_mergeSort (fun a b c p q => by simp only [decide_eq_true_eq] at p q ⊢; omega) (fun a b => by simp; omega) _) ((told_sorted f n).imp fun h => by simp; omega) ((List.mergeSort_perm _ _).trans hperm)
theorem rise_mem {l : List Int} {p : Int} : p ∈ rise l ↔ p ∈ l := (List.mergeSort_perm _ _).mem_iff
theorem rise_len (l : List Int) : (rise l).length = l.length := List.length_mergeSort _
/-- what lasts, of each page that has been let last so far -/
def lasts (l : List (List UInt8)) (f : Int → Option (List UInt8)) (done : List Int) : List (List UInt8) := l.mapIdx fun i s => if (i : Int) ∈ done then (f i).getD [] else s
theorem lasts_len (l : List (List UInt8)) (f : Int → Option (List UInt8)) (done : List Int) : (lasts l f done).length = l.length := by simp [lasts]
theorem lasts_nil (l : List (List UInt8)) (f : Int → Option (List UInt8)) : lasts l f [] = l := by
  apply List.ext_getElem?
  intro k
  simp [lasts, List.getElem?_mapIdx]
theorem lasts_snoc (l : List (List UInt8)) (f : Int → Option (List UInt8)) (done : List Int) (p : Nat) (s : List UInt8) (h : f (p : Int) = some s) : lasts l f (done ++ [(p : Int)]) = (lasts l f done).set p s := by
  apply List.ext_getElem?
  intro k
  simp only [lasts, List.getElem?_mapIdx, List.getElem?_set, List.length_mapIdx]
  by_cases e : p = k
  · subst e
    simp only [List.mem_append, List.mem_singleton, or_true, if_true, h, Option.getD_some]
    by_cases hk : p < l.length
    · simp [hk]
    · simp [hk]
  · have : ¬ (k : Int) = (p : Int) := by omega
    simp only [if_neg e, List.mem_append, List.mem_singleton, this, or_false]
/-- behind a flush -/
def flushed (l : List (List UInt8)) (f : Int → Option (List UInt8)) : List (List UInt8) := l.mapIdx fun i s => (f i).getD s
theorem lasts_all (l : List (List UInt8)) (f : Int → Option (List UInt8)) (done : List Int) (h : ∀ p, p ∈ done ↔ (f p).isSome = true) : lasts l f done = flushed l f := by
  unfold lasts flushed
  congr 1
  funext i s
  by_cases hi : (i : Int) ∈ done
  · rw [if_pos hi]
    have := (h i).1 hi
    cases hf : f (i : Int) with
    | none => rw [hf] at this; cases this
    | some t => rfl
  · rw [if_neg hi]
    cases hf : f (i : Int) with
    | none => rfl
    | some t => exact absurd ((h i).2 (by rw [hf]; rfl)) hi
/-- what is pending still, when so many pages have been let last -/
def less (f : Int → Option (List UInt8)) (done : List Int) : Int → Option (List UInt8) := fun p => if p ∈ done then none else f p
theorem less_nil (f : Int → Option (List UInt8)) : less f [] = f := by funext p; simp [less]
theorem less_snoc (f : Int → Option (List UInt8)) (done : List Int) (q : Int) : less f (done ++ [q]) = fun p => if p = q then none else less f done p := by
  funext p
  unfold less
  by_cases e : p = q
  · simp [e]
  · simp [e]
theorem less_all (f : Int → Option (List UInt8)) (done : List Int) (h : ∀ p, p ∈ done ↔ (f p).isSome = true) : less f done = fun _ => none := by
  funext p
  unfold less
  split
  · rfl
  · rename_i hn
    cases hf : f p with
    | none => rfl
    | some t => exact absurd ((h p).2 (by rw [hf]; rfl)) hn
theorem take_not_mem {L : List Int} (hs : L.Pairwise (fun a b => a < b)) {m : Nat} {p : Int} (h : L[m]? = some p) : p ∉ L.take m := by
  intro hp
  obtain ⟨i, hi⟩ := List.getElem?_of_mem hp
  have him : i < m := by
    have := (List.getElem?_eq_some_iff.1 hi).1
    simp at this
    omega
  rw [List.getElem?_take, if_pos him] at hi
  obtain ⟨h1, h2⟩ := List.getElem?_eq_some_iff.1 hi
  obtain ⟨h3, h4⟩ := List.getElem?_eq_some_iff.1 h
  have := List.pairwise_iff_getElem.1 hs i m h1 h3 him
  omega
end Go.Proofs.Ytbhienlalpbflaa
