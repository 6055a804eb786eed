/-
  The document's trie map in plain words: a list of keys and values, each digest once; it has what a trie has. No program is in sight.
  The document's trie map in memory: New, Len, find, Get, side, Clone.
-/
import Derived.Test.YtmflbchiapdhbaaGreatDoorTrProof
import Derived.Test.YtmflbchiapdhbaaGreatDoorMMsG
import Derived.Test.YtmflbchiapdhbaaGreatDoorMTrA
namespace Go.Proofs.YtmflbchiapdhbaaGreatDoor
open Go.RowKit

abbrev Ent : Type := List UInt8 × List UInt8
def dg (x : Ent) : List UInt8 := sha x.1

/-- the list has what the trie has under place d, by the path p -/
structure HasAt (p : Nat → Nat) (d : Nat) (t : Tr) (L : List Ent) : Prop where
  nodup : (L.map dg).Nodup
  mem : ∀ x, x ∈ L ↔ (∀ i, i < d → bitAt (dg x) i = p i) ∧ t.look (dg x) d = some x

theorem dg_inj {L : List Ent} (h : (L.map dg).Nodup) {x y : Ent} (hx : x ∈ L) (hy : y ∈ L) (he : dg x = dg y) : x = y := by
  induction L with
  | nil => cases hx
  | cons a r ih =>
    rw [List.map_cons, List.nodup_cons] at h
    rcases List.mem_cons.1 hx with h1 | h1
    · rcases List.mem_cons.1 hy with h2 | h2
      · rw [h1, h2]
      · subst h1
        exact absurd (List.mem_map.2 ⟨y, h2, he.symm⟩) h.1
    · rcases List.mem_cons.1 hy with h2 | h2
      · subst h2
        exact absurd (List.mem_map.2 ⟨x, h1, he⟩) h.1
      · exact ih h.2 h1 h2

/-- of a list those whose bit is b -/
def sideL (d b : Nat) (L : List Ent) : List Ent := L.filter fun x => decide (bitAt (dg x) d = b)
theorem sideL_nodup {d b : Nat} {L : List Ent} (h : (L.map dg).Nodup) : ((sideL d b L).map dg).Nodup := h.sublist ((List.filter_sublist).map dg)
theorem HasAt.side0 {p : Nat → Nat} {d : Nat} {l r : Tr} {s : List UInt8} {L : List Ent} (h : HasAt p d (.fork l r s) L) : HasAt (sideOf p d 0) (d + 1) l (sideL d 0 L) := by
  refine ⟨sideL_nodup h.nodup, fun x => ?_⟩
  unfold sideL
  rw [List.mem_filter, h.mem x, look_fork]
  constructor
  · rintro ⟨⟨h1, h2⟩, h3⟩
    have h3 := of_decide_eq_true h3
    rw [if_pos h3] at h2
    exact ⟨sideOf_agree h1 h3, h2⟩
  · rintro ⟨h1, h2⟩
    obtain ⟨h1, h3⟩ := sideOf_down h1
    rw [if_pos h3]
    exact ⟨⟨h1, h2⟩, decide_eq_true h3⟩
theorem HasAt.side1 {p : Nat → Nat} {d : Nat} {l r : Tr} {s : List UInt8} {L : List Ent} (h : HasAt p d (.fork l r s) L) : HasAt (sideOf p d 1) (d + 1) r (sideL d 1 L) := by
  refine ⟨sideL_nodup h.nodup, fun x => ?_⟩
  unfold sideL
  rw [List.mem_filter, h.mem x, look_fork]
  constructor
  · rintro ⟨⟨h1, h2⟩, h3⟩
    have h3 := of_decide_eq_true h3
    rw [if_neg (by omega)] at h2
    exact ⟨sideOf_agree h1 h3, h2⟩
  · rintro ⟨h1, h2⟩
    obtain ⟨h1, h3⟩ := sideOf_down h1
    rw [if_neg (by omega)]
    exact ⟨⟨h1, h2⟩, decide_eq_true h3⟩
theorem HasAt.none_ {p : Nat → Nat} {d : Nat} {L : List Ent} (h : HasAt p d .none L) : L = [] := by
  cases L with
  | nil => rfl
  | cons x r =>
    have := ((h.mem x).1 List.mem_cons_self).2
    rw [look_none] at this
    cases this
theorem HasAt.leaf_ {p : Nat → Nat} {d : Nat} {k s key val : List UInt8} {L : List Ent} (h : HasAt p d (.leaf k s key val) L) (hg : Tr.Good p d (.leaf k s key val)) : L = [(key, val)] := by
  have hk := hg.1.1
  have hin : (key, val) ∈ L := (h.mem _).2 ⟨by unfold dg; rw [← hk]; exact hg.2, by unfold dg; rw [look_leaf, if_pos hk]⟩
  have hall : ∀ x ∈ L, x = (key, val) := fun x hx => by
    have := ((h.mem x).1 hx).2
    rw [look_leaf] at this
    by_cases e : k = dg x
    · rw [if_pos e] at this
      injection this with this
      exact this.symm
    · rw [if_neg e] at this; cases this
  cases L with
  | nil => cases hin
  | cons a r =>
    have ha := hall a List.mem_cons_self
    subst ha
    cases r with
    | nil => rfl
    | cons b r =>
      have hb := hall b (List.mem_cons_of_mem _ List.mem_cons_self)
      subst hb
      have := h.nodup
      simp at this
theorem HasAt.fork_ {p : Nat → Nat} {d : Nat} {l r : Tr} {s : List UInt8} {L : List Ent} (h : HasAt p d (.fork l r s) L) (hg : Tr.Good p d (.fork l r s)) : 2 ≤ L.length := by
  obtain ⟨k1, k2, n, a1, a2, b1, b2, q1, q2⟩ := (some_key _ d p hg (fun e => nomatch e)).2 rfl
  have get : ∀ k : List UInt8, (∀ i, i < d → bitAt k i = p i) → (Tr.fork l r s).look k d ≠ none → ∃ x, x ∈ L ∧ dg x = k := fun k hk hq => by
    cases hl : (Tr.fork l r s).look k d with
    | none => exact absurd hl hq
    | some x =>
      have := (look_ok k _ d p hg hk x.1 x.2 hl).1
      exact ⟨x, (h.mem x).2 (by unfold dg; rw [← this]; exact ⟨hk, hl⟩), this.symm⟩
  obtain ⟨x, hx, e1⟩ := get k1 b1 q1
  obtain ⟨y, hy, e2⟩ := get k2 b2 q2
  match L, hx, hy with
  | [a], hx, hy =>
    rw [List.mem_singleton] at hx hy
    subst hx hy
    exact absurd (e1.symm.trans e2) n
  | a :: b :: r, _, _ => simp
theorem HasAt.bits {p : Nat → Nat} {d : Nat} {t : Tr} {L : List Ent} (h : HasAt p d t L) (hg : Tr.Good p d t) : ∀ x ∈ L, x.1.length ≤ 200 ∧ x.2.length ≤ 1000 := fun x hx => by
  obtain ⟨h1, h2⟩ := (h.mem x).1 hx
  exact (look_ok _ t d p hg h1 x.1 x.2 h2).2

/-- the whole map -/
abbrev Has (t : Tr) (L : List Ent) : Prop := HasAt (fun _ => 0) 0 t L
theorem Has.mem' {t : Tr} {L : List Ent} (h : Has t L) (x : Ent) : x ∈ L ↔ t.look (dg x) 0 = some x := by
  rw [h.mem x]
  exact ⟨fun h => h.2, fun h => ⟨fun i hi => by omega, h⟩⟩
theorem has_none : Has .none [] := ⟨List.nodup_nil, fun x => by simp [look_none]⟩
theorem Has.length {t : Tr} {L : List Ent} (h : Has t L) (hg : Tr.Good (fun _ => 0) 0 t) : (L.map Prod.fst).Perm t.keys := by
  refine (List.perm_ext_iff_of_nodup ?_ (keys_nodup t 0 _ hg)).2 fun key => ?_
  · have hn := h.nodup
    have : L.map dg = (L.map Prod.fst).map sha := by simp [dg]
    rw [this] at hn
    exact List.Pairwise.of_map _ (fun a b hab e => hab (by rw [e])) hn
  · rw [List.mem_map]
    constructor
    · rintro ⟨x, hx, rfl⟩
      exact look_keys (dg x) x.1 x.2 t 0 ((h.mem' x).1 hx)
    · intro hk
      obtain ⟨-, val, hl⟩ := keys_look t 0 _ hg key hk
      exact ⟨(key, val), (h.mem' _).2 hl, rfl⟩
theorem Has.len {t : Tr} {L : List Ent} (h : Has t L) (hg : Tr.Good (fun _ => 0) 0 t) : L.length = t.keys.length := by
  have := (h.length hg).length_eq
  rwa [List.length_map] at this
theorem Has.rising {t : Tr} {L : List Ent} (h : Has t L) (hg : Tr.Good (fun _ => 0) 0 t) : rising (L.map Prod.fst) = rising t.keys := rising_same (h.length hg)

/-- where a digest is -/
def spotL (d : List UInt8) : List Ent → Option Nat
  | [] => none
  | x :: r => if dg x = d then some 0 else (spotL d r).map (· + 1)
theorem spotL_none {d : List UInt8} : ∀ {L : List Ent}, spotL d L = none → ∀ x ∈ L, dg x ≠ d
  | [], _, x, hx => by cases hx
  | a :: r, h, x, hx => by
    rw [spotL] at h
    by_cases e : dg a = d
    · rw [if_pos e] at h; cases h
    · rw [if_neg e] at h
      have h : spotL d r = none := by cases hq : spotL d r <;> simp [hq] at h <;> rfl
      rcases List.mem_cons.1 hx with rfl | hx
      · exact e
      · exact spotL_none h x hx
theorem spotL_some {d : List UInt8} : ∀ {L : List Ent} {j : Nat}, spotL d L = some j → ∃ x, L[j]? = some x ∧ dg x = d ∧ ∀ i y, i < j → L[i]? = some y → dg y ≠ d
  | [], j, h => by cases h
  | a :: r, j, h => by
    rw [spotL] at h
    by_cases e : dg a = d
    · rw [if_pos e] at h
      injection h with h
      subst h
      exact ⟨a, rfl, e, fun i y hi _ => by omega⟩
    · rw [if_neg e] at h
      cases hq : spotL d r with
      | none => rw [hq] at h; cases h
      | some k =>
        rw [hq] at h
        simp only [Option.map_some, Option.some.injEq] at h
        subst h
        obtain ⟨x, h1, h2, h3⟩ := spotL_some hq
        refine ⟨x, by simpa using h1, h2, fun i y hi hy => ?_⟩
        cases i with
        | zero => simp at hy; subst hy; exact e
        | succ i => exact h3 i y (by omega) (by simpa using hy)
theorem spotL_lt {d : List UInt8} {L : List Ent} {j : Nat} (h : spotL d L = some j) : j < L.length := by
  obtain ⟨x, h1, -⟩ := spotL_some h
  exact (List.getElem?_eq_some_iff.1 h1).1
/-- the loop of find: what lies ahead is none -/
theorem spotL_drop {d : List UInt8} {L : List Ent} : ∀ {i : Nat}, (∀ k y, k < i → L[k]? = some y → dg y ≠ d) → spotL d L = (spotL d (L.drop i)).map (· + i)
  | 0, _ => by simp
  | i + 1, h => by
    rw [spotL_drop (i := i) fun k y hk hy => h k y (by omega) hy]
    by_cases hi : i < L.length
    · rw [List.drop_eq_getElem_cons hi, spotL, if_neg (h i _ (by omega) (List.getElem?_eq_getElem hi)), Option.map_map]
      congr 1
      funext x
      simp only [Function.comp]
      omega
    · rw [List.drop_eq_nil_of_le (by omega), List.drop_eq_nil_of_le (by omega)]
      rfl
theorem spotL_at {d : List UInt8} {L : List Ent} {i : Nat} {x : Ent} (h : ∀ k y, k < i → L[k]? = some y → dg y ≠ d) (hx : L[i]? = some x) (hd : dg x = d) : spotL d L = some i := by
  obtain ⟨hi, hx⟩ := List.getElem?_eq_some_iff.1 hx
  rw [spotL_drop h, List.drop_eq_getElem_cons hi, hx, spotL, if_pos hd]
  simp
theorem spotL_end {d : List UInt8} {L : List Ent} {i : Nat} (h : ∀ k y, k < i → L[k]? = some y → dg y ≠ d) (hi : L.length ≤ i) : spotL d L = none := by
  rw [spotL_drop h, List.drop_eq_nil_of_le hi]
  rfl

/-- Set -/
def setL (x : Ent) (L : List Ent) : List Ent := match spotL (dg x) L with
  | none => L ++ [x]
  | some j => L.set j x
theorem Has.look {t : Tr} {L : List Ent} (h : Has t L) (hg : Tr.Good (fun _ => 0) 0 t) (k : List UInt8) : match spotL k L with
    | none => t.look k 0 = none
    | some j => t.look k 0 = L[j]? := by
  cases hs : spotL k L with
  | none =>
    simp only
    cases hl : t.look k 0 with
    | none => rfl
    | some x =>
      have hk := (look_ok k t 0 _ hg (fun i hi => by omega) x.1 x.2 hl).1
      subst hk
      exact absurd rfl (spotL_none hs x ((h.mem' x).2 hl))
  | some j =>
    obtain ⟨x, h1, h2, -⟩ := spotL_some hs
    simp only
    rw [h1, ← h2]
    exact (h.mem' x).1 (List.mem_of_getElem? h1)
theorem setL_mem {L : List Ent} (hn : (L.map dg).Nodup) (x y : Ent) : y ∈ setL x L ↔ y = x ∨ (y ∈ L ∧ dg y ≠ dg x) := by
  unfold setL
  cases hs : spotL (dg x) L with
  | none =>
    have hno := spotL_none hs
    simp only [List.mem_append, List.mem_singleton]
    constructor
    · rintro (h | h)
      · exact .inr ⟨h, hno y h⟩
      · exact .inl h
    · rintro (h | h)
      · exact .inr h
      · exact .inl h.1
  | some j =>
    obtain ⟨z, h1, h2, h3⟩ := spotL_some hs
    have hj := spotL_lt hs
    simp only [List.mem_iff_getElem?, List.getElem?_set]
    constructor
    · rintro ⟨i, hi⟩
      by_cases e : j = i
      · rw [if_pos e, if_pos (by omega)] at hi
        injection hi with hi
        exact .inl hi.symm
      · rw [if_neg e] at hi
        refine .inr ⟨⟨i, hi⟩, fun q => e ?_⟩
        have hil := (List.getElem?_eq_some_iff.1 hi).1
        have e1 : (L.map dg)[i]? = (L.map dg)[j]? := by simp [hi, h1, h2, q]
        exact ((List.getElem?_inj (by rw [List.length_map]; exact hil) hn).1 e1).symm
    · rintro (rfl | ⟨⟨i, hi⟩, hne⟩)
      · exact ⟨j, by simp [hj]⟩
      · refine ⟨i, ?_⟩
        rw [if_neg (fun e => hne ?_), hi]
        subst e
        rw [h1] at hi
        injection hi with hi
        rw [← hi, h2]
theorem setL_nodup {L : List Ent} (hn : (L.map dg).Nodup) (x : Ent) : ((setL x L).map dg).Nodup := by
  unfold setL
  cases hs : spotL (dg x) L with
  | none =>
    have hno := spotL_none hs
    simp only [List.map_append, List.map_cons, List.map_nil]
    rw [List.nodup_append]
    refine ⟨hn, by simp, fun a ha b hb => ?_⟩
    obtain ⟨y, hy, rfl⟩ := List.mem_map.1 ha
    rw [List.mem_singleton] at hb
    subst hb
    exact hno y hy
  | some j =>
    obtain ⟨z, h1, h2, h3⟩ := spotL_some hs
    have : (L.set j x).map dg = L.map dg := by
      rw [List.map_set, ← h2]
      apply List.ext_getElem?
      intro i
      rw [List.getElem?_set]
      split
      · rename_i e
        subst e
        rw [List.length_map, if_pos (spotL_lt hs)]
        simp [h1]
      · rfl
    simp only [this]
    exact hn
theorem Has.added {t : Tr} {L : List Ent} (h : Has t L) (hg : Tr.Good (fun _ => 0) 0 t) {key value : List UInt8} (hkey : key.length ≤ 200) (hval : value.length ≤ 1000) : Has (t.added key value) (setL (key, value) L) := by
  refine ⟨setL_nodup h.nodup _, fun y => ?_⟩
  rw [setL_mem h.nodup, added_look hg hkey hval]
  constructor
  · rintro (rfl | ⟨h1, h2⟩)
    · exact ⟨fun i hi => by omega, if_pos rfl⟩
    · refine ⟨fun i hi => by omega, ?_⟩
      rw [if_neg (show ¬ dg y = sha key from h2)]
      exact (h.mem' y).1 h1
  · rintro ⟨-, h1⟩
    by_cases e : dg y = sha key
    · rw [if_pos e] at h1
      injection h1 with h1
      exact .inl h1.symm
    · rw [if_neg e] at h1
      exact .inr ⟨(h.mem' y).2 h1, e⟩

/-- Remove -/
def cutL (d : List UInt8) (L : List Ent) : List Ent := L.filter fun x => decide (dg x ≠ d)
theorem Has.less {t : Tr} {L : List Ent} (h : Has t L) (hg : Tr.Good (fun _ => 0) 0 t) (key : List UInt8) : Has (t.less key) (cutL (sha key) L) := by
  refine ⟨h.nodup.sublist ((List.filter_sublist).map dg), fun y => ?_⟩
  unfold cutL
  rw [List.mem_filter, h.mem', (less_all hg key).2.2.1]
  simp only [ne_eq, decide_not, Bool.not_eq_true', decide_eq_false_iff_not]
  constructor
  · rintro ⟨h1, h2⟩
    exact ⟨fun i hi => by omega, by rw [if_neg h2]; exact h1⟩
  · rintro ⟨-, h1⟩
    by_cases e : dg y = sha key
    · rw [if_pos e] at h1; cases h1
    · rw [if_neg e] at h1; exact ⟨h1, e⟩
/-- by place: what is not at the spot stays -/
theorem cutL_spot {d : List UInt8} {L : List Ent} (hn : (L.map dg).Nodup) {i : Nat} {x : Ent} (hx : L[i]? = some x) : (dg x ≠ d ↔ spotL d L ≠ some i) := by
  constructor
  · intro h e
    obtain ⟨y, h1, h2, -⟩ := spotL_some e
    rw [hx] at h1
    injection h1 with h1
    rw [h1] at h
    exact h h2
  · intro h e
    cases hs : spotL d L with
    | none => exact spotL_none hs x (List.mem_of_getElem? hx) e
    | some j =>
      obtain ⟨y, h1, h2, -⟩ := spotL_some hs
      have hil := (List.getElem?_eq_some_iff.1 hx).1
      have e1 : (L.map dg)[i]? = (L.map dg)[j]? := by simp [hx, h1, h2, e]
      have := (List.getElem?_inj (by rw [List.length_map]; exact hil) hn).1 e1
      rw [this] at h
      exact h hs
theorem cutL_take {d : List UInt8} {L : List Ent} {i : Nat} {x : Ent} (hx : L[i]? = some x) : cutL d (L.take (i + 1)) = cutL d (L.take i) ++ if dg x ≠ d then [x] else [] := by
  obtain ⟨hi, hx⟩ := List.getElem?_eq_some_iff.1 hx
  unfold cutL
  rw [List.take_succ_eq_append_getElem hi, List.filter_append, hx]
  congr 1
  by_cases h : dg x = d <;> simp [h]
theorem sideL_take {d b : Nat} {L : List Ent} {i : Nat} {x : Ent} (hx : L[i]? = some x) : sideL d b (L.take (i + 1)) = sideL d b (L.take i) ++ if bitAt (dg x) d = b then [x] else [] := by
  obtain ⟨hi, hx⟩ := List.getElem?_eq_some_iff.1 hx
  unfold sideL
  rw [List.take_succ_eq_append_getElem hi, List.filter_append, hx]
  congr 1
  by_cases h : bitAt (dg x) d = b <;> simp [h]

/-- what Get tells -/
def getL (key : List UInt8) (L : List Ent) : List UInt8 × Bool := if 200 < key.length then ([], false) else match spotL (sha key) L with
  | none => ([], false)
  | some j => (((L[j]?).map Prod.snd).getD [], true)
theorem Has.tells {t : Tr} {L : List Ent} (h : Has t L) (hg : Tr.Good (fun _ => 0) 0 t) (key : List UInt8) : t.tells key = getL key L := by
  unfold Tr.tells getL
  split
  · rfl
  · have := h.look hg (sha key)
    rw [got_look, has_look]
    cases hs : spotL (sha key) L with
    | none => rw [hs] at this; simp only at this; rw [this]; rfl
    | some j =>
      rw [hs] at this
      simp only at this ⊢
      rw [this]
      obtain ⟨x, h1, -⟩ := spotL_some hs
      rw [h1]
      rfl
theorem Has.has {t : Tr} {L : List Ent} (h : Has t L) (hg : Tr.Good (fun _ => 0) 0 t) (k : List UInt8) : t.has k = (spotL k L).isSome := by
  have := h.look hg k
  rw [has_look]
  cases hs : spotL k L with
  | none => rw [hs] at this; simp only at this; rw [this]; rfl
  | some j =>
    rw [hs] at this
    simp only at this
    rw [this]
    obtain ⟨x, h1, -⟩ := spotL_some hs
    rw [h1]
    rfl

/-- a key put among keys that rise -/
theorem rising_put {l : List (List UInt8)} (key : List UInt8) (a b : List (List UInt8)) (hl : rising l = a ++ b) (ha : ∀ x ∈ a, x < key) (hb : ∀ y, b[0]? = some y → ¬ y < key) : rising (l ++ [key]) = a ++ [key] ++ b := by
  have hs : (rising l).Pairwise fun a b => decide (a ≤ b) = true := List.pairwise_mergeSort le_tr le_to l
  rw [hl, List.pairwise_append] at hs
  obtain ⟨s1, s2, s3⟩ := hs
  have hbk : ∀ y ∈ b, key ≤ y := fun y hy => by
    cases b with
    | nil => cases hy
    | cons z r =>
      have hz : key ≤ z := List.not_lt.1 (hb z rfl)
      rcases List.mem_cons.1 hy with rfl | hy
      · exact hz
      · exact List.le_trans hz (of_decide_eq_true ((List.pairwise_cons.1 s2).1 y hy))
  refine List.Perm.eq_of_pairwise (le := fun a b => decide (a ≤ b) = true) (fun a b _ _ p q => List.le_antisymm (of_decide_eq_true p) (of_decide_eq_true q)) (List.pairwise_mergeSort le_tr le_to _) ?_ ?_
  · rw [List.append_assoc, List.pairwise_append]
    refine ⟨s1, ?_, fun x hx y hy => ?_⟩
    · rw [List.singleton_append, List.pairwise_cons]
      exact ⟨fun y hy => decide_eq_true (hbk y hy), s2⟩
    · rcases List.mem_append.1 hy with hy | hy
      · rw [List.mem_singleton] at hy
        subst hy
        exact decide_eq_true (List.le_of_lt (ha x hx))
      · exact s3 x hx y hy
  · refine (rising_perm _).trans ?_
    have h1 : l.Perm (a ++ b) := by rw [← hl]; exact (rising_perm l).symm
    have h2 : (l ++ [key]).Perm ((a ++ b) ++ [key]) := h1.append_right _
    refine h2.trans ?_
    rw [List.append_assoc, List.append_assoc]
    exact List.Perm.append_left a List.perm_append_comm
end Go.Proofs.YtmflbchiapdhbaaGreatDoor

namespace Go.Proofs.YtmflbchiapdhbaaGreatDoor
open Go.RowKit

def entCells (x : Ent) : List Value := [.string (str x.1), .string (str x.2), .string (str (sha x.1)), .string (str (sha x.2))]
def thingCells (L : List Ent) : List Value := L.flatMap entCells
theorem thingCells_len (L : List Ent) : (thingCells L).length = 4 * L.length := by
  induction L with
  | nil => rfl
  | cons x r ih => simp only [thingCells, List.flatMap_cons, List.length_append, List.length_cons, entCells, List.length_nil] at ih ⊢; omega
theorem thingCells_append (L M : List Ent) : thingCells (L ++ M) = thingCells L ++ thingCells M := by simp [thingCells]
theorem thingCells_at : ∀ (L : List Ent) (k : Nat) (x : Ent), L[k]? = some x → ∀ i u, (entCells x)[i]? = some u → (thingCells L)[k * 4 + i]? = some u
  | [], k, x, h, _, _, _ => by simp at h
  | y :: r, 0, x, h, i, u, hu => by
    simp at h
    subst h
    have hi : i < (entCells y).length := (List.getElem?_eq_some_iff.1 hu).1
    simp only [thingCells, List.flatMap_cons, Nat.zero_mul, Nat.zero_add]
    rw [List.getElem?_append_left hi]
    exact hu
  | y :: r, k + 1, x, h, i, u, hu => by
    have := thingCells_at r k x (by simpa using h) i u hu
    simp only [thingCells, List.flatMap_cons] at this ⊢
    rw [List.getElem?_append_right (by simp [entCells]; omega)]
    simp only [entCells, List.length_cons, List.length_nil]
    rw [show (k + 1) * 4 + i - (0 + 1 + 1 + 1 + 1) = k * 4 + i by omega]
    exact this
theorem entCells_one (x : Ent) : ∀ u ∈ entCells x, u.oneCell' = true := by
  intro u hu
  simp only [entCells, List.mem_cons, List.not_mem_nil, or_false] at hu
  rcases hu with rfl | rfl | rfl | rfl <;> rfl
theorem thingCells_one (L : List Ent) : ∀ u ∈ thingCells L, u.oneCell' = true := by
  intro u hu
  obtain ⟨x, -, h⟩ := List.mem_flatMap.1 hu
  exact entCells_one x u h

/-- a list of things in memory -/
def ThingsAt (w : World) (v : Value) (L : List Ent) : Prop :=
  ∃ ao cap, v = .slice ao L.length cap ∧ ∀ (k : Nat) (x : Ent), L[k]? = some x → ∃ bb, ao = some ⟨bb, 0, none⟩ ∧ bb < w.heap.size ∧ w.cell? ⟨bb, k * 4, none⟩ = some (.string (str x.1)) ∧ w.cell? ⟨bb, k * 4 + 1, none⟩ = some (.string (str x.2)) ∧ w.cell? ⟨bb, k * 4 + 2, none⟩ = some (.string (str (sha x.1))) ∧ w.cell? ⟨bb, k * 4 + 3, none⟩ = some (.string (str (sha x.2)))
theorem ThingsAt.fresh {w w' : World} {v : Value} {L : List Ent} (h : ThingsAt w v L) (f : Fresh w w') : ThingsAt w' v L := by
  obtain ⟨ao, cap, rfl, hc⟩ := h
  exact ⟨ao, cap, rfl, fun k x hx => by
    obtain ⟨bb, e1, e2, c0, c1, c2, c3⟩ := hc k x hx
    exact ⟨bb, e1, Nat.lt_of_lt_of_le e2 f.size, (f.cell (p := ⟨bb, k * 4, none⟩) e2 (fun h => h)).trans c0, (f.cell (p := ⟨bb, k * 4 + 1, none⟩) e2 (fun h => h)).trans c1, (f.cell (p := ⟨bb, k * 4 + 2, none⟩) e2 (fun h => h)).trans c2, (f.cell (p := ⟨bb, k * 4 + 3, none⟩) e2 (fun h => h)).trans c3⟩⟩
theorem ThingsAt.keeps {S : Nat → Prop} {w w' : World} {v : Value} {L : List Ent} (h : ThingsAt w v L) (f : Keeps S w w') (hS : ∀ g, v.ownBlock = some g → ¬ S g) : ThingsAt w' v L := by
  obtain ⟨ao, cap, rfl, hc⟩ := h
  exact ⟨ao, cap, rfl, fun k x hx => by
    obtain ⟨bb, rfl, e2, c0, c1, c2, c3⟩ := hc k x hx
    have hn := hS bb rfl
    exact ⟨bb, rfl, Nat.lt_of_lt_of_le e2 f.size, (f.cell (p := ⟨bb, k * 4, none⟩) e2 hn).trans c0, (f.cell (p := ⟨bb, k * 4 + 1, none⟩) e2 hn).trans c1, (f.cell (p := ⟨bb, k * 4 + 2, none⟩) e2 hn).trans c2, (f.cell (p := ⟨bb, k * 4 + 3, none⟩) e2 hn).trans c3⟩⟩
/-- in a block of its own -/
def OwnThings (w : World) (v : Value) (L : List Ent) : Prop := w.ownsRow 0 89 4 v L.length (thingCells L)
theorem OwnThings.at_ {w : World} {v : Value} {L : List Ent} (h : OwnThings w v L) : ThingsAt w v L := by
  rcases h.2 with ⟨rfl, h0⟩ | ⟨g, cap, cur, rfl, _, hg, _, _, _, ht⟩
  · have : L = [] := List.eq_nil_of_length_eq_zero h0
    subst this
    exact ⟨_, _, rfl, fun k x hx => by simp at hx⟩
  · refine ⟨_, _, rfl, fun k x hx => ⟨g, rfl, lt_of_block hg, ?_⟩⟩
    have get : ∀ i u, (entCells x)[i]? = some u → w.cell? ⟨g, k * 4 + i, none⟩ = some u := fun i u hu => by
      have h1 := thingCells_at L k x hx i u hu
      rw [cell_at hg]
      rw [← ht, List.getElem?_take] at h1
      split at h1
      · simpa using h1
      · cases h1
    exact ⟨get 0 _ rfl, get 1 _ rfl, get 2 _ rfl, get 3 _ rfl⟩
theorem ThingsAt.src {P : Program} {w : World} {tx e : TypeId} {v : Value} {L : List Ent} (hk : P.underlying tx = some (.slice e)) (h : ThingsAt w v L) : Src P 4 tx v L.length (thingCells L) w := by
  obtain ⟨ao, cap, rfl, hc⟩ := h
  cases L with
  | nil =>
    cases ao with
    | none => exact Src.ofNil w hk cap
    | some a => exact Src.ofSlice w hk a 0 cap [] rfl (fun j u hj => by simp at hj) (fun u hu => by simp at hu)
  | cons x r =>
    obtain ⟨bb, rfl, _⟩ := hc 0 x rfl
    refine Src.ofSlice w hk _ _ cap (thingCells (x :: r)) (by rw [thingCells_len]; omega) (fun j u hj => ?_) (thingCells_one _)
    have hjl := (List.getElem?_eq_some_iff.1 hj).1
    rw [thingCells_len] at hjl
    obtain ⟨y, hy⟩ : ∃ y, (x :: r)[j / 4]? = some y := ⟨(x :: r)[j / 4]'(by omega), by simp⟩
    obtain ⟨b2, e2, _, c0, c1, c2, c3⟩ := hc _ y hy
    simp only [Option.some.injEq, Addr.mk.injEq, and_true] at e2
    subst e2
    rw [addr_add0]
    have hm : j / 4 * 4 + j % 4 = j := by omega
    have hlt : j % 4 < 4 := Nat.mod_lt _ (by omega)
    have key : ∀ i, i = j % 4 → w.cell? ⟨bb, j, none⟩ = some u := fun i hi => by
      obtain ⟨z, hz⟩ : ∃ z, (entCells y)[i]? = some z := ⟨(entCells y)[i]'(by simp [entCells]; omega), by simp⟩
      have h1 := thingCells_at _ _ y hy i z hz
      rw [show j / 4 * 4 + i = j by omega, hj] at h1
      injection h1 with h1
      subst h1
      have hj2 : j = j / 4 * 4 + i := by omega
      rw [hj2]
      match i, (by omega : i < 4) with
      | 0, _ => simp [entCells] at hz; subst hz; exact c0
      | 1, _ => simp [entCells] at hz; subst hz; exact c1
      | 2, _ => simp [entCells] at hz; subst hz; exact c2
      | 3, _ => simp [entCells] at hz; subst hz; exact c3
    exact key _ rfl

/-- the document's map: its box, its row -/
structure DocAt (w : World) (y : Nat) (dv : Value) (L : List Ent) : Prop where
  box : w.heap[y]? = some (.cells #[dv] 57 (0, 0))
  row : OwnThings w dv L
  off : dv.ownBlock ≠ some y
theorem DocAt.keeps {S : Nat → Prop} {w w' : World} {y : Nat} {dv : Value} {L : List Ent} (h : DocAt w y dv L) (k : Keeps S w w') (hy : ¬ S y) (hd : ∀ g, dv.ownBlock = some g → ¬ S g) : DocAt w' y dv L :=
  ⟨k.at_ h.box hy, ownsRow_keeps h.row k hd, h.off⟩
theorem DocAt.fresh {w w' : World} {y : Nat} {dv : Value} {L : List Ent} (h : DocAt w y dv L) (k : Fresh w w') : DocAt w' y dv L := h.keeps k (fun h => h) (fun _ _ h => h)

set_option maxRecDepth 100000 in
theorem dnewmap_any (w : World) :
    Calls Tryz.prog 6 #[] w fun e w' => e = .returned (.pointer (some ⟨w.heap.size, 0, none⟩)) ∧ Fresh w w' ∧ DocAt w' w.heap.size (.slice none 0 0) [] := by
  go_enter Tryz.func6, Tryz.ntmps6
  go_wp2_with fail
  go_ret
  exact ⟨rfl, (Keeps.refl _ _).alloc _, heap_alloc_new w _, World.ownsRow_nil _ _ _ _, fun h => nomatch h⟩

set_option maxRecDepth 100000 in
theorem dlenmap_any (y : Nat) (dv : Value) (L : List Ent) (w : World) (h : DocAt w y dv L) :
    Calls Tryz.prog 26 #[.pointer (some ⟨y, 0, none⟩)] w fun e w' => e = .returned (.int .i64 (L.length : Int)) ∧ Fresh w w' := by
  obtain ⟨ao, cap, rfl, -⟩ := h.row.at_
  have c0 := cell_at h.box 0
  simp at c0
  clear h
  go_enter Tryz.func26, Tryz.ntmps26
  go_wp2_with fail
  go_ret
  exact ⟨rfl, Keeps.refl _ _⟩

def spotV (d : List UInt8) (L : List Ent) : Int := match spotL d L with
  | none => -1
  | some j => (j : Int)

set_option maxRecDepth 100000 in
set_option maxHeartbeats 2000000 in
theorem dfind_any (y : Nat) (dv : Value) (L : List Ent) (key : List UInt8) (w : World) (h : DocAt w y dv L) (hl : L.length ≤ 1000000) (hk : key.length ≤ 70368744177664) :
    Calls Tryz.prog 45 #[.pointer (some ⟨y, 0, none⟩), .string (str key)] w fun e w' => e = .returned (.int .i64 (spotV (sha key) L)) ∧ Fresh w w' := by
  have hsv : Hid (spotV (sha key) L = spotV (sha key) L) := rfl
  obtain ⟨d, hd⟩ : ∃ d, sha key = d := ⟨_, rfl⟩
  have HSUM : Hid (∀ W : World, Calls Tryz.prog 44 #[.string (str key)] W fun e w' => e = .returned (.string (str d)) ∧ Fresh W w') := fun W => by
    rw [← hd]; exact refsum_any key W hk
  rw [hd]
  clear hd hsv hk
  have H := hid h
  obtain ⟨ao, cap, rfl, -⟩ := h.row.at_
  clear h
  go_enter Tryz.func45, Tryz.ntmps45
  go_wp2_with fail
  refine (HSUM.out w).mono ?_
  rintro e w1 ⟨rfl, f1⟩
  go_wp2_with fail
  go_loopw [6] (fun i wr => ∃ n : Nat, i = .int .i64 (n : Int) ∧ n ≤ L.length ∧ Hid (∀ k x, k < n → L[k]? = some x → dg x ≠ d) ∧ Fresh w wr) (fun i _ => L.length - (intOf i).toNat)
  case atStart => exact ⟨0, rfl, Nat.zero_le _, (fun k x hk _ => by omega), f1⟩
  case round =>
    obtain ⟨n, rfl, hn, HNO, fr⟩ := hrel
    have hD := H.out.fresh fr
    have c0 := cell_at hD.box 0
    simp at c0
    by_cases hlt : n < L.length
    · obtain ⟨x, hx⟩ : ∃ x, L[n]? = some x := ⟨L[n], by simp⟩
      obtain ⟨ao', cap', e1, hc⟩ := hD.row.at_
      simp only [Value.slice.injEq, true_and] at e1
      obtain ⟨rfl, rfl⟩ := e1
      obtain ⟨bb, rfl, hbb, -, -, x2, -⟩ := hc n x hx
      have hn0 : (0 : Int) ≤ (n : Int) := by omega
      have hn1 : (n : Int) < (L.length : Int) := by omega
      have HX := hid hx
      by_cases he : dg x = d
      · have HE : Hid (spotL d L = some n) := spotL_at HNO.out hx he
        have hq : ((str (sha x.1)).toList == (str d).toList) = true := by rw [← he]; simp [dg]
        have hq2 : sha x.1 = d := he
        clear hD hc hx he
        go_wp2_with fail
        go_ret
        exact ⟨by rw [spotV, HE.out]; rfl, fr⟩
      · have HNO2 : Hid (∀ k y, k < n + 1 → L[k]? = some y → dg y ≠ d) := fun k y hk hy => by
          by_cases e : k = n
          · subst e
            rw [hx] at hy
            injection hy with hy
            subst hy
            exact he
          · exact HNO.out k y (by omega) hy
        have hq : ((str (sha x.1)).toList == (str d).toList) = false := by
          simp only [str_toList, beq_eq_false_iff_ne, ne_eq]
          exact he
        have hq2 : ¬ sha x.1 = d := he
        clear hD hc hx he
        go_wp2_with fail
        go_roundw
        case rel => exact ⟨n + 1, by go_num, by omega, HNO2, fr⟩
        case measure => simp [intOf]; omega
    · have HE : Hid (spotL d L = none) := spotL_end HNO.out (by omega)
      have hn1 : ¬ (n : Int) < (L.length : Int) := by omega
      clear hD
      go_wp2_with fail
      go_ret
      exact ⟨by rw [spotV, HE.out]; rfl, fr⟩

set_option maxRecDepth 100000 in
set_option maxHeartbeats 2000000 in
theorem dget_any (y : Nat) (dv : Value) (L : List Ent) (key : List UInt8) (w : World) (h : DocAt w y dv L) (hl : L.length ≤ 1000000) (hkey : key.length ≤ 9223372036854775807) :
    Calls Tryz.prog 20 #[.pointer (some ⟨y, 0, none⟩), .string (str key)] w fun e w' => e = .returned (.tuple #[.string (str (getL key L).1), .bool (getL key L).2]) ∧ Fresh w w' := by
  have hsz := str_size key
  by_cases hlong : 200 < key.length
  · rw [getL, if_pos hlong]
    have hlong' : (200 : Int) < (key.length : Int) := by omega
    clear h
    go_enter Tryz.func20, Tryz.ntmps20
    go_wp2_with fail
    go_ret2
    exact ⟨rfl, Keeps.refl _ _⟩
  · rw [getL, if_neg hlong]
    have HF := hid (dfind_any y dv L key w h hl (by omega))
    have H := hid h
    obtain ⟨ao, cap, rfl, -⟩ := h.row.at_
    have hlong' : ¬ (200 : Int) < (key.length : Int) := by omega
    clear h
    cases hs : spotL (sha key) L with
    | none =>
      have hv : spotV (sha key) L = -1 := by rw [spotV, hs]
      rw [hv] at HF
      clear hs hv
      go_enter Tryz.func20, Tryz.ntmps20
      go_wp2_with fail
      refine HF.out.mono ?_
      rintro e w1 ⟨rfl, f1⟩
      go_wp2_with fail
      go_ret2
      exact ⟨rfl, f1⟩
    | some j =>
      have hv : spotV (sha key) L = (j : Int) := by rw [spotV, hs]
      rw [hv] at HF
      obtain ⟨x, hx, -⟩ := spotL_some hs
      have hj := spotL_lt hs
      clear hs hv
      simp only [hx, Option.map_some, Option.getD_some]
      go_enter Tryz.func20, Tryz.ntmps20
      go_wp2_with fail
      refine HF.out.mono ?_
      rintro e w1 ⟨rfl, f1⟩
      have hD := H.out.fresh f1
      have c0 := cell_at hD.box 0
      simp at c0
      obtain ⟨ao', cap', e1, hc⟩ := hD.row.at_
      simp only [Value.slice.injEq, true_and] at e1
      obtain ⟨rfl, rfl⟩ := e1
      obtain ⟨bb, rfl, hbb, -, x1, -⟩ := hc j x hx
      have hn0 : (0 : Int) ≤ (j : Int) := by omega
      have hn1 : (j : Int) < (L.length : Int) := by omega
      clear hD hc hx
      go_wp2_with fail
      go_ret2
      exact ⟨rfl, f1⟩

theorem Tryz.infoThing : (Tryz.prog.info? 89).map (fun i => (i.zero, i.size, i.bytes)) = some (some (.agg #[.string ⟨#[]⟩, .string ⟨#[]⟩, .string ⟨#[]⟩, .string ⟨#[]⟩]), 4, 64) := by kernel_rfl

set_option maxRecDepth 100000 in
set_option maxHeartbeats 4000000 in
theorem dside_any (v : Value) (L : List Ent) (d b : Nat) (w : World) (h : ThingsAt w v L) (hl : L.length ≤ 1000000) (hd : d < 256) (_hb : b ≤ 1) :
    Calls Tryz.prog 52 #[v, .int .i64 (d : Int), .int .i64 (b : Int)] w fun e w' => ∃ v', e = .returned v' ∧ Fresh w w' ∧ OwnThings w' v' (sideL d b L) ∧ ∀ g, v'.ownBlock = some g → w.heap.size ≤ g := by
  obtain ⟨i0, hi, hz0, hz1, hz2⟩ := info_parts Tryz.infoThing
  have H := hid h
  obtain ⟨ao, cap, rfl, -⟩ := h
  go_enter Tryz.func52, Tryz.ntmps52
  go_wp2_with fail
  go_loopw [7, 8] (fun ov i wr => ∃ n : Nat, i = .int .i64 (n : Int) ∧ n ≤ L.length ∧ OwnThings wr ov (sideL d b (L.take n)) ∧ (∀ g, ov.ownBlock = some g → w.heap.size ≤ g) ∧ Fresh w wr) (fun _ i _ => L.length - (intOf i).toNat)
  case atStart => exact ⟨0, rfl, Nat.zero_le _, World.ownsRow_nil _ _ _ _, (fun _ h => nomatch h), Keeps.refl _ _⟩
  case round =>
    obtain ⟨n, rfl, hn, hrow, hnew, fr⟩ := hrel
    have HROW := hid hrow
    obtain ⟨so, scap, rfl⟩ := ownsRow_slice hrow
    by_cases hlt : n < L.length
    · obtain ⟨x, hx⟩ : ∃ x, L[n]? = some x := ⟨L[n], by simp⟩
      obtain ⟨ao', cap', e1, hc⟩ := H.out.fresh fr
      simp only [Value.slice.injEq, true_and] at e1
      obtain ⟨rfl, rfl⟩ := e1
      obtain ⟨bb, rfl, hbb, x0, x1, x2, x3⟩ := hc n x hx
      have hn0 : (0 : Int) ≤ (n : Int) := by omega
      have hn1 : (n : Int) < (L.length : Int) := by omega
      have HT := hid (sideL_take (d := d) (b := b) hx)
      have hk32 : (sha x.1).length = 32 := sha_len _
      have hlen : (sideL d b (L.take n)).length ≤ n := by
        unfold sideL
        refine Nat.le_trans (List.length_filter_le _ _) ?_
        rw [List.length_take]; omega
      have HLEN := hid hlen
      have HBIT : Hid (∀ W : World, Calls Tryz.prog 51 #[.string (str (sha x.1)), .int .i64 (d : Int)] W fun e w' => e = .returned (.int .i64 (bitAt (sha x.1) d : Int)) ∧ W = w') := fun W => refbit_any (sha x.1) d W (by rw [hk32]; omega) (by rw [hk32]; omega)
      by_cases he : bitAt (dg x) d = b
      · have he2 : bitAt (sha x.1) d = b := he
        rw [he2] at HBIT
        rw [if_pos he] at HT
        clear hc hx hrow he he2 hlen hk32
        go_wp2_with fail
        refine (HBIT.out _).mono ?_
        rintro e w2 ⟨rfl, rfl⟩
        go_wp2_with (at_builtin; refine wpList_pushN rfl (.tmp 26) (.tmp 31) 55 rfl 89 i0 _ 4 64 Tryz.underlying55 hi hz0 hz1 hz2 rfl (by omega) wr HROW.out _ (by rfl) (by rfl) (by rfl) (by simp [Value.oneCell']) (by have := HLEN.out; omega) (by have := HLEN.out; unfold maxLen; omega) ?_)
        intro v4 w4 ha
        have hk4 := ha.keeps
        have hrow4 : OwnThings w4 v4 (sideL d b (L.take (n + 1))) := by
          have := ha.row
          rw [HT.out]
          unfold OwnThings
          rw [List.length_append, thingCells_append]
          exact this
        have hown4 : ∀ g, v4.ownBlock = some g → w.heap.size ≤ g := fun g hg => by
          rcases ha.own g hg with h | h
          · exact hnew g h
          · have := fr.size; omega
        have fr4 : Fresh w w4 := fr.trans' hk4 fun i hi h => by have := hnew i h; omega
        clear ha hk4
        go_wp2_with fail
        go_roundw
        case rel => exact ⟨n + 1, by go_num, by omega, hrow4, hown4, fr4⟩
        case measure => simp [intOf]; omega
      · have he2 : ¬ bitAt (sha x.1) d = b := he
        have he3 : ¬ ((bitAt (sha x.1) d : Nat) : Int) = (b : Int) := by omega
        obtain ⟨bt, hbt⟩ : ∃ bt, bitAt (sha x.1) d = bt := ⟨_, rfl⟩
        rw [hbt] at HBIT he3
        rw [if_neg he, List.append_nil] at HT
        have hrow4 : OwnThings wr (.slice so (sideL d b (L.take n)).length scap) (sideL d b (L.take (n + 1))) := by rw [HT.out]; exact hrow
        have HR4 := hid hrow4
        clear hc hx hrow he he2 hlen hk32 hbt hrow4
        go_wp2_with fail
        refine (HBIT.out _).mono ?_
        rintro e w2 ⟨rfl, rfl⟩
        go_wp2_with fail
        go_roundw
        case rel => exact ⟨n + 1, by go_num, by omega, HR4.out, hnew, fr⟩
        case measure => simp [intOf]; omega
    · have hn1 : ¬ (n : Int) < (L.length : Int) := by omega
      have hrow4 : OwnThings wr (.slice so (sideL d b (L.take n)).length scap) (sideL d b L) := by
        rw [List.take_of_length_le (by omega)] at hrow ⊢; exact hrow
      have HR4 := hid hrow4
      clear hrow hrow4
      go_wp2_with fail
      go_ret
      exact ⟨_, rfl, fr, HR4.out, hnew⟩

set_option maxRecDepth 100000 in
set_option maxHeartbeats 2000000 in
theorem dclone_any (y : Nat) (dv : Value) (L : List Ent) (w : World) (h : DocAt w y dv L) (hl : L.length ≤ 1000000) :
    Calls Tryz.prog 30 #[.pointer (some ⟨y, 0, none⟩)] w fun e w' => ∃ y' dv', e = .returned (.pointer (some ⟨y', 0, none⟩)) ∧ Fresh w w' ∧ DocAt w' y' dv' L ∧ w.heap.size ≤ y' ∧ ∀ g, dv'.ownBlock = some g → w.heap.size ≤ g := by
  obtain ⟨i0, hi, hz0, hz1, hz2⟩ := info_parts Tryz.infoThing
  have hsrc := ThingsAt.src (P := Tryz.prog) Tryz.underlying55 h.row.at_
  have HSRC := hid hsrc
  obtain ⟨ao, cap, rfl, -⟩ := h.row.at_
  have c0 := cell_at h.box 0
  simp at c0
  clear h hsrc
  go_enter Tryz.func30, Tryz.ntmps30
  go_wp2_with (at_builtin; refine wpList_append_src rfl (.tmp 4) (.tmp 8) 55 55 rfl 89 i0 _ 4 64 Tryz.underlying55 hi hz0 hz1 hz2 rfl (by decide) (World.ownsRow_nil _ _ _ _) _ L.length (thingCells L) (by rfl) (by rfl) HSRC.out (by unfold maxLen; omega) (by omega) ?_)
  intro v4 w4 ha
  obtain ⟨a4, c4, rfl⟩ := ownsRow_slice ha.row
  have hrow : OwnThings w4 (.slice a4 L.length c4) L := ha.row
  have hown : ∀ g, (Value.slice a4 L.length c4).ownBlock = some g → w.heap.size ≤ g ∧ g < w4.heap.size := fun g hg => by
    rcases ha.own g hg with h | h
    · cases h
    · exact h
  have f4 : Fresh w w4 := ha.keeps.mono fun q _ h => by cases h
  clear ha
  go_wp2_with fail
  go_ret
  refine ⟨_, _, rfl, f4.alloc _, ⟨heap_alloc_new w4 _, hrow.alloc _, fun h => ?_⟩, f4.size, fun g hg => (hown g hg).1⟩
  have := (hown _ h).2
  omega
end Go.Proofs.YtmflbchiapdhbaaGreatDoor
