/-
  DeviceLasts in plain words: the law's own lists, its keeps, what it wants behind the crash.
-/
import Derived.Test.YtbhienlalpbflaaDvReads
import Derived.Test.YtbhienlalpbflaaDvRefNew
namespace Go.Proofs.Ytbhienlalpbflaa
open Go.RowKit Go.Maps

/-- an array of texts, as its cells -/
def arr (l : List (List UInt8)) : Array Value := (texts l).toArray
theorem arr_get {l : List (List UInt8)} {p : Nat} {s : List UInt8} (h : l[p]? = some s) : (arr l)[p]? = some (.string (str s)) := by simp [arr, texts, h]
theorem arr_set (l : List (List UInt8)) (p : Nat) (s : List UInt8) : (arr l).setIfInBounds p (.string (str s)) = arr (l.set p s) := by simp [arr, texts_put]
def nowOf (f : Int → Option (List UInt8)) : List (List UInt8) := (List.range 6).map fun i : Nat => (f (i : Int)).getD []
theorem nowOf_get (f : Int → Option (List UInt8)) {p : Nat} (hp : p < 6) : (nowOf f)[p]? = some ((f (p : Int)).getD []) := by
  simp [nowOf, hp]
theorem nowOf_put (f : Int → Option (List UInt8)) (p : Nat) (s : List UInt8) : (nowOf f).set p s = nowOf (fun q => if q = (p : Int) then some s else f q) := by
  apply List.ext_getElem?
  intro k
  simp only [nowOf, List.getElem?_set, List.length_map, List.length_range, List.getElem?_map]
  by_cases hk : k < 6
  · rw [List.getElem?_range hk]
    simp only [Option.map_some]
    by_cases e : p = k
    · subst e
      simp [hk]
    · rw [if_neg e, if_neg (show ¬ (k : Int) = (p : Int) by omega)]
  · rw [List.getElem?_eq_none (by simp; omega)]
    simp
    omega
theorem nowOf_none : nowOf (fun _ => none) = List.replicate 6 [] := rfl
/-- the law's lists, so many pages dealt with behind a flush -/
def lastTo (l : List (List UInt8)) (f : Int → Option (List UInt8)) (n : Nat) : List (List UInt8) := l.mapIdx fun i s => if i < n then (f (i : Int)).getD s else s
def nowTo (f : Int → Option (List UInt8)) (n : Nat) : List (List UInt8) := (List.range 6).map fun i : Nat => if i < n then [] else (f (i : Int)).getD []
theorem lastTo_len (l : List (List UInt8)) (f : Int → Option (List UInt8)) (n : Nat) : (lastTo l f n).length = l.length := by simp [lastTo]
theorem lastTo_zero (l : List (List UInt8)) (f : Int → Option (List UInt8)) : lastTo l f 0 = l := by
  apply List.ext_getElem?
  intro k
  simp [lastTo, List.getElem?_mapIdx]
theorem lastTo_some {l : List (List UInt8)} {f : Int → Option (List UInt8)} {n : Nat} {t : List UInt8} (h : f (n : Int) = some t) : lastTo l f (n + 1) = (lastTo l f n).set n t := by
  apply List.ext_getElem?
  intro k
  simp only [lastTo, List.getElem?_mapIdx, List.getElem?_set, List.length_mapIdx]
  by_cases e : n = k
  · subst e
    by_cases hk : n < l.length
    · simp [hk, h]
    · simp [hk]
  · rw [if_neg e]
    have : (k < n + 1) = (k < n) := by rw [eq_iff_iff]; omega
    simp only [this]
theorem lastTo_none {l : List (List UInt8)} {f : Int → Option (List UInt8)} {n : Nat} (h : f (n : Int) = none) : lastTo l f (n + 1) = lastTo l f n := by
  apply List.ext_getElem?
  intro k
  simp only [lastTo, List.getElem?_mapIdx]
  by_cases e : n = k
  · subst e
    simp [h]
  · have : (k < n + 1) = (k < n) := by rw [eq_iff_iff]; omega
    simp only [this]
theorem lastTo_all {l : List (List UInt8)} {f : Int → Option (List UInt8)} (h : l.length = 6) : lastTo l f 6 = flushed l f := by
  apply List.ext_getElem?
  intro k
  simp only [lastTo, flushed, List.getElem?_mapIdx]
  by_cases hk : k < l.length
  · simp [show k < 6 by omega]
  · simp [List.getElem?_eq_none (show l.length ≤ k by omega)]
theorem nowTo_zero (f : Int → Option (List UInt8)) : nowTo f 0 = nowOf f := by simp [nowTo, nowOf]
theorem nowTo_succ (f : Int → Option (List UInt8)) (n : Nat) : nowTo f (n + 1) = (nowTo f n).set n [] := by
  apply List.ext_getElem?
  intro k
  simp only [nowTo, List.getElem?_set, List.length_map, List.length_range, List.getElem?_map]
  by_cases hk : k < 6
  · rw [List.getElem?_range hk]
    simp only [Option.map_some]
    by_cases e : n = k
    · subst e
      simp [hk]
    · have : (k < n + 1) = (k < n) := by rw [eq_iff_iff]; omega
      simp only [if_neg e, this]
  · rw [List.getElem?_eq_none (by simp; omega)]
    simp
    omega
theorem nowTo_all (f : Int → Option (List UInt8)) : nowTo f 6 = nowOf (fun _ => none) := by
  unfold nowTo nowOf
  apply List.map_congr_left
  intro i hi
  rw [List.mem_range] at hi
  simp [hi]
theorem nowTo_get (f : Int → Option (List UInt8)) {n : Nat} (hn : n < 6) : (nowTo f n)[n]? = some ((f (n : Int)).getD []) := by
  simp [nowTo, hn]

/-- puts as they came in -/
def PutsAt (w : World) (v : Value) (ps : List (Bool × Int × Int)) : Prop :=
  ∃ ao cap, v = .slice ao ps.length cap ∧ ∀ (k : Nat) (x : Bool × Int × Int), ps[k]? = some x → ∃ bb off, ao = some ⟨bb, off, none⟩ ∧ bb < w.heap.size ∧ w.cell? ⟨bb, off + k * 3, none⟩ = some (.bool x.1) ∧ w.cell? ⟨bb, off + k * 3 + 1, none⟩ = some (.int .i64 x.2.1) ∧ w.cell? ⟨bb, off + k * 3 + 2, none⟩ = some (.int .i64 x.2.2)
/-- numbers as they came in -/
def NumsAt (w : World) (v : Value) (bs : List Int) : Prop :=
  ∃ ao cap, v = .slice ao bs.length cap ∧ ∀ (k : Nat) (x : Int), bs[k]? = some x → ∃ bb off, ao = some ⟨bb, off, none⟩ ∧ bb < w.heap.size ∧ w.cell? ⟨bb, off + k, none⟩ = some (.int .i64 x)

/-- which of n things -/
def pk (b : Int) (n : Nat) : Int := (if b < 0 then -(b + 1) else b).tmod (n : Int)
theorem pk_le (b : Int) (n : Nat) (hn : 0 < n) : 0 ≤ pk b n ∧ pk b n < n := by
  obtain ⟨r, h1, h2⟩ := picked b n hn
  unfold pk
  omega
def keepsList (bs : List Int) (m : Nat) : List (Int × Int) := (List.range (min m bs.length)).map fun j : Nat => ((j : Int), pk (bs.getD j 0) 257)
theorem keepsList_len (bs : List Int) (m : Nat) : (keepsList bs m).length = min m bs.length := by simp [keepsList]
theorem keepsList_succ {bs : List Int} {m : Nat} {b : Int} (h : bs[m]? = some b) : keepsList bs (m + 1) = keepsList bs m ++ [((m : Int), pk b 257)] := by
  have hm : m < bs.length := (List.getElem?_eq_some_iff.1 h).1
  unfold keepsList
  rw [show min (m + 1) bs.length = min m bs.length + 1 by omega, List.range_succ, List.map_append]
  simp only [List.map_cons, List.map_nil]
  rw [show min m bs.length = m by omega, List.getD_eq_getElem?_getD, h, Option.getD_some]
theorem keepsList_more {bs : List Int} {m : Nat} (h : bs.length ≤ m) : keepsList bs (m + 1) = keepsList bs m := by
  unfold keepsList
  rw [show min (m + 1) bs.length = min m bs.length by omega]
theorem keepsList_take {bs : List Int} {m i : Nat} (h : i ≤ (keepsList bs m).length) : (keepsList bs m).take i = keepsList bs i := by
  rw [keepsList_len] at h
  unfold keepsList
  rw [← List.map_take, List.take_range]
  rw [show min i (min m bs.length) = min i bs.length by omega]
theorem stayOf_keepsList (bs : List Int) : ∀ (m : Nat) (q : Nat), stayOf (keepsList bs m) (q : Int) = if q < min m bs.length then some (pk (bs.getD q 0) 257) else none
  | 0, q => by simp [keepsList, stayOf]
  | m + 1, q => by
    have ih := stayOf_keepsList bs m q
    by_cases h : m < bs.length
    · rw [keepsList_succ (List.getElem?_eq_getElem h), stayOf_snoc]
      simp only
      by_cases e : q = m
      · subst e
        rw [if_pos rfl, if_pos (by omega), List.getD_eq_getElem?_getD, List.getElem?_eq_getElem h, Option.getD_some]
      · rw [if_neg (by omega), ih]
        have : (q < min (m + 1) bs.length) = (q < min m bs.length) := by rw [eq_iff_iff]; omega
        simp only [this]
    · rw [keepsList_more (by omega), ih]
      rw [show min (m + 1) bs.length = min m bs.length by omega]
theorem keepsList_ok (bs : List Int) (m : Nat) : KeepsOk m (keepsList bs m) := by
  intro i k hk
  have hi : i < (keepsList bs m).length := (List.getElem?_eq_some_iff.1 hk).1
  rw [keepsList_take (by omega)]
  rw [keepsList_len] at hi
  have hk2 : k = ((i : Int), pk (bs.getD i 0) 257) := by
    simp only [keepsList, List.getElem?_map, List.getElem?_range hi, Option.map_some, Option.some.injEq] at hk
    exact hk.symm
  have hp := pk_le (bs.getD i 0) 257 (by omega)
  subst hk2
  unfold BadKeep
  simp only [stayOf_keepsList]
  rw [if_neg (by omega)]
  simp only [Option.isSome_none, Bool.false_eq_true, false_or]
  omega
theorem stay_keepsList (bs : List Int) (m q : Nat) : stay (keepsList bs m) q = if q < min m bs.length then (pk (bs.getD q 0) 257).toNat else 0 := by
  unfold stay
  rw [stayOf_keepsList]
  split <;> rfl
theorem keepsList_small (bs : List Int) (m : Nat) : ∀ k ∈ keepsList bs m, (0 ≤ k.1 ∧ k.1 ≤ m) ∧ 0 ≤ k.2 ∧ k.2 < 257 := by
  intro k hk
  simp only [keepsList, List.mem_map, List.mem_range] at hk
  obtain ⟨j, hj, rfl⟩ := hk
  have hp := pk_le (bs.getD j 0) 257 (by omega)
  simp only
  omega

/-- what the law wants of a page -/
def wants (f : Int → Option (List UInt8)) (bs : List Int) (i : Nat) (s : List UInt8) : List UInt8 :=
  match f (i : Int) with
  | some t => if (told f i).length < bs.length then t.take (pk (bs.getD (told f i).length 0) 257).toNat ++ s.drop (pk (bs.getD (told f i).length 0) 257).toNat else s
  | none => s
def wantTo (l : List (List UInt8)) (f : Int → Option (List UInt8)) (bs : List Int) (n : Nat) : List (List UInt8) := l.mapIdx fun i s => if i < n then wants f bs i s else s
theorem wantTo_len (l : List (List UInt8)) (f : Int → Option (List UInt8)) (bs : List Int) (n : Nat) : (wantTo l f bs n).length = l.length := by simp [wantTo]
theorem wantTo_zero (l : List (List UInt8)) (f : Int → Option (List UInt8)) (bs : List Int) : wantTo l f bs 0 = l := by
  apply List.ext_getElem?
  intro k
  simp [wantTo, List.getElem?_mapIdx]
theorem wantTo_succ {l : List (List UInt8)} {f : Int → Option (List UInt8)} {bs : List Int} {n : Nat} {s : List UInt8} (h : l[n]? = some s) : wantTo l f bs (n + 1) = (wantTo l f bs n).set n (wants f bs n s) := by
  apply List.ext_getElem?
  intro k
  simp only [wantTo, List.getElem?_mapIdx, List.getElem?_set, List.length_mapIdx]
  by_cases e : n = k
  · subst e
    obtain ⟨hk, he⟩ := List.getElem?_eq_some_iff.1 h
    simp [hk, he]
  · rw [if_neg e]
    have : (k < n + 1) = (k < n) := by rw [eq_iff_iff]; omega
    simp only [this]
theorem wantTo_same {l : List (List UInt8)} {f : Int → Option (List UInt8)} {bs : List Int} {n : Nat} {s : List UInt8} (h : l[n]? = some s) (hw : wants f bs n s = s) : wantTo l f bs (n + 1) = wantTo l f bs n := by
  rw [wantTo_succ h, hw]
  apply List.ext_getElem?
  intro k
  rw [List.getElem?_set]
  split
  · rename_i e
    subst e
    have hk := (List.getElem?_eq_some_iff.1 h).1
    rw [wantTo_len, if_pos hk]
    simp [wantTo, List.getElem?_mapIdx, h]
  · rfl
theorem wantTo_all {l : List (List UInt8)} {f : Int → Option (List UInt8)} {bs : List Int} (h6 : l.length = 6) : wantTo l f bs 6 = crashed l f (keepsList bs (told f 6).length) := by
  apply List.ext_getElem?
  intro k
  by_cases hk : k < l.length
  · have hl := List.getElem?_eq_getElem hk
    have hw : (wantTo l f bs 6)[k]? = some (wants f bs k l[k]) := by
      simp only [wantTo, List.getElem?_mapIdx, hl, Option.map_some]
      rw [if_pos (by omega)]
    rw [hw]
    cases hf : f (k : Int) with
    | none =>
      rw [crashed_none hf, hl]
      unfold wants
      rw [hf]
    | some t =>
      rw [crashed_some hf hl, stay_keepsList]
      unfold wants
      rw [hf]
      have h1 : (told f k).length < (told f 6).length := by
        have := told_at (f := f) (p := k) (by rw [hf]; rfl) 6 (by omega)
        exact (List.getElem?_eq_some_iff.1 this).1
      simp only
      by_cases hb : (told f k).length < bs.length
      · rw [if_pos hb, if_pos (by omega)]
      · rw [if_neg hb, if_neg (by omega)]
        simp
  · rw [List.getElem?_eq_none (by rw [wantTo_len]; omega), List.getElem?_eq_none (by rw [crashed_len]; omega)]
end Go.Proofs.Ytbhienlalpbflaa
