/-
  Two writers that answer alike: the plain law; how much each call adds.
-/
import Derived.Test.YtfjflnlcjnhmmaaDoorXwLists
namespace Go.Proofs.YtfjflnlcjnhmmaaDoor
open Go.RowKit

/-- the program's state and the document's: wrong alike, and the same bytes where nothing is wrong -/
def Alike (a x : List UInt8 × Int) : Prop := a.2 = x.2 ∧ (a.2 = 0 → a.1 = x.1)
theorem Alike.bad {a x y : List UInt8 × Int} (h : Alike a x) (f : Int) (hf : f ≠ 0) (hy : y.2 = first a.2 f) : Alike y (wRefuse x f) := by
  refine ⟨by rw [hy, h.1]; rfl, fun h0 => ?_⟩
  rw [hy] at h0
  unfold first at h0
  split at h0
  · exact absurd h0 hf
  · exact absurd h0 (by assumption)
theorem Alike.refuse {a x : List UInt8 × Int} (h : Alike a x) (f : Int) (hf : f ≠ 0) : Alike (wRefuse a f) (wRefuse x f) := h.bad f hf rfl
theorem Alike.put {a x : List UInt8 × Int} (h : Alike a x) (bs : List UInt8) : Alike (a.1 ++ bs, a.2) (x.1 ++ bs, x.2) := ⟨h.1, fun h0 => by simp only; rw [h.2 h0]⟩
theorem Alike.byte {a x : List UInt8 × Int} (h : Alike a x) (n : Int) : Alike (wByte a n) (wByte x n) := by
  unfold wByte
  split
  · exact h.refuse 20 (by decide)
  · exact h.put _
theorem Alike.num {a x : List UInt8 × Int} (h : Alike a x) (n : Int) : Alike (wNum a n) (wNum x n) := by
  unfold wNum
  split
  · exact h.refuse 20 (by decide)
  · exact h.put _
theorem Alike.raw {a x : List UInt8 × Int} (h : Alike a x) (s : List UInt8) : Alike (wRaw a s) (wRaw x s) := h.put _
theorem Alike.text {a x : List UInt8 × Int} (h : Alike a x) (s : List UInt8) (most : Int) : Alike (wText a s most) (wText x s most) := by
  unfold wText
  split
  · exact h.refuse 1 (by decide)
  · split
    · exact h.refuse 22 (by decide)
    · have := h.put (digs s.length ++ s)
      simpa only [List.append_assoc] using this
theorem Alike.rising {a x : List UInt8 × Int} (h : Alike a x) (l : List Int) : Alike (wRising a l) (wRising x l) := by
  unfold wRising
  split
  · have := h.put (digs l.length ++ deltas (-1) l)
    simpa only [List.append_assoc] using this
  · exact h.refuse 20 (by decide)

theorem first_first (e f : Int) : first (first e f) f = first e f := by
  unfold first
  by_cases h : e = 0
  · simp [h]
  · simp [h]
theorem fold_fits (most : Int) (hm : ¬ most < 0) : ∀ (l : List (List UInt8)) (st : List UInt8 × Int), fits most l = true → l.foldl (fun st s => wText st s most) st = (st.1 ++ body l, st.2)
  | [], st, _ => by simp [body]
  | s :: r, st, h => by
    simp [fits] at h
    have e : wText st s most = (st.1 ++ digs s.length ++ s, st.2) := by
      unfold wText; rw [if_neg hm, if_neg (by omega)]
    rw [List.foldl_cons, e, fold_fits most hm r _ h.2]
    simp [body]
theorem fold_snd (most : Int) (hm : ¬ most < 0) : ∀ (l : List (List UInt8)) (st : List UInt8 × Int), fits most l = false → (l.foldl (fun st s => wText st s most) st).2 = first st.2 22
  | [], st, h => by simp [fits] at h
  | s :: r, st, h => by
    rw [List.foldl_cons]
    by_cases hs : (s.length : Int) ≤ most
    · have e : wText st s most = (st.1 ++ digs s.length ++ s, st.2) := by
        unfold wText; rw [if_neg hm, if_neg (by omega)]
      have hr : fits most r = false := by simpa [fits, hs] using h
      rw [e, fold_snd most hm r _ hr]
    · have e : wText st s most = (st.1, first st.2 22) := by
        unfold wText; rw [if_neg hm, if_pos (by omega)]; rfl
      rw [e]
      cases hr : fits most r with
      | true => rw [fold_fits most hm r _ hr]
      | false => rw [fold_snd most hm r _ hr, first_first]
theorem Alike.texts {a x : List UInt8 × Int} (h : Alike a x) (l : List (List UInt8)) (many most : Int) (hl : l.length ≤ 4611686018427387904) : Alike (wTexts a l many most) (xTexts x l many most) := by
  unfold wTexts xTexts
  split
  · exact h.refuse 1 (by decide)
  · rename_i hn
    split
    · exact h.refuse 22 (by decide)
    · rw [num_of_len _ _ hl]
      cases hf : fits most l with
      | true =>
        rw [fold_fits most (by omega) l _ hf]
        have := h.put (digs l.length ++ body l)
        simpa only [List.append_assoc, if_true] using this
      | false =>
        simp only [Bool.false_eq_true, if_false]
        exact h.bad 22 (by decide) (fold_snd most (by omega) l _ hf)
theorem hash_fits : ∀ (l : List (List UInt8)) (st : List UInt8 × Int), all32 l = true → wHashList st l = (st.1 ++ flat l, st.2)
  | [], st, _ => by simp [wHashList, flat]
  | s :: r, st, h => by
    simp [all32] at h
    rw [wHashList, if_pos h.1, hash_fits r _ h.2]
    simp [wRaw, flat]
theorem hash_snd : ∀ (l : List (List UInt8)) (st : List UInt8 × Int), all32 l = false → (wHashList st l).2 = first st.2 20
  | [], st, h => by simp [all32] at h
  | s :: r, st, h => by
    rw [wHashList]
    by_cases hs : s.length = 32
    · have hr : all32 r = false := by simpa [all32, hs] using h
      rw [if_pos hs, hash_snd r _ hr]
      rfl
    · rw [if_neg hs]
      rfl
theorem Alike.hashes {a x : List UInt8 × Int} (h : Alike a x) (l : List (List UInt8)) (many : Int) (hl : l.length ≤ 4611686018427387904) : Alike (wHashes a l many) (xHashes x l many) := by
  unfold wHashes xHashes
  split
  · exact h.refuse 1 (by decide)
  · split
    · exact h.refuse 22 (by decide)
    · rw [num_of_len _ _ hl]
      cases hf : all32 l with
      | true =>
        rw [hash_fits l _ hf]
        have := h.put (digs l.length ++ flat l)
        simpa only [List.append_assoc, if_true] using this
      | false =>
        simp only [Bool.false_eq_true, if_false]
        exact h.bad 20 (by decide) (hash_snd l _ hf)
theorem Alike.done {a x : List UInt8 × Int} (h : Alike a x) : wDone a = wDone x := by
  unfold wDone
  rw [← h.1]
  split
  · rw [h.2 (by assumption)]
  · rfl

/-! how much each call adds -/
theorem refuse_len (st : List UInt8 × Int) (f : Int) : (wRefuse st f).1.length = st.1.length := rfl
theorem byte_len (st : List UInt8 × Int) (n : Int) : (wByte st n).1.length ≤ st.1.length + 1 := by
  unfold wByte
  split
  · rw [refuse_len]; omega
  · simp
theorem num_len (st : List UInt8 × Int) (n : Int) : (wNum st n).1.length ≤ st.1.length + 10 := by
  unfold wNum
  split
  · rw [refuse_len]; omega
  · have := digs_len10 (n := n.toNat) (by omega)
    simp; omega
theorem raw_len (st : List UInt8 × Int) (s : List UInt8) : (wRaw st s).1.length = st.1.length + s.length := by simp [wRaw]
theorem rising_len (st : List UInt8 × Int) (l : List Int) (hl : l.length ≤ 4611686018427387904) : (wRising st l).1.length ≤ st.1.length + 10 + 10 * l.length := by
  unfold wRising
  split
  · rename_i h
    have := deltas_len l (-1) h (by omega)
    have := digs_len10 (n := l.length) (by omega)
    simp; omega
  · rw [refuse_len]; omega
theorem fold_len (most : Int) : ∀ (l : List (List UInt8)) (st : List UInt8 × Int), (∀ s ∈ l, s.length ≤ 9223372036854775807) → (l.foldl (fun st s => wText st s most) st).1.length ≤ st.1.length + bulk l
  | [], st, _ => by simp
  | s :: r, st, h => by
    have h1 := wText_len st s most (h s (by simp))
    have h2 := fold_len most r (wText st s most) fun s hs => h s (by simp [hs])
    rw [List.foldl_cons, bulk]
    omega
theorem texts_len (st : List UInt8 × Int) (l : List (List UInt8)) (many most : Int) (hl : l.length + bulk l ≤ 4611686018427387904) : (wTexts st l many most).1.length ≤ st.1.length + 10 + bulk l := by
  unfold wTexts
  split
  · rw [refuse_len]; omega
  · split
    · rw [refuse_len]; omega
    · have h1 := fold_len most l (wNum st l.length) fun s hs => by have := mem_bulk hs; omega
      have := num_len st l.length
      omega
theorem xtexts_len (st : List UInt8 × Int) (l : List (List UInt8)) (many most : Int) (hl : l.length + bulk l ≤ 4611686018427387904) : (xTexts st l many most).1.length ≤ st.1.length + 10 + bulk l := by
  unfold xTexts
  split
  · rw [refuse_len]; omega
  · split
    · rw [refuse_len]; omega
    · split
      · have h1 := body_len l fun s hs => by have := mem_bulk hs; omega
        have := digs_len10 (n := l.length) (by omega)
        simp; omega
      · rw [refuse_len]; omega
theorem hash_len : ∀ (l : List (List UInt8)) (st : List UInt8 × Int), (wHashList st l).1.length ≤ st.1.length + bulk l
  | [], st => by simp [wHashList]
  | s :: r, st => by
    rw [wHashList, bulk]
    split
    · have := hash_len r (wRaw st s)
      have := raw_len st s
      omega
    · rw [refuse_len]; omega
theorem hashes_len (st : List UInt8 × Int) (l : List (List UInt8)) (many : Int) : (wHashes st l many).1.length ≤ st.1.length + 10 + bulk l := by
  unfold wHashes
  split
  · rw [refuse_len]; omega
  · split
    · rw [refuse_len]; omega
    · have h1 := hash_len l (wNum st l.length)
      have := num_len st l.length
      omega
theorem xhashes_len (st : List UInt8 × Int) (l : List (List UInt8)) (many : Int) (hl : l.length + bulk l ≤ 4611686018427387904) : (xHashes st l many).1.length ≤ st.1.length + 10 + bulk l := by
  unfold xHashes
  split
  · rw [refuse_len]; omega
  · split
    · rw [refuse_len]; omega
    · split
      · have h1 := flat_len l
        have := digs_len10 (n := l.length) (by omega)
        simp; omega
      · rw [refuse_len]; omega

theorem bulk_append : ∀ (a b : List (List UInt8)), bulk (a ++ b) = bulk a + bulk b
  | [], b => by simp [bulk]
  | s :: r, b => by have := bulk_append r b; simp [bulk]; omega
theorem bulk_reverse : ∀ (l : List (List UInt8)), bulk l.reverse = bulk l
  | [] => rfl
  | s :: r => by have := bulk_reverse r; rw [List.reverse_cons, bulk_append]; simp [bulk]; omega
theorem len_bulk : ∀ (l : List (List UInt8)), 10 * l.length ≤ bulk l
  | [] => by simp
  | s :: r => by have := len_bulk r; simp [bulk]; omega
/-- 0, 3, 6 .. -/
def thrice (n : Nat) : List Int := (List.range n).map fun (i : Nat) => 3 * (i : Int)
theorem thrice_len (n : Nat) : (thrice n).length = n := by simp [thrice]
theorem thrice_succ (n : Nat) : thrice (n + 1) = thrice n ++ [3 * (n : Int)] := by simp [thrice, List.range_succ]
end Go.Proofs.YtfjflnlcjnhmmaaDoor
