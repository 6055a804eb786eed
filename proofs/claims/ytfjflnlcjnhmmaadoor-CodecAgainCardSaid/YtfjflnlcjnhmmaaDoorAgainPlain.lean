/-
  The law CodecAgain, without the program: what was taken off bytes, laid down again, is these bytes.
-/
import Derived.Test.YtfjflnlcjnhmmaaDoorCxListsB
import Derived.Test.YtfjflnlcjnhmmaaDoorCxRef
namespace Go.Proofs.YtfjflnlcjnhmmaaDoor
open Go.RowKit

def Bad (f : Int) : Prop := f = 1 ∨ f = 20 ∨ f = 21 ∨ f = 22 ∨ f = 23
theorem Bad.ne {f : Int} (h : Bad f) : f ≠ 0 ∧ f ≠ 24 := by
  rcases h with h | h | h | h | h <;> subst h <;> decide
theorem bad1 : Bad 1 := .inl rfl
theorem bad20 : Bad 20 := .inr (.inl rfl)
theorem bad21 : Bad 21 := .inr (.inr (.inl rfl))
theorem bad22 : Bad 22 := .inr (.inr (.inr (.inl rfl)))
theorem bad23 : Bad 23 := .inr (.inr (.inr (.inr rfl)))

theorem pNum_bad : ∀ (l : List UInt8) (i n : Nat) (f : Int), pNum i n l = .error f → Bad f
  | [], _, _, f, h => by simp [pNum] at h; subst h; exact bad21
  | c :: l, i, n, f, h => by
    unfold pNum at h
    split at h
    · cases h; exact bad20
    · split at h
      · exact pNum_bad l _ _ f h
      · split at h
        · cases h; exact bad23
        · split at h
          · cases h; exact bad20
          · cases h

theorem u8_ofNat (c : UInt8) : UInt8.ofNat c.toNat = c := by simp

theorem pNum_inv : ∀ (l : List UInt8) (i n m : Nat) (l' : List UInt8), pNum i n l = .ok (m, l') → ∃ q, m = n + q * 128 ^ i ∧ l = digs q ++ l' ∧ (0 < q ∨ i = 0)
  | [], _, _, _, _, h => by simp [pNum] at h
  | c :: l, i, n, m, l', h => by
    have hc : c.toNat < 256 := c.toNat_lt
    unfold pNum at h
    split at h
    · cases h
    · split at h
      · rename_i _ h127
        obtain ⟨q, h1, h2, h3⟩ := pNum_inv l _ _ m l' h
        have hq : 0 < q := by omega
        refine ⟨c.toNat % 128 + 128 * q, ?_, ?_, by omega⟩
        · rw [h1, Nat.pow_succ, Nat.add_mul, Nat.add_assoc, Nat.mul_comm (128 ^ i) 128, ← Nat.mul_assoc, Nat.mul_comm q 128]
        · rw [digs_more (by omega)]
          have e1 : (c.toNat % 128 + 128 * q) % 128 + 128 = c.toNat := by omega
          have e2 : (c.toNat % 128 + 128 * q) / 128 = q := by omega
          rw [e1, e2, u8_ofNat, h2]
          rfl
      · split at h
        · cases h
        · split at h
          · cases h
          · rename_i _ h127 h0 _
            simp only [Except.ok.injEq, Prod.mk.injEq] at h
            obtain ⟨rfl, rfl⟩ := h
            refine ⟨c.toNat, rfl, ?_, by omega⟩
            rw [digs_last (by omega), u8_ofNat]
            rfl

theorem pNum_ok {l l' : List UInt8} {m : Nat} (h : pNum 0 0 l = .ok (m, l')) : l = digs m ++ l' ∧ m ≤ 4611686018427387904 := by
  obtain ⟨q, h1, h2, _⟩ := pNum_inv l 0 0 m l' h
  have : q = m := by omega
  subst this
  exact ⟨h2, (pNum_le _ _ _ _ _ h).1⟩
theorem pCount_ok {many : Int} {l l' : List UInt8} {n : Nat} (h : pCount many l = .ok (n, l')) : l = digs n ++ l' ∧ (n : Int) ≤ many ∧ n ≤ 4611686018427387904 := by
  have hle := pCount_le h
  unfold pCount at h
  cases hq : pNum 0 0 l with
  | error e => rw [hq] at h; cases h
  | ok y =>
    obtain ⟨n2, l2⟩ := y
    rw [hq] at h
    simp only at h
    split at h
    · cases h
    · simp only [Except.ok.injEq, Prod.mk.injEq] at h
      obtain ⟨rfl, rfl⟩ := h
      exact ⟨(pNum_ok hq).1, hle.2.2, hle.1⟩
theorem pCount_bad {many : Int} {l : List UInt8} {f : Int} (h : pCount many l = .error f) : Bad f := by
  unfold pCount at h
  cases hq : pNum 0 0 l with
  | error e => rw [hq] at h; cases h; exact pNum_bad _ _ _ _ hq
  | ok y =>
    rw [hq] at h
    simp only at h
    split at h
    · cases h; exact bad22
    · cases h
theorem pText_ok {most : Int} {l x l' : List UInt8} (h : pText most l = .ok (x, l')) : l = digs x.length ++ x ++ l' ∧ (x.length : Int) ≤ most ∧ x.length ≤ 4611686018427387904 := by
  unfold pText at h
  cases hq : pCount most l with
  | error e => rw [hq] at h; cases h
  | ok y =>
    obtain ⟨n, l2⟩ := y
    rw [hq] at h
    simp only at h
    obtain ⟨h1, h2, h3⟩ := pCount_ok hq
    split at h
    · cases h
    · rename_i hlt
      simp only [Except.ok.injEq, Prod.mk.injEq] at h
      obtain ⟨rfl, rfl⟩ := h
      have hlen : (l2.take n).length = n := by rw [List.length_take]; omega
      rw [hlen]
      exact ⟨by rw [List.append_assoc, List.take_append_drop]; exact h1, h2, h3⟩
theorem pText_bad {most : Int} {l : List UInt8} {f : Int} (h : pText most l = .error f) : Bad f := by
  unfold pText at h
  cases hq : pCount most l with
  | error e => rw [hq] at h; cases h; exact pCount_bad hq
  | ok y =>
    rw [hq] at h
    simp only at h
    split at h
    · cases h; exact bad21
    · cases h

theorem pRiseN_ok : ∀ (k : Nat) (last : Int) (l : List UInt8) (xs : List Int) (l' : List UInt8), -1 ≤ last → pRiseN k last l = .ok (xs, l') → xs.length = k ∧ rises last xs = true ∧ l = deltas last xs ++ l'
  | 0, _, _, _, _, _, h => by
    simp only [pRiseN, Except.ok.injEq, Prod.mk.injEq] at h
    obtain ⟨rfl, rfl⟩ := h
    exact ⟨rfl, rfl, rfl⟩
  | k + 1, last, l, xs, l', hlast, h => by
    unfold pRiseN at h
    cases hq : pNum 0 0 l with
    | error e => rw [hq] at h; cases h
    | ok y =>
      obtain ⟨x, l2⟩ := y
      rw [hq] at h
      simp only at h
      split at h
      · cases h
      · cases hr : pRiseN k (last + (x + 1)) l2 with
        | error e => rw [hr] at h; cases h
        | ok z =>
          obtain ⟨ys, l3⟩ := z
          rw [hr] at h
          simp only [Except.ok.injEq, Prod.mk.injEq] at h
          obtain ⟨rfl, rfl⟩ := h
          obtain ⟨h1, h2, h3⟩ := pRiseN_ok k _ l2 ys l3 (by omega) hr
          refine ⟨by simp [h1], ?_, ?_⟩
          · simp only [rises, h2, Bool.and_true, Bool.and_eq_true, decide_eq_true_eq]
            omega
          · have e : (last + ((x : Int) + 1) - (last + 1)).toNat = x := by omega
            simp only [deltas]
            rw [e, List.append_assoc, ← h3]
            exact (pNum_ok hq).1
theorem pRiseN_bad : ∀ (k : Nat) (last : Int) (l : List UInt8) (f : Int), pRiseN k last l = .error f → Bad f
  | 0, _, _, _, h => by simp [pRiseN] at h
  | k + 1, last, l, f, h => by
    unfold pRiseN at h
    cases hq : pNum 0 0 l with
    | error e => rw [hq] at h; cases h; exact pNum_bad _ _ _ _ hq
    | ok y =>
      obtain ⟨x, l2⟩ := y
      rw [hq] at h
      simp only at h
      split at h
      · cases h; exact bad20
      · cases hr : pRiseN k (last + (x + 1)) l2 with
        | error e => rw [hr] at h; cases h; exact pRiseN_bad k _ l2 _ hr
        | ok z => rw [hr] at h; cases h
theorem pElems_bad {p : List UInt8 → Except Int (List UInt8 × List UInt8)} (hp : ∀ l f, p l = .error f → Bad f) : ∀ (k : Nat) (l : List UInt8) (f : Int), pElems p k l = .error f → Bad f
  | 0, _, _, h => by simp [pElems] at h
  | k + 1, l, f, h => by
    unfold pElems at h
    cases hq : p l with
    | error e => rw [hq] at h; cases h; exact hp _ _ hq
    | ok y =>
      obtain ⟨x, l2⟩ := y
      rw [hq] at h
      simp only at h
      cases hr : pElems p k l2 with
      | error e => rw [hr] at h; cases h; exact pElems_bad hp k l2 _ hr
      | ok z => rw [hr] at h; cases h
theorem pElems_ok {p : List UInt8 → Except Int (List UInt8 × List UInt8)} {enc : List UInt8 → List UInt8} {R : List UInt8 → Prop} (hp : ∀ l x l', p l = .ok (x, l') → l = enc x ++ l' ∧ R x) :
    ∀ (k : Nat) (l : List UInt8) (xs : List (List UInt8)) (l' : List UInt8), pElems p k l = .ok (xs, l') → xs.length = k ∧ (∀ x ∈ xs, R x) ∧ l = xs.flatMap enc ++ l'
  | 0, _, _, _, h => by
    simp only [pElems, Except.ok.injEq, Prod.mk.injEq] at h
    obtain ⟨rfl, rfl⟩ := h
    exact ⟨rfl, (fun x h => by cases h), rfl⟩
  | k + 1, l, xs, l', h => by
    unfold pElems at h
    cases hq : p l with
    | error e => rw [hq] at h; cases h
    | ok y =>
      obtain ⟨x, l2⟩ := y
      rw [hq] at h
      simp only at h
      cases hr : pElems p k l2 with
      | error e => rw [hr] at h; cases h
      | ok z =>
        obtain ⟨ys, l3⟩ := z
        rw [hr] at h
        simp only [Except.ok.injEq, Prod.mk.injEq] at h
        obtain ⟨rfl, rfl⟩ := h
        obtain ⟨h1, h2, h3⟩ := pElems_ok hp k l2 ys l3 hr
        obtain ⟨g1, g2⟩ := hp _ _ _ hq
        refine ⟨by simp [h1], fun q hq => ?_, by rw [List.flatMap_cons, List.append_assoc, ← h3]; exact g1⟩
        rcases List.mem_cons.1 hq with e | e
        · subst e; exact g2
        · exact h2 q e
theorem flatMap_len {enc : List UInt8 → List UInt8} {c : Nat} : ∀ (xs : List (List UInt8)), (∀ x ∈ xs, (enc x).length ≤ c) → (xs.flatMap enc).length ≤ c * xs.length
  | [], _ => by simp
  | x :: xs, h => by
    have h1 := h x (by simp)
    have h2 := flatMap_len xs (fun y hy => h y (by simp [hy]))
    rw [List.flatMap_cons, List.length_append, List.length_cons, Nat.mul_succ]
    omega

/-- what one round leaves: an error and nothing taken, or some bytes taken and the same bytes laid down -/
def RoundOut (l : List UInt8) (t : Nat) (st : List UInt8) (r2 : RSt) (st2 : List UInt8 × Int) : Prop :=
  (r2.1 = l ∧ r2.2.1 = t ∧ r2.2.2 ≠ 0 ∧ r2.2.2 ≠ 24) ∨ (∃ enc l', l = enc ++ l' ∧ enc.length ≤ 2000 ∧ r2 = (l', t + enc.length, 0) ∧ st2 = (st ++ enc, 0))
theorem roundOut_of {α : Type} {p : List UInt8 → Except Int (α × List UInt8)} {zero : α} {W : List UInt8 × Int → α → List UInt8 × Int} {l st : List UInt8} {t : Nat} (he : ∀ f, p l = .error f → Bad f)
    (ho : ∀ x l', p l = .ok (x, l') → ∃ enc, l = enc ++ l' ∧ enc.length ≤ 2000 ∧ W (st, 0) x = (st ++ enc, 0)) : RoundOut l t st (rd p zero (l, t, 0)).2 (W (st, 0) (rd p zero (l, t, 0)).1) := by
  cases hp : p l with
  | error f =>
    have : rd p zero (l, t, 0) = (zero, (l, t, f)) := by simp [rd, hp]
    rw [this]
    exact .inl ⟨rfl, rfl, (he f hp).ne⟩
  | ok y =>
    obtain ⟨x, l'⟩ := y
    obtain ⟨enc, h1, h2, h3⟩ := ho x l' hp
    have : rd p zero (l, t, 0) = (x, (l', t + (l.length - l'.length), 0)) := by simp [rd, hp]
    rw [this]
    refine .inr ⟨enc, l', h1, h2, ?_, h3⟩
    rw [h1, List.length_append, Nat.add_sub_cancel]
/-- what a parser hands out, or nothing -/
theorem rd_fst {α : Type} {p : List UInt8 → Except Int (α × List UInt8)} {zero : α} {l : List UInt8} {t : Nat} {R : α → Prop} (hz : R zero) (ho : ∀ x l', p l = .ok (x, l') → R x) : R (rd p zero (l, t, 0)).1 := by
  cases hp : p l with
  | error f =>
    have : rd p zero (l, t, 0) = (zero, (l, t, f)) := by simp [rd, hp]
    rw [this]
    exact hz
  | ok y =>
    obtain ⟨x, l'⟩ := y
    have : rd p zero (l, t, 0) = (x, (l', t + (l.length - l'.length), 0)) := by simp [rd, hp]
    rw [this]
    exact ho x l' hp

section
variable (l st : List UInt8) (t m : Nat) (hm : m < 40)
theorem out_byte : RoundOut l t st (rd pByte 0 (l, t, 0)).2 (wByte (st, 0) ((rd pByte 0 (l, t, 0)).1 : Int)) := by
  refine roundOut_of (W := fun st (n : Nat) => wByte st n) (fun f h => ?_) fun x l' h => ?_
  · cases l with
    | nil => simp [pByte] at h; subst h; exact bad21
    | cons c l => simp [pByte] at h
  · cases l with
    | nil => simp [pByte] at h
    | cons c l =>
      simp only [pByte, Except.ok.injEq, Prod.mk.injEq] at h
      obtain ⟨rfl, rfl⟩ := h
      have hc : c.toNat < 256 := c.toNat_lt
      refine ⟨[c], rfl, by simp, ?_⟩
      simp only [wByte]
      rw [if_neg (by omega)]
      simp
theorem out_num : RoundOut l t st (rd (pNum 0 0) 0 (l, t, 0)).2 (wNum (st, 0) ((rd (pNum 0 0) 0 (l, t, 0)).1 : Int)) := by
  refine roundOut_of (W := fun st (n : Nat) => wNum st n) (fun f h => pNum_bad _ _ _ _ h) fun x l' h => ?_
  obtain ⟨h1, h2⟩ := pNum_ok h
  refine ⟨digs x, h1, by have := digs_len10' h2; omega, ?_⟩
  simp only [wNum]
  rw [if_neg (by omega)]
  simp
include hm
theorem out_rising : RoundOut l t st (rd (pRising m) [] (l, t, 0)).2 (wRising (st, 0) (rd (pRising m) [] (l, t, 0)).1) ∧ (rd (pRising m) [] (l, t, 0)).1.length ≤ 40 := by
  have key : ∀ x l', pRising m l = .ok (x, l') → x.length ≤ 40 ∧ rises (-1) x = true ∧ l = digs x.length ++ deltas (-1) x ++ l' := fun x l' h => by
    unfold pRising at h
    rw [if_neg (by omega)] at h
    cases hq : pCount m l with
    | error e => rw [hq] at h; cases h
    | ok y =>
      obtain ⟨n, l2⟩ := y
      rw [hq] at h
      simp only at h
      obtain ⟨h1, h2, h3⟩ := pCount_ok hq
      obtain ⟨g1, g2, g3⟩ := pRiseN_ok _ _ _ _ _ (by omega) h
      refine ⟨by omega, g2, ?_⟩
      rw [g1, List.append_assoc, ← g3]; exact h1
  refine ⟨roundOut_of (fun f h => ?_) fun x l' h => ?_, rd_fst (R := fun x : List Int => x.length ≤ 40) (by simp) fun x l' h => (key x l' h).1⟩
  · unfold pRising at h
    rw [if_neg (by omega)] at h
    cases hq : pCount m l with
    | error e => rw [hq] at h; cases h; exact pCount_bad hq
    | ok y => rw [hq] at h; exact pRiseN_bad _ _ _ _ h
  · obtain ⟨h1, h2, h3⟩ := key x l' h
    have d1 := digs_len10' (n := x.length) (by omega)
    have d2 := deltas_len x (-1) h2 (by omega)
    refine ⟨digs x.length ++ deltas (-1) x, h3, by rw [List.length_append]; omega, ?_⟩
    simp only [wRising]
    rw [if_pos h2, List.append_assoc]
theorem out_text : RoundOut l t st (rd (pTextM m) [] (l, t, 0)).2 (wText (st, 0) (rd (pTextM m) [] (l, t, 0)).1 m) ∧ (rd (pTextM m) [] (l, t, 0)).1.length ≤ 40 := by
  have e : pTextM m l = pText m l := by unfold pTextM; rw [if_neg (by omega)]
  refine ⟨roundOut_of (W := fun st x => wText st x m) (fun f h => ?_) fun x l' h => ?_, rd_fst (R := fun x : List UInt8 => x.length ≤ 40) (by simp) fun x l' h => ?_⟩
  · rw [e] at h; exact pText_bad h
  · rw [e] at h
    obtain ⟨h1, h2, h3⟩ := pText_ok h
    have d1 := digs_len10' h3
    refine ⟨digs x.length ++ x, h1, by rw [List.length_append]; omega, ?_⟩
    simp only [wText]
    rw [if_neg (by omega), if_neg (by omega), List.append_assoc]
  · rw [e] at h
    obtain ⟨h1, h2, h3⟩ := pText_ok h
    omega
theorem out_raw : RoundOut l t st (rd (pRaw m) [] (l, t, 0)).2 (wRaw (st, 0) (rd (pRaw m) [] (l, t, 0)).1) ∧ (rd (pRaw m) [] (l, t, 0)).1.length ≤ 40 := by
  have key : ∀ x l', pRaw m l = .ok (x, l') → x.length ≤ 40 ∧ l = x ++ l' := fun x l' h => by
    unfold pRaw at h
    rw [if_neg (by omega)] at h
    split at h
    · cases h
    · simp only [Except.ok.injEq, Prod.mk.injEq] at h
      obtain ⟨rfl, rfl⟩ := h
      exact ⟨by rw [List.length_take]; omega, (List.take_append_drop _ _).symm⟩
  refine ⟨roundOut_of (fun f h => ?_) fun x l' h => ?_, rd_fst (R := fun x : List UInt8 => x.length ≤ 40) (by simp) fun x l' h => (key x l' h).1⟩
  · unfold pRaw at h
    rw [if_neg (by omega)] at h
    split at h
    · cases h; exact bad21
    · cases h
  · obtain ⟨h1, h2⟩ := key x l' h
    exact ⟨x, h2, by omega, rfl⟩
omit hm
theorem wTexts_fold (most : Int) (hmo : 0 ≤ most) : ∀ (xs : List (List UInt8)) (st : List UInt8), (∀ x ∈ xs, (x.length : Int) ≤ most) → xs.foldl (fun st s => wText st s most) (st, 0) = (st ++ xs.flatMap (fun x => digs x.length ++ x), 0)
  | [], st, _ => by simp
  | x :: xs, st, h => by
    have h1 := h x (by simp)
    have e : wText (st, 0) x most = (st ++ (digs x.length ++ x), 0) := by
      simp only [wText]
      rw [if_neg (by omega), if_neg (by omega), List.append_assoc]
    rw [List.foldl_cons, e, wTexts_fold most hmo xs _ (fun y hy => h y (by simp [hy])), List.flatMap_cons, List.append_assoc]
theorem wHashList_ok : ∀ (xs : List (List UInt8)) (st : List UInt8), (∀ x ∈ xs, x.length = 32) → wHashList (st, 0) xs = (st ++ xs.flatMap id, 0)
  | [], st, _ => by simp [wHashList]
  | x :: xs, st, h => by
    have h1 := h x (by simp)
    simp only [wHashList]
    rw [if_pos h1]
    simp only [wRaw]
    rw [wHashList_ok xs _ (fun y hy => h y (by simp [hy])), List.flatMap_cons, List.append_assoc]
    rfl
theorem bulk_le : ∀ (xs : List (List UInt8)), (∀ x ∈ xs, x.length ≤ 9) → bulk xs ≤ 19 * xs.length
  | [], _ => by simp [bulk]
  | x :: xs, h => by
    have h1 := h x (by simp)
    have h2 := bulk_le xs (fun y hy => h y (by simp [hy]))
    simp only [bulk, List.length_cons]
    omega
include hm
theorem out_texts : RoundOut l t st (rd (pTexts m 9) [] (l, t, 0)).2 (wTexts (st, 0) (rd (pTexts m 9) [] (l, t, 0)).1 m 9) ∧ (rd (pTexts m 9) [] (l, t, 0)).1.length ≤ 40 ∧ bulk (rd (pTexts m 9) [] (l, t, 0)).1 ≤ 2000 := by
  have key : ∀ x l', pTexts m 9 l = .ok (x, l') → x.length ≤ m ∧ (∀ y ∈ x, y.length ≤ 9) ∧ l = digs x.length ++ x.flatMap (fun x => digs x.length ++ x) ++ l' := fun x l' h => by
    unfold pTexts at h
    rw [if_neg (by omega)] at h
    cases hq : pCount m l with
    | error e => rw [hq] at h; cases h
    | ok y =>
      obtain ⟨n, l2⟩ := y
      rw [hq] at h
      simp only at h
      obtain ⟨h1, h2, h3⟩ := pCount_ok hq
      obtain ⟨g1, g2, g3⟩ := pElems_ok (enc := fun x => digs x.length ++ x) (R := fun x => x.length ≤ 9) (fun l x l' h => ⟨(pText_ok h).1, by have := (pText_ok h).2.1; omega⟩) _ _ _ _ h
      refine ⟨by omega, g2, ?_⟩
      rw [g1, List.append_assoc, ← g3]; exact h1
  refine ⟨roundOut_of (W := fun st x => wTexts st x m 9) (fun f h => ?_) fun x l' h => ?_, rd_fst (R := fun x : List (List UInt8) => x.length ≤ 40) (by simp) fun x l' h => by have := (key x l' h).1; omega,
    rd_fst (R := fun x : List (List UInt8) => bulk x ≤ 2000) (by simp [bulk]) fun x l' h => by have := key x l' h; have := bulk_le x this.2.1; omega⟩
  · unfold pTexts at h
    rw [if_neg (by omega)] at h
    cases hq : pCount m l with
    | error e => rw [hq] at h; cases h; exact pCount_bad hq
    | ok y => rw [hq] at h; exact pElems_bad (fun _ _ h => pText_bad h) _ _ _ h
  · obtain ⟨h1, h2, h3⟩ := key x l' h
    have d1 := digs_len10' (n := x.length) (by omega)
    have d2 := flatMap_len (enc := fun x => digs x.length ++ x) (c := 19) x (fun y hy => by have := h2 y hy; have := digs_len10' (n := y.length) (by omega); rw [List.length_append]; omega)
    refine ⟨digs x.length ++ x.flatMap (fun x => digs x.length ++ x), h3, by rw [List.length_append]; omega, ?_⟩
    simp only [wTexts]
    rw [if_neg (by omega), if_neg (by omega), num_of_len _ _ (by omega), wTexts_fold 9 (by omega) x _ (fun y hy => by have := h2 y hy; omega), List.append_assoc]
theorem out_hashes : RoundOut l t st (rd (pHashes m) [] (l, t, 0)).2 (wHashes (st, 0) (rd (pHashes m) [] (l, t, 0)).1 m) ∧ (rd (pHashes m) [] (l, t, 0)).1.length ≤ 40 := by
  have key : ∀ x l', pHashes m l = .ok (x, l') → x.length ≤ m ∧ (∀ y ∈ x, y.length = 32) ∧ l = digs x.length ++ x.flatMap id ++ l' := fun x l' h => by
    unfold pHashes at h
    rw [if_neg (by omega)] at h
    cases hq : pCount m l with
    | error e => rw [hq] at h; cases h
    | ok y =>
      obtain ⟨n, l2⟩ := y
      rw [hq] at h
      simp only at h
      obtain ⟨h1, h2, h3⟩ := pCount_ok hq
      obtain ⟨g1, g2, g3⟩ := pElems_ok (p := p32) (enc := id) (R := fun x => x.length = 32) (fun l x l' h => by
        unfold p32 at h
        split at h
        · cases h
        · simp only [Except.ok.injEq, Prod.mk.injEq] at h
          obtain ⟨rfl, rfl⟩ := h
          exact ⟨(List.take_append_drop _ _).symm, by rw [List.length_take]; omega⟩) _ _ _ _ h
      refine ⟨by omega, g2, ?_⟩
      rw [g1, List.append_assoc, ← g3]; exact h1
  refine ⟨roundOut_of (W := fun st x => wHashes st x m) (fun f h => ?_) fun x l' h => ?_, rd_fst (R := fun x : List (List UInt8) => x.length ≤ 40) (by simp) fun x l' h => by have := (key x l' h).1; omega⟩
  · unfold pHashes at h
    rw [if_neg (by omega)] at h
    cases hq : pCount m l with
    | error e => rw [hq] at h; cases h; exact pCount_bad hq
    | ok y =>
      rw [hq] at h
      exact pElems_bad (p := p32) (fun l f h => by
        unfold p32 at h
        split at h
        · cases h; exact bad21
        · cases h) _ _ _ h
  · obtain ⟨h1, h2, h3⟩ := key x l' h
    have d1 := digs_len10' (n := x.length) (by omega)
    have d2 := flatMap_len (enc := id) (c := 32) x (fun y hy => by have := h2 y hy; simp only [id]; omega)
    refine ⟨digs x.length ++ x.flatMap id, h3, by rw [List.length_append]; omega, ?_⟩
    simp only [wHashes]
    rw [if_neg (by omega), if_neg (by omega), num_of_len _ _ (by omega), wHashList_ok x _ h2, List.append_assoc]
end
end Go.Proofs.YtfjflnlcjnhmmaaDoor
