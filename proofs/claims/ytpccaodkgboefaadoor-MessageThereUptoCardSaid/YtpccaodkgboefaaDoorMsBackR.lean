/-
  A reply that was laid down is told again, to its kind and to no other; a beginning of it is short. Plain.
-/
import Derived.Test.YtpccaodkgboefaaDoorMsBackP
import Derived.Test.YtpccaodkgboefaaDoorMsRepQ
namespace Go.Proofs.YtpccaodkgboefaaDoor
open Go.RowKit

theorem round_rest {α : Type} {st s1 : WSt} {R : Rep} {f : RSt → α × RSt} {x : α} (h : leftOver R = false → Round st s1 f x) : Round st (mRest s1 R) f x := by
  unfold mRest
  by_cases hl : leftOver R = true
  · rw [if_pos hl]
    exact Round.wrong (wNum_minus _)
  · rw [if_neg hl]
    exact h (by simpa using hl)
theorem left_none {z s a b : Int} {r : List UInt8} {h e : List (List UInt8)} {p : List Rep} (hl : leftOver (.mk z s a b r h e p) = false) : s = 0 ∧ a = 0 ∧ b = 0 ∧ r = [] ∧ h = [] ∧ e = [] ∧ p = [] := by
  unfold leftOver at hl
  rw [decide_eq_false_iff_not] at hl
  refine ⟨by omega, by omega, by omega, ?_, ?_, ?_, ?_⟩
  · exact Decidable.not_not.1 fun hr => hl (.inr (.inr (.inr (.inl hr))))
  · exact List.eq_nil_of_length_eq_zero (by omega)
  · exact List.eq_nil_of_length_eq_zero (by omega)
  · exact List.eq_nil_of_length_eq_zero (by omega)
theorem round_status (st : WSt) (s : Int) : Round (α := Int) st (mStatus st s) (fun r => (((rd pByte 0 r).1 : Nat), (rd pByte 0 r).2)) s := by
  unfold mStatus
  split
  · refine Round.wrong ?_
    unfold wByte
    rw [if_pos (by omega)]
    exact refuse_ne _ _ (by decide)
  · exact round_byte st s
theorem round_part (st : WSt) (x : Rep) : Round st (mPart st x) rPart x := by
  obtain ⟨z, s, a, b, r, h, e, p⟩ := x
  unfold mPart
  dsimp only
  by_cases hz : z = 0
  · subst hz
    rw [if_pos rfl]
    by_cases hr : r ≠ []
    · rw [if_pos hr]
      refine round_rest fun hl => ?_
      obtain ⟨rfl, rfl, rfl, -, rfl, rfl, rfl⟩ := left_none hl
      refine ((round_status st 0).then (g := fun z r => if z = 0 then (if (rd pByte 0 r).1 = 1 then (Rep.mk z 0 0 0 (rd (pRaw 32) [] (rd pByte 0 r).2).1 [] [] [], (rd (pRaw 32) [] (rd pByte 0 r).2).2) else (Rep.mk z 0 0 0 [] (rd (pHashes 32768) [] (rd pByte 0 r).2).1 [] [], (rd (pHashes 32768) [] (rd pByte 0 r).2).2)) else (Rep.mk z 0 0 0 [] [] [] [], r))
        (((round_byte (mStatus st 0) 1).then (g := fun k r => if k = 1 then (Rep.mk 0 0 0 0 (rd (pRaw 32) [] r).1 [] [] [], (rd (pRaw 32) [] r).2) else (Rep.mk 0 0 0 0 [] (rd (pHashes 32768) [] r).1 [] [], (rd (pHashes 32768) [] r).2))
          ((round_root _ r).map (fun y => Rep.mk 0 0 0 0 y [] [] [])  |>.of rfl (fun r => by rw [if_pos rfl]) rfl)).of rfl (fun r => ?_) rfl)).of rfl (fun r => ?_) rfl
      · rw [if_pos rfl]
        by_cases hk : (rd pByte 0 r).1 = 1
        · simp only [hk]; rfl
        · rw [if_neg hk, if_neg (by omega)]
      · unfold rPart
        by_cases hk : (rd pByte 0 r).1 = 0
        · simp only [hk]; rfl
        · simp only [if_neg hk]; rw [if_neg (by omega)]
    · rw [if_neg hr]
      obtain rfl : r = [] := Decidable.not_not.1 hr
      refine round_rest fun hl => ?_
      obtain ⟨rfl, rfl, rfl, -, -, rfl, rfl⟩ := left_none hl
      refine ((round_status st 0).then (g := fun z r => if z = 0 then (if (rd pByte 0 r).1 = 1 then (Rep.mk z 0 0 0 (rd (pRaw 32) [] (rd pByte 0 r).2).1 [] [] [], (rd (pRaw 32) [] (rd pByte 0 r).2).2) else (Rep.mk z 0 0 0 [] (rd (pHashes 32768) [] (rd pByte 0 r).2).1 [] [], (rd (pHashes 32768) [] (rd pByte 0 r).2).2)) else (Rep.mk z 0 0 0 [] [] [] [], r))
        (((round_byte (mStatus st 0) 0).then (g := fun k r => if k = 1 then (Rep.mk 0 0 0 0 (rd (pRaw 32) [] r).1 [] [] [], (rd (pRaw 32) [] r).2) else (Rep.mk 0 0 0 0 [] (rd (pHashes 32768) [] r).1 [] [], (rd (pHashes 32768) [] r).2))
          ((round_hashes _ h 32768 (by decide) (by decide)).map (fun y => Rep.mk 0 0 0 0 [] y [] [])  |>.of rfl (fun r => by rw [if_neg (by decide)]) rfl)).of rfl (fun r => ?_) rfl)).of rfl (fun r => ?_) rfl
      · rw [if_pos rfl]
        by_cases hk : (rd pByte 0 r).1 = 1
        · simp only [hk]; rfl
        · rw [if_neg hk, if_neg (by omega)]
      · unfold rPart
        by_cases hk : (rd pByte 0 r).1 = 0
        · simp only [hk]; rfl
        · simp only [if_neg hk]; rw [if_neg (by omega)]
  · rw [if_neg hz]
    refine round_rest fun hl => ?_
    obtain ⟨rfl, rfl, rfl, rfl, rfl, rfl, rfl⟩ := left_none hl
    refine ((round_status st z).then (g := fun z r => if z = 0 then (if (rd pByte 0 r).1 = 1 then (Rep.mk z 0 0 0 (rd (pRaw 32) [] (rd pByte 0 r).2).1 [] [] [], (rd (pRaw 32) [] (rd pByte 0 r).2).2) else (Rep.mk z 0 0 0 [] (rd (pHashes 32768) [] (rd pByte 0 r).2).1 [] [], (rd (pHashes 32768) [] (rd pByte 0 r).2).2)) else (Rep.mk z 0 0 0 [] [] [] [], r))
      ((Round.none _ (Rep.mk z 0 0 0 [] [] [] [])).of rfl (fun r => by rw [if_neg hz]) rfl)).of rfl (fun r => ?_) rfl
    unfold rPart
    by_cases hk : (rd pByte 0 r).1 = 0
    · simp only [hk]; rfl
    · simp only [if_neg hk]; rw [if_neg (by omega)]
theorem rPart_none (c : Nat) : (rPart ([], c, 0)).2.2.2 = 21 := rfl
theorem round_partsR : ∀ (l : List Rep) (st : WSt), Round st (l.foldl mPart st) (rParts l.length) l
  | [], st => (Round.none st []).of rfl (fun r => rfl) rfl
  | x :: l, st => by
    intro h
    rw [List.foldl_cons] at h ⊢
    obtain ⟨e1, d2, l2, t2⟩ := round_partsR l _ h
    obtain ⟨e0, d1, l1, t1⟩ := round_part st x e1
    refine ⟨e0, d1 ++ d2, by rw [l2, l1, List.append_assoc], fun t c => ?_⟩
    have hd : d1 ≠ [] := by
      rintro rfl
      obtain ⟨c', hc⟩ := t1 [] 0
      have := rPart_none 0
      rw [List.append_nil] at hc
      rw [hc] at this
      simp at this
    obtain ⟨c1, q1⟩ := t1 (d2 ++ t) c
    obtain ⟨c2, q2⟩ := t2 t c1
    refine ⟨c2, ?_⟩
    have hp : 0 < d1.length := List.length_pos_iff.2 hd
    rw [List.append_assoc]
    simp only [List.length_cons, rParts]
    rw [if_neg (by rw [List.length_append]; omega), q1, q2]
theorem round_partsM (st : WSt) (l : List Rep) : Round st (mParts st l) (fun r => rParts (min (rd (pNum 0 0) 0 r).1 65) (rd (pNum 0 0) 0 r).2) l := by
  unfold mParts
  by_cases hc : l.length = 0 ∨ 64 < l.length
  · rw [if_pos hc]
    intro h0
    obtain ⟨e1, -⟩ := round_partsR l _ h0
    obtain ⟨e2, -⟩ := round_num _ _ e1
    exact absurd e2 (wNum_minus st)
  · rw [if_neg hc]
    have h3 := (round_num st (l.length : Int)).then (g := fun n r => rParts (min n.toNat 65) r) (y := l)
      ((round_partsR l (wNum st l.length)).of rfl (fun r => by rw [show min ((l.length : Int).toNat) 65 = l.length by omega]) rfl)
    exact h3.of rfl (fun r => rfl) rfl

/-- a field of one reply put into another -/
def mergeF : Fld → Rep → Rep → Rep
  | .size, .mk _ s _ _ _ _ _ _, .mk z _ a b r h e p => .mk z s a b r h e p
  | .a, .mk _ _ a _ _ _ _ _, .mk z s _ b r h e p => .mk z s a b r h e p
  | .last, .mk _ _ _ b _ _ _ _, .mk z s a _ r h e p => .mk z s a b r h e p
  | .root, .mk _ _ _ _ r _ _ _, .mk z s a b _ h e p => .mk z s a b r h e p
  | .hashes, .mk _ _ _ _ _ h _ _, .mk z s a b r _ e p => .mk z s a b r h e p
  | .told, .mk _ _ _ _ _ _ e _, .mk z s a b r h _ p => .mk z s a b r h e p
  | .parts, .mk _ _ _ _ _ _ _ p, .mk z s a b r h e q => .mk z s a b r h e (q ++ p)
/-- a reply without a field -/
def stripF : Fld → Rep → Rep
  | .size, .mk z _ a b r h e p => .mk z 0 a b r h e p
  | .a, .mk z s _ b r h e p => .mk z s 0 b r h e p
  | .last, .mk z s a _ r h e p => .mk z s a 0 r h e p
  | .root, .mk z s a b _ h e p => .mk z s a b [] h e p
  | .hashes, .mk z s a b r _ e p => .mk z s a b r [] e p
  | .told, .mk z s a b r h _ p => .mk z s a b r h [] p
  | .parts, .mk z s a b r h e _ => .mk z s a b r h e []
def mergeL : List Fld → Rep → Rep → Rep
  | [], _, X => X
  | f :: l, R, X => mergeL l (stripF f R) (mergeF f R X)
def stripL : List Fld → Rep → Rep
  | [], R => R
  | f :: l, R => stripL l (stripF f R)
theorem mFld_strip (f : Fld) (st : WSt) (R : Rep) : (mFld f st R).2 = stripF f R := by cases R; cases f <;> rfl
theorem mFlds_strip : ∀ (l : List Fld) (st : WSt) (R : Rep), (mFlds l st R).2 = stripL l R
  | [], _, _ => rfl
  | f :: l, st, R => by rw [mFlds, mFlds_strip l, mFld_strip]; rfl
theorem round_fld (f : Fld) (st : WSt) (R X : Rep) : Round st (mFld f st R).1 (fun r => rFld f r X) (mergeF f R X) := by
  obtain ⟨z, s, a, b, r, h, e, p⟩ := R
  obtain ⟨z', s', a', b', r', h', e', p'⟩ := X
  cases f
  · exact ((round_size st s).map (fun v => Rep.mk z' v a' b' r' h' e' p')).of rfl (fun r => rfl) rfl
  · exact ((round_size st a).map (fun v => Rep.mk z' s' v b' r' h' e' p')).of rfl (fun r => rfl) rfl
  · exact round_if (g := fun u => wByte u b) (c := 1 < b) rfl fun u => ((round_byte u b).map (fun v => Rep.mk z' s' a' v r' h' e' p')).of rfl (fun r => rfl) rfl
  · exact ((round_root st r).map (fun v => Rep.mk z' s' a' b' v h' e' p')).of rfl (fun r => rfl) rfl
  · exact ((round_hashes st h 32768 (by decide) (by decide)).map (fun v => Rep.mk z' s' a' b' r' v e' p')).of rfl (fun r => rfl) rfl
  · exact ((round_texts st e 4096 1000 (by decide) (by decide) (by decide) (by decide)).map (fun v => Rep.mk z' s' a' b' r' h' v p')).of rfl (fun r => rfl) rfl
  · exact ((round_partsM st p).map (fun v => Rep.mk z' s' a' b' r' h' e' (p' ++ v))).of rfl (fun r => rfl) rfl
theorem round_flds : ∀ (l : List Fld) (st : WSt) (R X : Rep), Round st (mFlds l st R).1 (fun r => rFlds l r X) (mergeL l R X)
  | [], st, _, X => (Round.none st X).of rfl (fun r => rfl) rfl
  | f :: l, st, R, X => by
    have h := (round_fld f st R X).then (g := fun Y r => rFlds l r Y) (round_flds l (mFld f st R).1 (mFld f st R).2 (mergeF f R X))
    rw [mFld_strip] at h
    exact h.of (by rw [mFlds, mFld_strip]) (fun r => rfl) rfl
theorem merge_all (k : Int) (R : Rep) (h : leftOver (stripL (tableOf k) R) = false) : mergeL (tableOf k) R (.mk R.status 0 0 0 [] [] [] []) = R := by
  obtain ⟨z, s, a, b, r, hh, e, p⟩ := R
  unfold tableOf at h ⊢
  simp only [Rep.status]
  repeat' split
  all_goals (simp_all only [ite_true, ite_false, stripL, stripF]; try obtain ⟨h1, h2, h3, h4, h5, h6, h7⟩ := left_none h; subst_vars; rfl)

/-- a reply's status, and what is behind it -/
def bodyOf (K : Int) (r : RSt) : Rep × RSt :=
  let zz := rd pByte 0 r
  if zz.1 = 0 then rFlds (tableOf K) zz.2 (.mk (zz.1 : Nat) 0 0 0 [] [] [] []) else (.mk (zz.1 : Nat) 0 0 0 [] [] [] [], zz.2)
theorem takeRep_eq (K : Int) (p : List UInt8) : takeRep K p = ((rd pByte 0 (p, 0, 0)).1, bodyOf K (rd pByte 0 (p, 0, 0)).2) := rfl
theorem round_body (st : WSt) (k : Int) (R : Rep) :
    Round st (mRest (if R.status = 0 then mFlds (tableOf k) (mStatus st R.status) R else (mStatus st R.status, R)).1 (if R.status = 0 then mFlds (tableOf k) (mStatus st R.status) R else (mStatus st R.status, R)).2) (bodyOf k) R := by
  refine round_rest fun hl => ?_
  have key : ∀ r, bodyOf k r = (fun z r => if z = 0 then rFlds (tableOf k) r (.mk z 0 0 0 [] [] [] []) else (.mk z 0 0 0 [] [] [] [], r)) (((rd pByte 0 r).1 : Nat) : Int) (rd pByte 0 r).2 := fun r => by
    unfold bodyOf
    by_cases hk : (rd pByte 0 r).1 = 0
    · simp only [hk]; rfl
    · simp only [if_neg hk]; rw [if_neg (by omega)]
  by_cases hz : R.status = 0
  · rw [if_pos hz] at hl ⊢
    rw [mFlds_strip] at hl
    have hm := merge_all k R hl
    refine ((round_status st R.status).then (g := fun z r => if z = 0 then rFlds (tableOf k) r (.mk z 0 0 0 [] [] [] []) else (.mk z 0 0 0 [] [] [] [], r)) ((round_flds (tableOf k) (mStatus st R.status) R (.mk R.status 0 0 0 [] [] [] [])).of rfl (fun r => by rw [if_pos hz]) rfl)).of rfl key hm.symm
  · rw [if_neg hz] at hl ⊢
    obtain ⟨z, s, a, b, r, h, e, p⟩ := R
    obtain ⟨rfl, rfl, rfl, rfl, rfl, rfl, rfl⟩ := left_none hl
    have hz : ¬ z = 0 := hz
    exact ((round_status st z).then (g := fun z r => if z = 0 then rFlds (tableOf k) r (.mk z 0 0 0 [] [] [] []) else (.mk z 0 0 0 [] [] [] [], r)) ((Round.none _ (Rep.mk z 0 0 0 [] [] [] [])).of rfl (fun r => by rw [if_neg hz]) rfl)).of rfl key rfl
/-- what a reply's frame is -/
theorem encRep_frame {k : Int} {R : Rep} (h : (encRep k R).2 = 0) : ∃ p c, p.length ≤ 1048576 ∧ encRep k R = (digs p.length ++ p, 0) ∧ takeRep k p = (k.toNat, R, ([], c, 0)) ∧ 0 ≤ k ∧ k ≤ 12 ∧ ∀ j, (takeRep j p).1 = k.toNat := by
  unfold encRep at h ⊢
  by_cases hk : k < 0 ∨ 12 < k
  · rw [if_pos hk] at h
    exact absurd h (by decide)
  rw [if_neg hk] at h ⊢
  by_cases hp : k = 0 ∧ R.status = 0
  · rw [if_pos hp] at h
    exact absurd h (by decide)
  rw [if_neg hp] at h ⊢
  have R0 := round_body (wByte ([], 0) k) k R
  have hw : wByte ([], 0) k = ([UInt8.ofNat k.toNat], 0) := by
    unfold wByte
    rw [if_neg (by omega)]
    rfl
  rw [hw] at h R0 ⊢
  dsimp only at h ⊢
  obtain ⟨X, hX⟩ : ∃ X, mRest (if R.status = 0 then mFlds (tableOf k) (mStatus ([UInt8.ofNat k.toNat], 0) R.status) R else (mStatus ([UInt8.ofNat k.toNat], 0) R.status, R)).1 (if R.status = 0 then mFlds (tableOf k) (mStatus ([UInt8.ofNat k.toNat], 0) R.status) R else (mStatus ([UInt8.ofNat k.toNat], 0) R.status, R)).2 = X := ⟨_, rfl⟩
  rw [hX] at h R0 ⊢
  unfold framedW at h ⊢
  by_cases h0 : X.2 ≠ 0
  · rw [if_pos h0] at h
    exact absurd h (by decide)
  rw [if_neg h0] at h ⊢
  obtain ⟨-, d, hd, ht⟩ := R0 (Decidable.not_not.1 h0)
  unfold framed at h ⊢
  by_cases hbig : 1048576 < X.1.length
  · rw [if_pos hbig] at h
    exact absurd h (by decide)
  rw [if_neg hbig] at h ⊢
  have hkn : (UInt8.ofNat k.toNat).toNat = k.toNat := by
    have : k.toNat < 256 := by omega
    simp [UInt8.toNat_ofNat']
    omega
  have hr : rd pByte 0 (X.1, 0, 0) = (k.toNat, (d, X.1.length - d.length, 0)) := by
    rw [hd]
    unfold rd
    rw [if_neg (fun h => h rfl)]
    show ((UInt8.ofNat k.toNat).toNat, (d, _, _)) = _
    rw [hkn]
    simp
  obtain ⟨c', hc⟩ := ht [] (X.1.length - d.length)
  rw [List.append_nil] at hc
  refine ⟨X.1, c', by omega, by simp, ?_, by omega, by omega, fun j => ?_⟩
  · rw [takeRep_eq, hr, hc]
  · rw [takeRep_eq, hr]
theorem decRep_back {k : Int} {R : Rep} (rest : List UInt8) (h : (encRep k R).2 = 0) : decRep k ((encRep k R).1 ++ rest) = (R, rest, 0) := by
  obtain ⟨p, c, hp, he, ht, hk0, hk1, -⟩ := encRep_frame h
  have hu := unframedM_of p rest hp
  have hf : fitsRep k (takeRep k p) ((digs p.length ++ (p ++ rest)).take ((digs p.length ++ (p ++ rest)).length - rest.length)) = true := by
    unfold fitsRep
    rw [decide_eq_true_eq, ht]
    refine ⟨by simp; omega, by unfold rDone; simp, by rw [he], ?_⟩
    rw [he]
    simp only
    rw [← List.append_assoc, List.length_append, Nat.add_sub_cancel, List.take_left']
    rfl
  rw [he]
  simp only
  rw [List.append_assoc]
  unfold decRep
  rw [if_neg (by omega), hu]
  simp only
  rw [if_neg (by decide), if_pos hf, ht]
theorem decRep_short {k : Int} {R : Rep} (c : Nat) (h : (encRep k R).2 = 0) (hc : c < (encRep k R).1.length) : (decRep k ((encRep k R).1.take c)).2.2 = 172 := by
  obtain ⟨p, _, hp, he, _, hk0, hk1, -⟩ := encRep_frame h
  rw [he] at hc ⊢
  have hu := unframedM_short p c hp hc
  unfold decRep
  rw [if_neg (by omega)]
  simp only
  rw [hu]
  rfl
theorem decRep_other {k j : Int} {R : Rep} (h : (encRep k R).2 = 0) (hj0 : 0 ≤ j) (hj1 : j ≤ 12) (hne : j ≠ k) : (decRep j (encRep k R).1).2.2 = 173 := by
  obtain ⟨p, _, hp, he, _, hk0, hk1, ho⟩ := encRep_frame h
  rw [he]
  have hu := unframedM_of p [] hp
  rw [List.append_nil] at hu
  unfold decRep
  rw [if_neg (by omega)]
  simp only
  rw [hu]
  simp only
  have hf : ∀ s, fitsRep j (takeRep j p) s = false := fun s => by
    unfold fitsRep
    rw [decide_eq_false_iff_not, ho j]
    intro hh
    exact hne (by omega)
  rw [if_neg (by decide), hf]
  rfl
theorem encRep_first {k : Int} {R : Rep} (h : (encRep k R).2 = 0) : 0 < (encRep k R).1.length := by
  obtain ⟨p, _, hp, he, _⟩ := encRep_frame h
  rw [he]
  have := digs_pos p.length
  simp
  omega
end Go.Proofs.YtpccaodkgboefaaDoor
