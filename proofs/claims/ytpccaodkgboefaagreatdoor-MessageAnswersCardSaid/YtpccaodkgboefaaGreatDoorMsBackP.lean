/-
  A request that was laid down is told again; a beginning of it is short. Plain.
-/
import Derived.Test.YtpccaodkgboefaaGreatDoorMsRound
import Derived.Test.YtpccaodkgboefaaGreatDoorMsDecode
namespace Go.Proofs.YtpccaodkgboefaaGreatDoor
open Go.RowKit

theorem Round.then {α β : Type} {st s1 s2 : WSt} {f : RSt → α × RSt} {x : α} {g : α → RSt → β × RSt} {y : β} (h1 : Round st s1 f x) (h2 : Round s1 s2 (g x) y) : Round st s2 (fun r => g (f r).1 (f r).2) y := by
  intro h
  obtain ⟨e1, d2, l2, t2⟩ := h2 h
  obtain ⟨e0, d1, l1, t1⟩ := h1 e1
  refine ⟨e0, d1 ++ d2, by rw [l2, l1, List.append_assoc], fun l c => ?_⟩
  obtain ⟨c1, q1⟩ := t1 (d2 ++ l) c
  obtain ⟨c2, q2⟩ := t2 l c1
  refine ⟨c2, ?_⟩
  rw [List.append_assoc]
  simp only [q1]
  exact q2
theorem Round.map {α β : Type} {st s1 : WSt} {f : RSt → α × RSt} {x : α} (h : Round st s1 f x) (F : α → β) : Round st s1 (fun r => (F (f r).1, (f r).2)) (F x) := by
  intro h0
  obtain ⟨e1, d, l1, t1⟩ := h h0
  refine ⟨e1, d, l1, fun l c => ?_⟩
  obtain ⟨c1, q1⟩ := t1 l c
  refine ⟨c1, ?_⟩
  simp only [q1]
theorem Round.of {α : Type} {st s1 s2 : WSt} {f g : RSt → α × RSt} {x y : α} (h : Round st s1 f x) (hs : s2 = s1) (hf : ∀ r, g r = f r) (hx : y = x) : Round st s2 g y := by
  subst hs hx
  rw [show g = f from funext hf]
  exact h
theorem Round.none {α : Type} (st : WSt) (x : α) : Round st st (fun r => (x, r)) x := fun h => ⟨h, [], by simp, fun l c => ⟨c, rfl⟩⟩

/-- wrong already: nothing is said -/
theorem Round.wrong {α : Type} {st s1 : WSt} {f : RSt → α × RSt} {x : α} (h : s1.2 ≠ 0) : Round st s1 f x := fun h0 => absurd h0 h
theorem round_if {α : Type} {c : Prop} [Decidable c] {st s1 : WSt} {g : WSt → WSt} {f : RSt → α × RSt} {x : α} (hs : s1 = g (if c then wNum st (-1) else st)) (hg : ∀ u : WSt, Round u (g u) f x) : Round st s1 f x := by
  subst hs
  by_cases h : c
  · rw [if_pos h]
    intro h0
    exact absurd (hg _ h0).1 (wNum_minus st)
  · rw [if_neg h]
    exact hg st

theorem spare_fields {R : Req} (h : spareOf R = false) : ((whichOf R.kind).a = false → R.a = 0) ∧ ((whichOf R.kind).b = false → R.b = 0) ∧ ((whichOf R.kind).size = false → R.size = 0) ∧ ((whichOf R.kind).list = false → R.list = []) ∧ ((whichOf R.kind).entries = false → R.entries = []) ∧
    ((whichOf R.kind).asks = false → R.asks = []) := by
  unfold spareOf at h
  simp only [Bool.or_eq_false_iff, Bool.and_eq_false_iff, Bool.not_eq_false', decide_eq_false_iff_not] at h
  obtain ⟨⟨⟨⟨⟨h1, h2⟩, h3⟩, h4⟩, h5⟩, h6⟩ := h
  have t : ∀ {b : Bool}, b = true → b = false → False := fun h h' => by rw [h] at h'; cases h'
  refine ⟨fun q => ?_, fun q => ?_, fun q => ?_, fun q => ?_, fun q => ?_, fun q => ?_⟩
  · exact h1.elim (fun e => (t e q).elim) (fun e => Decidable.not_not.1 e)
  · exact h2.elim (fun e => (t e q).elim) (fun e => Decidable.not_not.1 e)
  · exact h3.elim (fun e => (t e q).elim) (fun e => Decidable.not_not.1 e)
  · exact h4.elim (fun e => (t e q).elim) (fun e => List.eq_nil_of_length_eq_zero (by omega))
  · exact h5.elim (fun e => (t e q).elim) (fun e => List.eq_nil_of_length_eq_zero (by omega))
  · exact h6.elim (fun e => (t e q).elim) (fun e => List.eq_nil_of_length_eq_zero (by omega))

set_option maxHeartbeats 1000000 in
theorem round_flat (m : Nat) (st : WSt) (R : Req) (h1 : 1 ≤ R.kind) (h2 : R.kind ≤ 11) (hp : plainOf R = true) : Round st (fieldsFlat st R) (rReq (m + 1) R.kind) R := by
  rw [plainOf_eq] at hp
  simp only [Bool.and_eq_true, Bool.not_eq_true'] at hp
  obtain ⟨hs, -⟩ := hp
  obtain ⟨k, a, b, s, l, e, qs⟩ := R
  have hsf := spare_fields hs
  simp only [Req.kind, Req.a, Req.b, Req.size, Req.list, Req.entries, Req.asks] at h1 h2 hsf ⊢
  obtain ⟨ha, hb, hz, hl, he, hq⟩ := hsf
  have h' : k = 1 ∨ k = 2 ∨ k = 3 ∨ k = 4 ∨ k = 5 ∨ k = 6 ∨ k = 7 ∨ k = 8 ∨ k = 9 ∨ k = 10 ∨ k = 11 := by omega
  rcases h' with rfl | rfl | rfl | rfl | rfl | rfl | rfl | rfl | rfl | rfl | rfl
  · cases ha rfl; cases hb rfl; cases hz rfl; cases hl rfl; cases hq rfl
    exact round_if (g := fun u => wTexts u e 32 4096) (c := e.length = 0) rfl fun u => ((round_texts u e 32 4096 (by decide) (by decide) (by decide) (by decide)).map (fun x => Req.mk 1 0 0 0 [] x [])).of rfl (fun r => rfl) rfl
  · cases ha rfl; cases hb rfl; cases hz rfl; cases hl rfl; cases he rfl; cases hq rfl
    exact (Round.none st (Req.mk 2 0 0 0 [] [] [])).of rfl (fun r => rfl) rfl
  · cases ha rfl; cases hb rfl; cases hl rfl; cases he rfl; cases hq rfl
    exact ((round_size st s).map (fun x => Req.mk 3 0 0 x [] [] [])).of rfl (fun r => rfl) rfl
  · cases hb rfl; cases hl rfl; cases he rfl; cases hq rfl
    exact ((round_size st a).then (g := fun x r => (Req.mk 4 x 0 ((rd (pNum 0 0) 0 r).1 : Nat) [] [] [], (rd (pNum 0 0) 0 r).2)) ((round_size _ s).map (fun x => Req.mk 4 a 0 x [] [] []))).of rfl (fun r => rfl) rfl
  · cases hb rfl; cases hl rfl; cases he rfl; cases hq rfl
    exact ((round_size st a).then (g := fun x r => (Req.mk 5 x 0 ((rd (pNum 0 0) 0 r).1 : Nat) [] [] [], (rd (pNum 0 0) 0 r).2)) ((round_size _ s).map (fun x => Req.mk 5 a 0 x [] [] []))).of rfl (fun r => rfl) rfl
  · cases ha rfl; cases hb rfl; cases he rfl; cases hq rfl
    exact ((round_size st s).then (g := fun x r => (Req.mk 6 0 0 x (rd (pRising 256) [] r).1 [] [], (rd (pRising 256) [] r).2)) ((round_rising _ l 256 (by decide)).map (fun x => Req.mk 6 0 0 s x [] []))).of rfl (fun r => rfl) rfl
  · cases ha rfl; cases hb rfl; cases hz rfl; cases he rfl; cases hq rfl
    exact ((round_rising st l 64 (by decide)).map (fun x => Req.mk 7 0 0 0 x [] [])).of rfl (fun r => rfl) rfl
  · cases hl rfl; cases he rfl; cases hq rfl
    exact ((round_size st a).then (g := fun x r => (Req.mk 8 x ((rd (pNum 0 0) 0 r).1 : Nat) ((rd (pNum 0 0) 0 (rd (pNum 0 0) 0 r).2).1 : Nat) [] [] [], (rd (pNum 0 0) 0 (rd (pNum 0 0) 0 r).2).2))
      ((round_size _ b).then (g := fun x r => (Req.mk 8 a x ((rd (pNum 0 0) 0 r).1 : Nat) [] [] [], (rd (pNum 0 0) 0 r).2)) ((round_size _ s).map (fun x => Req.mk 8 a b x [] [] [])))).of rfl (fun r => rfl) rfl
  · cases hl rfl; cases he rfl; cases hq rfl
    exact ((round_size st a).then (g := fun x r => (Req.mk 9 x ((rd (pNum 0 0) 0 r).1 : Nat) ((rd (pNum 0 0) 0 (rd (pNum 0 0) 0 r).2).1 : Nat) [] [] [], (rd (pNum 0 0) 0 (rd (pNum 0 0) 0 r).2).2))
      ((round_size _ b).then (g := fun x r => (Req.mk 9 a x ((rd (pNum 0 0) 0 r).1 : Nat) [] [] [], (rd (pNum 0 0) 0 r).2)) ((round_size _ s).map (fun x => Req.mk 9 a b x [] [] [])))).of rfl (fun r => rfl) rfl
  · cases hb rfl; cases hz rfl; cases hl rfl; cases he rfl; cases hq rfl
    exact ((round_size st a).map (fun x => Req.mk 10 x 0 0 [] [] [])).of rfl (fun r => rfl) rfl
  · cases hb rfl; cases hz rfl; cases hl rfl; cases he rfl; cases hq rfl
    exact ((round_size st a).map (fun x => Req.mk 11 x 0 0 [] [] [])).of rfl (fun r => rfl) rfl
theorem inPart_kind {k : Int} (h : inPart k ≠ false) : 1 ≤ k ∧ k ≤ 11 := by
  simp [inPart] at h
  omega
theorem round_parts (m : Nat) : ∀ (qs : List Req) (st : WSt), plainAll qs = true → Round st (partsOf st qs) (rAsks (rReq (m + 1)) qs.length) qs
  | [], st, _ => (Round.none st []).of rfl (fun r => rfl) rfl
  | x :: qs, st, hp => by
    rw [plainAll_cons, Bool.and_eq_true] at hp
    rw [partsOf]
    split
    · exact Round.wrong (wNum_minus st)
    · rename_i hk
      have hkk := inPart_kind hk
      have h1 : Round st (fieldsFlat (wByte st x.kind) x) (fun r => rReq (m + 1) ((rd pByte 0 r).1 : Nat) (rd pByte 0 r).2) x := (round_byte st x.kind).then (g := fun k r => rReq (m + 1) k r) (round_flat m _ x hkk.1 hkk.2 hp.1)
      have h2 := round_parts m qs (fieldsFlat (wByte st x.kind) x) hp.2
      have h3 := h1.then (g := fun y r => if inPart y.kind = false then ([y], r) else (y :: (rAsks (rReq (m + 1)) qs.length r).1, (rAsks (rReq (m + 1)) qs.length r).2)) (y := x :: qs)
        ((h2.map (fun l => x :: l)).of rfl (fun r => by rw [if_neg hk]) rfl)
      exact h3.of rfl (fun r => rfl) rfl
theorem round_fields (m : Nat) (st : WSt) (R : Req) (h1 : 1 ≤ R.kind) (h2 : R.kind ≤ 12) (hp : plainOf R = true) : Round st (fieldsOf st R) (rReq (m + 2) R.kind) R := by
  by_cases h12 : R.kind = 12
  · unfold fieldsOf
    rw [if_pos h12]
    have hp' := hp
    rw [plainOf_eq] at hp'
    simp only [Bool.and_eq_true, Bool.not_eq_true'] at hp'
    obtain ⟨hs, hq⟩ := hp'
    obtain ⟨k, a, b, s, l, e, qs⟩ := R
    simp only [Req.kind, Req.asks] at h12 hq ⊢
    subst h12
    have hsf := spare_fields hs
    simp only [Req.kind, Req.a, Req.b, Req.size, Req.list, Req.entries, Req.asks] at hsf
    obtain ⟨ha, hb, hz, hl, he, -⟩ := hsf
    cases ha rfl; cases hb rfl; cases hz rfl; cases hl rfl; cases he rfl
    by_cases hc : qs.length = 0 ∨ 64 < qs.length
    · show Round st (partsOf (wNum (@ite _ (qs.length = 0 ∨ 64 < qs.length) instDecidableOr (wNum st (-1)) st) qs.length) qs) (rReq (m + 2) 12) (Req.mk 12 0 0 0 [] [] qs)
      rw [if_pos hc]
      intro h0
      obtain ⟨e1, -⟩ := round_parts m qs _ hq h0
      obtain ⟨e2, -⟩ := round_num _ _ e1
      exact absurd e2 (wNum_minus st)
    · show Round st (partsOf (wNum (@ite _ (qs.length = 0 ∨ 64 < qs.length) instDecidableOr (wNum st (-1)) st) qs.length) qs) (rReq (m + 2) 12) (Req.mk 12 0 0 0 [] [] qs)
      rw [if_neg hc]
      have h3 := (round_num st (qs.length : Int)).then (g := fun n r => (Req.mk 12 0 0 0 [] [] (rAsks (rReq (m + 1)) (min n.toNat 65) r).1, (rAsks (rReq (m + 1)) (min n.toNat 65) r).2)) (y := Req.mk 12 0 0 0 [] [] qs)
        (((round_parts m qs (wNum st qs.length) hq).map (fun x => Req.mk 12 0 0 0 [] [] x)).of rfl (fun r => by rw [show min ((qs.length : Int).toNat) 65 = qs.length by omega]) rfl)
      exact h3.of rfl (fun r => rfl) rfl
  · have h4 : fieldsOf st R = fieldsFlat st R := by unfold fieldsOf; rw [if_neg h12]
    rw [h4]
    exact round_flat (m + 1) st R h1 (by omega) hp

theorem unframedM_of (p rest : List UInt8) (h : p.length ≤ 1048576) : unframedM (digs p.length ++ (p ++ rest)) = (p, rest, 0) := by
  have h1 := pText_frame p rest 1048576 (by omega) (by omega)
  unfold unframedM unframed
  rw [h1]
  rfl
theorem unframedM_short (p : List UInt8) (c : Nat) (h : p.length ≤ 1048576) (hc : c < (digs p.length ++ p).length) : unframedM ((digs p.length ++ p).take c) = ([], [], 172) := by
  have h1 := pText_short p 1048576 c (by omega) (by omega) hc
  unfold unframedM unframed
  rw [h1]
  rfl
/-- what a request's frame is -/
theorem encOf_frame {R : Req} (h : (encOf R).2 = 0) : ∃ p, p.length ≤ 1048576 ∧ encOf R = (digs p.length ++ p, 0) ∧ takeOf p = (R, ([], (takeOf p).2.2.1, 0)) ∧ 1 ≤ R.kind ∧ R.kind ≤ 12 ∧ p.head? = some (UInt8.ofNat R.kind.toNat) := by
  unfold encOf at h ⊢
  by_cases hk : R.kind < 1 ∨ 12 < R.kind
  · rw [if_pos hk] at h
    exact absurd h (by decide)
  rw [if_neg hk] at h ⊢
  by_cases hp : plainOf R = false
  · rw [if_pos hp] at h
    exact absurd h (by decide)
  rw [if_neg hp] at h ⊢
  have hpt : plainOf R = true := by simpa using hp
  unfold framedW at h ⊢
  by_cases h0 : (fieldsOf (wByte ([], 0) R.kind) R).2 ≠ 0
  · rw [if_pos h0] at h
    exact absurd h (by decide)
  rw [if_neg h0] at h ⊢
  have h0' : (fieldsOf (wByte ([], 0) R.kind) R).2 = 0 := by simpa using h0
  have R0 : ∀ m, Round ([], 0) (fieldsOf (wByte ([], 0) R.kind) R) (fun r => rReq (m + 2) ((rd pByte 0 r).1 : Nat) (rd pByte 0 r).2) R := fun m => (round_byte ([], 0) R.kind).then (g := fun k r => rReq (m + 2) k r) (round_fields m _ R (by omega) (by omega) hpt)
  obtain ⟨e1, d2, hd2, -⟩ := round_fields 0 _ R (by omega) (by omega) hpt h0'
  have hb : (wByte ([], 0) R.kind).1 = [UInt8.ofNat R.kind.toNat] := by
    unfold wByte
    rw [if_neg (by omega)]
    rfl
  rw [hb] at hd2
  obtain ⟨p, hpp⟩ : ∃ p, (fieldsOf (wByte ([], 0) R.kind) R).1 = p := ⟨_, rfl⟩
  rw [hpp] at h hd2 ⊢
  unfold framed at h ⊢
  by_cases hbig : 1048576 < p.length
  · rw [if_pos hbig] at h
    exact absurd h (by decide)
  rw [if_neg hbig] at h ⊢
  have hlen : p.length = d2.length + 1 := by rw [hd2]; simp
  refine ⟨p, by omega, by simp, ?_, by omega, by omega, by rw [hd2]; rfl⟩
  obtain ⟨-, d, hd, ht⟩ := R0 (p.length - 1) h0'
  rw [hpp] at hd
  simp only [List.nil_append] at hd
  subst hd
  obtain ⟨c', hc⟩ := ht [] 0
  rw [List.append_nil, show p.length - 1 + 2 = p.length + 1 by omega] at hc
  have : takeOf p = (R, ([], c', 0)) := hc
  rw [this]
theorem decOf_back {R : Req} (rest : List UInt8) (h : (encOf R).2 = 0) : decOf ((encOf R).1 ++ rest) = (R, rest, 0) := by
  obtain ⟨p, hp, he, ht, -⟩ := encOf_frame h
  rw [he]
  simp only
  have hu := unframedM_of p rest hp
  rw [List.append_assoc]
  unfold decOf
  rw [hu]
  simp only
  rw [if_neg (by decide)]
  have hf : fitsOf (takeOf p) ((digs p.length ++ (p ++ rest)).take ((digs p.length ++ (p ++ rest)).length - rest.length)) = true := by
    unfold fitsOf
    rw [decide_eq_true_eq, ht]
    refine ⟨by unfold rDone; simp, by rw [he], ?_⟩
    rw [he]
    simp only
    rw [← List.append_assoc, List.length_append, Nat.add_sub_cancel, List.take_left']
    rfl
  rw [if_pos hf, ht]
theorem decOf_short {R : Req} (c : Nat) (h : (encOf R).2 = 0) (hc : c < (encOf R).1.length) : decOf ((encOf R).1.take c) = (noReq, [], 172) := by
  obtain ⟨p, hp, he, -⟩ := encOf_frame h
  rw [he] at hc ⊢
  have hu := unframedM_short p c hp hc
  unfold decOf
  simp only
  rw [hu]
  rfl
end Go.Proofs.YtpccaodkgboefaaGreatDoor
