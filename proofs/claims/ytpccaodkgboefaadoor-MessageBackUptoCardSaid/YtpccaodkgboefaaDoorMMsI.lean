/-
  Encode refuses by two errors alone: no request's payload is too long for a frame. Plain.
  addsUp, of the law's package, below its bound.
  A list of requests that grows one by one; frames in a row. What MessageBack wants besides.
  pick, of the law's package.
-/
import Derived.Test.YtpccaodkgboefaaDoorMsFine
import Derived.Test.YtpccaodkgboefaaDoorMMsC
import Derived.Test.YtpccaodkgboefaaDoorMMsH
import Derived.Test.YtpccaodkgboefaaDoorMMsG
namespace Go.Proofs.YtpccaodkgboefaaDoor
open Go.RowKit

theorem mRising_many {st : WSt} {l : List Int} {most : Int} (h : (mRising st l most).2 = 0) : (l.length : Int) ≤ most := by
  unfold mRising at h
  by_cases hc : l.length = 0 ∨ most < l.length ∨ 1099511627776 < l.getD (l.length - 1) 0
  · rw [if_pos hc] at h
    exact absurd h (wNum_minus st)
  · omega
theorem flat_small {st : WSt} {x : Req} (h : (fieldsFlat st x).2 = 0) (hk : 3 ≤ x.kind ∧ x.kind ≤ 7) (hp : plainOf x = true) : wtF x ≤ 2640 := by
  rw [plainOf_eq] at hp
  simp only [Bool.and_eq_true, Bool.not_eq_true'] at hp
  obtain ⟨hs, -⟩ := hp
  have hsf := spare_fields hs
  obtain ⟨k, a, b, s, l, e, qs⟩ := x
  simp only [Req.kind, Req.a, Req.b, Req.size, Req.list, Req.entries, Req.asks] at hk hsf
  obtain ⟨ha, hb, hz, hl, he, hq⟩ := hsf
  have h' : k = 3 ∨ k = 4 ∨ k = 5 ∨ k = 6 ∨ k = 7 := by omega
  rcases h' with rfl | rfl | rfl | rfl | rfl
  · cases hl rfl; cases he rfl; simp [wtF, Req.list, Req.entries, bulk]
  · cases hl rfl; cases he rfl; simp [wtF, Req.list, Req.entries, bulk]
  · cases hl rfl; cases he rfl; simp [wtF, Req.list, Req.entries, bulk]
  · cases he rfl
    have := mRising_many (st := mSize st s) (l := l) (most := 256) h
    simp [wtF, Req.list, Req.entries, bulk]
    omega
  · cases he rfl
    have := mRising_many (st := st) (l := l) (most := 64) h
    simp [wtF, Req.list, Req.entries, bulk]
    omega
theorem parts_small : ∀ (qs : List Req) (st : WSt), plainAll qs = true → (partsOf st qs).2 = 0 → wtAll qs ≤ 2641 * qs.length
  | [], _, _, _ => by simp [wtAll]
  | x :: qs, st, hp, h => by
    rw [plainAll_cons, Bool.and_eq_true] at hp
    rw [partsOf] at h
    split at h
    · exact absurd h (wNum_minus st)
    · rename_i hk
      have hk3 : 3 ≤ x.kind ∧ x.kind ≤ 7 := by simp [inPart] at hk; omega
      have h1 := (round_parts 0 qs _ hp.2 h).1
      have h2 := flat_small h1 hk3 hp.1
      have h3 := parts_small qs _ hp.2 h
      simp only [wtAll, List.length_cons]
      omega
theorem fields_small {R : Req} (h1 : 1 ≤ R.kind) (h2 : R.kind ≤ 12) (hp : plainOf R = true) (h : (fieldsOf (wByte ([], 0) R.kind) R).2 = 0) : (fieldsOf (wByte ([], 0) R.kind) R).1.length ≤ 1048576 := by
  have hF : wtF R ≤ 140000 := by
    obtain ⟨_, d, _, ht⟩ := round_fields 0 _ R h1 h2 hp h
    obtain ⟨c, hc⟩ := ht [] 0
    have := rReq_small 2 R.kind (d ++ [], 0, 0)
    rw [hc] at this
    exact this
  have hp' := hp
  rw [plainOf_eq] at hp'
  simp only [Bool.and_eq_true, Bool.not_eq_true'] at hp'
  have hA : wtAll R.asks ≤ 170000 := by
    by_cases h12 : R.kind = 12
    · unfold fieldsOf at h
      rw [if_pos h12] at h
      by_cases hc : R.asks.length = 0 ∨ 64 < R.asks.length
      · rw [if_pos hc] at h
        obtain ⟨e1, -⟩ := round_parts 0 _ _ hp'.2 h
        obtain ⟨e2, -⟩ := round_num _ _ e1
        exact absurd e2 (wNum_minus _)
      · rw [if_neg hc] at h
        have := parts_small _ _ hp'.2 h
        omega
    · have : R.asks = [] := (spare_fields hp'.1).2.2.2.2.2 (by unfold whichOf; simp; exact h12)
      rw [this]
      simp [wtAll]
  have hw : wt R ≤ 400000 := by unfold wt; omega
  have h4 := fieldsOf_len (R := R) (wByte ([], 0) R.kind) (by omega)
  have h5 := wByte_len ([], 0) R.kind
  simp at h5
  omega
theorem encOf_errors (R : Req) : (encOf R).2 = 0 ∨ encOf R = ([], 170) ∨ encOf R = ([], 171) := by
  unfold encOf
  by_cases hk : R.kind < 1 ∨ 12 < R.kind
  · rw [if_pos hk]
    exact .inr (.inl rfl)
  rw [if_neg hk]
  by_cases hp : plainOf R = false
  · rw [if_pos hp]
    exact .inr (.inr rfl)
  rw [if_neg hp]
  unfold framedW
  by_cases h0 : (fieldsOf (wByte ([], 0) R.kind) R).2 ≠ 0
  · rw [if_pos h0]
    exact .inr (.inr rfl)
  rw [if_neg h0]
  have := fields_small (R := R) (by omega) (by omega) (by simpa using hp) (by simpa using h0)
  have hf : framed (fieldsOf (wByte ([], 0) R.kind) R).1 = (digs (fieldsOf (wByte ([], 0) R.kind) R).1.length ++ (fieldsOf (wByte ([], 0) R.kind) R).1, 0) := by
    unfold framed
    rw [if_neg (by omega)]
  rw [hf]
  exact .inl rfl
theorem encOf_fine {R : Req} (h : (encOf R).2 = 0) (hw : wt R ≤ 9223372036854775807) : Fine R := by
  unfold encOf at h
  by_cases hk : R.kind < 1 ∨ 12 < R.kind
  · rw [if_pos hk] at h
    exact absurd h (by decide)
  rw [if_neg hk] at h
  by_cases hp : plainOf R = false
  · rw [if_pos hp] at h
    exact absurd h (by decide)
  rw [if_neg hp] at h
  have hpt : plainOf R = true := by simpa using hp
  have hp' := hpt
  rw [plainOf_eq] at hp'
  simp only [Bool.and_eq_true, Bool.not_eq_true'] at hp'
  unfold framedW at h
  by_cases h0 : (fieldsOf (wByte ([], 0) R.kind) R).2 ≠ 0
  · rw [if_pos h0] at h
    exact absurd h (by decide)
  have h0' : (fieldsOf (wByte ([], 0) R.kind) R).2 = 0 := by simpa using h0
  have hfine : ∀ x ∈ R.asks, Fine x := by
    by_cases h12 : R.kind = 12
    · unfold fieldsOf at h0'
      rw [if_pos h12] at h0'
      have key : ∀ (qs : List Req) (st : WSt), plainAll qs = true → (partsOf st qs).2 = 0 → ∀ x ∈ qs, Fine x := by
        intro qs
        induction qs with
        | nil => intro _ _ _ x hx; simp at hx
        | cons y qs ih =>
          intro st hp h x hx
          rw [plainAll_cons, Bool.and_eq_true] at hp
          rw [partsOf] at h
          split at h
          · exact absurd h (wNum_minus st)
          · rename_i hk
            have hk3 : 3 ≤ y.kind ∧ y.kind ≤ 7 := by simp [inPart] at hk; omega
            rcases List.mem_cons.1 hx with rfl | hx
            · have h1 := (round_parts 0 qs _ hp.2 h).1
              have h2 := flat_small h1 hk3 hp.1
              have hq := hp.1
              rw [plainOf_eq] at hq
              simp only [Bool.and_eq_true, Bool.not_eq_true'] at hq
              have ha := (spare_fields hq.1).2.2.2.2.2 (by unfold whichOf; simp; omega)
              obtain ⟨k, a, b, s, l, e, qq⟩ := x
              simp only [Req.asks] at ha
              subst ha
              simp only [wtF, Req.list, Req.entries] at h2
              rw [Fine]
              exact ⟨by omega, by omega, by rw [FineAll]; trivial⟩
            · exact ih _ hp.2 h x hx
      exact key _ _ hp'.2 h0'
    · have : R.asks = [] := (spare_fields hp'.1).2.2.2.2.2 (by unfold whichOf; simp; exact h12)
      rw [this]
      intro x hx
      simp at hx
  obtain ⟨k, a, b, s, l, e, qq⟩ := R
  simp only [wt, wtF, Req.list, Req.entries] at hw
  rw [Fine]
  exact ⟨by omega, by omega, FineAll.of hfine⟩
end Go.Proofs.YtpccaodkgboefaaDoor

namespace Go.Proofs.YtpccaodkgboefaaDoor
open Go.RowKit

set_option maxRecDepth 100000 in
theorem addsUp_any (a b : Nat) (w : World) (ha : a ≤ 2147483647) (hb : b ≤ 2147483647) :
    Calls Tryd.prog 6 #[.int .i64 (a : Int), .int .i64 (b : Int)] w fun e w' => e = .returned (.int .i64 ((a + b : Nat) : Int)) ∧ w = w' := by
  go_enter Tryd.func6, Tryd.ntmps6
  go_wp2_with fail
  go_ret
  exact ⟨by simp, rfl⟩
end Go.Proofs.YtpccaodkgboefaaDoor

namespace Go.Proofs.YtpccaodkgboefaaDoor
open Go.RowKit

theorem wpList_pushN {P : Program} {ops : Array Oper} {rest : List Oper} {o : Oper} {a : Act} {Q : Exit → Act → World → Prop} (hgd : o.guard = none) (s x : Operand) (t : TypeId)
    (ho : o.op = .call { callee := .builtin .append, args := #[s, x], argTypes := #[t, t] })
    (e : TypeId) (i : TypeInfo) (z : Value) (size bytes : Nat) (ht : P.underlying t = some (.slice e)) (hi : P.info? e = some i) (hz : i.zero = some z) (hsize : i.size = size) (hby : i.bytes = bytes) (hzs : z.cells.size = size) (hsz : 0 < size)
    {v : Value} {n : Nat} {xs : List Value} (w0 : World) (hown : w0.ownsRow 0 e size v n xs) (us : Array Value) (hul : us.size = size) (hs : a.eval s = v) (hx : a.eval x = .slice (some ⟨w0.heap.size, 0, none⟩) 1 1) (hone : ∀ u ∈ us.toList, u.oneCell' = true)
    (hb : (n + 1) * bytes ≤ 140737488355328) (hn : n + 1 ≤ maxLen)
    (h : ∀ v' w', Appended e size w0 w' v v' (n + 1) (xs ++ us.toList) → wpList P ops Q rest (a.put o.dst v') w') : wpList P ops Q (o :: rest) a (w0.alloc (.cells us e)) := by
  refine wpList_plain hgd fun K hK => ?_
  have hnew := heap_alloc_new w0 (.cells us e)
  have hsrc : Src P size t (.slice (some ⟨w0.heap.size, 0, none⟩) 1 1) 1 us.toList (w0.alloc (.cells us e)) := Src.ofSlice _ ht _ 1 1 us.toList (by simp; omega) (fun j y hj => by
    rw [addr_add0, cell_at hnew]
    simpa using hj) (fun y hy => hone y hy)
  obtain ⟨v', w', hr, ⟨h1, h2, h3⟩, h4⟩ := run_append_row (P := P) (w0.alloc (.cells us e)) t t o.type e i z size bytes ht hi hz hsize hby hzs hsz v n xs (hown.alloc _) _ 1 us.toList hsrc hn hb
  unfold Oper.wp
  simp [execOp, ho, resolve, invoke, builtin, hs, hx, hr, Result.andThen]
  refine hK _ _ (h v' w' ⟨h1, ((Keeps.refl _ w0).alloc _).trans h2, fun g hg => ?_⟩)
  rcases h3 g hg with h | h
  · exact .inl h
  · have := h.1; simp at this; exact .inr ⟨by omega, h.2⟩

/-- requests in a row of cells -/
def ElemsAt (B : Nat → Prop) (w : World) : List Req → List Value → Prop
  | [], vs => vs = []
  | x :: r, vs => ∃ c0 c1 c2 c3 c4 c5 c6 us, vs = c0 :: c1 :: c2 :: c3 :: c4 :: c5 :: c6 :: us ∧ ReqAt B w x (.agg #[c0, c1, c2, c3, c4, c5, c6]) ∧ ElemsAt B w r us
theorem ElemsAt.snoc {B : Nat → Prop} {w : World} {x : Req} {c0 c1 c2 c3 c4 c5 c6 : Value} (hx : ReqAt B w x (.agg #[c0, c1, c2, c3, c4, c5, c6])) : ∀ {A : List Req} {vs : List Value}, ElemsAt B w A vs → ElemsAt B w (A ++ [x]) (vs ++ [c0, c1, c2, c3, c4, c5, c6])
  | [], vs, h => by
    rw [ElemsAt] at h
    subst h
    exact ⟨c0, c1, c2, c3, c4, c5, c6, [], rfl, hx, by rw [ElemsAt]⟩
  | y :: r, vs, h => by
    rw [ElemsAt] at h
    obtain ⟨d0, d1, d2, d3, d4, d5, d6, us, rfl, hy, hr⟩ := h
    exact ⟨d0, d1, d2, d3, d4, d5, d6, _, rfl, hy, ElemsAt.snoc hx hr⟩
theorem ElemsAt.keeps {B : Nat → Prop} {w w' : World} (f : Fresh w w') : ∀ {A : List Req} {vs : List Value}, ElemsAt B w A vs → ElemsAt B w' A vs
  | [], vs, h => by rw [ElemsAt] at h ⊢; exact h
  | y :: r, vs, h => by
    rw [ElemsAt] at h ⊢
    obtain ⟨d0, d1, d2, d3, d4, d5, d6, us, e, hy, hr⟩ := h
    exact ⟨d0, d1, d2, d3, d4, d5, d6, us, e, hy.fresh f, ElemsAt.keeps f hr⟩
theorem ElemsAt.get {B : Nat → Prop} {w : World} : ∀ {A : List Req} {vs : List Value}, ElemsAt B w A vs → ∀ {k : Nat} {x : Req}, A[k]? = some x → ∃ c0 c1 c2 c3 c4 c5 c6, vs[7 * k]? = some c0 ∧ vs[7 * k + 1]? = some c1 ∧ vs[7 * k + 2]? = some c2 ∧ vs[7 * k + 3]? = some c3 ∧ vs[7 * k + 4]? = some c4 ∧ vs[7 * k + 5]? = some c5 ∧ vs[7 * k + 6]? = some c6 ∧ ReqAt B w x (.agg #[c0, c1, c2, c3, c4, c5, c6])
  | [], vs, _, k, x, hk => by simp at hk
  | y :: r, vs, h, 0, x, hk => by
    rw [ElemsAt] at h
    obtain ⟨d0, d1, d2, d3, d4, d5, d6, us, rfl, hy, hr⟩ := h
    simp at hk
    subst hk
    exact ⟨d0, d1, d2, d3, d4, d5, d6, rfl, rfl, rfl, rfl, rfl, rfl, rfl, hy⟩
  | y :: r, vs, h, k + 1, x, hk => by
    rw [ElemsAt] at h
    obtain ⟨d0, d1, d2, d3, d4, d5, d6, us, rfl, hy, hr⟩ := h
    obtain ⟨c0, c1, c2, c3, c4, c5, c6, e0, e1, e2, e3, e4, e5, e6, hx⟩ := hr.get (k := k) (x := x) (by simpa using hk)
    exact ⟨c0, c1, c2, c3, c4, c5, c6, by simpa [Nat.mul_add] using e0, by simpa [Nat.mul_add, Nat.add_right_comm] using e1, by simpa [Nat.mul_add, Nat.add_right_comm] using e2, by simpa [Nat.mul_add, Nat.add_right_comm] using e3, by simpa [Nat.mul_add, Nat.add_right_comm] using e4, by simpa [Nat.mul_add, Nat.add_right_comm] using e5, by simpa [Nat.mul_add, Nat.add_right_comm] using e6, hx⟩

/-- the requests that are taken, and their frames in a row -/
def goods (l : List Req) : List Req := l.filter fun x => decide ((encOf x).2 = 0)
def framesOf (l : List Req) : List UInt8 := l.flatMap fun x => (encOf x).1
theorem goods_snoc {l : List Req} {k : Nat} {x : Req} (h : l[k]? = some x) : goods (l.take (k + 1)) = goods (l.take k) ++ if (encOf x).2 = 0 then [x] else [] := by
  rw [List.take_add_one, h]
  unfold goods
  rw [List.filter_append]
  congr 1
  by_cases h0 : (encOf x).2 = 0 <;> simp [h0]
theorem framesOf_snoc (l : List Req) (x : Req) : framesOf (l ++ [x]) = framesOf l ++ (encOf x).1 := by simp [framesOf]
theorem goods_good {l : List Req} {k : Nat} {x : Req} (h : (goods l)[k]? = some x) : (encOf x).2 = 0 := by
  have := List.mem_of_getElem? h
  simp [goods] at this
  exact this.2
theorem encOf_first {x : Req} (h : (encOf x).2 = 0) : 0 < (encOf x).1.length ∧ (encOf x).1.length ≤ 1048586 := by
  obtain ⟨p, hp, he, _⟩ := encOf_frame h
  have h1 := digs_pos p.length
  have h2 := digs_len10 (n := p.length) (by omega)
  rw [he]
  simp only [List.length_append]
  omega
end Go.Proofs.YtpccaodkgboefaaDoor

namespace Go.Proofs.YtpccaodkgboefaaDoor
open Go.RowKit

set_option maxRecDepth 100000 in
theorem pick_any (x : Int) (n : Nat) (w : World) (hn : 0 < n) (hn2 : n ≤ 9223372036854775807) (hx : -9223372036854775808 ≤ x) (hx2 : x ≤ 9223372036854775807) :
    Calls Tryd.prog 11 #[.int .i64 x, .int .i64 (n : Int)] w fun e w' => ∃ r : Nat, e = .returned (.int .i64 (r : Int)) ∧ r < n ∧ w = w' := by
  have fin : ∀ y : Int, 0 ≤ y → ∃ r : Nat, y.tmod (n : Int) = (r : Int) ∧ r < n := fun y hy => by
    have h1 := Int.tmod_nonneg (n : Int) hy
    have h2 := Int.tmod_lt_of_pos y (show (0 : Int) < (n : Int) by omega)
    exact ⟨(y.tmod (n : Int)).toNat, by omega, by omega⟩
  have hn0 : ¬ (n : Int) = 0 := by omega
  by_cases h : x < 0
  · obtain ⟨r, hr, hlt⟩ := fin (-(x + 1)) (by omega)
    go_enter Tryd.func11, Tryd.ntmps11
    go_wp2_with fail
    go_ret
    exact ⟨r, by rw [← hr]; rfl, hlt, rfl⟩
  · obtain ⟨r, hr, hlt⟩ := fin x (by omega)
    go_enter Tryd.func11, Tryd.ntmps11
    go_wp2_with fail
    go_ret
    exact ⟨r, by rw [← hr]; rfl, hlt, rfl⟩
end Go.Proofs.YtpccaodkgboefaaDoor
