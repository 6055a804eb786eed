/-
  'append' of one struct that lies in a block of its own, within a statement whose order is drawn; a struct stored into a row. No program is in sight.
  'append' of a struct that was built in place. No program is in sight.
  Package message: read: what is under way.
  Package message: read: one more request of a group is taken and appended.
-/
import Derived.Test.YtpccaodkgboefaaGreatDoorMShaA
import Derived.Test.YtpccaodkgboefaaGreatDoorMMsC
import Derived.Test.YtpccaodkgboefaaGreatDoorMsOwn
import Derived.Test.YtpccaodkgboefaaGreatDoorCxListsB
import Derived.Deep.RegionLaw
namespace Go.Proofs.YtpccaodkgboefaaGreatDoor
open Go.RowKit

theorem step_push_at {P : Program} {ops : Array Oper} {o : Oper} {a : Act} {K : Act → World → Prop} {Q : Exit → Act → World → Prop} {F : Prop} (hgd : o.guard = none) (s x : Operand) (t : TypeId)
    (ho : o.op = .call { callee := .builtin .append, args := #[s, x], argTypes := #[t, t] })
    (e : TypeId) (i : TypeInfo) (z : Value) (size bytes : Nat) (ht : P.underlying t = some (.slice e)) (hi : P.info? e = some i) (hz : i.zero = some z) (hsize : i.size = size) (hby : i.bytes = bytes) (hzs : z.cells.size = size) (hsz : 0 < size)
    {v : Value} {n : Nat} {xs : List Value} (w : World) (hown : w.ownsRow 0 e size v n xs) (g : Nat) (us : List Value) (hul : us.length = size) (hg : w.heap[g]? = some (.cells us.toArray e (0, 0))) (hone : ∀ u ∈ us, u.oneCell' = true)
    (hs : a.eval s = v) (hx : a.eval x = .slice (some ⟨g, 0, none⟩) 1 1)
    (hb : (n + 1) * bytes ≤ 140737488355328) (hn : n + 1 ≤ maxLen)
    (h : ∀ v' w', Appended e size w w' v v' (n + 1) (xs ++ us) → K (a.put o.dst v') w') :
    if Region.wanted o (yielded ops a.tmps) = true then Oper.wp P o a w K Q else F := by
  have hw : Region.wanted o (yielded ops a.tmps) = true := by simp [Region.wanted, hgd]
  rw [if_pos hw]
  have hsrc : Src P size t (.slice (some ⟨g, 0, none⟩) 1 1) 1 us w := Src.ofSlice _ ht _ 1 1 us (by omega) (fun j y hj => by
    rw [addr_add0, cell_at hg]
    simpa using hj) (fun y hy => hone y hy)
  obtain ⟨v', w', hr, h1, h4⟩ := run_append_row (P := P) w t t o.type e i z size bytes ht hi hz hsize hby hzs hsz v n xs hown _ 1 us hsrc hn hb
  unfold Oper.wp
  simp [execOp, ho, resolve, invoke, builtin, hs, hx, hr, Result.andThen]
  exact h v' w' h1

/-- some cells of an owned row are stored anew -/
theorem ownsRow_put {w : World} {base : Nat} {e : TypeId} {size n cap g : Nat} {xs : List Value} (h : w.ownsRow base e size (.slice (some ⟨g, 0, none⟩) n cap) n xs) (o : Nat) (u : Value) (_ho : o < xs.length) :
    (w.setCell ⟨g, o, none⟩ u).ownsRow base e size (.slice (some ⟨g, 0, none⟩) n cap) n (xs.set o u) := by
  refine ⟨by simpa using h.1, ?_⟩
  rcases h.2 with ⟨he, h0⟩ | ⟨g', cap', cur, he, hb, hg, h1, h2, h3, h4⟩
  · cases he
  · injection he with e1 e2 e3
    injection e1 with e1
    injection e1 with e1
    subst e1
    subst e3
    refine .inr ⟨g, cap, cur.setIfInBounds o u, rfl, hb, heap_setCell_at hg o u, h1, h2, by simpa using h3, ?_⟩
    have hl := h.1
    rw [← h4]
    simp [List.take_set]
end Go.Proofs.YtpccaodkgboefaaGreatDoor

namespace Go.Proofs.YtpccaodkgboefaaGreatDoor
open Go.RowKit

theorem wpList_pushN {P : Program} {ops : Array Oper} {rest : List Oper} {o : Oper} {a : Act} {Q : Exit → Act → World → Prop} (hgd : o.guard = none) (s x : Operand) (t : TypeId)
    (ho : o.op = .call { callee := .builtin .append, args := #[s, x], argTypes := #[t, t] })
    (e : TypeId) (i : TypeInfo) (z : Value) (size bytes : Nat) (ht : P.underlying t = some (.slice e)) (hi : P.info? e = some i) (hz : i.zero = some z) (hsize : i.size = size) (hby : i.bytes = bytes) (hzs : z.cells.size = size) (hsz : 0 < size)
    {v : Value} {n : Nat} {xs : List Value} (w0 : World) (hown : w0.ownsRow 0 e size v n xs) (us : Array Value) (hul : us.size = size) (hs : a.eval s = v) (hx : a.eval x = .slice (some ⟨w0.heap.size, 0, none⟩) 1 1) (hone : ∀ u ∈ us.toList, u.oneCell' = true)
    (hb : (n + 1) * bytes ≤ 140737488355328) (hn : n + 1 ≤ maxLen)
    (h : ∀ v' w', Appended e size w0 w' v v' (n + 1) (xs ++ us.toList) → wpList P ops Q rest (a.put o.dst v') w') : wpList P ops Q (o :: rest) a (w0.alloc (.cells us e)) := by
  refine wpList_plain hgd fun K hK => ?_
  have hnew := heap_alloc_new w0 (.cells us e)
  have hsrc : Src P size t (.slice (some ⟨w0.heap.size, 0, none⟩) 1 1) 1 us.toList (w0.alloc (.cells us e)) := Src.ofSlice _ ht _ 1 1 us.toList (by simp; omega) (fun j y hj => by
    rw [addr_add0, cell_at hnew]
    simpa using hj) (fun y hy => hone y hy)
  obtain ⟨v', w', hr, ⟨h1, h2, h3⟩, h4⟩ := run_append_row (P := P) (w0.alloc (.cells us e)) t t o.type e i z size bytes ht hi hz hsize hby hzs hsz v n xs (hown.alloc _) _ 1 us.toList hsrc hn hb
  unfold Oper.wp
  simp [execOp, ho, resolve, invoke, builtin, hs, hx, hr, Result.andThen]
  refine hK _ _ (h v' w' ⟨h1, ((Keeps.refl _ w0).alloc _).trans h2, fun g hg => ?_⟩)
  rcases h3 g hg with h | h
  · exact .inl h
  · have := h.1; simp at this; exact .inr ⟨by omega, h.2⟩
end Go.Proofs.YtpccaodkgboefaaGreatDoor

namespace Go.Proofs.YtpccaodkgboefaaGreatDoor
open Go.RowKit

abbrev zeroReq : Array Value := #[.int .i64 0, .int .i64 0, .int .i64 0, .int .i64 0, .slice none 0 0, .slice none 0 0, .slice none 0 0]
/-- a Reader under way, three structs beside it: S, w: where the call began -/
structure RGo (S : Nat → Prop) (w : World) (b b4 b5 b6 : Nat) (hv cs : Array Value) (S1 : Nat → Prop) (w1 : World) (r1 : RSt) : Prop where
  rep : RRep S1 w1 b r1
  grows : Grows S S1 w w1
  keeps : Keeps S w w1
  box4 : w1.heap[b4]? = some (.cells zeroReq 26 (0, 0))
  box5 : w1.heap[b5]? = some (.cells cs 26 (0, 0))
  box6 : w1.heap[b6]? = some (.cells hv 94 (0, 0))
  n4 : w.heap.size ≤ b4
  n5 : w.heap.size ≤ b5
  n6 : w.heap.size ≤ b6
  o4 : ¬ S1 b4
  o5 : ¬ S1 b5
  o6 : ¬ S1 b6
  d45 : b4 ≠ b5
section
variable {S S1 : Nat → Prop} {w w1 w2 : World} {b b4 b5 b6 : Nat} {hv cs : Array Value} {r1 r2 : RSt}
theorem RGo.call {S2 : Nat → Prop} (h : RGo S w b b4 b5 b6 hv cs S1 w1 r1) (hg : Grows S1 S2 w1 w2) (hk : Keeps S1 w1 w2) (hr : RRep S2 w2 b r2) : RGo S w b b4 b5 b6 hv cs S2 w2 r2 := by
  obtain ⟨S3, g1, g2, g3⟩ := Acts.after (R := fun S' => S' = S2) h.grows h.keeps ⟨S2, hg, hk, rfl⟩
  subst g3
  have l4 := lt_of_block h.box4
  have l5 := lt_of_block h.box5
  have l6 := lt_of_block h.box6
  have no : ∀ q, q < w1.heap.size → ¬ S1 q → ¬ S3 q := fun q hq hn h3 => by
    rcases hg q h3 with h1 | h1
    · exact hn h1
    · omega
  exact ⟨hr, g1, g2, hk.at_ h.box4 h.o4, hk.at_ h.box5 h.o5, hk.at_ h.box6 h.o6, h.n4, h.n5, h.n6, no _ l4 h.o4, no _ l5 h.o5, no _ l6 h.o6, h.d45⟩
theorem RGo.other {T : Nat → Prop} (h : RGo S w b b4 b5 b6 hv cs S1 w1 r1) (hk : Keeps T w1 w2) (hT : ∀ q, T q → w.heap.size ≤ q ∧ ¬ S1 q ∧ q ≠ b4 ∧ q ≠ b5 ∧ q ≠ b6) : RGo S w b b4 b5 b6 hv cs S1 w2 r1 :=
  ⟨h.rep.keeps hk (fun k hs ht => (hT k ht).2.1 hs), fun k hs => (h.grows k hs).imp id (fun h => ⟨h.1, Nat.lt_of_lt_of_le h.2 hk.size⟩), h.keeps.trans' hk (fun q hq ht => by have := (hT q ht).1; omega), hk.at_ h.box4 (fun ht => (hT _ ht).2.2.1 rfl), hk.at_ h.box5 (fun ht => (hT _ ht).2.2.2.1 rfl), hk.at_ h.box6 (fun ht => (hT _ ht).2.2.2.2 rfl),
    h.n4, h.n5, h.n6, h.o4, h.o5, h.o6, h.d45⟩
theorem RGo.fresh (h : RGo S w b b4 b5 b6 hv cs S1 w1 r1) (hk : Fresh w1 w2) : RGo S w b b4 b5 b6 hv cs S1 w2 r1 := h.other hk (fun _ h => h.elim)
theorem RGo.ne56 (h : RGo S w b b4 b5 b6 hv cs S1 w1 r1) : b5 ≠ b6 ∧ b4 ≠ b6 := by
  refine ⟨fun e => ?_, fun e => ?_⟩
  · have := h.box5
    rw [e, h.box6] at this
    injection this with this
    injection this with _ this
    revert this
    decide
  · have := h.box4
    rw [e, h.box6] at this
    injection this with this
    injection this with _ this
    revert this
    decide
theorem RGo.put5 (h : RGo S w b b4 b5 b6 hv cs S1 w1 r1) (o : Nat) (u : Value) : RGo S w b b4 b5 b6 hv (cs.setIfInBounds o u) S1 (w1.setCell ⟨b5, o, none⟩ u) r1 := by
  have hk : Keeps (fun q => q = b5) w1 (w1.setCell ⟨b5, o, none⟩ u) := Keeps.setCell (S := fun q => q = b5) (p := ⟨b5, o, none⟩) (Keeps.refl _ _) (fun _ => rfl) _
  have n5 := h.n5
  exact ⟨h.rep.keeps hk (fun k hs (e : k = b5) => h.o5 (by rw [← e]; exact hs)), fun k hs => (h.grows k hs).imp id (fun h => ⟨h.1, Nat.lt_of_lt_of_le h.2 hk.size⟩), h.keeps.trans' hk (fun q hq (e : q = b5) => by omega), hk.at_ h.box4 (fun (e : b4 = b5) => h.d45 e), heap_setCell_at h.box5 o u, hk.at_ h.box6 (fun (e : b6 = b5) => h.ne56.1 e.symm),
    h.n4, h.n5, h.n6, h.o4, h.o5, h.o6, h.d45⟩
end

theorem fromFresh {S S1 : Nat → Prop} {w w1 : World} {b b4 b5 b6 : Nat} {hv cs : Array Value} {r1 : RSt} (h : RGo S w b b4 b5 b6 hv cs S1 w1 r1) : w.heap.size ≤ w1.heap.size := h.keeps.size

/-- read under way: what stands in the struct so far, its lists in blocks of their own -/
structure RUw (S : Nat → Prop) (w : World) (b b4 b5 b6 : Nat) (hv : Array Value) (k a bb s : Int) (l : List Int) (e : List (List UInt8)) (qs : List Req) (lv ev av : Value) (bl : List Nat) (S1 : Nat → Prop) (w1 : World) (r1 : RSt) : Prop where
  go : RGo S w b b4 b5 b6 hv #[.int .i64 k, .int .i64 a, .int .i64 bb, .int .i64 s, lv, ev, av] S1 w1 r1
  own : ReqOwn w1 (.mk k a bb s l e qs) (.agg #[.int .i64 k, .int .i64 a, .int .i64 bb, .int .i64 s, lv, ev, av]) bl
  nodup : bl.Nodup
  new : ∀ q ∈ bl, ¬ S1 q ∧ w.heap.size ≤ q ∧ q ≠ b4 ∧ q ≠ b5 ∧ q ≠ b6

theorem ownsRow_new {w : World} {t : TypeId} {n size : Nat} {v : Value} {xs : List Value} (h : w.ownsRow 0 t size v n xs) {k : Nat} {cs : Array Value} {t' : TypeId} (hb : w.heap[k]? = some (.cells cs t' (0, 0))) (ht : t' ≠ t) : v.ownBlock ≠ some k := by
  intro he
  rcases h.2 with ⟨rfl, -⟩ | ⟨g, cap, cur, rfl, -, hg, -⟩
  · cases he
  · simp [Value.ownBlock] at he
    subst he
    rw [hg] at hb
    injection hb with hb
    injection hb with _ hb
    exact ht hb.symm

section
variable {S S1 S2 : Nat → Prop} {w w1 w2 : World} {b b4 b5 b6 : Nat} {hv : Array Value} {k a bb s : Int} {l : List Int} {e : List (List UInt8)} {qs : List Req} {lv ev av : Value} {bl : List Nat} {r1 r2 : RSt}
theorem RUw.call (h : RUw S w b b4 b5 b6 hv k a bb s l e qs lv ev av bl S1 w1 r1) (hg : Grows S1 S2 w1 w2) (hk : Keeps S1 w1 w2) (hr : RRep S2 w2 b r2) : RUw S w b b4 b5 b6 hv k a bb s l e qs lv ev av bl S2 w2 r2 :=
  ⟨h.go.call hg hk hr, ReqOwn.lift hk h.own (fun q hq => (h.new q hq).1), h.nodup, fun q hq => ⟨fun h2 => by
    rcases hg q h2 with h3 | h3
    · exact (h.new q hq).1 h3
    · have := ReqOwn.there _ _ _ h.own q hq; omega, (h.new q hq).2⟩⟩
theorem RUw.fresh (h : RUw S w b b4 b5 b6 hv k a bb s l e qs lv ev av bl S1 w1 r1) (hk : Fresh w1 w2) : RUw S w b b4 b5 b6 hv k a bb s l e qs lv ev av bl S1 w2 r1 :=
  ⟨h.go.fresh hk, ReqOwn.fresh hk h.own, h.nodup, h.new⟩
theorem RUw.set {k' a' bb' s' : Int} {l' : List Int} {e' : List (List UInt8)} {qs' : List Req} {lv' ev' av' : Value} {bl' : List Nat} (h : RUw S w b b4 b5 b6 hv k a bb s l e qs lv ev av bl S1 w1 r1) (o : Nat) (u : Value)
    (hcs : (#[.int .i64 k, .int .i64 a, .int .i64 bb, .int .i64 s, lv, ev, av] : Array Value).setIfInBounds o u = #[.int .i64 k', .int .i64 a', .int .i64 bb', .int .i64 s', lv', ev', av'])
    (hown : ReqOwn w1 (.mk k' a' bb' s' l' e' qs') (.agg #[.int .i64 k', .int .i64 a', .int .i64 bb', .int .i64 s', lv', ev', av']) bl') (hnd : bl'.Nodup) (hnew : ∀ q ∈ bl', ¬ S1 q ∧ w.heap.size ≤ q ∧ q ≠ b4 ∧ q ≠ b5 ∧ q ≠ b6) :
    RUw S w b b4 b5 b6 hv k' a' bb' s' l' e' qs' lv' ev' av' bl' S1 (w1.setCell ⟨b5, o, none⟩ u) r1 := by
  refine ⟨?_, ReqOwn.keeps (T := fun q => q = b5) (Keeps.setCell (S := fun q => q = b5) (p := ⟨b5, o, none⟩) (Keeps.refl _ _) (fun _ => rfl) _) _ _ _ hown (fun q hq => (hnew q hq).2.2.2.1), hnd, hnew⟩
  rw [← hcs]
  exact h.go.put5 o u
theorem RUw.num1 (h : RUw S w b b4 b5 b6 hv k a bb s l e qs lv ev av bl S1 w1 r1) (n : Int) : RUw S w b b4 b5 b6 hv k n bb s l e qs lv ev av bl S1 (w1.setCell ⟨b5, 1, none⟩ (.int .i64 n)) r1 := by
  refine h.set 1 _ rfl ?_ h.nodup h.new
  have := h.own
  rw [ReqOwn] at this ⊢
  obtain ⟨lv', ev', av', cs, b1, he, h1, h2, h3, h4, h5⟩ := this
  simp only [Value.agg.injEq, Array.mk.injEq, List.cons.injEq, and_true, true_and] at he
  obtain ⟨rfl, rfl, rfl⟩ := he
  exact ⟨_, _, _, cs, b1, rfl, h1, h2, h3, h4, h5⟩
theorem RUw.num2 (h : RUw S w b b4 b5 b6 hv k a bb s l e qs lv ev av bl S1 w1 r1) (n : Int) : RUw S w b b4 b5 b6 hv k a n s l e qs lv ev av bl S1 (w1.setCell ⟨b5, 2, none⟩ (.int .i64 n)) r1 := by
  refine h.set 2 _ rfl ?_ h.nodup h.new
  have := h.own
  rw [ReqOwn] at this ⊢
  obtain ⟨lv', ev', av', cs, b1, he, h1, h2, h3, h4, h5⟩ := this
  simp only [Value.agg.injEq, Array.mk.injEq, List.cons.injEq, and_true, true_and] at he
  obtain ⟨rfl, rfl, rfl⟩ := he
  exact ⟨_, _, _, cs, b1, rfl, h1, h2, h3, h4, h5⟩
theorem RUw.num3 (h : RUw S w b b4 b5 b6 hv k a bb s l e qs lv ev av bl S1 w1 r1) (n : Int) : RUw S w b b4 b5 b6 hv k a bb n l e qs lv ev av bl S1 (w1.setCell ⟨b5, 3, none⟩ (.int .i64 n)) r1 := by
  refine h.set 3 _ rfl ?_ h.nodup h.new
  have := h.own
  rw [ReqOwn] at this ⊢
  obtain ⟨lv', ev', av', cs, b1, he, h1, h2, h3, h4, h5⟩ := this
  simp only [Value.agg.injEq, Array.mk.injEq, List.cons.injEq, and_true, true_and] at he
  obtain ⟨rfl, rfl, rfl⟩ := he
  exact ⟨_, _, _, cs, b1, rfl, h1, h2, h3, h4, h5⟩
theorem RUw.rows (h : RUw S w b b4 b5 b6 hv k a bb s l e qs lv ev av bl S1 w1 r1) : ∃ cs b1, w1.ownsRow 0 3 1 lv l.length (ints l) ∧ w1.ownsRow 0 9 1 ev e.length (texts e) ∧ w1.ownsRow 0 26 7 av qs.length cs ∧ ElemsOwn w1 qs cs b1 ∧ bl = lv.ownBlock.toList ++ (ev.ownBlock.toList ++ (av.ownBlock.toList ++ b1)) := by
  have := h.own
  rw [ReqOwn] at this
  obtain ⟨lv', ev', av', cs, b1, he, h1, h2, h3, h4, h5⟩ := this
  simp only [Value.agg.injEq, Array.mk.injEq, List.cons.injEq, and_true, true_and] at he
  obtain ⟨rfl, rfl, rfl⟩ := he
  exact ⟨cs, b1, h1, h2, h3, h4, h5⟩
theorem RUw.list {l' : List Int} {v : Value} (h : RUw S w b b4 b5 b6 hv k a bb s l e qs lv ev av bl S1 w1 r1) (hlv : lv.ownBlock = none) (hrow : w1.ownsRow 0 3 1 v l'.length (ints l')) (hn : ∀ g, v.ownBlock = some g → ¬ S1 g ∧ w.heap.size ≤ g ∧ g ∉ bl) :
    ∃ bl', RUw S w b b4 b5 b6 hv k a bb s l' e qs v ev av bl' S1 (w1.setCell ⟨b5, 4, none⟩ v) r1 := by
  obtain ⟨cs, b1, h1, h2, h3, h4, h5⟩ := h.rows
  rw [hlv] at h5
  simp only [Option.toList_none, List.nil_append] at h5
  refine ⟨v.ownBlock.toList ++ bl, h.set 4 v rfl ?_ ?_ ?_⟩
  · rw [ReqOwn]
    exact ⟨v, ev, av, cs, b1, rfl, hrow, h2, h3, h4, by rw [h5]⟩
  · rw [List.nodup_append]
    refine ⟨by cases v.ownBlock <;> simp, h.nodup, fun x hx y hy => ?_⟩
    rintro rfl
    exact (hn x (mem_ownBlock.1 hx)).2.2 hy
  · intro q hq
    rcases List.mem_append.1 hq with hq | hq
    · have hq := mem_ownBlock.1 hq
      refine ⟨(hn q hq).1, (hn q hq).2.1, ?_, ?_, ?_⟩ <;> rintro rfl
      · exact ownsRow_new hrow h.go.box4 (by decide) hq
      · exact ownsRow_new hrow h.go.box5 (by decide) hq
      · exact ownsRow_new hrow h.go.box6 (by decide) hq
    · exact h.new q hq
theorem RUw.entries {e' : List (List UInt8)} {v : Value} (h : RUw S w b b4 b5 b6 hv k a bb s l [] [] (.slice none 0 0) (.slice none 0 0) (.slice none 0 0) [] S1 w1 r1) (hl : l = []) (hrow : w1.ownsRow 0 9 1 v e'.length (texts e')) (hn : ∀ g, v.ownBlock = some g → ¬ S1 g ∧ w.heap.size ≤ g) :
    ∃ bl', RUw S w b b4 b5 b6 hv k a bb s [] e' [] (.slice none 0 0) v (.slice none 0 0) bl' S1 (w1.setCell ⟨b5, 5, none⟩ v) r1 := by
  subst hl
  refine ⟨v.ownBlock.toList, h.set 5 v rfl ?_ (by cases v.ownBlock <;> simp) ?_⟩
  · rw [ReqOwn]
    exact ⟨_, v, _, [], [], rfl, World.ownsRow_nil _ _ _ _, hrow, World.ownsRow_nil _ _ _ _, by rw [ElemsOwn]; exact ⟨rfl, rfl⟩, by simp [Value.ownBlock]⟩
  · intro q hq
    have hq := mem_ownBlock.1 hq
    refine ⟨(hn q hq).1, (hn q hq).2, ?_, ?_, ?_⟩ <;> rintro rfl
    · exact ownsRow_new hrow h.go.box4 (by decide) hq
    · exact ownsRow_new hrow h.go.box5 (by decide) hq
    · exact ownsRow_new hrow h.go.box6 (by decide) hq
end
end Go.Proofs.YtpccaodkgboefaaGreatDoor

namespace Go.Proofs.YtpccaodkgboefaaGreatDoor
open Go.RowKit

/-- the state within the statement that appends; X: what has been read, once it has -/
structure Mid (S : Nat → Prop) (w : World) (b b4 b5 b6 : Nat) (hv : Array Value) (k : Int) (A : List Req) (csA : List Value) (blA : List Nat) (Z : Option Nat) (X : Option (Req × Value × List Nat)) (av : Value) (n : Nat) (cs : List Value) (c6 : Value) (S1 : Nat → Prop) (W : World) (r1 : RSt) : Prop where
  go : RGo S w b b4 b5 b6 hv #[.int .i64 k, .int .i64 0, .int .i64 0, .int .i64 0, .slice none 0 0, .slice none 0 0, c6] S1 W r1
  row : W.ownsRow 0 26 7 av n cs
  elems : ElemsOwn W A csA blA
  nodup : (av.ownBlock.toList ++ blA).Nodup
  new : ∀ q ∈ av.ownBlock.toList ++ blA, ¬ S1 q ∧ w.heap.size ≤ q ∧ q ≠ b4 ∧ q ≠ b5 ∧ q ≠ b6
  zero : ∀ z, Z = some z → W.heap[z]? = some (.cells zeroReq 26 (0, 0)) ∧ ¬ S1 z ∧ z ≠ b5 ∧ av.ownBlock ≠ some z
  own : ∀ x v bx, X = some (x, v, bx) → ReqOwn W x v bx ∧ bx.Nodup ∧ ∀ q ∈ bx, ¬ S1 q ∧ w.heap.size ≤ q ∧ q ∉ av.ownBlock.toList ++ blA ∧ q ≠ b4 ∧ q ≠ b5 ∧ q ≠ b6

section
variable {S S1 S2 : Nat → Prop} {w W W' : World} {b b4 b5 b6 : Nat} {hv : Array Value} {k : Int} {A : List Req} {csA : List Value} {blA : List Nat} {Z : Option Nat} {X : Option (Req × Value × List Nat)} {av : Value} {n : Nat} {cs : List Value} {c6 : Value} {r1 r2 : RSt}
theorem RUw.mid {bl : List Nat} (h : RUw S w b b4 b5 b6 hv k 0 0 0 [] [] A (.slice none 0 0) (.slice none 0 0) av bl S1 W r1) : ∃ csA blA, Mid S w b b4 b5 b6 hv k A csA blA none none av A.length csA av S1 W r1 := by
  obtain ⟨cs, b1, h1, h2, h3, h4, h5⟩ := h.rows
  have h5 : bl = av.ownBlock.toList ++ b1 := h5
  refine ⟨cs, b1, h.go, h3, h4, ?_, ?_, fun z hz => (by cases hz), fun x v bx hx => by cases hx⟩
  · rw [← h5]; exact h.nodup
  · rw [← h5]; exact h.new
theorem Mid.av_lt (h : Mid S w b b4 b5 b6 hv k A csA blA Z X av n cs c6 S1 W r1) : ∀ q ∈ av.ownBlock.toList ++ blA, q < W.heap.size := fun q hq => by
  rcases List.mem_append.1 hq with hq | hq
  · exact (h.row.lt q (mem_ownBlock.1 hq)).2
  · exact ElemsOwn.there _ _ _ h.elems q hq
theorem Mid.fresh (h : Mid S w b b4 b5 b6 hv k A csA blA Z X av n cs c6 S1 W r1) (hk : Fresh W W') : Mid S w b b4 b5 b6 hv k A csA blA Z X av n cs c6 S1 W' r1 :=
  ⟨h.go.fresh hk, ownsRow_keeps h.row hk (fun _ _ h => h), ElemsOwn.keeps hk _ _ _ h.elems (fun _ _ h => h), h.nodup, h.new, fun z hz => ⟨hk.at_ (h.zero z hz).1 (fun h => h), (h.zero z hz).2⟩, fun x v bx hx => ⟨ReqOwn.fresh hk (h.own x v bx hx).1, (h.own x v bx hx).2⟩⟩
theorem Mid.call (h : Mid S w b b4 b5 b6 hv k A csA blA Z none av n cs c6 S1 W r1) (hg : Grows S1 S2 W W') (hk : Keeps S1 W W') (hr : RRep S2 W' b r2) : Mid S w b b4 b5 b6 hv k A csA blA Z none av n cs c6 S2 W' r2 := by
  have hlt := h.av_lt
  refine ⟨h.go.call hg hk hr, ownsRow_keeps h.row hk (fun g hg => (h.new g (by simp [mem_ownBlock.2 hg])).1), ElemsOwn.keeps hk _ _ _ h.elems (fun q hq => (h.new q (by simp [hq])).1), h.nodup, fun q hq => ⟨fun h2 => ?_, (h.new q hq).2⟩, fun z hz => ⟨hk.at_ (h.zero z hz).1 (h.zero z hz).2.1, fun h2 => ?_, (h.zero z hz).2.2⟩, fun x v bx hx => by cases hx⟩
  rotate_left
  · have := lt_of_block (h.zero z hz).1
    rcases hg z h2 with h3 | h3
    · exact (h.zero z hz).2.1 h3
    · omega
  rcases hg q h2 with h3 | h3
  · exact (h.new q hq).1 h3
  · have := hlt q hq; omega
theorem Mid.read {x : Req} {v : Value} {bx : List Nat} (h : Mid S w b b4 b5 b6 hv k A csA blA Z none av n cs c6 S1 W r1) (hg : Grows S1 S2 W W') (hk : Keeps S1 W W') (hr : RRep S2 W' b r2) (hx : ReqOwn W' x v bx) (hn : bx.Nodup) (hb : ∀ q ∈ bx, ¬ S2 q ∧ W.heap.size ≤ q) : Mid S w b b4 b5 b6 hv k A csA blA Z (some (x, v, bx)) av n cs c6 S2 W' r2 := by
  have h' := h.call hg hk hr
  refine ⟨h'.go, h'.row, h'.elems, h'.nodup, h'.new, h'.zero, fun x' v' bx' he => ?_⟩
  simp only [Option.some.injEq, Prod.mk.injEq] at he
  obtain ⟨rfl, rfl, rfl⟩ := he
  refine ⟨hx, hn, fun q hq => ⟨(hb q hq).1, ?_, fun h1 => ?_, ?_, ?_, ?_⟩⟩
  · have := (hb q hq).2; have := h.go.keeps.size; omega
  · have := (hb q hq).2; have := h.av_lt q h1; omega
  · rintro rfl; have := (hb _ hq).2; have := lt_of_block h.go.box4; omega
  · rintro rfl; have := (hb _ hq).2; have := lt_of_block h.go.box5; omega
  · rintro rfl; have := (hb _ hq).2; have := lt_of_block h.go.box6; omega
theorem Mid.push {v' : Value} {us : List Value} (h : Mid S w b b4 b5 b6 hv k A csA blA Z X av n cs c6 S1 W r1) (ha : Appended 26 7 W W' av v' (n + 1) (cs ++ us)) : Mid S w b b4 b5 b6 hv k A csA blA none X v' (n + 1) (cs ++ us) c6 S1 W' r1 := by
  have hT : ∀ q, av.ownBlock = some q → w.heap.size ≤ q ∧ ¬ S1 q ∧ q ≠ b4 ∧ q ≠ b5 ∧ q ≠ b6 := fun q hq => by
    have := h.new q (by simp [mem_ownBlock.2 hq])
    exact ⟨this.2.1, this.1, this.2.2⟩
  have hna : ∀ q ∈ blA, ¬ av.ownBlock = some q := fun q hq he => by
    have := (List.nodup_append.1 h.nodup).2.2 q (mem_ownBlock.2 he) q hq
    exact this rfl
  have hel := ElemsOwn.keeps ha.keeps _ _ _ h.elems hna
  refine ⟨h.go.other ha.keeps hT, ha.row, hel, ?_, ?_, fun z hz => (by cases hz), ?_⟩
  · rw [List.nodup_append]
    refine ⟨by cases v'.ownBlock <;> simp, (List.nodup_append.1 h.nodup).2.1, fun x hx y hy => ?_⟩
    rintro rfl
    rcases ha.own x (mem_ownBlock.1 hx) with h1 | h1
    · exact hna x hy h1
    · have := ElemsOwn.there _ _ _ h.elems x hy; omega
  · intro q hq
    rcases List.mem_append.1 hq with hq | hq
    · rcases ha.own q (mem_ownBlock.1 hq) with h1 | h1
      · exact h.new q (by simp [mem_ownBlock.2 h1])
      · refine ⟨fun hs => ?_, ?_, ?_, ?_, ?_⟩
        · have := (h.go.rep.2.1 q hs).2; omega
        · have := h.go.keeps.size; omega
        · rintro rfl; have := lt_of_block h.go.box4; omega
        · rintro rfl; have := lt_of_block h.go.box5; omega
        · rintro rfl; have := lt_of_block h.go.box6; omega
    · exact h.new q (by simp [hq])
  · intro x v bx hx
    obtain ⟨h1, h2, h3⟩ := h.own x v bx hx
    refine ⟨ReqOwn.keeps ha.keeps _ _ _ h1 (fun q hq he => (h3 q hq).2.2.1 (by simp [mem_ownBlock.2 he])), h2, fun q hq => ⟨(h3 q hq).1, (h3 q hq).2.1, fun hm => ?_, (h3 q hq).2.2.2⟩⟩
    rcases List.mem_append.1 hm with hm | hm
    · rcases ha.own q (mem_ownBlock.1 hm) with h4 | h4
      · exact (h3 q hq).2.2.1 (by simp [mem_ownBlock.2 h4])
      · have := ReqOwn.there _ _ _ h1 q hq; omega
    · exact (h3 q hq).2.2.1 (by simp [hm])
theorem Mid.put6 (h : Mid S w b b4 b5 b6 hv k A csA blA Z X av n cs c6 S1 W r1) (u : Value) : Mid S w b b4 b5 b6 hv k A csA blA none X av n cs u S1 (W.setCell ⟨b5, 6, none⟩ u) r1 := by
  have hk : Keeps (fun q => q = b5) W (W.setCell ⟨b5, 6, none⟩ u) := Keeps.setCell (S := fun q => q = b5) (p := ⟨b5, 6, none⟩) (Keeps.refl _ _) (fun _ => rfl) _
  exact ⟨h.go.put5 6 u, ownsRow_keeps h.row hk (fun g hg => (h.new g (by simp [mem_ownBlock.2 hg])).2.2.2.1), ElemsOwn.keeps hk _ _ _ h.elems (fun q hq => (h.new q (by simp [hq])).2.2.2.1), h.nodup, h.new, fun z hz => (by cases hz),
    fun x v bx hx => ⟨ReqOwn.keeps hk _ _ _ (h.own x v bx hx).1 (fun q hq => ((h.own x v bx hx).2.2 q hq).2.2.2.2.1), (h.own x v bx hx).2⟩⟩
/-- one cell of the row -/
theorem Mid.elem {g cap : Nat} (h : Mid S w b b4 b5 b6 hv k A csA blA Z X (.slice (some ⟨g, 0, none⟩) n cap) n cs c6 S1 W r1) (o : Nat) (u : Value) (ho : o < cs.length) : Mid S w b b4 b5 b6 hv k A csA blA none X (.slice (some ⟨g, 0, none⟩) n cap) n (cs.set o u) c6 S1 (W.setCell ⟨g, o, none⟩ u) r1 := by
  have hk : Keeps (fun q => q = g) W (W.setCell ⟨g, o, none⟩ u) := Keeps.setCell (S := fun q => q = g) (p := ⟨g, o, none⟩) (Keeps.refl _ _) (fun _ => rfl) _
  have hg := h.new g (by simp [Value.ownBlock])
  have hna : ∀ q ∈ blA, ¬ q = g := fun q hq he => by
    subst he
    exact (List.nodup_append.1 h.nodup).2.2 q (by simp [Value.ownBlock]) q hq rfl
  refine ⟨h.go.other hk (fun q hq => by subst hq; exact ⟨hg.2.1, hg.1, hg.2.2⟩), ownsRow_put h.row o u ho, ElemsOwn.keeps hk _ _ _ h.elems hna, h.nodup, h.new, fun z hz => (by cases hz), fun x v bx hx => ⟨ReqOwn.keeps hk _ _ _ (h.own x v bx hx).1 (fun q hq he => ?_), (h.own x v bx hx).2⟩⟩
  subst he
  exact ((h.own x v bx hx).2.2 q hq).2.2.1 (by simp [Value.ownBlock])
theorem Mid.drew_ (h : Mid S w b b4 b5 b6 hv k A csA blA Z X av n cs c6 S1 W r1) : Mid S w b b4 b5 b6 hv k A csA blA Z X av n cs c6 S1 W.drew r1 := h.fresh ((Keeps.refl _ _).drew)
/-- the struct that is to be appended is made -/
theorem Mid.made (h : Mid S w b b4 b5 b6 hv k A csA blA Z X av n cs c6 S1 W r1) : Mid S w b b4 b5 b6 hv k A csA blA (some W.heap.size) X av n cs c6 S1 (W.alloc (.cells zeroReq 26)) r1 := by
  have h' := h.fresh (W' := W.alloc (.cells zeroReq 26)) ((Keeps.refl _ _).alloc _)
  refine ⟨h'.go, h'.row, h'.elems, h'.nodup, h'.new, fun z hz => ?_, h'.own⟩
  injection hz with hz
  subst hz
  refine ⟨heap_alloc_new _ _, fun hs => ?_, fun e => ?_, fun e => ?_⟩
  · have := (h.go.rep.2.1 _ hs).2; omega
  · have := lt_of_block h.go.box5; omega
  · have := (h.row.lt _ e).2; omega
theorem Mid.some' {v : Value} (h : Mid S w b b4 b5 b6 hv k A csA blA Z X v (n + 1) cs c6 S1 W r1) : ∃ g cap, v = .slice (some ⟨g, 0, none⟩) (n + 1) cap := by
  rcases h.row.2 with ⟨h1, h2⟩ | ⟨g, cap, cur, rfl, -⟩
  · omega
  · exact ⟨g, cap, rfl⟩
theorem Mid.lenA (h : Mid S w b b4 b5 b6 hv k A csA blA Z X av n cs c6 S1 W r1) : csA.length = A.length * 7 := h.elems.length
/-- the cells of the last struct -/
theorem Mid.tail {g cap : Nat} {us : List Value} (h : Mid S w b b4 b5 b6 hv k A csA blA Z X (.slice (some ⟨g, 0, none⟩) (A.length + 1) cap) (A.length + 1) (csA ++ us) c6 S1 W r1) (j : Nat) (u : Value) (hj : us[j]? = some u) :
    W.cell? ⟨g, A.length * 7 + j, none⟩ = some u ∧ W.frozen? ⟨g, A.length * 7 + j, none⟩ = false := by
  constructor
  · have := h.row.cells (g := g) rfl (A.length * 7 + j) u (by rw [List.getElem?_append_right (by rw [h.lenA]; omega), h.lenA, Nat.add_sub_cancel_left]; exact hj)
    rw [addr_add0] at this
    exact this
  · rcases h.row.2 with ⟨h1, h2⟩ | ⟨g', cap', cur, he, -, hg, -⟩
    · cases h1
    · injection he with e1 e2 e3
      injection e1 with e1
      injection e1 with e1
      subst e1
      exact free_at hg _
theorem Mid.ne {g cap m : Nat} (h : Mid S w b b4 b5 b6 hv k A csA blA Z X (.slice (some ⟨g, 0, none⟩) m cap) n cs c6 S1 W r1) : g ≠ b5 := (h.new g (by simp [Value.ownBlock])).2.2.2.1
/-- the struct is stored -/
theorem Mid.elems7 {g cap : Nat} {u0 u1 u2 u3 u4 u5 u6 : Value} (h : Mid S w b b4 b5 b6 hv k A csA blA Z X (.slice (some ⟨g, 0, none⟩) (A.length + 1) cap) (A.length + 1) (csA ++ [u0, u1, u2, u3, u4, u5, u6]) c6 S1 W r1) (c0 c1 c2 c3 c4 c5 d6 : Value) :
    Mid S w b b4 b5 b6 hv k A csA blA none X (.slice (some ⟨g, 0, none⟩) (A.length + 1) cap) (A.length + 1) (csA ++ [c0, c1, c2, c3, c4, c5, d6]) c6 S1 (((((((W.setCell ⟨g, A.length * 7, none⟩ c0).setCell ⟨g, A.length * 7 + 1, none⟩ c1).setCell ⟨g, A.length * 7 + 2, none⟩ c2).setCell ⟨g, A.length * 7 + 3, none⟩ c3).setCell ⟨g, A.length * 7 + 4, none⟩ c4).setCell ⟨g, A.length * 7 + 5, none⟩ c5).setCell ⟨g, A.length * 7 + 6, none⟩ d6) r1 := by
  have hl := h.lenA
  have := ((((((h.elem (A.length * 7) c0 (by simp; omega)).elem (A.length * 7 + 1) c1 (by simp; omega)).elem (A.length * 7 + 2) c2 (by simp; omega)).elem (A.length * 7 + 3) c3 (by simp; omega)).elem (A.length * 7 + 4) c4 (by simp; omega)).elem (A.length * 7 + 5) c5 (by simp; omega)).elem (A.length * 7 + 6) d6 (by simp; omega)
  rw [← hl] at this ⊢
  simpa [List.set_append] using this
/-- behind the statement -/
theorem Mid.done {x : Req} {bx : List Nat} {c0 c1 c2 c3 c4 c5 d6 : Value} (h : Mid S w b b4 b5 b6 hv k A csA blA Z (some (x, .agg #[c0, c1, c2, c3, c4, c5, d6], bx)) av (A.length + 1) (csA ++ [c0, c1, c2, c3, c4, c5, d6]) av S1 W r1) :
    ∃ bl, RUw S w b b4 b5 b6 hv k 0 0 0 [] [] (A ++ [x]) (.slice none 0 0) (.slice none 0 0) av bl S1 W r1 := by
  obtain ⟨h1, h2, h3⟩ := h.own _ _ _ rfl
  refine ⟨av.ownBlock.toList ++ (blA ++ bx), h.go, ?_, ?_, ?_⟩
  · rw [ReqOwn]
    exact ⟨_, _, av, _, blA ++ bx, rfl, World.ownsRow_nil _ _ _ _, World.ownsRow_nil _ _ _ _, by rw [List.length_append]; exact h.row, h.elems.snoc h1, by simp [Value.ownBlock]⟩
  · rw [← List.append_assoc, List.nodup_append]
    exact ⟨h.nodup, h2, fun p hp q hq e => by subst e; exact (h3 p hq).2.2.1 hp⟩
  · intro q hq
    rw [← List.append_assoc] at hq
    rcases List.mem_append.1 hq with hq | hq
    · exact h.new q hq
    · exact ⟨(h3 q hq).1, (h3 q hq).2.1, (h3 q hq).2.2.2⟩
theorem Mid.finA {g cap : Nat} {u0 u1 u2 u3 u4 u5 u6 c0 c1 c2 c3 c4 c5 d6 : Value} {x : Req} {bx : List Nat} (h : Mid S w b b4 b5 b6 hv k A csA blA Z (some (x, .agg #[c0, c1, c2, c3, c4, c5, d6], bx)) (.slice (some ⟨g, 0, none⟩) (A.length + 1) cap) (A.length + 1) (csA ++ [u0, u1, u2, u3, u4, u5, u6]) c6 S1 W r1) :
    ∃ av bl S4, RUw S w b b4 b5 b6 hv k 0 0 0 [] [] (A ++ [x]) (.slice none 0 0) (.slice none 0 0) av bl S4 ((((((((W.setCell ⟨g, A.length * 7, none⟩ c0).setCell ⟨g, A.length * 7 + 1, none⟩ c1).setCell ⟨g, A.length * 7 + 2, none⟩ c2).setCell ⟨g, A.length * 7 + 3, none⟩ c3).setCell ⟨g, A.length * 7 + 4, none⟩ c4).setCell ⟨g, A.length * 7 + 5, none⟩ c5).setCell ⟨g, A.length * 7 + 6, none⟩ d6).setCell ⟨b5, 6, none⟩ (.slice (some ⟨g, 0, none⟩) (A.length + 1) cap)) r1 := by
  obtain ⟨bl, h⟩ := ((h.elems7 c0 c1 c2 c3 c4 c5 d6).put6 _).done
  exact ⟨_, bl, _, h⟩
theorem Mid.finB {g cap : Nat} {u0 u1 u2 u3 u4 u5 u6 c0 c1 c2 c3 c4 c5 d6 : Value} {x : Req} {bx : List Nat} (h : Mid S w b b4 b5 b6 hv k A csA blA Z (some (x, .agg #[c0, c1, c2, c3, c4, c5, d6], bx)) (.slice (some ⟨g, 0, none⟩) (A.length + 1) cap) (A.length + 1) (csA ++ [u0, u1, u2, u3, u4, u5, u6]) c6 S1 W r1) :
    ∃ av bl S4, RUw S w b b4 b5 b6 hv k 0 0 0 [] [] (A ++ [x]) (.slice none 0 0) (.slice none 0 0) av bl S4 ((((((((W.setCell ⟨b5, 6, none⟩ (.slice (some ⟨g, 0, none⟩) (A.length + 1) cap)).setCell ⟨g, A.length * 7, none⟩ c0).setCell ⟨g, A.length * 7 + 1, none⟩ c1).setCell ⟨g, A.length * 7 + 2, none⟩ c2).setCell ⟨g, A.length * 7 + 3, none⟩ c3).setCell ⟨g, A.length * 7 + 4, none⟩ c4).setCell ⟨g, A.length * 7 + 5, none⟩ c5).setCell ⟨g, A.length * 7 + 6, none⟩ d6) r1 := by
  obtain ⟨bl, h⟩ := ((h.put6 _).elems7 c0 c1 c2 c3 c4 c5 d6).done
  exact ⟨_, bl, _, h⟩
theorem Mid.finC {g cap : Nat} {u0 u1 u2 u3 u4 u5 u6 c0 c1 c2 c3 c4 c5 d6 : Value} {x : Req} {bx : List Nat} (h : Mid S w b b4 b5 b6 hv k A csA blA Z (some (x, .agg #[c0, c1, c2, c3, c4, c5, d6], bx)) (.slice (some ⟨g, 0, none⟩) (A.length + 1) cap) (A.length + 1) (csA ++ [u0, u1, u2, u3, u4, u5, u6]) (.slice (some ⟨g, 0, none⟩) (A.length + 1) cap) S1 W r1) :
    ∃ av bl S4, RUw S w b b4 b5 b6 hv k 0 0 0 [] [] (A ++ [x]) (.slice none 0 0) (.slice none 0 0) av bl S4 (((((((W.setCell ⟨g, A.length * 7, none⟩ c0).setCell ⟨g, A.length * 7 + 1, none⟩ c1).setCell ⟨g, A.length * 7 + 2, none⟩ c2).setCell ⟨g, A.length * 7 + 3, none⟩ c3).setCell ⟨g, A.length * 7 + 4, none⟩ c4).setCell ⟨g, A.length * 7 + 5, none⟩ c5).setCell ⟨g, A.length * 7 + 6, none⟩ d6) r1 := by
  obtain ⟨bl, h⟩ := (h.elems7 c0 c1 c2 c3 c4 c5 d6).done
  exact ⟨_, bl, _, h⟩
end
theorem ElemsOwn.kindAt {w : World} : ∀ {A : List Req} {x : Req} {cs : List Value} {bl : List Nat}, ElemsOwn w (A ++ [x]) cs bl → cs[A.length * 7]? = some (.int .i64 x.kind)
  | [], x, cs, bl, h => by
    rw [List.nil_append, ElemsOwn] at h
    obtain ⟨c0, c1, c2, c3, c4, c5, c6, cs', b1, b2, rfl, h1, h2, rfl⟩ := h
    cases x
    rw [ReqOwn] at h1
    obtain ⟨lv, ev, av, cs2, b3, he, -⟩ := h1
    simp only [Value.agg.injEq, Array.mk.injEq, List.cons.injEq] at he
    rw [he.1]
    rfl
  | y :: r, x, cs, bl, h => by
    rw [List.cons_append, ElemsOwn] at h
    obtain ⟨c0, c1, c2, c3, c4, c5, c6, cs', b1, b2, rfl, h1, h2, rfl⟩ := h
    have := h2.kindAt
    rw [List.length_cons, Nat.add_mul]
    simpa using this
theorem RUw.last {S S1 : Nat → Prop} {w W : World} {b b4 b5 b6 : Nat} {hv : Array Value} {k a bb s : Int} {l : List Int} {e : List (List UInt8)} {A : List Req} {x : Req} {lv ev av : Value} {bl : List Nat} {r1 : RSt} (h : RUw S w b b4 b5 b6 hv k a bb s l e (A ++ [x]) lv ev av bl S1 W r1) :
    ∃ g cap, av = .slice (some ⟨g, 0, none⟩) (A.length + 1) cap ∧ W.cell? ⟨b5, 6, none⟩ = some av ∧ W.cell? ⟨g, A.length * 7, none⟩ = some (.int .i64 x.kind) := by
  obtain ⟨cs, b1, h1, h2, h3, h4, h5⟩ := h.rows
  have hk := h4.kindAt
  have h6 := cell_at h.go.box5 6
  rw [List.length_append, List.length_singleton] at h3
  rcases h3.2 with ⟨-, he⟩ | ⟨g, cap, cur, rfl, -⟩
  · omega
  · refine ⟨g, cap, rfl, h6, ?_⟩
    have := h3.cells (g := g) rfl _ _ hk
    rw [addr_add0] at this
    exact this
end Go.Proofs.YtpccaodkgboefaaGreatDoor
