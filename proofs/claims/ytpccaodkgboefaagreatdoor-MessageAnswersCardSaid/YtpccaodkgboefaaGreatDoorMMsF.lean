/-
  Package message: parts, taken: one more is appended.
  Package message: parts, taken: a box beside it, and the ends of the statement that appends.
  A statement whose order is drawn, and which stores into a cell that it loads: a load may be taken first, if all that may come ahead of it keeps a condition S; behind the first operation that hangs on the load (kp says which do not) S is asked no more. No program is in sight.
-/
import Derived.Test.YtpccaodkgboefaaGreatDoorMsRepK
import Derived.Test.YtpccaodkgboefaaGreatDoorMMsG
import Derived.OrdersHeld
import Derived.RegionTactic
import Derived.Test.YtpccaodkgboefaaGreatDoorMShaA
namespace Go.Proofs.YtpccaodkgboefaaGreatDoor
open Go.RowKit

structure MidR (S : Nat → Prop) (w : World) (b br : Nat) (z s a bb : Int) (t : List UInt8) (hv ev : Value) (A : List Rep) (csA : List Value) (blA : List Nat) (Z : Option Nat) (X : Option (Rep × Value × List Nat)) (av : Value) (n : Nat) (cs : List Value) (c7 : Value) (S1 : Nat → Prop) (W : World) (r1 : RSt) : Prop where
  xs : XSt S w br S1 W #[.int .i64 z, .int .i64 s, .int .i64 a, .int .i64 bb, .string (str t), hv, ev, c7]
  rep : RRep S1 W b r1
  row : W.ownsRow 0 48 8 av n cs
  elems : ReplsOwn W A csA blA
  nodup : (av.ownBlock.toList ++ blA).Nodup
  new : ∀ q ∈ av.ownBlock.toList ++ blA, ¬ S1 q ∧ w.heap.size ≤ q
  zero : ∀ z, Z = some z → W.heap[z]? = some (.cells zeroRep 48 (0, 0)) ∧ ¬ S1 z ∧ z ≠ br ∧ av.ownBlock ≠ some z
  own : ∀ x v bx, X = some (x, v, bx) → RepOwn W x v bx ∧ bx.Nodup ∧ ∀ q ∈ bx, ¬ S1 q ∧ w.heap.size ≤ q ∧ q ∉ av.ownBlock.toList ++ blA

section
variable {S S1 S2 : Nat → Prop} {w W W' : World} {b br : Nat} {z s a bb : Int} {t : List UInt8} {hv ev : Value} {A : List Rep} {csA : List Value} {blA : List Nat} {Z : Option Nat} {X : Option (Rep × Value × List Nat)} {av : Value} {n : Nat} {cs : List Value} {c7 : Value} {r1 r2 : RSt}
theorem MidR.av_lt (h : MidR S w b br z s a bb t hv ev A csA blA Z X av n cs c7 S1 W r1) : ∀ q ∈ av.ownBlock.toList ++ blA, q < W.heap.size := fun q hq => by
  rcases List.mem_append.1 hq with hq | hq
  · exact (h.row.lt q (mem_ownBlock.1 hq)).2
  · exact ReplsOwn.there _ _ _ h.elems q hq
theorem MidR.fresh (h : MidR S w b br z s a bb t hv ev A csA blA Z X av n cs c7 S1 W r1) (hk : Fresh W W') : MidR S w b br z s a bb t hv ev A csA blA Z X av n cs c7 S1 W' r1 :=
  ⟨h.xs.fresh hk, h.rep.fresh hk, ownsRow_keeps h.row hk (fun _ _ h => h), ReplsOwn.keeps hk _ _ _ h.elems (fun _ _ h => h), h.nodup, h.new, fun z hz => ⟨hk.at_ (h.zero z hz).1 (fun h => h), (h.zero z hz).2⟩, fun x v bx hx => ⟨RepOwn.fresh hk (h.own x v bx hx).1, (h.own x v bx hx).2⟩⟩
theorem MidR.drew_ (h : MidR S w b br z s a bb t hv ev A csA blA Z X av n cs c7 S1 W r1) : MidR S w b br z s a bb t hv ev A csA blA Z X av n cs c7 S1 W.drew r1 := h.fresh ((Keeps.refl _ _).drew)
theorem MidR.call (h : MidR S w b br z s a bb t hv ev A csA blA Z none av n cs c7 S1 W r1) (hg : Grows S1 S2 W W') (hk : Keeps S1 W W') (hr : RRep S2 W' b r2) : MidR S w b br z s a bb t hv ev A csA blA Z none av n cs c7 S2 W' r2 := by
  have hlt := h.av_lt
  obtain ⟨S3, X3, R3, -, -⟩ := h.xs.acts (R := fun S' => S' = S2) ⟨S2, hg, hk, rfl⟩
  subst R3
  refine ⟨X3, hr, ownsRow_keeps h.row hk (fun g hg => (h.new g (by simp [mem_ownBlock.2 hg])).1), ReplsOwn.keeps hk _ _ _ h.elems (fun q hq => (h.new q (by simp [hq])).1), h.nodup, fun q hq => ⟨fun h2 => ?_, (h.new q hq).2⟩, fun z hz => ⟨hk.at_ (h.zero z hz).1 (h.zero z hz).2.1, fun h2 => ?_, (h.zero z hz).2.2⟩, fun x v bx hx => by cases hx⟩
  · rcases hg q h2 with h3 | h3
    · exact (h.new q hq).1 h3
    · have := hlt q hq; omega
  · have := lt_of_block (h.zero z hz).1
    rcases hg z h2 with h3 | h3
    · exact (h.zero z hz).2.1 h3
    · omega
theorem MidR.read {x : Rep} {v : Value} {bx : List Nat} (h : MidR S w b br z s a bb t hv ev A csA blA Z none av n cs c7 S1 W r1) (hg : Grows S1 S2 W W') (hk : Keeps S1 W W') (hr : RRep S2 W' b r2) (hx : RepOwn W' x v bx) (hn : bx.Nodup) (hb : ∀ q ∈ bx, ¬ S2 q ∧ W.heap.size ≤ q) : MidR S w b br z s a bb t hv ev A csA blA Z (some (x, v, bx)) av n cs c7 S2 W' r2 := by
  have h' := h.call hg hk hr
  refine ⟨h'.xs, h'.rep, h'.row, h'.elems, h'.nodup, h'.new, h'.zero, fun x' v' bx' he => ?_⟩
  simp only [Option.some.injEq, Prod.mk.injEq] at he
  obtain ⟨rfl, rfl, rfl⟩ := he
  refine ⟨hx, hn, fun q hq => ⟨(hb q hq).1, ?_, fun h1 => ?_⟩⟩
  · have := (hb q hq).2; have := h.xs.keeps.size; omega
  · have := (hb q hq).2; have := h.av_lt q h1; omega
theorem MidR.push {v' : Value} {us : List Value} (h : MidR S w b br z s a bb t hv ev A csA blA Z X av n cs c7 S1 W r1) (ha : Appended 48 8 W W' av v' (n + 1) (cs ++ us)) : MidR S w b br z s a bb t hv ev A csA blA none X v' (n + 1) (cs ++ us) c7 S1 W' r1 := by
  have hT : ∀ q, av.ownBlock = some q → w.heap.size ≤ q ∧ ¬ S1 q := fun q hq => by
    have := h.new q (by simp [mem_ownBlock.2 hq])
    exact ⟨this.2, this.1⟩
  have hbr := h.xs.nbr
  have hna : ∀ q ∈ blA, ¬ av.ownBlock = some q := fun q hq he => by
    have := (List.nodup_append.1 h.nodup).2.2 q (mem_ownBlock.2 he) q hq
    exact this rfl
  have hel := ReplsOwn.keeps ha.keeps _ _ _ h.elems hna
  refine ⟨⟨fun q hq => (h.xs.grows q hq).imp id (fun h => ⟨h.1, Nat.lt_of_lt_of_le h.2 ha.keeps.size⟩), h.xs.keeps.trans' ha.keeps (fun q hq he => by have := (hT q he).1; omega), ha.keeps.at_ h.xs.box (fun he => by have := (hT _ he).1; omega), h.xs.out, hbr⟩,
    h.rep.keeps ha.keeps (fun q hq he => (hT q he).2 hq), ha.row, hel, ?_, ?_, fun z hz => (by cases hz), ?_⟩
  · rw [List.nodup_append]
    refine ⟨by cases v'.ownBlock <;> simp, (List.nodup_append.1 h.nodup).2.1, fun x hx y hy => ?_⟩
    rintro rfl
    rcases ha.own x (mem_ownBlock.1 hx) with h1 | h1
    · exact hna x hy h1
    · have := ReplsOwn.there _ _ _ h.elems x hy; omega
  · intro q hq
    rcases List.mem_append.1 hq with hq | hq
    · rcases ha.own q (mem_ownBlock.1 hq) with h1 | h1
      · exact h.new q (by simp [mem_ownBlock.2 h1])
      · refine ⟨fun hs => ?_, ?_⟩
        · have := (h.rep.2.1 q hs).2; omega
        · have := h.xs.keeps.size; omega
    · exact h.new q (by simp [hq])
  · intro x v bx hx
    obtain ⟨h1, h2, h3⟩ := h.own x v bx hx
    refine ⟨RepOwn.keeps ha.keeps _ _ _ h1 (fun q hq he => (h3 q hq).2.2 (by simp [mem_ownBlock.2 he])), h2, fun q hq => ⟨(h3 q hq).1, (h3 q hq).2.1, fun hm => ?_⟩⟩
    rcases List.mem_append.1 hm with hm | hm
    · rcases ha.own q (mem_ownBlock.1 hm) with h4 | h4
      · exact (h3 q hq).2.2 (by simp [mem_ownBlock.2 h4])
      · have := RepOwn.there _ _ _ h1 q hq; omega
    · exact (h3 q hq).2.2 (by simp [hm])
theorem MidR.put7 (h : MidR S w b br z s a bb t hv ev A csA blA Z X av n cs c7 S1 W r1) (u : Value) : MidR S w b br z s a bb t hv ev A csA blA none X av n cs u S1 (W.setCell ⟨br, 7, none⟩ u) r1 := by
  have hk := XSt.putKeeps W br 7 u
  have hbr := h.xs.nbr
  exact ⟨h.xs.put 7 u, h.rep.keeps hk (fun q hq (e : q = br) => h.xs.out (by rw [← e]; exact hq)), ownsRow_keeps h.row hk (fun g hg (e : g = br) => by have := (h.new g (by simp [mem_ownBlock.2 hg])).2; omega), ReplsOwn.keeps hk _ _ _ h.elems (fun q hq (e : q = br) => by have := (h.new q (by simp [hq])).2; omega), h.nodup, h.new, fun z hz => (by cases hz),
    fun x v bx hx => ⟨RepOwn.keeps hk _ _ _ (h.own x v bx hx).1 (fun q hq (e : q = br) => by have := ((h.own x v bx hx).2.2 q hq).2.1; omega), (h.own x v bx hx).2⟩⟩
theorem MidR.elem {g cap : Nat} (h : MidR S w b br z s a bb t hv ev A csA blA Z X (.slice (some ⟨g, 0, none⟩) n cap) n cs c7 S1 W r1) (o : Nat) (u : Value) (ho : o < cs.length) : MidR S w b br z s a bb t hv ev A csA blA none X (.slice (some ⟨g, 0, none⟩) n cap) n (cs.set o u) c7 S1 (W.setCell ⟨g, o, none⟩ u) r1 := by
  have hk : Keeps (fun q => q = g) W (W.setCell ⟨g, o, none⟩ u) := Keeps.setCell (S := fun q => q = g) (p := ⟨g, o, none⟩) (Keeps.refl _ _) (fun _ => rfl) _
  have hg := h.new g (by simp [Value.ownBlock])
  have hbr := h.xs.nbr
  have hna : ∀ q ∈ blA, ¬ q = g := fun q hq he => by
    subst he
    exact (List.nodup_append.1 h.nodup).2.2 q (by simp [Value.ownBlock]) q hq rfl
  refine ⟨⟨fun q hq => (h.xs.grows q hq).imp id (fun h => ⟨h.1, by simpa using h.2⟩), h.xs.keeps.trans' hk (fun q hq (he : q = g) => by omega), hk.at_ h.xs.box (fun (he : br = g) => by omega), h.xs.out, hbr⟩, h.rep.keeps hk (fun q hq (e : q = g) => hg.1 (by rw [← e]; exact hq)), ownsRow_put h.row o u ho, ReplsOwn.keeps hk _ _ _ h.elems hna, h.nodup, h.new, fun z hz => (by cases hz), fun x v bx hx => ⟨RepOwn.keeps hk _ _ _ (h.own x v bx hx).1 (fun q hq he => ?_), (h.own x v bx hx).2⟩⟩
  subst he
  exact ((h.own x v bx hx).2.2 q hq).2.2 (by simp [Value.ownBlock])
theorem MidR.made (h : MidR S w b br z s a bb t hv ev A csA blA Z X av n cs c7 S1 W r1) : MidR S w b br z s a bb t hv ev A csA blA (some W.heap.size) X av n cs c7 S1 (W.alloc (.cells zeroRep 48)) r1 := by
  have h' := h.fresh (W' := W.alloc (.cells zeroRep 48)) ((Keeps.refl _ _).alloc _)
  refine ⟨h'.xs, h'.rep, h'.row, h'.elems, h'.nodup, h'.new, fun z hz => ?_, h'.own⟩
  injection hz with hz
  subst hz
  refine ⟨heap_alloc_new _ _, fun hs => ?_, fun e => ?_, fun e => ?_⟩
  · have := (h.rep.2.1 _ hs).2; omega
  · have := lt_of_block h.xs.box; omega
  · have := (h.row.lt _ e).2; omega
theorem MidR.some' {v : Value} (h : MidR S w b br z s a bb t hv ev A csA blA Z X v (n + 1) cs c7 S1 W r1) : ∃ g cap, v = .slice (some ⟨g, 0, none⟩) (n + 1) cap := by
  rcases h.row.2 with ⟨h1, h2⟩ | ⟨g, cap, cur, rfl, -⟩
  · omega
  · exact ⟨g, cap, rfl⟩
theorem MidR.lenA (h : MidR S w b br z s a bb t hv ev A csA blA Z X av n cs c7 S1 W r1) : csA.length = A.length * 8 := h.elems.length
theorem MidR.tail {g cap : Nat} {us : List Value} (h : MidR S w b br z s a bb t hv ev A csA blA Z X (.slice (some ⟨g, 0, none⟩) (A.length + 1) cap) (A.length + 1) (csA ++ us) c7 S1 W r1) (j : Nat) (u : Value) (hj : us[j]? = some u) :
    W.cell? ⟨g, A.length * 8 + j, none⟩ = some u ∧ W.frozen? ⟨g, A.length * 8 + j, none⟩ = false := by
  constructor
  · have := h.row.cells (g := g) rfl (A.length * 8 + j) u (by rw [List.getElem?_append_right (by rw [h.lenA]; omega), h.lenA, Nat.add_sub_cancel_left]; exact hj)
    rw [addr_add0] at this
    exact this
  · rcases h.row.2 with ⟨h1, h2⟩ | ⟨g', cap', cur, he, -, hg, -⟩
    · cases h1
    · injection he with e1 e2 e3
      injection e1 with e1
      injection e1 with e1
      subst e1
      exact free_at hg _
theorem MidR.ne {g cap m : Nat} (h : MidR S w b br z s a bb t hv ev A csA blA Z X (.slice (some ⟨g, 0, none⟩) m cap) n cs c7 S1 W r1) : g ≠ br := fun e => by have := (h.new g (by simp [Value.ownBlock])).2; have := h.xs.nbr; omega
theorem MidR.elems8 {g cap : Nat} {u0 u1 u2 u3 u4 u5 u6 u7 : Value} (h : MidR S w b br z s a bb t hv ev A csA blA Z X (.slice (some ⟨g, 0, none⟩) (A.length + 1) cap) (A.length + 1) (csA ++ [u0, u1, u2, u3, u4, u5, u6, u7]) c7 S1 W r1) (c0 c1 c2 c3 c4 c5 c6 d7 : Value) : MidR S w b br z s a bb t hv ev A csA blA none X (.slice (some ⟨g, 0, none⟩) (A.length + 1) cap) (A.length + 1) (csA ++ [c0, c1, c2, c3, c4, c5, c6, d7]) c7 S1 ((((((((W.setCell ⟨g, A.length * 8, none⟩ c0).setCell ⟨g, A.length * 8 + 1, none⟩ c1).setCell ⟨g, A.length * 8 + 2, none⟩ c2).setCell ⟨g, A.length * 8 + 3, none⟩ c3).setCell ⟨g, A.length * 8 + 4, none⟩ c4).setCell ⟨g, A.length * 8 + 5, none⟩ c5).setCell ⟨g, A.length * 8 + 6, none⟩ c6).setCell ⟨g, A.length * 8 + 7, none⟩ d7) r1 := by
  have hl := h.lenA
  have := (((((((h.elem (A.length * 8) c0 (by simp; omega)).elem (A.length * 8 + 1) c1 (by simp; omega)).elem (A.length * 8 + 2) c2 (by simp; omega)).elem (A.length * 8 + 3) c3 (by simp; omega)).elem (A.length * 8 + 4) c4 (by simp; omega)).elem (A.length * 8 + 5) c5 (by simp; omega)).elem (A.length * 8 + 6) c6 (by simp; omega)).elem (A.length * 8 + 7) d7 (by simp; omega)
  rw [← hl] at this ⊢
  simpa [List.set_append] using this
/-- behind the statement: one more is there -/
theorem MidR.done {x : Rep} {bx : List Nat} {c0 c1 c2 c3 c4 c5 c6 d7 : Value} (h : MidR S w b br z s a bb t hv ev A csA blA Z (some (x, .agg #[c0, c1, c2, c3, c4, c5, c6, d7], bx)) av (A.length + 1) (csA ++ [c0, c1, c2, c3, c4, c5, c6, d7]) av S1 W r1) : ∃ cs' bl, MidR S w b br z s a bb t hv ev (A ++ [x]) cs' bl none none av (A.length + 1) cs' av S1 W r1 := by
  obtain ⟨h1, h2, h3⟩ := h.own _ _ _ rfl
  refine ⟨_, blA ++ bx, h.xs, h.rep, h.row, h.elems.snoc h1, ?_, ?_, fun z hz => (by cases hz), fun x v bx hx => by cases hx⟩
  · rw [← List.append_assoc, List.nodup_append]
    exact ⟨h.nodup, h2, fun p hp q hq e => by subst e; exact (h3 p hq).2.2 hp⟩
  · intro q hq
    rw [← List.append_assoc] at hq
    rcases List.mem_append.1 hq with hq | hq
    · exact h.new q hq
    · exact ⟨(h3 q hq).1, (h3 q hq).2.1⟩
theorem MidR.finA {g cap : Nat} {u0 u1 u2 u3 u4 u5 u6 u7 c0 c1 c2 c3 c4 c5 c6 d7 : Value} {x : Rep} {bx : List Nat} (h : MidR S w b br z s a bb t hv ev A csA blA Z (some (x, .agg #[c0, c1, c2, c3, c4, c5, c6, d7], bx)) (.slice (some ⟨g, 0, none⟩) (A.length + 1) cap) (A.length + 1) (csA ++ [u0, u1, u2, u3, u4, u5, u6, u7]) (.slice (some ⟨g, 0, none⟩) (A.length + 1) cap) S1 W r1) : ∃ av cs' bl S4, MidR S w b br z s a bb t hv ev (A ++ [x]) cs' bl none none av (A.length + 1) cs' av S4 ((((((((W.setCell ⟨g, A.length * 8, none⟩ c0).setCell ⟨g, A.length * 8 + 1, none⟩ c1).setCell ⟨g, A.length * 8 + 2, none⟩ c2).setCell ⟨g, A.length * 8 + 3, none⟩ c3).setCell ⟨g, A.length * 8 + 4, none⟩ c4).setCell ⟨g, A.length * 8 + 5, none⟩ c5).setCell ⟨g, A.length * 8 + 6, none⟩ c6).setCell ⟨g, A.length * 8 + 7, none⟩ d7) r1 := by
  obtain ⟨cs', bl, h⟩ := (h.elems8 c0 c1 c2 c3 c4 c5 c6 d7).done
  exact ⟨_, cs', bl, _, h⟩
end
end Go.Proofs.YtpccaodkgboefaaGreatDoor

namespace Go.Proofs.YtpccaodkgboefaaGreatDoor
open Go.RowKit

/-- a box of the call's own stays -/
structure MB (kx : Nat) (kc : Array Value) (S1 : Nat → Prop) (W : World) : Prop where
  at_ : W.heap[kx]? = some (.cells kc 87 (0, 0))
  out : ¬ S1 kx
section
variable {S S1 S2 : Nat → Prop} {w W W' : World} {b br kx : Nat} {kc : Array Value} {z s a bb : Int} {t : List UInt8} {hv ev : Value} {A : List Rep} {csA : List Value} {blA : List Nat} {Z : Option Nat} {X : Option (Rep × Value × List Nat)} {av : Value} {n : Nat} {cs : List Value} {c7 : Value} {r1 r2 : RSt}
theorem MB.fresh (h : MB kx kc S1 W) (hk : Fresh W W') : MB kx kc S1 W' := ⟨hk.at_ h.at_ (fun h => h), h.out⟩
theorem MB.made (h : MB kx kc S1 W) : MB kx kc S1 (W.alloc (.cells zeroRep 48)) := h.fresh ((Keeps.refl _ _).alloc _)
theorem MB.drew_ (h : MB kx kc S1 W) : MB kx kc S1 W.drew := h.fresh ((Keeps.refl _ _).drew)
theorem MB.call (h : MB kx kc S1 W) (hg : Grows S1 S2 W W') (hk : Keeps S1 W W') : MB kx kc S2 W' := ⟨hk.at_ h.at_ h.out, fun h2 => by
  rcases hg kx h2 with h3 | h3
  · exact h.out h3
  · have := lt_of_block h.at_; omega⟩
theorem MB.push {v' : Value} {us : List Value} (h : MB kx kc S1 W) (hm : MidR S w b br z s a bb t hv ev A csA blA Z X av n cs c7 S1 W r1) (ha : Appended 48 8 W W' av v' (n + 1) (cs ++ us)) : MB kx kc S1 W' := ⟨ha.keeps.at_ h.at_ (ownsRow_new hm.row h.at_ (by decide)), h.out⟩
theorem MB.ne (h : MB kx kc S1 W) (hm : MidR S w b br z s a bb t hv ev A csA blA Z X av n cs c7 S1 W r1) : kx ≠ br := by
  rintro rfl
  have := h.at_
  rw [hm.xs.box] at this
  injection this with this
  injection this with _ this
  revert this
  decide
theorem MB.put7 (h : MB kx kc S1 W) (hm : MidR S w b br z s a bb t hv ev A csA blA Z X av n cs c7 S1 W r1) (u : Value) : MB kx kc S1 (W.setCell ⟨br, 7, none⟩ u) := ⟨by rw [heap_setCell_ne _ _ _ _ (h.ne hm)]; exact h.at_, h.out⟩
theorem MidR.gne {g cap : Nat} (hm : MidR S w b br z s a bb t hv ev A csA blA Z X (.slice (some ⟨g, 0, none⟩) n cap) n cs c7 S1 W r1) (h : MB kx kc S1 W) : kx ≠ g := fun e => ownsRow_new hm.row h.at_ (by decide) (by rw [e]; rfl)
theorem MB.set8 {g : Nat} (h : MB kx kc S1 W) (hn : kx ≠ g) (c0 c1 c2 c3 c4 c5 c6 d7 : Value) : MB kx kc S1 ((((((((W.setCell ⟨g, A.length * 8, none⟩ c0).setCell ⟨g, A.length * 8 + 1, none⟩ c1).setCell ⟨g, A.length * 8 + 2, none⟩ c2).setCell ⟨g, A.length * 8 + 3, none⟩ c3).setCell ⟨g, A.length * 8 + 4, none⟩ c4).setCell ⟨g, A.length * 8 + 5, none⟩ c5).setCell ⟨g, A.length * 8 + 6, none⟩ c6).setCell ⟨g, A.length * 8 + 7, none⟩ d7) := ⟨by
  repeat rw [heap_setCell_ne _ _ _ _ (by exact hn)]
  exact h.at_, h.out⟩
/-- the struct itself was appended -/
theorem MidR.finD {g cap : Nat} {c0 c1 c2 c3 c4 c5 c6 d7 : Value} {x : Rep} {bx : List Nat} (h : MidR S w b br z s a bb t hv ev A csA blA Z (some (x, .agg #[c0, c1, c2, c3, c4, c5, c6, d7], bx)) (.slice (some ⟨g, 0, none⟩) (A.length + 1) cap) (A.length + 1) (csA ++ [c0, c1, c2, c3, c4, c5, c6, d7]) c7 S1 W r1) (k : MB kx kc S1 W) : ∃ av cs' bl S4, MidR S w b br z s a bb t hv ev (A ++ [x]) cs' bl none none av (A.length + 1) cs' av S4 (W.setCell ⟨br, 7, none⟩ (.slice (some ⟨g, 0, none⟩) (A.length + 1) cap)) r1 ∧ ((W.setCell ⟨br, 7, none⟩ (.slice (some ⟨g, 0, none⟩) (A.length + 1) cap))).heap[kx]? = some (.cells kc 87 (0, 0)) ∧ ¬ S4 kx := by
  obtain ⟨cs', bl, h'⟩ := (h.put7 (.slice (some ⟨g, 0, none⟩) (A.length + 1) cap)).done
  exact ⟨_, cs', bl, _, h', (k.put7 h _).at_, k.out⟩
/-- a struct of zeros was appended; then it was stored -/
theorem MidR.finE {g cap : Nat} {u0 u1 u2 u3 u4 u5 u6 u7 c0 c1 c2 c3 c4 c5 c6 d7 : Value} {x : Rep} {bx : List Nat} (h : MidR S w b br z s a bb t hv ev A csA blA Z (some (x, .agg #[c0, c1, c2, c3, c4, c5, c6, d7], bx)) (.slice (some ⟨g, 0, none⟩) (A.length + 1) cap) (A.length + 1) (csA ++ [u0, u1, u2, u3, u4, u5, u6, u7]) (.slice (some ⟨g, 0, none⟩) (A.length + 1) cap) S1 W r1) (k : MB kx kc S1 W) : ∃ av cs' bl S4, MidR S w b br z s a bb t hv ev (A ++ [x]) cs' bl none none av (A.length + 1) cs' av S4 ((((((((W.setCell ⟨g, A.length * 8, none⟩ c0).setCell ⟨g, A.length * 8 + 1, none⟩ c1).setCell ⟨g, A.length * 8 + 2, none⟩ c2).setCell ⟨g, A.length * 8 + 3, none⟩ c3).setCell ⟨g, A.length * 8 + 4, none⟩ c4).setCell ⟨g, A.length * 8 + 5, none⟩ c5).setCell ⟨g, A.length * 8 + 6, none⟩ c6).setCell ⟨g, A.length * 8 + 7, none⟩ d7) r1 ∧ (((((((((W.setCell ⟨g, A.length * 8, none⟩ c0).setCell ⟨g, A.length * 8 + 1, none⟩ c1).setCell ⟨g, A.length * 8 + 2, none⟩ c2).setCell ⟨g, A.length * 8 + 3, none⟩ c3).setCell ⟨g, A.length * 8 + 4, none⟩ c4).setCell ⟨g, A.length * 8 + 5, none⟩ c5).setCell ⟨g, A.length * 8 + 6, none⟩ c6).setCell ⟨g, A.length * 8 + 7, none⟩ d7)).heap[kx]? = some (.cells kc 87 (0, 0)) ∧ ¬ S4 kx := by
  obtain ⟨cs', bl, h'⟩ := (h.elems8 c0 c1 c2 c3 c4 c5 c6 d7).done
  exact ⟨_, cs', bl, _, h', (k.set8 (h.gne k) c0 c1 c2 c3 c4 c5 c6 d7).at_, k.out⟩
end
end Go.Proofs.YtpccaodkgboefaaGreatDoor

namespace Go.Proofs.YtpccaodkgboefaaGreatDoor
open Go Go.RowKit

theorem not_early {b : Bool} {p : Prop} (h : b = false) (he : b = true) : p := by subst h; cases he
section
variable {P : Program} {ops : Array Oper} {Q : Exit → Act → World → Prop} {md : Region.Mode} {T S : World → Prop} {kp : Nat → Bool}

/-- none of those that hang on the load has come up -/
def early (kp : Nat → Bool) (n : Nat) (listed : Array Bool) : Bool := (List.range n).all fun j => kp j || !listed.getD j true
/-- each that is no keeper waits for i, or for another that is none -/
def hangs (md : Region.Mode) (ops : Array Oper) (kp : Nat → Bool) (i : Nat) : Bool :=
  (List.range ops.size).all fun j => kp j || match ops[j]? with
    | none => true
    | some o => o.after.any fun e => Region.binds md e && (e.on == i || (!kp e.on && decide (e.on < ops.size)))
theorem early_spec {n : Nat} {listed : Array Bool} (h : early kp n listed = true) {j : Nat} (hj : j < n) (hk : kp j = false) : listed.getD j true = false := by
  unfold early at h
  rw [List.all_eq_true] at h
  have := h j (by simpa using hj)
  simpa [hk] using this
theorem early_set {n : Nat} {listed : Array Bool} {i : Nat} (h : early kp n listed = true) (hi : kp i = true) : early kp n (listed.setIfInBounds i true) = true := by
  unfold early
  rw [List.all_eq_true]
  intro j hj
  cases hk : kp j with
  | true => rfl
  | false =>
    have hne : i ≠ j := fun e => by subst e; rw [hi] at hk; cases hk
    rw [getD_set_ne true hne, early_spec h (by simpa using hj) hk]
    rfl
theorem listed_both {listed : Array Bool} {j : Nat} (h1 : listed.getD j true = false) (h2 : listed.getD j false = true) : False := by
  rcases Nat.lt_or_ge j listed.size with h' | h'
  · simp [h'] at h1 h2
    rw [h1] at h2
    cases h2
  · simp [Array.getElem?_eq_none h'] at h2

theorem early_unset {n : Nat} {listed : Array Bool} {i : Nat} (h : early kp n (listed.setIfInBounds i true) = true) (hi : kp i = true) : early kp n listed = true := by
  unfold early
  rw [List.all_eq_true]
  intro j hj
  cases hk : kp j with
  | true => rfl
  | false =>
    have hne : i ≠ j := fun e => by subst e; rw [hi] at hk; cases hk
    have := early_spec h (by simpa using hj) hk
    rw [getD_set_ne true hne] at this
    rw [this]
    rfl

/-- T holds behind each operation, S as long as it is early -/
def wpKeep (P : Program) (md : Region.Mode) (ops : Array Oper) (Q : Exit → Act → World → Prop) (T S : World → Prop) (kp : Nat → Bool) : Nat → Array Bool → Act → World → Prop
  | 0, listed, a, w => Region.ready md ops listed = [] ∧ Q .normal a w
  | fuel + 1, listed, a, w => (Region.ready md ops listed = [] → Q .normal a w) ∧
    ∀ i ∈ Region.ready md ops listed, wpOp P ops Q i (fun a' w' => (T w' ∧ (early kp ops.size (listed.setIfInBounds i true) = true → S w')) ∧ wpKeep P md ops Q T S kp fuel (listed.setIfInBounds i true) a' w') a w
theorem wpAny_of_keep : ∀ (fuel : Nat) (listed : Array Bool) (a : Act) (w : World), wpKeep P md ops Q T S kp fuel listed a w → wpAny P md ops Q fuel listed a w
  | 0, _, _, _, h => h
  | fuel + 1, _, _, _, h => ⟨h.1, fun i hi => wpOp_mono (fun a' w' h' => wpAny_of_keep fuel _ a' w' h'.2) (h.2 i hi)⟩

/-- what yields wherever T holds may be taken first -/
theorem wpKeep_firstT {i : Nat} {oi : Oper} {v : Value} (hi : ops[i]? = some oi) (hsel : ∀ (j : Nat) (o : Oper) cs b, ops[j]? = some o → o.op ≠ .select cs b) (hQ : ∀ c a w, Q (.panic c) (a.put oi.dst v) w → Q (.panic c) a w)
    (hki : kp i = true) : ∀ (fuel : Nat) (listed : Array Bool) (a : Act) (w : World),
      (∀ j oj, ops[j]? = some oj → j ≠ i → listed.getD j true = false → (∀ e ∈ oj.after, Region.binds md e = true → e.on ≠ i) → oi.apart ops oj = true) →
      i ∈ Region.ready md ops listed → YieldsIf P ops T oi v a → T w → (early kp ops.size listed = true → S w) →
      wpKeep P md ops Q T S kp fuel (listed.setIfInBounds i true) (a.put oi.dst v) w → wpKeep P md ops Q T S kp (fuel + 1) listed a w
  | 0, listed, a, w, _, hr, hy, hT, hS, H => by
    refine ⟨fun h => (by rw [h] at hr; cases hr), fun j hj => ?_⟩
    by_cases hji : j = i
    · subst hji
      exact hy.wpOp hi hT ⟨⟨hT, fun h => hS (early_unset h hki)⟩, H⟩
    · have := ready_mono hj hji
      rw [H.1] at this
      cases this
  | fuel + 1, listed, a, w, hfree, hr, hy, hT, hS, H => by
    refine ⟨fun h => (by rw [h] at hr; cases hr), fun j hj => ?_⟩
    by_cases hji : j = i
    · subst hji
      exact hy.wpOp hi hT ⟨⟨hT, fun h => hS (early_unset h hki)⟩, H⟩
    · have h1 := H.2 j (ready_mono hj hji)
      obtain ⟨hjun, oj, hoj, hall⟩ := mem_ready.1 hj
      have hiun := (mem_ready.1 hr).1
      have hnot : ∀ e ∈ oj.after, Region.binds md e = true → e.on ≠ i := fun e he hb heq => by
        have h3 := hall e he hb
        rw [heq] at h3
        exact listed_both hiun h3
      have h2 := wpOp_putIf hoj (hfree j oj hoj hji hjun hnot) (fun cs b => hsel i oi cs b hi) (fun cs b => hsel j oj cs b hoj) hQ hy h1
      have hfree' : ∀ k ok, ops[k]? = some ok → k ≠ i → (listed.setIfInBounds j true).getD k true = false → (∀ e ∈ ok.after, Region.binds md e = true → e.on ≠ i) → oi.apart ops ok = true := fun k ok hk hk2 hun hno => by
        refine hfree k ok hk hk2 ?_ hno
        by_cases hjk : j = k
        · subst hjk
          exact hjun
        · rwa [getD_set_ne true hjk] at hun
      refine wpOp_mono (fun a' w' h3 => ?_) h2
      have hS' : early kp ops.size (listed.setIfInBounds j true) = true → S w' := fun he => h3.2.1.2 (by rw [← Array.setIfInBounds_comm _ _ hji]; exact early_set he hki)
      refine ⟨⟨h3.2.1.1, hS'⟩, wpKeep_firstT hi hsel hQ hki fuel (listed.setIfInBounds j true) a' w' hfree' (ready_mono hr (Ne.symm hji)) h3.1 h3.2.1.1 hS' ?_⟩
      rw [Array.setIfInBounds_comm _ _ hji]
      exact h3.2.2
/-- what yields wherever T and S hold may be taken first, if all that hang not on it keep S -/
theorem wpKeep_first {i : Nat} {oi : Oper} {v : Value} (hi : ops[i]? = some oi) (hsel : ∀ (j : Nat) (o : Oper) cs b, ops[j]? = some o → o.op ≠ .select cs b) (hQ : ∀ c a w, Q (.panic c) (a.put oi.dst v) w → Q (.panic c) a w)
    (hki : kp i = true) (hh : hangs md ops kp i = true) : ∀ (fuel : Nat) (listed : Array Bool) (a : Act) (w : World),
      (∀ j oj, ops[j]? = some oj → j ≠ i → listed.getD j true = false → (∀ e ∈ oj.after, Region.binds md e = true → e.on ≠ i) → oi.apart ops oj = true) →
      i ∈ Region.ready md ops listed → early kp ops.size listed = true → YieldsIf P ops (fun w => T w ∧ S w) oi v a → T w ∧ S w →
      wpKeep P md ops Q T S kp fuel (listed.setIfInBounds i true) (a.put oi.dst v) w → wpKeep P md ops Q T S kp (fuel + 1) listed a w
  | 0, listed, a, w, _, hr, _, hy, hS, H => by
    refine ⟨fun h => (by rw [h] at hr; cases hr), fun j hj => ?_⟩
    by_cases hji : j = i
    · subst hji
      exact hy.wpOp hi hS ⟨⟨hS.1, fun _ => hS.2⟩, H⟩
    · have := ready_mono hj hji
      rw [H.1] at this
      cases this
  | fuel + 1, listed, a, w, hfree, hr, hea, hy, hS, H => by
    refine ⟨fun h => (by rw [h] at hr; cases hr), fun j hj => ?_⟩
    by_cases hji : j = i
    · subst hji
      exact hy.wpOp hi hS ⟨⟨hS.1, fun _ => hS.2⟩, H⟩
    · have h1 := H.2 j (ready_mono hj hji)
      obtain ⟨hjun, oj, hoj, hall⟩ := mem_ready.1 hj
      have hiun := (mem_ready.1 hr).1
      have hjlt : j < ops.size := (Array.getElem?_eq_some_iff.1 hoj).1
      have hkj : kp j = true := by
        cases hk : kp j with
        | true => rfl
        | false =>
          unfold hangs at hh
          rw [List.all_eq_true] at hh
          have hx := hh j (by simpa using hjlt)
          rw [hk, hoj] at hx
          simp only [Bool.false_or] at hx
          obtain ⟨e, he, hb⟩ := Array.any_eq_true'.1 hx
          simp only [Bool.and_eq_true, Bool.or_eq_true, beq_iff_eq, Bool.not_eq_true', decide_eq_true_eq] at hb
          have h3 := hall e he hb.1
          rcases hb.2 with h4 | ⟨h4, h5⟩
          · rw [h4] at h3
            exact (listed_both hiun h3).elim
          · exact (listed_both (early_spec hea h5 h4) h3).elim
      have hnot : ∀ e ∈ oj.after, Region.binds md e = true → e.on ≠ i := fun e he hb heq => by
        have h3 := hall e he hb
        rw [heq] at h3
        exact listed_both hiun h3
      have h2 := wpOp_putIf hoj (hfree j oj hoj hji hjun hnot) (fun cs b => hsel i oi cs b hi) (fun cs b => hsel j oj cs b hoj) hQ hy h1
      have hfree' : ∀ k ok, ops[k]? = some ok → k ≠ i → (listed.setIfInBounds j true).getD k true = false → (∀ e ∈ ok.after, Region.binds md e = true → e.on ≠ i) → oi.apart ops ok = true := fun k ok hk hk2 hun hno => by
        refine hfree k ok hk hk2 ?_ hno
        by_cases hjk : j = k
        · subst hjk
          exact hjun
        · rwa [getD_set_ne true hjk] at hun
      refine wpOp_mono (fun a' w' h3 => ?_) h2
      have hS' : T w' ∧ S w' := ⟨h3.2.1.1, h3.2.1.2 (early_set (early_set hea hki) hkj)⟩
      refine ⟨⟨hS'.1, fun _ => hS'.2⟩, wpKeep_first hi hsel hQ hki hh fuel (listed.setIfInBounds j true) a' w' hfree' (ready_mono hr (Ne.symm hji)) (early_set hea hkj) h3.1 hS' ?_⟩
      rw [Array.setIfInBounds_comm _ _ hji]
      exact h3.2.2

theorem wpKeep_takeT {i : Nat} {oi : Oper} {v : Value} {fuel : Nat} {listed : Array Bool} {a : Act} {w : World} (hi : ops[i]? = some oi) (hs : Region.noSelect ops = true) (hf : Region.free md ops listed i = true) (hr : (Region.ready md ops listed).contains i = true)
    (hk : kp i = true) (hQ : ∀ c a w, Q (.panic c) (a.put oi.dst v) w → Q (.panic c) a w) (hy : YieldsIf P ops T oi v a) (hT : T w) (hS : early kp ops.size listed = true → S w)
    (h : wpKeep P md ops Q T S kp fuel (listed.setIfInBounds i true) (a.put oi.dst v) w) : wpKeep P md ops Q T S kp (fuel + 1) listed a w :=
  wpKeep_firstT hi (Region.noSelect_spec hs) hQ hk fuel listed a w (Region.free_spec hi hf) (by simpa using hr) hy hT hS h
theorem wpKeep_take {i : Nat} {oi : Oper} {v : Value} {fuel : Nat} {listed : Array Bool} {a : Act} {w : World} (hi : ops[i]? = some oi) (hs : Region.noSelect ops = true) (hf : Region.free md ops listed i = true) (hr : (Region.ready md ops listed).contains i = true)
    (hk : (kp i && hangs md ops kp i && early kp ops.size listed) = true) (hQ : ∀ c a w, Q (.panic c) (a.put oi.dst v) w → Q (.panic c) a w) (hy : YieldsIf P ops (fun w => T w ∧ S w) oi v a) (hS : T w ∧ S w)
    (h : wpKeep P md ops Q T S kp fuel (listed.setIfInBounds i true) (a.put oi.dst v) w) : wpKeep P md ops Q T S kp (fuel + 1) listed a w := by
  simp only [Bool.and_eq_true] at hk
  exact wpKeep_first hi (Region.noSelect_spec hs) hQ hk.1.1 hk.1.2 fuel listed a w (Region.free_spec hi hf) (by simpa using hr) hk.2 hy hS h
/-- each of some that may come up -/
def AllKeep (P : Program) (md : Region.Mode) (ops : Array Oper) (Q : Exit → Act → World → Prop) (T S : World → Prop) (kp : Nat → Bool) (fuel : Nat) (listed : Array Bool) (a : Act) (w : World) (rs : List Nat) : Prop :=
  ∀ i ∈ rs, wpOp P ops Q i (fun a' w' => (T w' ∧ (early kp ops.size (listed.setIfInBounds i true) = true → S w')) ∧ wpKeep P md ops Q T S kp fuel (listed.setIfInBounds i true) a' w') a w
theorem AllKeep.nil {fuel : Nat} {listed : Array Bool} {a : Act} {w : World} : AllKeep P md ops Q T S kp fuel listed a w [] := fun _ h => by cases h
theorem AllKeep.cons {fuel : Nat} {listed : Array Bool} {a : Act} {w : World} {i : Nat} {o : Oper} {rs : List Nat} (ho : ops[i]? = some o)
    (h : ∀ K' : Act → World → Prop, Hid (∀ a w, T w → (early kp ops.size (listed.setIfInBounds i true) = true → S w) → wpKeep P md ops Q T S kp fuel (listed.setIfInBounds i true) a w → K' a w) → if Region.wanted o (yielded ops a.tmps) = true then Oper.wp P o a w K' Q else K' (a.put o.dst undef) w)
    (hs : AllKeep P md ops Q T S kp fuel listed a w rs) : AllKeep P md ops Q T S kp fuel listed a w (i :: rs) := fun j hj => by
  rcases List.mem_cons.1 hj with rfl | hj
  · exact wpOp_step ho (fun K' hK => h K' (fun a w hT hS hW => hK a w ⟨⟨hT, hS⟩, hW⟩))
  · exact hs j hj
theorem wpKeep_ready {rs : List Nat} {fuel : Nat} {listed : Array Bool} {a : Act} {w : World} (hr : Region.ready md ops listed = rs) (hne : rs ≠ []) (h : AllKeep P md ops Q T S kp fuel listed a w rs) : wpKeep P md ops Q T S kp (fuel + 1) listed a w :=
  ⟨fun h0 => absurd (hr ▸ h0) hne, hr ▸ h⟩
theorem wpKeep_done {listed : Array Bool} {a : Act} {w : World} (hr : Region.ready md ops listed = []) (h : Q .normal a w) : ∀ fuel, wpKeep P md ops Q T S kp fuel listed a w
  | 0 => ⟨hr, h⟩
  | _ + 1 => ⟨fun _ => h, by rw [hr]; simp⟩
theorem wp_region_keep (n : Nat) (T S : World → Prop) (kp : Nat → Bool) {id : Nat} {a : Act} {w : World} (hn : ops.size = n) (hm : P.follows .mixedOrders = true) (h : wpKeep P .any ops Q T S kp n (Array.replicate n false) a w.drew) : (Code.region id ops true).wp P Q a w :=
  wp_region_any hm (wpAny_of_keep _ _ _ _ (by rw [hn]; exact h))
end
end Go.Proofs.YtpccaodkgboefaaGreatDoor
