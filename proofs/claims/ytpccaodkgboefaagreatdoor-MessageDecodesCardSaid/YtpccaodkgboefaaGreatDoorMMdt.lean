/-
  The document's 'take': in plain words; what is under way in memory.
  The document's 'take', walked.
  What the document's take tells of what was laid down; its Decode, in plain words, is the program's. Plain.
  The document's unframe and Decode: it answers as the program's.
  What is told as a request is small. Plain.
-/
import Derived.Test.YtpccaodkgboefaaGreatDoorMMdr
import Derived.Test.YtpccaodkgboefaaGreatDoorMsDecode
import Derived.Test.YtpccaodkgboefaaGreatDoorMMdb
import Derived.Test.YtpccaodkgboefaaGreatDoorMMsG
import Derived.Test.YtpccaodkgboefaaGreatDoorMsRepK
import Derived.Test.YtpccaodkgboefaaGreatDoorMsBackP
import Derived.Test.YtpccaodkgboefaaGreatDoorMMsH
import Derived.Test.YtpccaodkgboefaaGreatDoorMMsI
import Derived.Test.YtpccaodkgboefaaGreatDoorMMb
namespace Go.Proofs.YtpccaodkgboefaaGreatDoor
open Go.RowKit

def reqA : Req → Int → Req | .mk k _ b s l e qs, a => .mk k a b s l e qs
def reqB : Req → Int → Req | .mk k a _ s l e qs, b => .mk k a b s l e qs
def reqS : Req → Int → Req | .mk k a b _ l e qs, s => .mk k a b s l e qs
def reqL : Req → List Int → Req | .mk k a b s _ e qs, l => .mk k a b s l e qs
def reqE : Req → List (List UInt8) → Req | .mk k a b s l _ qs, e => .mk k a b s l e qs
def reqQ : Req → List Req → Req | .mk k a b s l e _, qs => .mk k a b s l e qs

/-- one letter of a word, taken; G: a group's requests -/
def dLtr (G : RSt → List Req × RSt) (c : UInt8) (q : Req × RSt) : Req × RSt :=
  if c = 101 then (reqE q.1 (rd (pTexts 32 4096) [] q.2).1, (rd (pTexts 32 4096) [] q.2).2)
  else if c = 97 then (reqA q.1 ((rd (pNum 0 0) 0 q.2).1 : Nat), (rd (pNum 0 0) 0 q.2).2)
  else if c = 98 then (reqB q.1 ((rd (pNum 0 0) 0 q.2).1 : Nat), (rd (pNum 0 0) 0 q.2).2)
  else if c = 115 then (reqS q.1 ((rd (pNum 0 0) 0 q.2).1 : Nat), (rd (pNum 0 0) 0 q.2).2)
  else if c = 105 then (reqL q.1 (rd (pRising 256) [] q.2).1, (rd (pRising 256) [] q.2).2)
  else if c = 104 then (reqL q.1 (rd (pRising 64) [] q.2).1, (rd (pRising 64) [] q.2).2)
  else if c = 103 then (reqQ q.1 (q.1.asks ++ (G q.2).1), (G q.2).2)
  else q
def dLtrs (G : RSt → List Req × RSt) : List UInt8 → Req × RSt → Req × RSt
  | [], q => q
  | c :: l, q => dLtrs G l (dLtr G c q)
def dMany (F : RSt → Req × RSt) : Nat → RSt → List Req × RSt
  | 0, r => ([], r)
  | n + 1, r => ((F r).1 :: (dMany F n (F r).2).1, (dMany F n (F r).2).2)
def dStart (r : RSt) : Req × RSt := (.mk ((rd pByte 0 r).1 : Nat) 0 0 0 [] [] [], (rd pByte 0 r).2)
/-- within a group -/
def dIn (r : RSt) : Req × RSt := if (rd pByte 0 r).1 = 12 then (noReq, (rd pByte 0 r).2) else dLtrs (fun r => ([], r)) (wordOf ((rd pByte 0 r).1 : Nat)) (dStart r)
def dGroup (r : RSt) : List Req × RSt := dMany dIn (min (rd (pNum 0 0) 0 r).1 65) (rd (pNum 0 0) 0 r).2
def dTake (r : RSt) : Req × RSt := dLtrs dGroup (wordOf ((rd pByte 0 r).1 : Nat)) (dStart r)

theorem dMany_snoc (F : RSt → Req × RSt) : ∀ (n : Nat) (r : RSt), dMany F (n + 1) r = ((dMany F n r).1 ++ [(F (dMany F n r).2).1], (F (dMany F n r).2).2)
  | 0, r => rfl
  | n + 1, r => by
    rw [dMany, dMany_snoc F n (F r).2]
    rfl
theorem dMany_len (F : RSt → Req × RSt) : ∀ (n : Nat) (r : RSt), (dMany F n r).1.length = n
  | 0, r => rfl
  | n + 1, r => by rw [dMany, List.length_cons, dMany_len F n]

theorem nodup_push {L E A B V X : List Nat} {N : Nat} (h : (L ++ (E ++ (A ++ B))).Nodup) (hN : ∀ q ∈ L ++ (E ++ (A ++ B)), q < N) (hV : V.Nodup) (hV2 : ∀ q ∈ V, q ∈ A ∨ N ≤ q) (hX : X.Nodup) (hX2 : ∀ q ∈ X, q < N ∧ q ∉ L ++ (E ++ (A ++ B))) : (L ++ (E ++ (V ++ (B ++ X)))).Nodup := by
  simp only [List.nodup_append, List.mem_append] at *
  grind
theorem nodup_midE {L E A V : List Nat} (h : (L ++ (E ++ A)).Nodup) (hV : V.Nodup) (hV2 : ∀ q ∈ V, q ∉ L ++ (E ++ A)) : (L ++ (V ++ A)).Nodup := by
  simp only [List.nodup_append, List.mem_append] at *
  grind
theorem nodup_midL {L A V : List Nat} (h : (L ++ A).Nodup) (hV : V.Nodup) (hV2 : ∀ q ∈ V, q ∉ L ++ A) : (V ++ A).Nodup := by
  simp only [List.nodup_append, List.mem_append] at *
  grind

abbrev reqCells (R : Req) (lv ev av : Value) : Array Value := #[.int .i64 R.kind, .int .i64 R.a, .int .i64 R.b, .int .i64 R.size, lv, ev, av]
/-- take under way -/
structure DUw (w : World) (b b4 b5 : Nat) (s : List UInt8) (R : Req) (lv ev av : Value) (bl : List Nat) (W : World) (r : RSt) : Prop where
  rep : DRep W b s r
  keeps : Keeps (fun q => q = b) w W
  lt : b < w.heap.size
  box4 : W.heap[b4]? = some (.cells zeroReq 26 (0, 0))
  box5 : W.heap[b5]? = some (.cells (reqCells R lv ev av) 26 (0, 0))
  n4 : w.heap.size ≤ b4
  n5 : w.heap.size ≤ b5
  d45 : b4 ≠ b5
  own : ReqOwn W R (.agg (reqCells R lv ev av)) bl
  nodup : bl.Nodup
  new : ∀ q ∈ bl, w.heap.size ≤ q ∧ q ≠ b4 ∧ q ≠ b5

section
variable {w W W' : World} {b b4 b5 : Nat} {s : List UInt8} {R R' : Req} {lv ev av lv' ev' av' : Value} {bl bl' : List Nat} {r r' : RSt}
theorem DUw.call (h : DUw w b b4 b5 s R lv ev av bl W r) (hk : Keeps (fun q => q = b) W W') (hr : DRep W' b s r') : DUw w b b4 b5 s R lv ev av bl W' r' :=
  have hlt := h.lt
  have n4 := h.n4
  have n5 := h.n5
  ⟨hr, h.keeps.trans hk, h.lt, hk.at_ h.box4 (fun e : b4 = b => by omega), hk.at_ h.box5 (fun e : b5 = b => by omega), h.n4, h.n5, h.d45, ReqOwn.keeps hk _ _ _ h.own (fun q hq (e : q = b) => by have := (h.new q hq).1; omega), h.nodup, h.new⟩
theorem DUw.fresh (h : DUw w b b4 b5 s R lv ev av bl W r) (hk : Fresh W W') : DUw w b b4 b5 s R lv ev av bl W' r :=
  h.call (hk.mono fun _ _ h => h.elim) (h.rep.keeps hk fun h => h)
theorem DUw.set (h : DUw w b b4 b5 s R lv ev av bl W r) (o : Nat) (u : Value) (hcs : (reqCells R lv ev av).setIfInBounds o u = reqCells R' lv' ev' av')
    (hown : ReqOwn W R' (.agg (reqCells R' lv' ev' av')) bl') (hnd : bl'.Nodup) (hnew : ∀ q ∈ bl', w.heap.size ≤ q ∧ q ≠ b4 ∧ q ≠ b5) : DUw w b b4 b5 s R' lv' ev' av' bl' (W.setCell ⟨b5, o, none⟩ u) r := by
  have hlt := h.lt
  have n4 := h.n4
  have n5 := h.n5
  have hk : Keeps (fun q => q = b5) W (W.setCell ⟨b5, o, none⟩ u) := Keeps.setCell (S := fun q => q = b5) (p := ⟨b5, o, none⟩) (Keeps.refl _ _) (fun _ => rfl) _
  refine ⟨h.rep.keeps hk (fun e : b = b5 => by omega), h.keeps.trans' hk (fun q hq (e : q = b5) => by omega), h.lt, hk.at_ h.box4 h.d45, ?_, h.n4, h.n5, h.d45, ReqOwn.keeps hk _ _ _ hown (fun q hq => (hnew q hq).2.2), hnd, hnew⟩
  rw [← hcs]
  exact heap_setCell_at h.box5 o u
theorem DUw.rows (h : DUw w b b4 b5 s R lv ev av bl W r) : ∃ cs b1, W.ownsRow 0 3 1 lv R.list.length (ints R.list) ∧ W.ownsRow 0 9 1 ev R.entries.length (texts R.entries) ∧ W.ownsRow 0 26 7 av R.asks.length cs ∧ ElemsOwn W R.asks cs b1 ∧ bl = lv.ownBlock.toList ++ (ev.ownBlock.toList ++ (av.ownBlock.toList ++ b1)) := by
  have := h.own
  obtain ⟨k, a, b', s', l, e, qs⟩ := R
  rw [ReqOwn] at this
  obtain ⟨lv', ev', av', cs, b1, he, h1, h2, h3, h4, h5⟩ := this
  simp only [Value.agg.injEq, Array.mk.injEq, List.cons.injEq, and_true, reqCells] at he
  obtain ⟨-, -, -, -, rfl, rfl, rfl⟩ := he
  exact ⟨cs, b1, h1, h2, h3, h4, h5⟩
theorem DUw.there (h : DUw w b b4 b5 s R lv ev av bl W r) : ∀ q ∈ bl, q < W.heap.size := ReqOwn.there _ _ _ h.own
theorem DUw.numA (h : DUw w b b4 b5 s R lv ev av bl W r) (n : Int) : DUw w b b4 b5 s (reqA R n) lv ev av bl (W.setCell ⟨b5, 1, none⟩ (.int .i64 n)) r := by
  obtain ⟨cs, b1, h1, h2, h3, h4, h5⟩ := h.rows
  obtain ⟨k, a, b', s', l, e, qs⟩ := R
  refine h.set 1 _ rfl ?_ h.nodup h.new
  show ReqOwn _ (.mk _ _ _ _ _ _ _) _ _
  rw [ReqOwn]
  exact ⟨_, _, _, cs, b1, rfl, h1, h2, h3, h4, h5⟩
theorem DUw.numB (h : DUw w b b4 b5 s R lv ev av bl W r) (n : Int) : DUw w b b4 b5 s (reqB R n) lv ev av bl (W.setCell ⟨b5, 2, none⟩ (.int .i64 n)) r := by
  obtain ⟨cs, b1, h1, h2, h3, h4, h5⟩ := h.rows
  obtain ⟨k, a, b', s', l, e, qs⟩ := R
  refine h.set 2 _ rfl ?_ h.nodup h.new
  show ReqOwn _ (.mk _ _ _ _ _ _ _) _ _
  rw [ReqOwn]
  exact ⟨_, _, _, cs, b1, rfl, h1, h2, h3, h4, h5⟩
theorem DUw.numS (h : DUw w b b4 b5 s R lv ev av bl W r) (n : Int) : DUw w b b4 b5 s (reqS R n) lv ev av bl (W.setCell ⟨b5, 3, none⟩ (.int .i64 n)) r := by
  obtain ⟨cs, b1, h1, h2, h3, h4, h5⟩ := h.rows
  obtain ⟨k, a, b', s', l, e, qs⟩ := R
  refine h.set 3 _ rfl ?_ h.nodup h.new
  show ReqOwn _ (.mk _ _ _ _ _ _ _) _ _
  rw [ReqOwn]
  exact ⟨_, _, _, cs, b1, rfl, h1, h2, h3, h4, h5⟩
theorem DUw.list (h : DUw w b b4 b5 s R lv ev av bl W r) {l' : List Int} {v : Value} (hrow : W.ownsRow 0 3 1 v l'.length (ints l')) (hn : ∀ g, v.ownBlock = some g → w.heap.size ≤ g ∧ g ∉ bl) :
    ∃ bl', DUw w b b4 b5 s (reqL R l') v ev av bl' (W.setCell ⟨b5, 4, none⟩ v) r := by
  obtain ⟨cs, b1, h1, h2, h3, h4, h5⟩ := h.rows
  obtain ⟨k, a, b', s', l, e, qs⟩ := R
  refine ⟨v.ownBlock.toList ++ (ev.ownBlock.toList ++ (av.ownBlock.toList ++ b1)), h.set 4 v rfl ?_ ?_ ?_⟩
  · show ReqOwn _ (.mk _ _ _ _ _ _ _) _ _
    rw [ReqOwn]
    exact ⟨_, _, _, cs, b1, rfl, hrow, h2, h3, h4, rfl⟩
  · refine nodup_midL (L := lv.ownBlock.toList) (by rw [← h5]; exact h.nodup) (by cases v.ownBlock <;> simp) (fun q hq => by rw [← h5]; exact (hn q (mem_ownBlock.1 hq)).2)
  · intro q hq
    rcases List.mem_append.1 hq with hq | hq
    · have hq := mem_ownBlock.1 hq
      refine ⟨(hn q hq).1, ?_, ?_⟩ <;> rintro rfl
      · exact ownsRow_new hrow h.box4 (by decide) hq
      · exact ownsRow_new hrow h.box5 (by decide) hq
    · exact h.new q (by rw [h5]; exact List.mem_append_right _ hq)
theorem DUw.entries (h : DUw w b b4 b5 s R lv ev av bl W r) {e' : List (List UInt8)} {v : Value} (hrow : W.ownsRow 0 9 1 v e'.length (texts e')) (hn : ∀ g, v.ownBlock = some g → w.heap.size ≤ g ∧ g ∉ bl) :
    ∃ bl', DUw w b b4 b5 s (reqE R e') lv v av bl' (W.setCell ⟨b5, 5, none⟩ v) r := by
  obtain ⟨cs, b1, h1, h2, h3, h4, h5⟩ := h.rows
  obtain ⟨k, a, b', s', l, e, qs⟩ := R
  refine ⟨lv.ownBlock.toList ++ (v.ownBlock.toList ++ (av.ownBlock.toList ++ b1)), h.set 5 v rfl ?_ ?_ ?_⟩
  · show ReqOwn _ (.mk _ _ _ _ _ _ _) _ _
    rw [ReqOwn]
    exact ⟨_, _, _, cs, b1, rfl, h1, hrow, h3, h4, rfl⟩
  · refine nodup_midE (E := ev.ownBlock.toList) (by rw [← h5]; exact h.nodup) (by cases v.ownBlock <;> simp) (fun q hq => by rw [← h5]; exact (hn q (mem_ownBlock.1 hq)).2)
  · intro q hq
    rcases List.mem_append.1 hq with hq | hq
    · exact h.new q (by rw [h5]; exact List.mem_append_left _ hq)
    · rcases List.mem_append.1 hq with hq | hq
      · have hq := mem_ownBlock.1 hq
        refine ⟨(hn q hq).1, ?_, ?_⟩ <;> rintro rfl
        · exact ownsRow_new hrow h.box4 (by decide) hq
        · exact ownsRow_new hrow h.box5 (by decide) hq
      · exact h.new q (by rw [h5]; exact List.mem_append_right _ (List.mem_append_right _ hq))
theorem DUw.push (h : DUw w b b4 b5 s R lv ev av bl W r) {x : Req} {c0 c1 c2 c3 c4 c5 c6 v' : Value} {bx b1 : List Nat} {cs : List Value}
    (h1 : W.ownsRow 0 3 1 lv R.list.length (ints R.list)) (h2 : W.ownsRow 0 9 1 ev R.entries.length (texts R.entries)) (h4 : ElemsOwn W R.asks cs b1) (h5 : bl = lv.ownBlock.toList ++ (ev.ownBlock.toList ++ (av.ownBlock.toList ++ b1)))
    (hx : ReqOwn W x (.agg #[c0, c1, c2, c3, c4, c5, c6]) bx) (hnx : bx.Nodup) (hbx : ∀ q ∈ bx, (w.heap.size ≤ q ∧ q ≠ b4 ∧ q ≠ b5) ∧ q ∉ bl) (ha : Appended 26 7 W W' av v' (R.asks.length + 1) (cs ++ [c0, c1, c2, c3, c4, c5, c6])) :
    ∃ bl', DUw w b b4 b5 s (reqQ R (R.asks ++ [x])) lv ev v' bl' (W'.setCell ⟨b5, 6, none⟩ v') r := by
  have hsz := h.keeps.size
  have nd := h.nodup
  have hnew := h.new
  have hthere := h.there
  have hbx2 := ReqOwn.there _ _ _ hx
  rw [h5] at nd hnew hthere
  have hT : ∀ q, av.ownBlock = some q → w.heap.size ≤ q ∧ q ≠ b4 ∧ q ≠ b5 := fun q hq => hnew q (by simp [mem_ownBlock.2 hq])
  have hLA : ∀ q, lv.ownBlock = some q → ¬ av.ownBlock = some q := fun q hq hq2 => (List.nodup_append.1 nd).2.2 q (mem_ownBlock.2 hq) q (by simp [mem_ownBlock.2 hq2]) rfl
  have hEA : ∀ q, ev.ownBlock = some q → ¬ av.ownBlock = some q := fun q hq hq2 => (List.nodup_append.1 (List.nodup_append.1 nd).2.1).2.2 q (mem_ownBlock.2 hq) q (by simp [mem_ownBlock.2 hq2]) rfl
  have hBA : ∀ q ∈ b1, ¬ av.ownBlock = some q := fun q hq hq2 => (List.nodup_append.1 (List.nodup_append.1 (List.nodup_append.1 nd).2.1).2.1).2.2 q (mem_ownBlock.2 hq2) q hq rfl
  have hXA : ∀ q ∈ bx, ¬ av.ownBlock = some q := fun q hq hq2 => (hbx q hq).2 (by rw [h5]; simp [mem_ownBlock.2 hq2])
  have hV : ∀ q ∈ v'.ownBlock.toList, q ∈ av.ownBlock.toList ∨ W.heap.size ≤ q := fun q hq => (ha.own q (mem_ownBlock.1 hq)).imp mem_ownBlock.2 (fun h => h.1)
  obtain ⟨k, a, b', s', l, e, qs⟩ := R
  have hk5 : Keeps (fun q => q = b5) W' (W'.setCell ⟨b5, 6, none⟩ v') := Keeps.setCell (S := fun q => q = b5) (p := ⟨b5, 6, none⟩) (Keeps.refl _ _) (fun _ => rfl) _
  have hn4 : ¬ av.ownBlock = some b4 := fun e => (hT _ e).2.1 rfl
  have hn5 : ¬ av.ownBlock = some b5 := fun e => (hT _ e).2.2 rfl
  have hb5 := ha.keeps.at_ h.box5 hn5
  have hnb5 := lt_of_block h.box5
  have hnb4 := lt_of_block h.box4
  have hnew' : ∀ q ∈ lv.ownBlock.toList ++ (ev.ownBlock.toList ++ (v'.ownBlock.toList ++ (b1 ++ bx))), w.heap.size ≤ q ∧ q ≠ b4 ∧ q ≠ b5 := fun q hq => by
    simp only [List.mem_append] at hq
    rcases hq with hq | hq | hq | hq | hq
    · exact hnew q (by simp [hq])
    · exact hnew q (by simp [hq])
    · rcases hV q hq with h9 | h9
      · exact hnew q (by simp [h9])
      · exact ⟨by omega, by omega, by omega⟩
    · exact hnew q (by simp [hq])
    · exact (hbx q hq).1
  refine ⟨lv.ownBlock.toList ++ (ev.ownBlock.toList ++ (v'.ownBlock.toList ++ (b1 ++ bx))), (h.rep.keeps ha.keeps (fun e => by have := (hT _ e).1; have := h.lt; omega)).keeps hk5 (fun e : b = b5 => by have := h.lt; have := h.n5; omega),
    (h.keeps.trans' ha.keeps (fun q hq e => by have := (hT q e).1; omega)).trans' hk5 (fun q hq (e : q = b5) => by have := h.n5; omega), h.lt, hk5.at_ (ha.keeps.at_ h.box4 hn4) h.d45, heap_setCell_at hb5 6 v', h.n4, h.n5, h.d45, ?_, ?_, hnew'⟩
  · refine ReqOwn.keeps hk5 _ _ _ ?_ (fun q hq => (hnew' q hq).2.2)
    show ReqOwn _ (.mk _ _ _ _ _ _ _) _ _
    rw [ReqOwn]
    refine ⟨_, _, _, _, b1 ++ bx, rfl, ownsRow_keeps h1 ha.keeps hLA, ownsRow_keeps h2 ha.keeps hEA, ?_, (ElemsOwn.keeps ha.keeps _ _ _ h4 hBA).snoc (ReqOwn.keeps ha.keeps _ _ _ hx hXA), rfl⟩
    show World.ownsRow _ _ _ _ _ (qs ++ [x]).length _
    rw [List.length_append]
    exact ha.row
  · exact nodup_push nd hthere (by cases v'.ownBlock <;> simp) hV hnx (fun q hq => ⟨hbx2 q hq, by rw [← h5]; exact (hbx q hq).2⟩)
end
end Go.Proofs.YtpccaodkgboefaaGreatDoor

namespace Go.Proofs.YtpccaodkgboefaaGreatDoor
open Go.RowKit

/-- what take leaves -/
def DTookR (b : Nat) (s : List UInt8) (q : Req × RSt) (w : World) (e : Ending) (w' : World) : Prop :=
  ∃ v bl, e = .returned v ∧ Keeps (fun q => q = b) w w' ∧ DRep w' b s q.2 ∧ ReqOwn w' q.1 v bl ∧ bl.Nodup ∧ ∀ g ∈ bl, w.heap.size ≤ g

theorem duw_start {w w1 : World} {b : Nat} {s : List UInt8} {r r1 : RSt} (k : Int) (h : DRep w b s r) (hk : Keeps (fun q => q = b) (w.alloc (.cells zeroReq 26)) w1) (hr : DRep w1 b s r1) :
    DUw w b w.heap.size w1.heap.size s (.mk k 0 0 0 [] [] []) (.slice none 0 0) (.slice none 0 0) (.slice none 0 0) [] (w1.alloc (.cells #[.int .i64 k, .int .i64 0, .int .i64 0, .int .i64 0, .slice none 0 0, .slice none 0 0, .slice none 0 0] 26)) r1 := by
  have hlt := h.cells.2.2.2.2.2
  have f0 : Fresh w (w.alloc (.cells zeroReq 26)) := (Keeps.refl _ _).alloc _
  have f1 : Fresh w1 (w1.alloc (.cells #[.int .i64 k, .int .i64 0, .int .i64 0, .int .i64 0, .slice none 0 0, .slice none 0 0, .slice none 0 0] 26)) := (Keeps.refl _ _).alloc _
  have hb4 := f1.at_ (hk.at_ (heap_alloc_new w (.cells zeroReq 26)) (fun e : w.heap.size = b => by omega)) (fun h => h)
  have hsz := hk.size
  simp only [World.size_alloc] at hsz
  refine ⟨hr.keeps f1 fun h => h, (f0.mono_trans hk).trans (f1.mono fun _ _ h => h.elim), hlt, hb4, heap_alloc_new _ _, Nat.le_refl _, by omega, by omega, ?_, List.nodup_nil, fun q hq => by cases hq⟩
  rw [ReqOwn]
  exact ⟨_, _, _, [], [], rfl, World.ownsRow_nil _ _ _ _, World.ownsRow_nil _ _ _ _, World.ownsRow_nil _ _ _ _, by rw [ElemsOwn]; exact ⟨rfl, rfl⟩, rfl⟩

theorem xrtexts32 (b : Nat) (s : List UInt8) (r : RSt) (w : World) (h : DRep w b s r) :
    Calls Tryz.prog 82 #[.pointer (some ⟨b, 0, none⟩), .int .i64 32, .int .i64 4096] w fun e w' => DTook 9 texts b s (rd (pTexts 32 4096) [] r) w e w' := xrtexts_any 32 4096 (by omega) (by omega) b s r w h
theorem xrrising256 (b : Nat) (s : List UInt8) (r : RSt) (w : World) (h : DRep w b s r) :
    Calls Tryz.prog 84 #[.pointer (some ⟨b, 0, none⟩), .int .i64 256] w fun e w' => DTook 3 ints b s (rd (pRising 256) [] r) w e w' := xrrising_any 256 (by omega) b s r w h
theorem xrrising64 (b : Nat) (s : List UInt8) (r : RSt) (w : World) (h : DRep w b s r) :
    Calls Tryz.prog 84 #[.pointer (some ⟨b, 0, none⟩), .int .i64 64] w fun e w' => DTook 3 ints b s (rd (pRising 64) [] r) w e w' := xrrising_any 64 (by omega) b s r w h

set_option maxRecDepth 100000 in
set_option maxHeartbeats 8000000 in
theorem dtake_core (within : Bool) (b : Nat) (s : List UInt8)
    (hF : within = false → ∀ r w, DRep w b s r → Calls Tryz.prog 44 #[.pointer (some ⟨b, 0, none⟩), .bool true] w (DTookR b s (dIn r) w))
    (r : RSt) (w : World) (h : DRep w b s r) :
    Calls Tryz.prog 44 #[.pointer (some ⟨b, 0, none⟩), .bool within] w (DTookR b s (if within then dIn r else dTake r) w) := by
  have HFF := hid hF
  have HD := hid h
  clear hF h
  have f0 : Fresh w (w.alloc (.cells zeroReq 26)) := (Keeps.refl _ _).alloc _
  have hby := fun W hW => xrbyte_any b s r W hW
  have hQ : Hid ((if within then dIn r else dTake r) = if within = true ∧ (rd pByte 0 r).1 = 12 then (noReq, (rd pByte 0 r).2) else dLtrs (if within then (fun r => ([], r)) else dGroup) (wordOf ((rd pByte 0 r).1 : Nat)) (.mk ((rd pByte 0 r).1 : Nat) 0 0 0 [] [] [], (rd pByte 0 r).2)) := by
    cases within <;> simp [Hid, dTake, dIn, dStart]
  rw [hQ.out]
  obtain ⟨k, hk⟩ : ∃ k, (rd pByte 0 r).1 = k := ⟨_, rfl⟩
  obtain ⟨r1, hr1⟩ : ∃ r1, (rd pByte 0 r).2 = r1 := ⟨_, rfl⟩
  rw [hk, hr1] at hby ⊢
  have HBY := hid hby
  have HWD := hid (word_letters (k : Int))
  have hwl := wordOf_len (k : Int)
  have HWG := hid (wordG (k : Int))
  have HFLD := hid (fun W => dfields_any (k : Int) W)
  obtain ⟨wd, hwd⟩ : ∃ wd, wordOf (k : Int) = wd := ⟨_, rfl⟩
  rw [hwd] at HWD HWG hwl HFLD ⊢
  obtain ⟨X, hX⟩ : ∃ X, (if within = true ∧ k = 12 then (noReq, r1) else dLtrs (if within then (fun r => ([], r)) else dGroup) wd (.mk (k : Int) 0 0 0 [] [] [], r1)) = X := ⟨_, rfl⟩
  rw [hX]
  have HX := hid hX
  clear hby hk hr1 hQ hX hwd
  go_enter Tryz.func44, Tryz.ntmps44
  go_wp2_with fail
  refine (HBY.out _ (HD.out.keeps f0 fun h => h)).mono ?_
  rintro e w1 ⟨rfl, k1, hr1⟩
  have U := duw_start (k : Int) HD.out k1 hr1
  have HU := hid U
  clear U k1 hr1 f0
  go_wp2_with fail
  refine (HFLD.out _).mono ?_
  rintro e _ ⟨rfl, rfl⟩
  obtain ⟨W1, hW1⟩ : ∃ W1, w1.alloc (.cells #[.int .i64 (k : Int), .int .i64 0, .int .i64 0, .int .i64 0, .slice none 0 0, .slice none 0 0, .slice none 0 0] 26) = W1 := ⟨_, rfl⟩
  obtain ⟨b4, hb4⟩ : ∃ b4, w.heap.size = b4 := ⟨_, rfl⟩
  obtain ⟨b5, hb5⟩ : ∃ b5, w1.heap.size = b5 := ⟨_, rfl⟩
  rw [hW1, hb4, hb5] at HU
  rw [hW1, hb4, hb5]
  clear hW1 hb4 hb5 HFLD
  have hsz := str_size wd
  by_cases hz : within = true ∧ k = 12
  · obtain ⟨rfl, rfl⟩ := hz
    have hgt : ((str wd).toList == [103]) = true := by rw [str_toList, HWG.out]; rfl
    have HX2 : Hid (X = (noReq, r1)) := by rw [Hid, ← HX.out, if_pos ⟨rfl, rfl⟩]
    have z0 := cell_at HU.out.box4 0
    have z1 := cell_at HU.out.box4 1
    have z2 := cell_at HU.out.box4 2
    have z3 := cell_at HU.out.box4 3
    have z4 := cell_at HU.out.box4 4
    have z5 := cell_at HU.out.box4 5
    have z6 := cell_at HU.out.box4 6
    have y0 := free_at HU.out.box4 0
    have y1 := free_at HU.out.box4 1
    have y2 := free_at HU.out.box4 2
    have y3 := free_at HU.out.box4 3
    have y4 := free_at HU.out.box4 4
    have y5 := free_at HU.out.box4 5
    have y6 := free_at HU.out.box4 6
    simp [zeroReq] at z0 z1 z2 z3 z4 z5 z6
    go_wp2_with fail
    (try simp only [Exit.inBlock, Exit.then])
    refine bodyPost_ret (results_row1 rfl _ _ b4 26 _ (0, 0) _ rfl (by exact heap_setCell_at (heap_setCell_at (heap_setCell_at (heap_setCell_at (heap_setCell_at (heap_setCell_at (heap_setCell_at HU.out.box4 0 _) 1 _) 2 _) 3 _) 4 _) 5 _) 6 _) Tryz.underlying26 rfl (by kernel_rfl)) rfl ?_
    have hn4 := HU.out.n4
    have hlt := HU.out.lt
    rw [HX2.out]
    exact ⟨_, [], rfl, HU.out.keeps.trans' (T7 _ _ _ _ _ _ _) (fun q hq (e : q = b4) => by omega), HU.out.rep.keeps (T7 _ _ _ _ _ _ _) (fun e : b = b4 => by omega), noReq_own _, List.nodup_nil, fun g hg => by cases hg⟩
  · obtain ⟨G, hG⟩ : ∃ G, (if within = true then (fun r => ([], r)) else dGroup) = G := ⟨_, rfl⟩
    have HG := hid hG
    have HX2 : Hid (dLtrs G wd (.mk (k : Int) 0 0 0 [] [] [], r1) = X) := by rw [Hid, ← HX.out, if_neg hz, hG]
    clear hG HX
    have hgt : within = true → ((str wd).toList == [103]) = false := fun hw => by rw [str_toList, HWG.out, decide_eq_false (fun h => hz ⟨hw, by omega⟩)]
    cases within
    all_goals
      first | replace hgt := hgt rfl | clear hgt
      go_wp2_with fail
      go_loopw [7] (fun i wr => ∃ (n : Nat) (R : Req) (lv ev av : Value) (bl : List Nat) (r2 : RSt), i = .int .i64 (n : Int) ∧ n ≤ wd.length ∧ DUw w b b4 b5 s R lv ev av bl wr r2 ∧ Hid (dLtrs G (wd.drop n) (R, r2) = X) ∧ Hid (R.asks.length ≤ 65 * n)) (fun i _ => wd.length - (intOf i).toNat)
      case atStart => exact ⟨0, _, _, _, _, _, r1, rfl, Nat.zero_le _, HU.out, HX2, Nat.zero_le _⟩
      case round =>
        obtain ⟨n, R, lv, ev, av, bl, r2, rfl, hn, U, HD2, HA⟩ := hrel
        by_cases hlt : n < wd.length
        · obtain ⟨c, hc⟩ : ∃ c, wd[n]? = some c := ⟨wd[n], by simp⟩
          have hidx := byteOf_idx (b := wd) (j := n)
          rw [byteOf_get hc] at hidx
          have hle := HWD.out c (List.mem_of_getElem? hc)
          have HSN : Hid (dLtrs G (wd.drop (n + 1)) (dLtr G c (R, r2)) = X) := by
            rw [Hid, ← HD2.out]
            obtain ⟨hj, hcc⟩ := List.getElem?_eq_some_iff.1 hc
            rw [List.drop_eq_getElem_cons hj, hcc]
            rfl
          clear hc HD2
          rcases hle with rfl | rfl | rfl | rfl | rfl | rfl | rfl | ⟨rfl, h12⟩
          · go_wp2_with fail
            refine (xrtexts32 b s r2 wr U.rep).mono ?_
            rintro e w5 ⟨v, rfl, k5, h5, hrow, hown⟩
            obtain ⟨so, sc, rfl⟩ := ownsRow_slice hrow
            have U5 := U.call k5 h5
            obtain ⟨bl', U6⟩ := U5.entries hrow (fun g hg => ⟨Nat.le_trans U.keeps.size (hown g hg), fun h9 => by have := U.there g h9; have := hown g hg; omega⟩)
            have q1 := cell_at U5.box5 5
            have q2 := free_at U5.box5 5
            simp [reqCells] at q1
            have HN := HSN.out
            rw [show dLtr G 101 (R, r2) = (reqE R (rd (pTexts 32 4096) [] r2).1, (rd (pTexts 32 4096) [] r2).2) from rfl] at HN
            have HU6 := hid U6
            have HN2 := hid HN
            clear U U5 U6 HN HSN k5 h5 hrow hown
            generalize rd (pTexts 32 4096) [] r2 = Z at *
            go_wp2_with fail
            go_roundw
            case rel => exact ⟨n + 1, _, _, _, _, _, _, by go_num, by omega, HU6.out, HN2, by obtain ⟨_, _, _, _, _, _, _⟩ := R; exact Nat.le_trans HA.out (by omega)⟩
            case measure => simp [intOf]; omega
          · go_wp2_with fail
            refine (xrnum_any b s r2 wr U.rep).mono ?_
            rintro e w5 ⟨rfl, k5, h5⟩
            have U5 := U.call k5 h5
            have q1 := cell_at U5.box5 1
            have q2 := free_at U5.box5 1
            simp [reqCells] at q1
            have HU6 := hid (U5.numA ((rd (pNum 0 0) 0 r2).1 : Nat))
            have HN := HSN.out
            rw [show dLtr G 97 (R, r2) = (reqA R ((rd (pNum 0 0) 0 r2).1 : Nat), (rd (pNum 0 0) 0 r2).2) from rfl] at HN
            have HN2 := hid HN
            clear U U5 HN HSN k5 h5
            generalize rd (pNum 0 0) 0 r2 = Z at *
            go_wp2_with fail
            go_roundw
            case rel => exact ⟨n + 1, _, _, _, _, _, _, by go_num, by omega, HU6.out, HN2, by obtain ⟨_, _, _, _, _, _, _⟩ := R; exact Nat.le_trans HA.out (by omega)⟩
            case measure => simp [intOf]; omega
          · go_wp2_with fail
            refine (xrnum_any b s r2 wr U.rep).mono ?_
            rintro e w5 ⟨rfl, k5, h5⟩
            have U5 := U.call k5 h5
            have q1 := cell_at U5.box5 2
            have q2 := free_at U5.box5 2
            simp [reqCells] at q1
            have HU6 := hid (U5.numB ((rd (pNum 0 0) 0 r2).1 : Nat))
            have HN := HSN.out
            rw [show dLtr G 98 (R, r2) = (reqB R ((rd (pNum 0 0) 0 r2).1 : Nat), (rd (pNum 0 0) 0 r2).2) from rfl] at HN
            have HN2 := hid HN
            clear U U5 HN HSN k5 h5
            generalize rd (pNum 0 0) 0 r2 = Z at *
            go_wp2_with fail
            go_roundw
            case rel => exact ⟨n + 1, _, _, _, _, _, _, by go_num, by omega, HU6.out, HN2, by obtain ⟨_, _, _, _, _, _, _⟩ := R; exact Nat.le_trans HA.out (by omega)⟩
            case measure => simp [intOf]; omega
          · go_wp2_with fail
            refine (xrnum_any b s r2 wr U.rep).mono ?_
            rintro e w5 ⟨rfl, k5, h5⟩
            have U5 := U.call k5 h5
            have q1 := cell_at U5.box5 3
            have q2 := free_at U5.box5 3
            simp [reqCells] at q1
            have HU6 := hid (U5.numS ((rd (pNum 0 0) 0 r2).1 : Nat))
            have HN := HSN.out
            rw [show dLtr G 115 (R, r2) = (reqS R ((rd (pNum 0 0) 0 r2).1 : Nat), (rd (pNum 0 0) 0 r2).2) from rfl] at HN
            have HN2 := hid HN
            clear U U5 HN HSN k5 h5
            generalize rd (pNum 0 0) 0 r2 = Z at *
            go_wp2_with fail
            go_roundw
            case rel => exact ⟨n + 1, _, _, _, _, _, _, by go_num, by omega, HU6.out, HN2, by obtain ⟨_, _, _, _, _, _, _⟩ := R; exact Nat.le_trans HA.out (by omega)⟩
            case measure => simp [intOf]; omega
          · go_wp2_with fail
            refine (xrrising256 b s r2 wr U.rep).mono ?_
            rintro e w5 ⟨v, rfl, k5, h5, hrow, hown⟩
            obtain ⟨so, sc, rfl⟩ := ownsRow_slice hrow
            have U5 := U.call k5 h5
            obtain ⟨bl', U6⟩ := U5.list hrow (fun g hg => ⟨Nat.le_trans U.keeps.size (hown g hg), fun h9 => by have := U.there g h9; have := hown g hg; omega⟩)
            have q1 := cell_at U5.box5 4
            have q2 := free_at U5.box5 4
            simp [reqCells] at q1
            have HN := HSN.out
            rw [show dLtr G 105 (R, r2) = (reqL R (rd (pRising 256) [] r2).1, (rd (pRising 256) [] r2).2) from rfl] at HN
            have HU6 := hid U6
            have HN2 := hid HN
            clear U U5 U6 HN HSN k5 h5 hrow hown
            generalize rd (pRising 256) [] r2 = Z at *
            go_wp2_with fail
            go_roundw
            case rel => exact ⟨n + 1, _, _, _, _, _, _, by go_num, by omega, HU6.out, HN2, by obtain ⟨_, _, _, _, _, _, _⟩ := R; exact Nat.le_trans HA.out (by omega)⟩
            case measure => simp [intOf]; omega
          · go_wp2_with fail
            refine (xrrising64 b s r2 wr U.rep).mono ?_
            rintro e w5 ⟨v, rfl, k5, h5, hrow, hown⟩
            obtain ⟨so, sc, rfl⟩ := ownsRow_slice hrow
            have U5 := U.call k5 h5
            obtain ⟨bl', U6⟩ := U5.list hrow (fun g hg => ⟨Nat.le_trans U.keeps.size (hown g hg), fun h9 => by have := U.there g h9; have := hown g hg; omega⟩)
            have q1 := cell_at U5.box5 4
            have q2 := free_at U5.box5 4
            simp [reqCells] at q1
            have HN := HSN.out
            rw [show dLtr G 104 (R, r2) = (reqL R (rd (pRising 64) [] r2).1, (rd (pRising 64) [] r2).2) from rfl] at HN
            have HU6 := hid U6
            have HN2 := hid HN
            clear U U5 U6 HN HSN k5 h5 hrow hown
            generalize rd (pRising 64) [] r2 = Z at *
            go_wp2_with fail
            go_roundw
            case rel => exact ⟨n + 1, _, _, _, _, _, _, by go_num, by omega, HU6.out, HN2, by obtain ⟨_, _, _, _, _, _, _⟩ := R; exact Nat.le_trans HA.out (by omega)⟩
            case measure => simp [intOf]; omega
          · go_wp2_with fail
            go_roundw
            case rel => exact ⟨n + 1, R, _, _, _, bl, r2, by go_num, by omega, U, HSN, Nat.le_trans HA.out (by omega)⟩
            case measure => simp [intOf]; omega
          · have HT := hid (HFF.out (by first | rfl | trivial | exact (hz ⟨trivial, by omega⟩).elim | exact (hz ⟨rfl, by omega⟩).elim))
            have HG2 : Hid (G = dGroup) := by first | exact (hz ⟨trivial, by omega⟩).elim | exact (hz ⟨rfl, by omega⟩).elim | (rw [Hid, ← HG.out]; simp)
            clear h12
            go_wp2_with fail
            refine (xrnum_any b s r2 wr U.rep).mono ?_
            rintro e w5 ⟨rfl, k5, h5⟩
            have U5 := U.call k5 h5
            have HN := HSN.out
            rw [show dLtr G 103 (R, r2) = (reqQ R (R.asks ++ (G r2).1), (G r2).2) from rfl, HG2.out] at HN
            unfold dGroup at HN
            obtain ⟨m, hm⟩ : ∃ m, (rd (pNum 0 0) 0 r2).1 = m := ⟨_, rfl⟩
            obtain ⟨r3, hr3⟩ : ∃ r3, (rd (pNum 0 0) 0 r2).2 = r3 := ⟨_, rfl⟩
            rw [hm, hr3] at HN
            rw [hr3] at U5
            rw [hm]
            have HN2 := hid HN
            have HU5 := hid U5
            clear U U5 HN HSN k5 h5 hm hr3 HFF
            obtain ⟨i0, hi, hz0, hz1, hz2⟩ := info_parts Tryz.infoReq
            go_wp2_with fail
            go_loopw [9] (fun jv wr => ∃ (j : Nat) (lv ev av : Value) (bl : List Nat), jv = .int .i64 (j : Int) ∧ j ≤ m ∧ j ≤ 65 ∧ DUw w b b4 b5 s (reqQ R (R.asks ++ (dMany dIn j r3).1)) lv ev av bl wr (dMany dIn j r3).2) (fun jv _ => 65 - (intOf jv).toNat)
            case atStart => exact ⟨0, _, _, _, _, rfl, Nat.zero_le _, by omega, by rw [dMany, List.append_nil]; obtain ⟨_, _, _, _, _, _, _⟩ := R; exact HU5.out⟩
            case round =>
              obtain ⟨j, lv, ev, av, bl, rfl, hjm, hj65, U⟩ := hrel
              by_cases hj : j < m ∧ j ≤ 64
              · obtain ⟨hj1, hj2⟩ := hj
                have hlen : (reqQ R (R.asks ++ (dMany dIn j r3).1)).asks.length ≤ 400 := by
                  have := HA.out
                  obtain ⟨_, _, _, _, _, _, qs⟩ := R
                  simp [reqQ, Req.asks, dMany_len] at this ⊢
                  omega
                have hsn : (reqQ R (R.asks ++ (dMany dIn (j + 1) r3).1)) = reqQ (reqQ R (R.asks ++ (dMany dIn j r3).1)) ((reqQ R (R.asks ++ (dMany dIn j r3).1)).asks ++ [(dIn (dMany dIn j r3).2).1]) ∧ (dMany dIn (j + 1) r3).2 = (dIn (dMany dIn j r3).2).2 := by
                  obtain ⟨_, _, _, _, _, _, qs⟩ := R
                  rw [dMany_snoc]
                  simp [reqQ, Req.asks]
                obtain ⟨Q, hQ⟩ : ∃ Q, reqQ R (R.asks ++ (dMany dIn j r3).1) = Q := ⟨_, rfl⟩
                obtain ⟨r4, hr4⟩ : ∃ r4, (dMany dIn j r3).2 = r4 := ⟨_, rfl⟩
                rw [hQ, hr4] at U hsn
                rw [hQ] at hlen
                have HSN := hid hsn
                have hj1' : (j : Int) < (m : Int) := by omega
                have hj2' : (j : Int) ≤ 64 := by omega
                clear hQ hr4 hsn
                go_wp2_with fail
                refine (HT.out _ wr U.rep).mono ?_
                rintro e w5 ⟨v, bx, rfl, k5, h5, ho, hnx, hbx⟩
                obtain ⟨al, cl, ae, ce, aq, cq, rfl⟩ := ho.shape
                have U5 := U.call k5 h5
                obtain ⟨x, hx⟩ : ∃ x, (dIn r4).1 = x := ⟨_, rfl⟩
                obtain ⟨r5, hr5⟩ : ∃ r5, (dIn r4).2 = r5 := ⟨_, rfl⟩
                rw [hx, hr5] at HSN
                rw [hr5] at U5
                rw [hx] at ho ⊢
                have fa : Fresh w5 (w5.alloc (.cells #[.int .i64 x.kind, .int .i64 x.a, .int .i64 x.b, .int .i64 x.size, .slice al x.list.length cl, .slice ae x.entries.length ce, .slice aq x.asks.length cq] 26)) := (Keeps.refl _ _).alloc _
                have h10 := heap_alloc_new w5 (.cells #[.int .i64 x.kind, .int .i64 x.a, .int .i64 x.b, .int .i64 x.size, .slice al x.list.length cl, .slice ae x.entries.length ce, .slice aq x.asks.length cq] 26)
                have U6 := U5.fresh fa
                have ho6 := ReqOwn.fresh fa ho
                have hbx6 : ∀ q ∈ bx, (w.heap.size ≤ q ∧ q ≠ b4 ∧ q ≠ b5) ∧ q ∉ bl := fun q hq => by
                  have h1 := hbx q hq
                  have h2 := U.keeps.size
                  have h3 := lt_of_block U.box4
                  have h4 := lt_of_block U.box5
                  exact ⟨⟨by omega, by omega, by omega⟩, fun h9 => by have := U.there q h9; omega⟩
                obtain ⟨W6, hW6⟩ : ∃ W6, w5.alloc (.cells #[.int .i64 x.kind, .int .i64 x.a, .int .i64 x.b, .int .i64 x.size, .slice al x.list.length cl, .slice ae x.entries.length ce, .slice aq x.asks.length cq] 26) = W6 := ⟨_, rfl⟩
                obtain ⟨b10, hb10⟩ : ∃ b10, w5.heap.size = b10 := ⟨_, rfl⟩
                rw [hW6, hb10] at h10
                rw [hW6] at U6 ho6
                obtain ⟨cs, b1, rw1, rw2, rw3, rw4, rw5⟩ := U6.rows
                have HU6 := hid U6
                have HO6 := hid ho6
                have HBX := hid hbx6
                have R1 := hid rw1
                have R2 := hid rw2
                have R4 := hid rw4
                have R3 := hid rw3
                have R5 := hid rw5
                have H10 := hid h10
                have HW6 := hid hW6
                have HB10 := hid hb10
                clear U U5 U6 k5 h5 ho hbx ho6 hbx6 rw1 rw2 rw4 rw3 rw5 fa hx hr5 h10 hW6 hb10
                go_upto_region 27 with fail
                rw [HW6.out, HB10.out]
                clear HW6 HB10
                have q6 := cell_at HU6.out.box5 6
                have p6 := free_at HU6.out.box5 6
                have x0 := cell_at H10.out 0
                have x1 := cell_at H10.out 1
                have x2 := cell_at H10.out 2
                have x3 := cell_at H10.out 3
                have x4 := cell_at H10.out 4
                have x5 := cell_at H10.out 5
                have x6 := cell_at H10.out 6
                simp [reqCells] at q6 x0 x1 x2 x3 x4 x5 x6
                obtain ⟨aav, cav, rfl⟩ := ownsRow_slice R3.out
                go_wp2_with (at_builtin; refine wpList_pushN rfl (.tmp 78) (.tmp 80) 24 rfl 26 i0 (.agg #[.int .i64 0, .int .i64 0, .int .i64 0, .int .i64 0, .slice none 0 0, .slice none 0 0, .slice none 0 0]) 7 104 Tryz.underlying24 hi hz0 hz1 hz2 rfl (by decide) W6 R3.out #[.int .i64 x.kind, .int .i64 x.a, .int .i64 x.b, .int .i64 x.size, .slice al x.list.length cl, .slice ae x.entries.length ce, .slice aq x.asks.length cq] rfl (by rfl) (by rfl) (by intro u hu; simp at hu; rcases hu with rfl | rfl | rfl | rfl | rfl | rfl | rfl <;> rfl) (by omega) (by unfold maxLen; omega) ?_)
                intro v4 w4 ha
                obtain ⟨ao4, cp4, rfl⟩ := ownsRow_slice ha.row
                obtain ⟨bl', U8⟩ := HU6.out.push R1.out R2.out R4.out R5.out HO6.out hnx HBX.out ha
                rw [← HSN.out.1, ← HSN.out.2] at U8
                have q7 := cell_at (ha.keeps.at_ HU6.out.box5 (fun e => by have h1 := (HU6.out.new b5 (by rw [R5.out]; simp [mem_ownBlock.2 e])).2.2; exact h1 rfl)) 6
                have p7 := free_at (ha.keeps.at_ HU6.out.box5 (fun e => by have h1 := (HU6.out.new b5 (by rw [R5.out]; simp [mem_ownBlock.2 e])).2.2; exact h1 rfl)) 6
                simp [reqCells] at q7
                have HU8 := hid U8
                clear ha U8 q6 p6 x0 x1 x2 x3 x4 x5 x6
                go_wp2_with fail
                go_roundw
                case rel => exact ⟨j + 1, _, _, _, _, by go_num, by omega, by omega, HU8.out⟩
                case measure => simp [intOf]; omega
              · obtain hjj : j = min m 65 := by omega
                have HN3 : Hid (dLtrs G (wd.drop (n + 1)) (reqQ R (R.asks ++ (dMany dIn j r3).1), (dMany dIn j r3).2) = X) := by
                  rw [Hid, ← HN2.out, HG2.out, hjj]
                  rfl
                have HL : Hid ((reqQ R (R.asks ++ (dMany dIn j r3).1)).asks.length ≤ 65 * (n + 1)) := by
                  have := HA.out
                  obtain ⟨_, _, _, _, _, _, qs⟩ := R
                  simp [Hid, reqQ, Req.asks, dMany_len] at this ⊢
                  omega
                have HU7 := hid U
                clear U hjj
                by_cases hj1 : (j : Int) < (m : Int)
                · have hj3 : ¬ (j : Int) ≤ 64 := by omega
                  go_wp2_with fail
                  go_roundw
                  case rel => exact ⟨n + 1, _, _, _, _, _, _, by go_num, by omega, HU7.out, HN3, HL.out⟩
                  case measure => simp [intOf]; omega
                · go_wp2_with fail
                  go_roundw
                  case rel => exact ⟨n + 1, _, _, _, _, _, _, by go_num, by omega, HU7.out, HN3, HL.out⟩
                  case measure => simp [intOf]; omega
        · obtain rfl : n = wd.length := by omega
          have HX3 : Hid (X = (R, r2)) := by rw [Hid, ← HD2.out, List.drop_length]; rfl
          obtain ⟨al7, cl7, ae7, ce7, aq7, cq7, hsh⟩ := U.own.shape
          simp only [reqCells, Value.agg.injEq, Array.mk.injEq, List.cons.injEq, and_true] at hsh
          obtain ⟨-, -, -, -, rfl, rfl, rfl⟩ := hsh
          have u0 := cell_at U.box5 0
          have u1 := cell_at U.box5 1
          have u2 := cell_at U.box5 2
          have u3 := cell_at U.box5 3
          have u4 := cell_at U.box5 4
          have u5 := cell_at U.box5 5
          have u6 := cell_at U.box5 6
          simp [reqCells] at u0 u1 u2 u3 u4 u5 u6
          have z0 := cell_at U.box4 0
          have z1 := cell_at U.box4 1
          have z2 := cell_at U.box4 2
          have z3 := cell_at U.box4 3
          have z4 := cell_at U.box4 4
          have z5 := cell_at U.box4 5
          have z6 := cell_at U.box4 6
          have y0 := free_at U.box4 0
          have y1 := free_at U.box4 1
          have y2 := free_at U.box4 2
          have y3 := free_at U.box4 3
          have y4 := free_at U.box4 4
          have y5 := free_at U.box4 5
          have y6 := free_at U.box4 6
          simp [zeroReq] at z0 z1 z2 z3 z4 z5 z6
          have HU7 := hid U
          clear U HD2
          go_wp2_with fail
          (try simp only [Exit.inBlock, Exit.then])
          refine bodyPost_ret (results_row1 rfl _ _ b4 26 _ (0, 0) _ rfl (by exact heap_setCell_at (heap_setCell_at (heap_setCell_at (heap_setCell_at (heap_setCell_at (heap_setCell_at (heap_setCell_at HU7.out.box4 0 _) 1 _) 2 _) 3 _) 4 _) 5 _) 6 _) Tryz.underlying26 rfl (by kernel_rfl)) rfl ?_
          have hn4 := HU7.out.n4
          have hlt := HU7.out.lt
          rw [HX3.out]
          exact ⟨_, bl, rfl, HU7.out.keeps.trans' (T7 _ _ _ _ _ _ _) (fun q hq (e : q = b4) => by omega), HU7.out.rep.keeps (T7 _ _ _ _ _ _ _) (fun e : b = b4 => by omega), ReqOwn.keeps (T7 _ _ _ _ _ _ _) _ _ _ HU7.out.own (fun q hq (e : q = b4) => (HU7.out.new q hq).2.1 e), HU7.out.nodup, fun g hg => (HU7.out.new g hg).1⟩
end Go.Proofs.YtpccaodkgboefaaGreatDoor

namespace Go.Proofs.YtpccaodkgboefaaGreatDoor
open Go.RowKit

theorem round_rise (st : WSt) (l : List Int) (most : Nat) (hm : most ≤ 256) : Round st (mRising st l most) (rd (pRising most) []) l := by
  unfold mRising
  split
  · intro h
    exact absurd h (wNum_minus st)
  · rename_i hn
    intro h
    unfold wRising at h ⊢
    by_cases hr : rises (-1) l = true
    · rw [if_pos hr] at h ⊢
      refine ⟨h, digs l.length ++ deltas (-1) l, by simp, fun t c => rd_of ?_ c⟩
      unfold pRising
      rw [if_neg (by omega), List.append_assoc, pCount_of _ _ _ (by omega) (by omega)]
      exact rises_lay l (-1) t (by omega) hr
    · rw [if_neg hr] at h
      exact absurd h (refuse_ne _ _ (by decide))

set_option maxHeartbeats 1000000 in
theorem round_dflat (G : RSt → List Req × RSt) (st : WSt) (R : Req) (h1 : 1 ≤ R.kind) (h2 : R.kind ≤ 11) (hp : plainOf R = true) : Round st (fieldsFlat st R) (fun r => dLtrs G (wordOf R.kind) (.mk R.kind 0 0 0 [] [] [], r)) R := by
  rw [plainOf_eq] at hp
  simp only [Bool.and_eq_true, Bool.not_eq_true'] at hp
  obtain ⟨hs, -⟩ := hp
  obtain ⟨k, a, b, s, l, e, qs⟩ := R
  have hsf := spare_fields hs
  simp only [Req.kind, Req.a, Req.b, Req.size, Req.list, Req.entries, Req.asks] at h1 h2 hsf ⊢
  obtain ⟨ha, hb, hz, hl, he, hq⟩ := hsf
  have h' : k = 1 ∨ k = 2 ∨ k = 3 ∨ k = 4 ∨ k = 5 ∨ k = 6 ∨ k = 7 ∨ k = 8 ∨ k = 9 ∨ k = 10 ∨ k = 11 := by omega
  rcases h' with rfl | rfl | rfl | rfl | rfl | rfl | rfl | rfl | rfl | rfl | rfl
  · cases ha rfl; cases hb rfl; cases hz rfl; cases hl rfl; cases hq rfl
    exact round_if (g := fun u => wTexts u e 32 4096) (c := e.length = 0) rfl fun u => ((round_texts u e 32 4096 (by decide) (by decide) (by decide) (by decide)).map (fun x => Req.mk 1 0 0 0 [] x [])).of rfl (fun r => rfl) rfl
  · cases ha rfl; cases hb rfl; cases hz rfl; cases hl rfl; cases he rfl; cases hq rfl
    exact (Round.none st (Req.mk 2 0 0 0 [] [] [])).of rfl (fun r => rfl) rfl
  · cases ha rfl; cases hb rfl; cases hl rfl; cases he rfl; cases hq rfl
    exact ((round_size st s).map (fun x => Req.mk 3 0 0 x [] [] [])).of rfl (fun r => rfl) rfl
  · cases hb rfl; cases hl rfl; cases he rfl; cases hq rfl
    exact ((round_size st a).then (g := fun x r => (Req.mk 4 x 0 ((rd (pNum 0 0) 0 r).1 : Nat) [] [] [], (rd (pNum 0 0) 0 r).2)) ((round_size _ s).map (fun x => Req.mk 4 a 0 x [] [] []))).of rfl (fun r => rfl) rfl
  · cases hb rfl; cases hl rfl; cases he rfl; cases hq rfl
    exact ((round_size st a).then (g := fun x r => (Req.mk 5 x 0 ((rd (pNum 0 0) 0 r).1 : Nat) [] [] [], (rd (pNum 0 0) 0 r).2)) ((round_size _ s).map (fun x => Req.mk 5 a 0 x [] [] []))).of rfl (fun r => rfl) rfl
  · cases ha rfl; cases hb rfl; cases he rfl; cases hq rfl
    exact ((round_size st s).then (g := fun x r => (Req.mk 6 0 0 x (rd (pRising 256) [] r).1 [] [], (rd (pRising 256) [] r).2)) ((round_rising _ l 256 (by decide)).map (fun x => Req.mk 6 0 0 s x [] []))).of rfl (fun r => rfl) rfl
  · cases ha rfl; cases hb rfl; cases hz rfl; cases he rfl; cases hq rfl
    exact ((round_rise st l 64 (by decide)).map (fun x => Req.mk 7 0 0 0 x [] [])).of rfl (fun r => rfl) rfl
  · cases hl rfl; cases he rfl; cases hq rfl
    exact ((round_size st a).then (g := fun x r => (Req.mk 8 x ((rd (pNum 0 0) 0 r).1 : Nat) ((rd (pNum 0 0) 0 (rd (pNum 0 0) 0 r).2).1 : Nat) [] [] [], (rd (pNum 0 0) 0 (rd (pNum 0 0) 0 r).2).2))
      ((round_size _ b).then (g := fun x r => (Req.mk 8 a x ((rd (pNum 0 0) 0 r).1 : Nat) [] [] [], (rd (pNum 0 0) 0 r).2)) ((round_size _ s).map (fun x => Req.mk 8 a b x [] [] [])))).of rfl (fun r => rfl) rfl
  · cases hl rfl; cases he rfl; cases hq rfl
    exact ((round_size st a).then (g := fun x r => (Req.mk 9 x ((rd (pNum 0 0) 0 r).1 : Nat) ((rd (pNum 0 0) 0 (rd (pNum 0 0) 0 r).2).1 : Nat) [] [] [], (rd (pNum 0 0) 0 (rd (pNum 0 0) 0 r).2).2))
      ((round_size _ b).then (g := fun x r => (Req.mk 9 a x ((rd (pNum 0 0) 0 r).1 : Nat) [] [] [], (rd (pNum 0 0) 0 r).2)) ((round_size _ s).map (fun x => Req.mk 9 a b x [] [] [])))).of rfl (fun r => rfl) rfl
  · cases hb rfl; cases hz rfl; cases hl rfl; cases he rfl; cases hq rfl
    exact ((round_size st a).map (fun x => Req.mk 10 x 0 0 [] [] [])).of rfl (fun r => rfl) rfl
  · cases hb rfl; cases hz rfl; cases hl rfl; cases he rfl; cases hq rfl
    exact ((round_size st a).map (fun x => Req.mk 11 x 0 0 [] [] [])).of rfl (fun r => rfl) rfl
theorem dIn_eq (r : RSt) : dIn r = if (((rd pByte 0 r).1 : Nat) : Int) = 12 then (noReq, (rd pByte 0 r).2) else dLtrs (fun r => ([], r)) (wordOf ((rd pByte 0 r).1 : Nat)) (.mk ((rd pByte 0 r).1 : Nat) 0 0 0 [] [] [], (rd pByte 0 r).2) := by
  unfold dIn dStart
  by_cases h : (rd pByte 0 r).1 = 12
  · rw [if_pos h, if_pos (by omega)]
  · rw [if_neg h, if_neg (by omega)]
theorem round_dparts : ∀ (qs : List Req) (st : WSt), plainAll qs = true → Round st (partsOf st qs) (dMany dIn qs.length) qs
  | [], st, _ => (Round.none st []).of rfl (fun r => rfl) rfl
  | x :: qs, st, hp => by
    rw [plainAll_cons, Bool.and_eq_true] at hp
    rw [partsOf]
    split
    · exact Round.wrong (wNum_minus st)
    · rename_i hk
      have hkk := inPart_kind hk
      have h1 : Round st (fieldsFlat (wByte st x.kind) x) dIn x := ((round_byte st x.kind).then (g := fun k r => if k = 12 then (noReq, r) else dLtrs (fun r => ([], r)) (wordOf k) (.mk k 0 0 0 [] [] [], r)) ((round_dflat (fun r => ([], r)) _ x hkk.1 hkk.2 hp.1).of rfl (fun r => by rw [if_neg (by omega)]) rfl)).of rfl (fun r => dIn_eq r) rfl
      have h2 := round_dparts qs (fieldsFlat (wByte st x.kind) x) hp.2
      have h3 := h1.then (g := fun y r => (y :: (dMany dIn qs.length r).1, (dMany dIn qs.length r).2)) (y := x :: qs) (h2.map (fun l => x :: l))
      exact h3.of rfl (fun r => rfl) rfl
theorem round_dfields (st : WSt) (R : Req) (h1 : 1 ≤ R.kind) (h2 : R.kind ≤ 12) (hp : plainOf R = true) : Round st (fieldsOf st R) (fun r => dLtrs dGroup (wordOf R.kind) (.mk R.kind 0 0 0 [] [] [], r)) R := by
  by_cases h12 : R.kind = 12
  · unfold fieldsOf
    rw [if_pos h12]
    have hp' := hp
    rw [plainOf_eq] at hp'
    simp only [Bool.and_eq_true, Bool.not_eq_true'] at hp'
    obtain ⟨hs, hq⟩ := hp'
    obtain ⟨k, a, b, s, l, e, qs⟩ := R
    simp only [Req.kind, Req.asks] at h12 hq ⊢
    subst h12
    have hsf := spare_fields hs
    simp only [Req.kind, Req.a, Req.b, Req.size, Req.list, Req.entries, Req.asks] at hsf
    obtain ⟨ha, hb, hz, hl, he, -⟩ := hsf
    cases ha rfl; cases hb rfl; cases hz rfl; cases hl rfl; cases he rfl
    by_cases hc : qs.length = 0 ∨ 64 < qs.length
    · show Round st (partsOf (wNum (@ite _ (qs.length = 0 ∨ 64 < qs.length) instDecidableOr (wNum st (-1)) st) qs.length) qs) _ (Req.mk 12 0 0 0 [] [] qs)
      rw [if_pos hc]
      intro h0
      obtain ⟨e1, -⟩ := round_dparts qs _ hq h0
      obtain ⟨e2, -⟩ := round_num _ _ e1
      exact absurd e2 (wNum_minus st)
    · show Round st (partsOf (wNum (@ite _ (qs.length = 0 ∨ 64 < qs.length) instDecidableOr (wNum st (-1)) st) qs.length) qs) _ (Req.mk 12 0 0 0 [] [] qs)
      rw [if_neg hc]
      have h3 := (round_num st (qs.length : Int)).then (g := fun n r => (Req.mk 12 0 0 0 [] [] (dMany dIn (min n.toNat 65) r).1, (dMany dIn (min n.toNat 65) r).2)) (y := Req.mk 12 0 0 0 [] [] qs)
        (((round_dparts qs (wNum st qs.length) hq).map (fun x => Req.mk 12 0 0 0 [] [] x)).of rfl (fun r => by rw [show min ((qs.length : Int).toNat) 65 = qs.length by omega]) rfl)
      exact h3.of rfl (fun r => rfl) rfl
  · have h4 : fieldsOf st R = fieldsFlat st R := by unfold fieldsOf; rw [if_neg h12]
    rw [h4]
    exact round_dflat dGroup st R h1 (by omega) hp
/-- what a request's frame is, for the document -/
theorem encOf_dframe {R : Req} (h : (encOf R).2 = 0) : ∃ p, p.length ≤ 1048576 ∧ encOf R = (digs p.length ++ p, 0) ∧ ∃ c, dTake (p, 0, 0) = (R, ([], c, 0)) := by
  unfold encOf at h ⊢
  by_cases hk : R.kind < 1 ∨ 12 < R.kind
  · rw [if_pos hk] at h
    exact absurd h (by decide)
  rw [if_neg hk] at h ⊢
  by_cases hp : plainOf R = false
  · rw [if_pos hp] at h
    exact absurd h (by decide)
  rw [if_neg hp] at h ⊢
  have hpt : plainOf R = true := by simpa using hp
  unfold framedW at h ⊢
  by_cases h0 : (fieldsOf (wByte ([], 0) R.kind) R).2 ≠ 0
  · rw [if_pos h0] at h
    exact absurd h (by decide)
  rw [if_neg h0] at h ⊢
  have h0' : (fieldsOf (wByte ([], 0) R.kind) R).2 = 0 := by simpa using h0
  have R0 : Round ([], 0) (fieldsOf (wByte ([], 0) R.kind) R) dTake R := ((round_byte ([], 0) R.kind).then (g := fun k r => dLtrs dGroup (wordOf k) (.mk k 0 0 0 [] [] [], r)) (round_dfields _ R (by omega) (by omega) hpt)).of rfl (fun r => rfl) rfl
  obtain ⟨p, hpp⟩ : ∃ p, (fieldsOf (wByte ([], 0) R.kind) R).1 = p := ⟨_, rfl⟩
  rw [hpp] at h ⊢
  unfold framed at h ⊢
  by_cases hbig : 1048576 < p.length
  · rw [if_pos hbig] at h
    exact absurd h (by decide)
  rw [if_neg hbig] at h ⊢
  refine ⟨p, by omega, by simp, ?_⟩
  obtain ⟨-, d, hd, ht⟩ := R0 h0'
  rw [hpp] at hd
  simp only [List.nil_append] at hd
  subst hd
  obtain ⟨c', hc⟩ := ht [] 0
  rw [List.append_nil] at hc
  exact ⟨c', hc⟩

/-- does what was taken hold? -/
def dFits (q : Req × RSt) (rest s : List UInt8) : Bool := decide ((rDone q.2).1 = 0 ∧ (encOf q.1).2 = 0 ∧ (encOf q.1).1 ++ rest = s)
def dDecOf (s : List UInt8) : Req × List UInt8 × Int :=
  if (unframedM s).2.2 ≠ 0 then (noReq, [], (unframedM s).2.2)
  else if dFits (dTake ((unframedM s).1, 0, 0)) (unframedM s).2.1 s then ((dTake ((unframedM s).1, 0, 0)).1, (unframedM s).2.1, 0) else (noReq, [], 173)
theorem dDecOf_eq (s : List UInt8) : dDecOf s = decOf s := by
  by_cases hu : (unframedM s).2.2 = 0
  · by_cases hf : dFits (dTake ((unframedM s).1, 0, 0)) (unframedM s).2.1 s = true
    · have h1 : dDecOf s = ((dTake ((unframedM s).1, 0, 0)).1, (unframedM s).2.1, 0) := by unfold dDecOf; rw [if_neg (by simpa using hu), if_pos hf]
      unfold dFits at hf
      rw [decide_eq_true_eq] at hf
      have h2 := decOf_back (unframedM s).2.1 hf.2.1
      rw [hf.2.2] at h2
      rw [h1, h2]
    · have h1 : dDecOf s = (noReq, [], 173) := by unfold dDecOf; rw [if_neg (by simpa using hu), if_neg hf]
      by_cases hd : (decOf s).2.2 = 0
      · exfalso
        apply hf
        obtain ⟨g1, g2⟩ := decOf_strict s hd
        obtain ⟨p, hp, he, c, hc⟩ := encOf_dframe g1
        have h3 : unframedM s = (p, (decOf s).2.1, 0) := by
          have := unframedM_of p (decOf s).2.1 hp
          rw [← List.append_assoc] at this
          rw [he] at g2
          simp only at g2
          rw [g2] at this
          exact this
        unfold dFits
        rw [decide_eq_true_eq, h3]
        simp only
        rw [hc]
        exact ⟨by unfold rDone; simp, g1, g2⟩
      · rw [h1]
        unfold decOf at hd ⊢
        rw [if_neg (by simpa using hu)] at hd ⊢
        split
        · rename_i h4
          rw [if_pos h4] at hd
          exact absurd rfl hd
        · rfl
  · have hu' : (unframedM s).2.2 ≠ 0 := hu
    unfold dDecOf decOf
    rw [if_pos hu', if_pos hu']

theorem dTexts_small (r : RSt) : (rd (pTexts 32 4096) [] r).1.length ≤ 32 := by
  unfold rd
  split
  · simp
  · cases hp : pTexts 32 4096 r.1 with
    | error e => simp
    | ok x =>
      have := (pTexts_small hp).1
      simp only
      omega
theorem dRising_small (most : Nat) (hm : most ≤ 256) (r : RSt) : (rd (pRising most) [] r).1.length ≤ 256 := by
  unfold rd
  split
  · simp
  · cases hp : pRising most r.1 with
    | error e => simp
    | ok x =>
      have := pRising_small hp
      simp only
      omega
theorem fine_ltr {G : RSt → List Req × RSt} (hG : ∀ r, ∀ x ∈ (G r).1, Fine x) (c : UInt8) (q : Req × RSt) (h : Fine q.1) : Fine (dLtr G c q).1 := by
  obtain ⟨⟨k, a, b, s, l, e, qs⟩, r⟩ := q
  have h1 := dTexts_small r
  have h2 := dRising_small 256 (by omega) r
  have h3 := dRising_small 64 (by omega) r
  unfold dLtr
  simp only [Fine] at h
  obtain ⟨g1, g2, g3⟩ := h
  repeat' split
  all_goals simp only [reqE, reqA, reqB, reqS, reqL, reqQ, Fine, Req.asks]
  · exact ⟨g1, by omega, g3⟩
  · exact ⟨g1, g2, g3⟩
  · exact ⟨g1, g2, g3⟩
  · exact ⟨g1, g2, g3⟩
  · exact ⟨by exact Nat.le_trans h2 (by omega), g2, g3⟩
  · exact ⟨by exact Nat.le_trans h3 (by omega), g2, g3⟩
  · refine ⟨g1, g2, FineAll.of fun x hx => ?_⟩
    rcases List.mem_append.1 hx with hx | hx
    · exact g3.all x hx
    · exact hG r x hx
  · exact ⟨g1, g2, g3⟩
theorem fine_ltrs {G : RSt → List Req × RSt} (hG : ∀ r, ∀ x ∈ (G r).1, Fine x) : ∀ (l : List UInt8) (q : Req × RSt), Fine q.1 → Fine (dLtrs G l q).1
  | [], _, h => h
  | c :: l, q, h => fine_ltrs hG l _ (fine_ltr hG c q h)
theorem fine_many {F : RSt → Req × RSt} (hF : ∀ r, Fine (F r).1) : ∀ (n : Nat) (r : RSt), ∀ x ∈ (dMany F n r).1, Fine x
  | 0, r, x, h => by cases h
  | n + 1, r, x, h => by
    rcases List.mem_cons.1 h with rfl | h
    · exact hF r
    · exact fine_many hF n _ x h
theorem fine_take (r : RSt) : Fine (dTake r).1 := by
  refine fine_ltrs (fun r => fine_many (fun r => ?_) _ _) _ _ (by simp [dStart, Fine, FineAll])
  unfold dIn
  split
  · simp [noReq, Fine, FineAll]
  · exact fine_ltrs (fun r x hx => by cases hx) _ _ (by simp [dStart, Fine, FineAll])
end Go.Proofs.YtpccaodkgboefaaGreatDoor

namespace Go.Proofs.YtpccaodkgboefaaGreatDoor
open Go.RowKit

set_option maxRecDepth 100000 in
set_option maxHeartbeats 1000000 in
theorem dunframe_any (s : List UInt8) (w : World) (hs : s.length ≤ 9223372036854775807) :
    Calls Tryz.prog 42 #[.string (str s)] w fun e w' => e = .returned (.tuple #[.string (str (unframedM s).1), .string (str (unframedM s).2.1), .int .i64 (unframedM s).2.2]) ∧ Fresh w w' := by
  have hu := refunframe_any s w hs
  have hM : unframedM s = if (unframed s).2.2 = 0 then ((unframed s).1, (unframed s).2.1, 0) else if (unframed s).2.2 = 21 then ([], [], 172) else if (unframed s).2.2 = 22 then ([], [], 174) else ([], [], 173) := rfl
  rw [hM]
  obtain ⟨p, hp⟩ : ∃ p, (unframed s).1 = p := ⟨_, rfl⟩
  obtain ⟨r, hr⟩ : ∃ r, (unframed s).2.1 = r := ⟨_, rfl⟩
  obtain ⟨e0, he⟩ : ∃ e, (unframed s).2.2 = e := ⟨_, rfl⟩
  rw [hp, hr, he] at hu ⊢
  have HU := hid hu
  clear hu hM hp hr he
  by_cases h0 : e0 = 0
  · subst h0
    rw [if_pos rfl]
    go_enter Tryz.func42, Tryz.ntmps42
    go_wp2_with fail
    refine HU.out.mono ?_
    rintro e w1 ⟨rfl, f1⟩
    go_wp2_with fail
    go_ret3
    exact ⟨rfl, f1⟩
  · rw [if_neg h0]
    by_cases h21 : e0 = 21
    · subst h21
      rw [if_pos rfl]
      go_enter Tryz.func42, Tryz.ntmps42
      go_wp2_with fail
      refine HU.out.mono ?_
      rintro e w1 ⟨rfl, f1⟩
      go_wp2_with fail
      go_ret3
      exact ⟨rfl, f1⟩
    · rw [if_neg h21]
      by_cases h22 : e0 = 22
      · subst h22
        rw [if_pos rfl]
        go_enter Tryz.func42, Tryz.ntmps42
        go_wp2_with fail
        refine HU.out.mono ?_
        rintro e w1 ⟨rfl, f1⟩
        go_wp2_with fail
        go_ret3
        exact ⟨rfl, f1⟩
      · rw [if_neg h22]
        go_enter Tryz.func42, Tryz.ntmps42
        go_wp2_with fail
        refine HU.out.mono ?_
        rintro e w1 ⟨rfl, f1⟩
        go_wp2_with fail
        go_ret3
        exact ⟨rfl, f1⟩

theorem dtake_in (b : Nat) (s : List UInt8) (r : RSt) (w : World) (h : DRep w b s r) :
    Calls Tryz.prog 44 #[.pointer (some ⟨b, 0, none⟩), .bool true] w (DTookR b s (dIn r) w) := dtake_core true b s (fun h => by cases h) r w h
theorem dtake_any (b : Nat) (s : List UInt8) (r : RSt) (w : World) (h : DRep w b s r) :
    Calls Tryz.prog 44 #[.pointer (some ⟨b, 0, none⟩), .bool false] w (DTookR b s (dTake r) w) := dtake_core false b s (fun _ => dtake_in b s) r w h
theorem str_app2 (a b : List UInt8) : str a ++ str b = str (a ++ b) := by
  apply ByteArray.ext
  simp [str, ByteArray.data_append]
theorem encOf_len (R : Req) : (encOf R).1.length ≤ 1048586 := by
  rcases encOf_errors R with h | h | h
  · obtain ⟨p, hp, he, -⟩ := encOf_dframe h
    have := digs_len9 (n := p.length) (by omega)
    rw [he]
    simp only [List.length_append]
    omega
  · rw [h]; simp
  · rw [h]; simp

set_option maxRecDepth 100000 in
set_option maxHeartbeats 2000000 in
theorem ddecode_any (s : List UInt8) (w : World) (hl : Laid w) (hs : s.length ≤ 4611686018427387904) :
    Calls Tryz.prog 14 #[.string (str s)] w fun e w' => Told w (decOf s) e w' := by
  rw [← dDecOf_eq]
  have hle := unframedM_le s
  have hu := fun W => dunframe_any s W (by omega)
  have hD : dDecOf s = if (unframedM s).2.2 ≠ 0 then (noReq, [], (unframedM s).2.2) else if dFits (dTake ((unframedM s).1, 0, 0)) (unframedM s).2.1 s then ((dTake ((unframedM s).1, 0, 0)).1, (unframedM s).2.1, 0) else (noReq, [], 173) := rfl
  rw [hD]
  obtain ⟨p, hp⟩ : ∃ p, (unframedM s).1 = p := ⟨_, rfl⟩
  obtain ⟨rest, hr⟩ : ∃ r, (unframedM s).2.1 = r := ⟨_, rfl⟩
  obtain ⟨e0, he⟩ : ∃ e, (unframedM s).2.2 = e := ⟨_, rfl⟩
  rw [hp, hr, he] at hu ⊢
  rw [hp, hr] at hle
  have HU := hid hu
  have HLE := hid hle
  have HS := hid hs
  clear hu hD hp hr he hle hs
  by_cases h0 : e0 = 0
  · subst h0
    rw [if_neg (by simp)]
    have hnr := fun W hW => xreader_any p W hW (by have := HLE.out; have := HS.out; omega)
    have HNR := hid hnr
    obtain ⟨q, hq⟩ : ∃ q, dTake (p, 0, 0) = q := ⟨_, rfl⟩
    rw [hq]
    obtain ⟨X, hX⟩ : ∃ X, (if dFits q rest s then (q.1, rest, (0 : Int)) else (noReq, [], 173)) = X := ⟨_, rfl⟩
    rw [hX]
    have HX := hid hX
    have HFI := hid (hq ▸ fine_take (p, 0, 0))
    have HQ := hid hq
    clear hX hnr hq
    go_enter Tryz.func14, Tryz.ntmps14
    go_wp2_with fail
    refine (HU.out _).mono ?_
    rintro e w1 ⟨rfl, f1⟩
    have hb1 := f1.at_ (heap_alloc_new w (.cells zeroReq 26)) (fun h => h)
    have f01 : Fresh w w1 := ((Keeps.refl (fun _ => False) w).alloc _).trans f1
    have hsz1 : w.heap.size < w1.heap.size := lt_of_block hb1
    clear f1
    go_wp2_with fail
    refine (HNR.out _ (hl.fresh_ f01)).mono ?_
    rintro e w2 ⟨b, rfl, f2, hbb, hr2⟩
    have hmr := dtake_any b p _ w2 hr2
    rw [HQ.out] at hmr
    have hb2 := f2.at_ hb1 (fun h => h)
    have F02 := hid (f01.trans f2)
    have hsz2 := f2.size
    have HMR := hid hmr
    have HB2 := hid hb2
    clear hmr hr2 hb1 hb2 f01 f2
    go_wp2_with fail
    refine HMR.out.mono ?_
    rintro e w4 ⟨v, bl, rfl, k4, hr4, ho4, hnd, hbl⟩
    obtain ⟨al, cl, ae, ce, aq, cq, rfl⟩ := ho4.shape
    have hb4 := k4.at_ HB2.out (fun (h : _ = b) => by omega)
    have f04 : Fresh w w4 := F02.out.trans' k4 (fun i hi (h : i = b) => by omega)
    have fa : Fresh w4 (w4.alloc (.cells #[.int .i64 q.1.kind, .int .i64 q.1.a, .int .i64 q.1.b, .int .i64 q.1.size, .slice al q.1.list.length cl, .slice ae q.1.entries.length ce, .slice aq q.1.asks.length cq] 26)) := (Keeps.refl _ _).alloc _
    have h9 := heap_alloc_new w4 (.cells #[.int .i64 q.1.kind, .int .i64 q.1.a, .int .i64 q.1.b, .int .i64 q.1.size, .slice al q.1.list.length cl, .slice ae q.1.entries.length ce, .slice aq q.1.asks.length cq] 26)
    have hdn := xrdone_any b p q.2 _ (hr4.keeps fa fun h => h)
    have ho5 := ReqOwn.fresh fa ho4
    have H9 := hid h9
    have HDN := hid hdn
    have HO5 := hid ho5
    have HB4 := hid hb4
    have F05 := hid (f04.trans fa)
    have FA := hid fa
    have hbl2 : ∀ g ∈ bl, w.heap.size < g := fun g hg => by have := hbl g hg; omega
    have HBL := hid hbl2
    clear hb4 f04 fa h9 hdn ho5 ho4 hr4 hbl2 k4
    go_wp2_with fail
    refine HDN.out.mono ?_
    rintro e w6 ⟨rfl, f6⟩
    have h96 := f6.at_ H9.out (fun h => h)
    have x0 := cell_at h96 0
    have x1 := cell_at h96 1
    have x2 := cell_at h96 2
    have x3 := cell_at h96 3
    have x4 := cell_at h96 4
    have x5 := cell_at h96 5
    have x6 := cell_at h96 6
    simp at x0 x1 x2 x3 x4 x5 x6
    have f06 := F05.out.trans f6
    have he6 := dencode_any (fun g => g ∈ bl) q.1 _ w6 (hl.fresh_ f06) (ReqOwn.at _ _ _ (ReqOwn.fresh f6 HO5.out) _ (fun _ h => h)) (fun g hg => ReqOwn.there _ _ _ (ReqOwn.fresh f6 HO5.out) g hg) HFI.out
    have HE6 := hid he6
    have F6 := hid f6
    clear f6 f06 he6
    go_wp2_with fail
    refine HE6.out.mono ?_
    rintro e w7 ⟨rfl, f7⟩
    have F07 := hid ((F05.out.trans F6.out).trans f7)
    have F57 := hid (F6.out.trans f7)
    have hb7 := F57.out.at_ (FA.out.at_ HB4.out (fun h => h)) (fun h => h)
    have HB7 := hid hb7
    have h97 := F57.out.at_ H9.out (fun h => h)
    have q0 := cell_at h97 0
    have q1 := cell_at h97 1
    have q2 := cell_at h97 2
    have q3 := cell_at h97 3
    have q4 := cell_at h97 4
    have q5 := cell_at h97 5
    have q6 := cell_at h97 6
    simp at q0 q1 q2 q3 q4 q5 q6
    have z0 := cell_at hb7 0
    have y0 := free_at hb7 0
    have z1 := cell_at hb7 1
    have y1 := free_at hb7 1
    have z2 := cell_at hb7 2
    have y2 := free_at hb7 2
    have z3 := cell_at hb7 3
    have y3 := free_at hb7 3
    have z4 := cell_at hb7 4
    have y4 := free_at hb7 4
    have z5 := cell_at hb7 5
    have y5 := free_at hb7 5
    have z6 := cell_at hb7 6
    have y6 := free_at hb7 6
    simp [zeroReq] at z0 z1 z2 z3 z4 z5 z6
    clear hb7 h97 x0 x1 x2 x3 x4 x5 x6 f7 h96
    have hT7 : ∀ c0 c1 c2 c3 c4 c5 c6 : Value, Fresh w (((((((w7.setCell ⟨w.heap.size, 0, none⟩ c0).setCell ⟨w.heap.size, 1, none⟩ c1).setCell ⟨w.heap.size, 2, none⟩ c2).setCell ⟨w.heap.size, 3, none⟩ c3).setCell ⟨w.heap.size, 4, none⟩ c4).setCell ⟨w.heap.size, 5, none⟩ c5).setCell ⟨w.heap.size, 6, none⟩ c6) := fun c0 c1 c2 c3 c4 c5 c6 => F07.out.trans' (T7 c0 c1 c2 c3 c4 c5 c6) (fun i hi (h : i = w.heap.size) => by omega)
    have HT7 := hid hT7
    clear hT7
    have hel := encOf_len q.1
    obtain ⟨we, hwe⟩ : ∃ we, (rDone q.2).1 = we := ⟨_, rfl⟩
    obtain ⟨wt2, hwt⟩ : ∃ we, (rDone q.2).2 = we := ⟨_, rfl⟩
    obtain ⟨es, hes⟩ : ∃ es, (encOf q.1).1 = es := ⟨_, rfl⟩
    obtain ⟨ee, hee⟩ : ∃ ee, (encOf q.1).2 = ee := ⟨_, rfl⟩
    have hfit : dFits q rest s = decide (we = 0 ∧ ee = 0 ∧ es ++ rest = s) := by unfold dFits; rw [hwe, hes, hee]
    have hX2 := HX.out
    rw [hfit] at hX2
    rw [hes] at hel
    rw [hwe, hwt, hes, hee]
    clear hfit hwe hwt hes hee
    by_cases h1 : we = 0
    · by_cases h2 : ee = 0
      · subst h1
        subst h2
        have hcat := str_app2 es rest
        have htl : (str (es ++ rest)).toList = es ++ rest := str_toList _
        have htl2 : (str s).toList = s := str_toList _
        have hlen1 : (str es).size + (str rest).size ≤ 9223372036854775807 := by rw [str_size, str_size]; have := HLE.out.1; have := HS.out; omega
        by_cases h3 : es ++ rest = s
        · have hX3 : Hid (X = (q.1, rest, 0)) := by rw [Hid, ← hX2, if_pos (by simp [h3])]
          clear hX2
          rw [h3] at hcat htl
          clear h3 hel
          go_wp2_with fail
          (try simp only [Exit.inBlock, Exit.then])
          refine bodyPost_ret (results_row3 rfl _ _ w.heap.size 26 _ (0, 0) _ rfl (by exact heap_setCell_at (heap_setCell_at (heap_setCell_at (heap_setCell_at (heap_setCell_at (heap_setCell_at (heap_setCell_at HB7.out 0 _) 1 _) 2 _) 3 _) 4 _) 5 _) 6 _) Tryz.underlying26 rfl (by kernel_rfl)) rfl ?_
          rw [hX3.out]
          exact ⟨_, bl, rfl, HT7.out _ _ _ _ _ _ _, ReqOwn.keeps (T7 _ _ _ _ _ _ _) _ _ _ (ReqOwn.fresh F57.out HO5.out) (fun g hg (h : g = w.heap.size) => by have := HBL.out g hg; omega), hnd, fun g hg => Nat.le_of_lt (HBL.out g hg)⟩
        · have hX3 : Hid (X = (noReq, [], 173)) := by rw [Hid, ← hX2, if_neg (by simp [h3])]
          clear hX2
          have hne : (es ++ rest == s) = false := beq_eq_false_iff_ne.2 h3
          clear hel
          go_wp2_with fail
          (try simp only [Exit.inBlock, Exit.then])
          refine bodyPost_ret (results_row3 rfl _ _ w.heap.size 26 _ (0, 0) _ rfl (by exact heap_setCell_at (heap_setCell_at (heap_setCell_at (heap_setCell_at (heap_setCell_at (heap_setCell_at (heap_setCell_at HB7.out 0 _) 1 _) 2 _) 3 _) 4 _) 5 _) 6 _) Tryz.underlying26 rfl (by kernel_rfl)) rfl ?_
          rw [hX3.out]
          exact ⟨_, [], rfl, HT7.out _ _ _ _ _ _ _, noReq_own _, List.nodup_nil, fun g hg => by cases hg⟩
      · have hb1 : (we != 0) = false := by rw [h1]; rfl
        have hb2 : (ee != 0) = true := bne_iff_ne.2 h2
        have hX3 : Hid (X = (noReq, [], 173)) := by rw [Hid, ← hX2, if_neg (by simp [h2])]
        clear hX2
        subst h1
        go_wp2_with fail
        (try simp only [Exit.inBlock, Exit.then])
        refine bodyPost_ret (results_row3 rfl _ _ w.heap.size 26 _ (0, 0) _ rfl (by exact heap_setCell_at (heap_setCell_at (heap_setCell_at (heap_setCell_at (heap_setCell_at (heap_setCell_at (heap_setCell_at HB7.out 0 _) 1 _) 2 _) 3 _) 4 _) 5 _) 6 _) Tryz.underlying26 rfl (by kernel_rfl)) rfl ?_
        rw [hX3.out]
        exact ⟨_, [], rfl, HT7.out _ _ _ _ _ _ _, noReq_own _, List.nodup_nil, fun g hg => by cases hg⟩
    · have hb1 : (we != 0) = true := bne_iff_ne.2 h1
      have hX3 : Hid (X = (noReq, [], 173)) := by rw [Hid, ← hX2, if_neg (by simp [h1])]
      clear hX2
      go_wp2_with fail
      (try simp only [Exit.inBlock, Exit.then])
      refine bodyPost_ret (results_row3 rfl _ _ w.heap.size 26 _ (0, 0) _ rfl (by exact heap_setCell_at (heap_setCell_at (heap_setCell_at (heap_setCell_at (heap_setCell_at (heap_setCell_at (heap_setCell_at HB7.out 0 _) 1 _) 2 _) 3 _) 4 _) 5 _) 6 _) Tryz.underlying26 rfl (by kernel_rfl)) rfl ?_
      rw [hX3.out]
      exact ⟨_, [], rfl, HT7.out _ _ _ _ _ _ _, noReq_own _, List.nodup_nil, fun g hg => by cases hg⟩
  · rw [if_pos h0]
    have hb : (e0 != 0) = true := bne_iff_ne.2 h0
    go_enter Tryz.func14, Tryz.ntmps14
    go_wp2_with fail
    refine (HU.out _).mono ?_
    rintro e w1 ⟨rfl, f1⟩
    have hb1 := f1.at_ (heap_alloc_new w (.cells zeroReq 26)) (fun h => h)
    have z0 := cell_at hb1 0
    have z1 := cell_at hb1 1
    have z2 := cell_at hb1 2
    have z3 := cell_at hb1 3
    have z4 := cell_at hb1 4
    have z5 := cell_at hb1 5
    have z6 := cell_at hb1 6
    have y0 := free_at hb1 0
    have y1 := free_at hb1 1
    have y2 := free_at hb1 2
    have y3 := free_at hb1 3
    have y4 := free_at hb1 4
    have y5 := free_at hb1 5
    have y6 := free_at hb1 6
    simp [zeroReq] at z0 z1 z2 z3 z4 z5 z6
    go_wp2_with fail
    (try simp only [Exit.inBlock, Exit.then])
    refine bodyPost_ret (results_row3 rfl _ _ w.heap.size 26 _ (0, 0) _ rfl (by exact heap_setCell_at (heap_setCell_at (heap_setCell_at (heap_setCell_at (heap_setCell_at (heap_setCell_at (heap_setCell_at hb1 0 _) 1 _) 2 _) 3 _) 4 _) 5 _) 6 _) Tryz.underlying26 rfl (by kernel_rfl)) rfl ?_
    refine ⟨_, [], rfl, ?_, noReq_own _, List.nodup_nil, fun g hg => by cases hg⟩
    exact ((Keeps.refl (fun _ => False) w).alloc _).trans' ((f1.mono (S' := fun q => q = w.heap.size) (fun _ _ h => h.elim)).trans' (T7 _ _ _ _ _ _ _) (fun i hi h => h)) (fun i hi (h : i = w.heap.size) => by omega)
end Go.Proofs.YtpccaodkgboefaaGreatDoor

namespace Go.Proofs.YtpccaodkgboefaaGreatDoor
open Go.RowKit

theorem len_cnt : ∀ (l : List Req), l.length ≤ cntAll l
  | [] => Nat.le_refl _
  | x :: r => by
    have h1 := len_cnt r
    have h2 := cnt_eq x
    rw [cntAll, List.length_cons]
    omega
theorem cntAll_app : ∀ (l t : List Req), cntAll (l ++ t) = cntAll l + cntAll t
  | [], t => by simp [cntAll]
  | x :: r, t => by
    rw [List.cons_append, cntAll, cntAll, cntAll_app r t]
    omega
theorem cnt_ltr {G : RSt → List Req × RSt} {m : Nat} (hG : ∀ r, cntAll (G r).1 ≤ m) (c : UInt8) (q : Req × RSt) : cntAll (dLtr G c q).1.asks ≤ cntAll q.1.asks + m := by
  obtain ⟨⟨k, a, b, s, l, e, qs⟩, r⟩ := q
  have := hG r
  unfold dLtr
  repeat' split
  all_goals simp only [reqE, reqA, reqB, reqS, reqL, reqQ, Req.asks]
  all_goals first | omega | (rw [cntAll_app]; omega)
theorem cnt_ltrs {G : RSt → List Req × RSt} {m : Nat} (hG : ∀ r, cntAll (G r).1 ≤ m) : ∀ (l : List UInt8) (q : Req × RSt), cntAll (dLtrs G l q).1.asks ≤ cntAll q.1.asks + m * l.length
  | [], q => by simp [dLtrs]
  | c :: l, q => by
    have h1 := cnt_ltr hG c q
    have h2 := cnt_ltrs hG l (dLtr G c q)
    rw [dLtrs, List.length_cons, Nat.mul_succ]
    omega
theorem cnt_in (r : RSt) : cnt (dIn r).1 = 3 := by
  rw [cnt_eq]
  unfold dIn
  split
  · rfl
  · have := cnt_ltrs (G := fun r => (([] : List Req), r)) (m := 0) (fun r => Nat.le_refl _) (wordOf ((rd pByte 0 r).1 : Nat)) (dStart r)
    have h0 : cntAll (dStart r).1.asks = 0 := rfl
    omega
theorem cnt_many {F : RSt → Req × RSt} (hF : ∀ r, cnt (F r).1 = 3) : ∀ (n : Nat) (r : RSt), cntAll (dMany F n r).1 = 3 * n
  | 0, r => rfl
  | n + 1, r => by
    rw [dMany, cntAll, hF, cnt_many hF n]
    omega
theorem cnt_take (r : RSt) : cnt (dTake r).1 ≤ 600 := by
  rw [cnt_eq]
  unfold dTake
  have h1 := cnt_ltrs (G := dGroup) (m := 195) (fun r => by
    unfold dGroup
    rw [cnt_many cnt_in]
    omega) (wordOf ((rd pByte 0 r).1 : Nat)) (dStart r)
  have h2 := wordOf_len ((rd pByte 0 r).1 : Nat)
  have h0 : cntAll (dStart r).1.asks = 0 := rfl
  omega
theorem TinyAll.of : ∀ {l : List Req}, (∀ x ∈ l, Tiny x) → TinyAll l
  | [], _ => by rw [TinyAll]; trivial
  | x :: r, h => by
    rw [TinyAll]
    exact ⟨h x (by simp), TinyAll.of fun y hy => h y (by simp [hy])⟩
/-- small but for how many it holds -/
def Slim (R : Req) : Prop := R.list.length ≤ 1000000000 ∧ R.entries.length ≤ 1000000000 ∧ ∀ x ∈ R.asks, Tiny x
theorem slim_ltr {G : RSt → List Req × RSt} (hG : ∀ r, ∀ x ∈ (G r).1, Tiny x) (c : UInt8) (q : Req × RSt) (h : Slim q.1) : Slim (dLtr G c q).1 := by
  obtain ⟨⟨k, a, b, s, l, e, qs⟩, r⟩ := q
  have h1 := dTexts_small r
  have h2 := dRising_small 256 (by omega) r
  have h3 := dRising_small 64 (by omega) r
  obtain ⟨g1, g2, g3⟩ := h
  simp only [Req.list, Req.entries, Req.asks] at g1 g2 g3
  unfold dLtr
  repeat' split
  all_goals simp only [reqE, reqA, reqB, reqS, reqL, reqQ, Slim, Req.list, Req.entries, Req.asks]
  · exact ⟨g1, by omega, g3⟩
  · exact ⟨g1, g2, g3⟩
  · exact ⟨g1, g2, g3⟩
  · exact ⟨g1, g2, g3⟩
  · exact ⟨by exact Nat.le_trans h2 (by omega), g2, g3⟩
  · exact ⟨by exact Nat.le_trans h3 (by omega), g2, g3⟩
  · refine ⟨g1, g2, fun x hx => ?_⟩
    rcases List.mem_append.1 hx with hx | hx
    · exact g3 x hx
    · exact hG r x hx
  · exact ⟨g1, g2, g3⟩
theorem slim_ltrs {G : RSt → List Req × RSt} (hG : ∀ r, ∀ x ∈ (G r).1, Tiny x) : ∀ (l : List UInt8) (q : Req × RSt), Slim q.1 → Slim (dLtrs G l q).1
  | [], _, h => h
  | c :: l, q, h => slim_ltrs hG l _ (slim_ltr hG c q h)
theorem tiny_of {R : Req} (h : Slim R) (hc : cnt R ≤ 1000000000) : Tiny R := by
  obtain ⟨h1, h2, h3⟩ := h
  rw [cnt_eq] at hc
  have := len_cnt R.asks
  cases R
  simp only [Req.list, Req.entries, Req.asks] at *
  rw [Tiny]
  exact ⟨h1, h2, by omega, TinyAll.of h3⟩
theorem tiny_many {F : RSt → Req × RSt} (hF : ∀ r, Tiny (F r).1) : ∀ (n : Nat) (r : RSt), ∀ x ∈ (dMany F n r).1, Tiny x
  | 0, r, x, h => by cases h
  | n + 1, r, x, h => by
    rcases List.mem_cons.1 h with rfl | h
    · exact hF r
    · exact tiny_many hF n _ x h
theorem tiny_in (r : RSt) : Tiny (dIn r).1 := by
  refine tiny_of ?_ (by rw [cnt_in]; omega)
  unfold dIn
  split
  · exact ⟨by simp [noReq, Req.list], by simp [noReq, Req.entries], fun x hx => by cases hx⟩
  · exact slim_ltrs (fun r x hx => by cases hx) _ _ ⟨by simp [dStart, Req.list], by simp [dStart, Req.entries], fun x hx => by cases hx⟩
theorem tiny_take (r : RSt) : Tiny (dTake r).1 :=
  tiny_of (slim_ltrs (fun r => tiny_many tiny_in _ _) _ _ ⟨by simp [dStart, Req.list], by simp [dStart, Req.entries], fun x hx => by cases hx⟩) (Nat.le_trans (cnt_take r) (by omega))
theorem decOf_small (s : List UInt8) : Tiny (decOf s).1 ∧ Fine (decOf s).1 ∧ cnt (decOf s).1 ≤ 600 := by
  have hn : Tiny noReq ∧ Fine noReq ∧ cnt noReq ≤ 600 := by
    refine ⟨?_, ?_, ?_⟩
    · simp [noReq, Tiny, TinyAll]
    · simp [noReq, Fine, FineAll]
    · simp [noReq, cnt, cntAll]
  rw [← dDecOf_eq]
  unfold dDecOf
  split
  · exact hn
  · split
    · exact ⟨tiny_take _, fine_take _, cnt_take _⟩
    · exact hn
end Go.Proofs.YtpccaodkgboefaaGreatDoor
