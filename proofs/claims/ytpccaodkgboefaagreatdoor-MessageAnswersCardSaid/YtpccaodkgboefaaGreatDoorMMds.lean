/-
  The document's takeReply: in plain words; what is under way in memory.
  What the document's takeReply tells of what was laid down; its DecodeReply, in plain words, is the program's. Plain.
  The document's takePart, takeReply, walked.
  The document's takeReply, walked.
  What is told as a reply is small. Plain.
  The document's DecodeReply: it answers as the program's.
-/
import Derived.Test.YtpccaodkgboefaaGreatDoorMShaA
import Derived.Test.YtpccaodkgboefaaGreatDoorMMdr
import Derived.Test.YtpccaodkgboefaaGreatDoorMMsK
import Derived.Test.YtpccaodkgboefaaGreatDoorMMsH
import Derived.Test.YtpccaodkgboefaaGreatDoorMMsI
import Derived.Test.YtpccaodkgboefaaGreatDoorMMsG
import Derived.Test.YtpccaodkgboefaaGreatDoorMsRepK
import Derived.Test.YtpccaodkgboefaaGreatDoorMMr
import Derived.Test.YtpccaodkgboefaaGreatDoorMMsA
import Derived.Test.YtpccaodkgboefaaGreatDoorMMsL
namespace Go.Proofs.YtpccaodkgboefaaGreatDoor
open Go.RowKit

def repS : Rep → Int → Rep | .mk z _ a b o h e p, s => .mk z s a b o h e p
def repA : Rep → Int → Rep | .mk z s _ b o h e p, a => .mk z s a b o h e p
def repB : Rep → Int → Rep | .mk z s a _ o h e p, b => .mk z s a b o h e p
def repO : Rep → List UInt8 → Rep | .mk z s a b _ h e p, o => .mk z s a b o h e p
def repH : Rep → List (List UInt8) → Rep | .mk z s a b o _ e p, h => .mk z s a b o h e p
def repE : Rep → List (List UInt8) → Rep | .mk z s a b o h _ p, e => .mk z s a b o h e p
def repP : Rep → List Rep → Rep | .mk z s a b o h e _, p => .mk z s a b o h e p
def dManyR (F : RSt → Rep × RSt) : Nat → RSt → List Rep × RSt
  | 0, r => ([], r)
  | n + 1, r => ((F r).1 :: (dManyR F n (F r).2).1, (dManyR F n (F r).2).2)
theorem dManyR_snoc (F : RSt → Rep × RSt) : ∀ (n : Nat) (r : RSt), dManyR F (n + 1) r = ((dManyR F n r).1 ++ [(F (dManyR F n r).2).1], (F (dManyR F n r).2).2)
  | 0, r => rfl
  | n + 1, r => by
    rw [dManyR, dManyR_snoc F n (F r).2]
    rfl
theorem dManyR_len (F : RSt → Rep × RSt) : ∀ (n : Nat) (r : RSt), (dManyR F n r).1.length = n
  | 0, r => rfl
  | n + 1, r => by rw [dManyR, List.length_cons, dManyR_len F n]
/-- one field of a reply, taken: parts are taken all, however few bytes are left -/
def dFld : Fld → RSt → Rep → Rep × RSt
  | .size, r, R => (repS R ((rd (pNum 0 0) 0 r).1 : Nat), (rd (pNum 0 0) 0 r).2)
  | .a, r, R => (repA R ((rd (pNum 0 0) 0 r).1 : Nat), (rd (pNum 0 0) 0 r).2)
  | .last, r, R => (repB R ((rd pByte 0 r).1 : Nat), (rd pByte 0 r).2)
  | .root, r, R => (repO R (rd (pRaw 32) [] r).1, (rd (pRaw 32) [] r).2)
  | .hashes, r, R => (repH R (rd (pHashes 32768) [] r).1, (rd (pHashes 32768) [] r).2)
  | .told, r, R => (repE R (rd (pTexts 4096 1000) [] r).1, (rd (pTexts 4096 1000) [] r).2)
  | .parts, r, R => (repP R (R.replies ++ (dManyR rPart (min (rd (pNum 0 0) 0 r).1 65) (rd (pNum 0 0) 0 r).2).1), (dManyR rPart (min (rd (pNum 0 0) 0 r).1 65) (rd (pNum 0 0) 0 r).2).2)
def dFlds : List Fld → RSt → Rep → Rep × RSt
  | [], r, R => (R, r)
  | f :: l, r, R => dFlds l (dFld f r R).2 (dFld f r R).1
/-- a reply's status, and what is behind it, as the document takes it -/
def dBody (K : Int) (r : RSt) : Rep × RSt :=
  if (rd pByte 0 r).1 = 0 then dFlds (tableOf K) (rd pByte 0 r).2 (.mk ((rd pByte 0 r).1 : Nat) 0 0 0 [] [] [] []) else (.mk ((rd pByte 0 r).1 : Nat) 0 0 0 [] [] [] [], (rd pByte 0 r).2)

abbrev repCells (R : Rep) (lv ev av : Value) : Array Value := #[.int .i64 R.status, .int .i64 R.size, .int .i64 R.a, .int .i64 R.b, .string (str R.root), lv, ev, av]
/-- take under way -/
structure DRw (w : World) (b b4 b5 : Nat) (s : List UInt8) (R : Rep) (lv ev av : Value) (bl : List Nat) (W : World) (r : RSt) : Prop where
  rep : DRep W b s r
  keeps : Keeps (fun q => q = b) w W
  lt : b < w.heap.size
  box4 : W.heap[b4]? = some (.cells zeroRep 48 (0, 0))
  box5 : W.heap[b5]? = some (.cells (repCells R lv ev av) 48 (0, 0))
  n4 : w.heap.size ≤ b4
  n5 : w.heap.size ≤ b5
  d45 : b4 ≠ b5
  own : RepOwn W R (.agg (repCells R lv ev av)) bl
  nodup : bl.Nodup
  new : ∀ q ∈ bl, w.heap.size ≤ q ∧ q ≠ b4 ∧ q ≠ b5

section
variable {w W W' : World} {b b4 b5 : Nat} {s : List UInt8} {R R' : Rep} {lv ev av lv' ev' av' : Value} {bl bl' : List Nat} {r r' : RSt}
theorem DRw.call (h : DRw w b b4 b5 s R lv ev av bl W r) (hk : Keeps (fun q => q = b) W W') (hr : DRep W' b s r') : DRw w b b4 b5 s R lv ev av bl W' r' :=
  have hlt := h.lt
  have n4 := h.n4
  have n5 := h.n5
  ⟨hr, h.keeps.trans hk, h.lt, hk.at_ h.box4 (fun e : b4 = b => by omega), hk.at_ h.box5 (fun e : b5 = b => by omega), h.n4, h.n5, h.d45, RepOwn.keeps hk _ _ _ h.own (fun q hq (e : q = b) => by have := (h.new q hq).1; omega), h.nodup, h.new⟩
theorem DRw.fresh (h : DRw w b b4 b5 s R lv ev av bl W r) (hk : Fresh W W') : DRw w b b4 b5 s R lv ev av bl W' r :=
  h.call (hk.mono fun _ _ h => h.elim) (h.rep.keeps hk fun h => h)
theorem DRw.set (h : DRw w b b4 b5 s R lv ev av bl W r) (o : Nat) (u : Value) (hcs : (repCells R lv ev av).setIfInBounds o u = repCells R' lv' ev' av')
    (hown : RepOwn W R' (.agg (repCells R' lv' ev' av')) bl') (hnd : bl'.Nodup) (hnew : ∀ q ∈ bl', w.heap.size ≤ q ∧ q ≠ b4 ∧ q ≠ b5) : DRw w b b4 b5 s R' lv' ev' av' bl' (W.setCell ⟨b5, o, none⟩ u) r := by
  have hlt := h.lt
  have n4 := h.n4
  have n5 := h.n5
  have hk : Keeps (fun q => q = b5) W (W.setCell ⟨b5, o, none⟩ u) := Keeps.setCell (S := fun q => q = b5) (p := ⟨b5, o, none⟩) (Keeps.refl _ _) (fun _ => rfl) _
  refine ⟨h.rep.keeps hk (fun e : b = b5 => by omega), h.keeps.trans' hk (fun q hq (e : q = b5) => by omega), h.lt, hk.at_ h.box4 h.d45, ?_, h.n4, h.n5, h.d45, RepOwn.keeps hk _ _ _ hown (fun q hq => (hnew q hq).2.2), hnd, hnew⟩
  rw [← hcs]
  exact heap_setCell_at h.box5 o u
theorem DRw.rows (h : DRw w b b4 b5 s R lv ev av bl W r) : ∃ cs b1, W.ownsRow 0 9 1 lv R.hashes.length (texts R.hashes) ∧ W.ownsRow 0 9 1 ev R.entries.length (texts R.entries) ∧ W.ownsRow 0 48 8 av R.replies.length cs ∧ ReplsOwn W R.replies cs b1 ∧ bl = lv.ownBlock.toList ++ (ev.ownBlock.toList ++ (av.ownBlock.toList ++ b1)) := by
  have := h.own
  obtain ⟨z, s', a, b', o, l, e, qs⟩ := R
  rw [RepOwn] at this
  obtain ⟨lv', ev', av', cs, b1, he, h1, h2, h3, h4, h5⟩ := this
  simp only [Value.agg.injEq, Array.mk.injEq, List.cons.injEq, and_true, repCells] at he
  obtain ⟨-, -, -, -, -, rfl, rfl, rfl⟩ := he
  exact ⟨cs, b1, h1, h2, h3, h4, h5⟩
theorem DRw.there (h : DRw w b b4 b5 s R lv ev av bl W r) : ∀ q ∈ bl, q < W.heap.size := RepOwn.there _ _ _ h.own
theorem DRw.numS (h : DRw w b b4 b5 s R lv ev av bl W r) (n : Int) : DRw w b b4 b5 s (repS R n) lv ev av bl (W.setCell ⟨b5, 1, none⟩ (.int .i64 n)) r := by
  obtain ⟨cs, b1, h1, h2, h3, h4, h5⟩ := h.rows
  obtain ⟨z, s', a, b', o, l, e, qs⟩ := R
  refine h.set 1 _ rfl ?_ h.nodup h.new
  show RepOwn _ (.mk _ _ _ _ _ _ _ _) _ _
  rw [RepOwn]
  exact ⟨_, _, _, cs, b1, rfl, h1, h2, h3, h4, h5⟩
theorem DRw.numA (h : DRw w b b4 b5 s R lv ev av bl W r) (n : Int) : DRw w b b4 b5 s (repA R n) lv ev av bl (W.setCell ⟨b5, 2, none⟩ (.int .i64 n)) r := by
  obtain ⟨cs, b1, h1, h2, h3, h4, h5⟩ := h.rows
  obtain ⟨z, s', a, b', o, l, e, qs⟩ := R
  refine h.set 2 _ rfl ?_ h.nodup h.new
  show RepOwn _ (.mk _ _ _ _ _ _ _ _) _ _
  rw [RepOwn]
  exact ⟨_, _, _, cs, b1, rfl, h1, h2, h3, h4, h5⟩
theorem DRw.numB (h : DRw w b b4 b5 s R lv ev av bl W r) (n : Int) : DRw w b b4 b5 s (repB R n) lv ev av bl (W.setCell ⟨b5, 3, none⟩ (.int .i64 n)) r := by
  obtain ⟨cs, b1, h1, h2, h3, h4, h5⟩ := h.rows
  obtain ⟨z, s', a, b', o, l, e, qs⟩ := R
  refine h.set 3 _ rfl ?_ h.nodup h.new
  show RepOwn _ (.mk _ _ _ _ _ _ _ _) _ _
  rw [RepOwn]
  exact ⟨_, _, _, cs, b1, rfl, h1, h2, h3, h4, h5⟩
theorem DRw.root (h : DRw w b b4 b5 s R lv ev av bl W r) (n : List UInt8) : DRw w b b4 b5 s (repO R n) lv ev av bl (W.setCell ⟨b5, 4, none⟩ (.string (str n))) r := by
  obtain ⟨cs, b1, h1, h2, h3, h4, h5⟩ := h.rows
  obtain ⟨z, s', a, b', o, l, e, qs⟩ := R
  refine h.set 4 _ rfl ?_ h.nodup h.new
  show RepOwn _ (.mk _ _ _ _ _ _ _ _) _ _
  rw [RepOwn]
  exact ⟨_, _, _, cs, b1, rfl, h1, h2, h3, h4, h5⟩
theorem DRw.list (h : DRw w b b4 b5 s R lv ev av bl W r) {l' : List (List UInt8)} {v : Value} (hrow : W.ownsRow 0 9 1 v l'.length (texts l')) (hn : ∀ g, v.ownBlock = some g → w.heap.size ≤ g ∧ g ∉ bl) :
    ∃ bl', DRw w b b4 b5 s (repH R l') v ev av bl' (W.setCell ⟨b5, 5, none⟩ v) r := by
  obtain ⟨cs, b1, h1, h2, h3, h4, h5⟩ := h.rows
  obtain ⟨z, s', a, b', o, l, e, qs⟩ := R
  refine ⟨v.ownBlock.toList ++ (ev.ownBlock.toList ++ (av.ownBlock.toList ++ b1)), h.set 5 v rfl ?_ ?_ ?_⟩
  · show RepOwn _ (.mk _ _ _ _ _ _ _ _) _ _
    rw [RepOwn]
    exact ⟨_, _, _, cs, b1, rfl, hrow, h2, h3, h4, rfl⟩
  · refine nodup_midL (L := lv.ownBlock.toList) (by rw [← h5]; exact h.nodup) (by cases v.ownBlock <;> simp) (fun q hq => by rw [← h5]; exact (hn q (mem_ownBlock.1 hq)).2)
  · intro q hq
    rcases List.mem_append.1 hq with hq | hq
    · have hq := mem_ownBlock.1 hq
      refine ⟨(hn q hq).1, ?_, ?_⟩ <;> rintro rfl
      · exact ownsRow_new hrow h.box4 (by decide) hq
      · exact ownsRow_new hrow h.box5 (by decide) hq
    · exact h.new q (by rw [h5]; exact List.mem_append_right _ hq)
theorem DRw.entries (h : DRw w b b4 b5 s R lv ev av bl W r) {e' : List (List UInt8)} {v : Value} (hrow : W.ownsRow 0 9 1 v e'.length (texts e')) (hn : ∀ g, v.ownBlock = some g → w.heap.size ≤ g ∧ g ∉ bl) :
    ∃ bl', DRw w b b4 b5 s (repE R e') lv v av bl' (W.setCell ⟨b5, 6, none⟩ v) r := by
  obtain ⟨cs, b1, h1, h2, h3, h4, h5⟩ := h.rows
  obtain ⟨z, s', a, b', o, l, e, qs⟩ := R
  refine ⟨lv.ownBlock.toList ++ (v.ownBlock.toList ++ (av.ownBlock.toList ++ b1)), h.set 6 v rfl ?_ ?_ ?_⟩
  · show RepOwn _ (.mk _ _ _ _ _ _ _ _) _ _
    rw [RepOwn]
    exact ⟨_, _, _, cs, b1, rfl, h1, hrow, h3, h4, rfl⟩
  · refine nodup_midE (E := ev.ownBlock.toList) (by rw [← h5]; exact h.nodup) (by cases v.ownBlock <;> simp) (fun q hq => by rw [← h5]; exact (hn q (mem_ownBlock.1 hq)).2)
  · intro q hq
    rcases List.mem_append.1 hq with hq | hq
    · exact h.new q (by rw [h5]; exact List.mem_append_left _ hq)
    · rcases List.mem_append.1 hq with hq | hq
      · have hq := mem_ownBlock.1 hq
        refine ⟨(hn q hq).1, ?_, ?_⟩ <;> rintro rfl
        · exact ownsRow_new hrow h.box4 (by decide) hq
        · exact ownsRow_new hrow h.box5 (by decide) hq
      · exact h.new q (by rw [h5]; exact List.mem_append_right _ (List.mem_append_right _ hq))
theorem DRw.push (h : DRw w b b4 b5 s R lv ev av bl W r) {x : Rep} {c0 c1 c2 c3 c4 c5 c6 c7 v' : Value} {bx b1 : List Nat} {cs : List Value}
    (h1 : W.ownsRow 0 9 1 lv R.hashes.length (texts R.hashes)) (h2 : W.ownsRow 0 9 1 ev R.entries.length (texts R.entries)) (h4 : ReplsOwn W R.replies cs b1) (h5 : bl = lv.ownBlock.toList ++ (ev.ownBlock.toList ++ (av.ownBlock.toList ++ b1)))
    (hx : RepOwn W x (.agg #[c0, c1, c2, c3, c4, c5, c6, c7]) bx) (hnx : bx.Nodup) (hbx : ∀ q ∈ bx, (w.heap.size ≤ q ∧ q ≠ b4 ∧ q ≠ b5) ∧ q ∉ bl) (ha : Appended 48 8 W W' av v' (R.replies.length + 1) (cs ++ [c0, c1, c2, c3, c4, c5, c6, c7])) :
    ∃ bl', DRw w b b4 b5 s (repP R (R.replies ++ [x])) lv ev v' bl' (W'.setCell ⟨b5, 7, none⟩ v') r := by
  have hsz := h.keeps.size
  have nd := h.nodup
  have hnew := h.new
  have hthere := h.there
  have hbx2 := RepOwn.there _ _ _ hx
  rw [h5] at nd hnew hthere
  have hT : ∀ q, av.ownBlock = some q → w.heap.size ≤ q ∧ q ≠ b4 ∧ q ≠ b5 := fun q hq => hnew q (by simp [mem_ownBlock.2 hq])
  have hLA : ∀ q, lv.ownBlock = some q → ¬ av.ownBlock = some q := fun q hq hq2 => (List.nodup_append.1 nd).2.2 q (mem_ownBlock.2 hq) q (by simp [mem_ownBlock.2 hq2]) rfl
  have hEA : ∀ q, ev.ownBlock = some q → ¬ av.ownBlock = some q := fun q hq hq2 => (List.nodup_append.1 (List.nodup_append.1 nd).2.1).2.2 q (mem_ownBlock.2 hq) q (by simp [mem_ownBlock.2 hq2]) rfl
  have hBA : ∀ q ∈ b1, ¬ av.ownBlock = some q := fun q hq hq2 => (List.nodup_append.1 (List.nodup_append.1 (List.nodup_append.1 nd).2.1).2.1).2.2 q (mem_ownBlock.2 hq2) q hq rfl
  have hXA : ∀ q ∈ bx, ¬ av.ownBlock = some q := fun q hq hq2 => (hbx q hq).2 (by rw [h5]; simp [mem_ownBlock.2 hq2])
  have hV : ∀ q ∈ v'.ownBlock.toList, q ∈ av.ownBlock.toList ∨ W.heap.size ≤ q := fun q hq => (ha.own q (mem_ownBlock.1 hq)).imp mem_ownBlock.2 (fun h => h.1)
  obtain ⟨z, s', a, b', o, l, e, qs⟩ := R
  have hk5 : Keeps (fun q => q = b5) W' (W'.setCell ⟨b5, 7, none⟩ v') := Keeps.setCell (S := fun q => q = b5) (p := ⟨b5, 7, none⟩) (Keeps.refl _ _) (fun _ => rfl) _
  have hn4 : ¬ av.ownBlock = some b4 := fun e => (hT _ e).2.1 rfl
  have hn5 : ¬ av.ownBlock = some b5 := fun e => (hT _ e).2.2 rfl
  have hb5 := ha.keeps.at_ h.box5 hn5
  have hnb5 := lt_of_block h.box5
  have hnb4 := lt_of_block h.box4
  have hnew' : ∀ q ∈ lv.ownBlock.toList ++ (ev.ownBlock.toList ++ (v'.ownBlock.toList ++ (b1 ++ bx))), w.heap.size ≤ q ∧ q ≠ b4 ∧ q ≠ b5 := fun q hq => by
    simp only [List.mem_append] at hq
    rcases hq with hq | hq | hq | hq | hq
    · exact hnew q (by simp [hq])
    · exact hnew q (by simp [hq])
    · rcases hV q hq with h9 | h9
      · exact hnew q (by simp [h9])
      · exact ⟨by omega, by omega, by omega⟩
    · exact hnew q (by simp [hq])
    · exact (hbx q hq).1
  refine ⟨lv.ownBlock.toList ++ (ev.ownBlock.toList ++ (v'.ownBlock.toList ++ (b1 ++ bx))), (h.rep.keeps ha.keeps (fun e => by have := (hT _ e).1; have := h.lt; omega)).keeps hk5 (fun e : b = b5 => by have := h.lt; have := h.n5; omega),
    (h.keeps.trans' ha.keeps (fun q hq e => by have := (hT q e).1; omega)).trans' hk5 (fun q hq (e : q = b5) => by have := h.n5; omega), h.lt, hk5.at_ (ha.keeps.at_ h.box4 hn4) h.d45, heap_setCell_at hb5 7 v', h.n4, h.n5, h.d45, ?_, ?_, hnew'⟩
  · refine RepOwn.keeps hk5 _ _ _ ?_ (fun q hq => (hnew' q hq).2.2)
    show RepOwn _ (.mk _ _ _ _ _ _ _ _) _ _
    rw [RepOwn]
    refine ⟨_, _, _, _, b1 ++ bx, rfl, ownsRow_keeps h1 ha.keeps hLA, ownsRow_keeps h2 ha.keeps hEA, ?_, (ReplsOwn.keeps ha.keeps _ _ _ h4 hBA).snoc (RepOwn.keeps ha.keeps _ _ _ hx hXA), rfl⟩
    show World.ownsRow _ _ _ _ _ (qs ++ [x]).length _
    rw [List.length_append]
    exact ha.row
  · exact nodup_push nd hthere (by cases v'.ownBlock <;> simp) hV hnx (fun q hq => ⟨hbx2 q hq, by rw [← h5]; exact (hbx q hq).2⟩)
end
end Go.Proofs.YtpccaodkgboefaaGreatDoor

namespace Go.Proofs.YtpccaodkgboefaaGreatDoor
open Go.RowKit

theorem round_dpartsR : ∀ (l : List Rep) (st : WSt), Round st (l.foldl mPart st) (dManyR rPart l.length) l
  | [], st => (Round.none st []).of rfl (fun r => rfl) rfl
  | x :: l, st => by
    rw [List.foldl_cons]
    have h3 := (round_part st x).then (g := fun y r => (y :: (dManyR rPart l.length r).1, (dManyR rPart l.length r).2)) (y := x :: l) ((round_dpartsR l (mPart st x)).map (fun l => x :: l))
    exact h3.of rfl (fun r => rfl) rfl
theorem round_dpartsM (st : WSt) (l : List Rep) : Round st (mParts st l) (fun r => dManyR rPart (min (rd (pNum 0 0) 0 r).1 65) (rd (pNum 0 0) 0 r).2) l := by
  unfold mParts
  by_cases hc : l.length = 0 ∨ 64 < l.length
  · rw [if_pos hc]
    intro h0
    obtain ⟨e1, -⟩ := round_dpartsR l _ h0
    obtain ⟨e2, -⟩ := round_num _ _ e1
    exact absurd e2 (wNum_minus st)
  · rw [if_neg hc]
    have h3 := (round_num st (l.length : Int)).then (g := fun n r => dManyR rPart (min n.toNat 65) r) (y := l)
      ((round_dpartsR l (wNum st l.length)).of rfl (fun r => by rw [show min ((l.length : Int).toNat) 65 = l.length by omega]) rfl)
    exact h3.of rfl (fun r => rfl) rfl
theorem round_dfld (f : Fld) (st : WSt) (R X : Rep) : Round st (mFld f st R).1 (fun r => dFld f r X) (mergeF f R X) := by
  obtain ⟨z, s, a, b, r, h, e, p⟩ := R
  obtain ⟨z', s', a', b', r', h', e', p'⟩ := X
  cases f
  · exact ((round_size st s).map (fun v => Rep.mk z' v a' b' r' h' e' p')).of rfl (fun r => rfl) rfl
  · exact ((round_size st a).map (fun v => Rep.mk z' s' v b' r' h' e' p')).of rfl (fun r => rfl) rfl
  · exact round_if (g := fun u => wByte u b) (c := 1 < b) rfl fun u => ((round_byte u b).map (fun v => Rep.mk z' s' a' v r' h' e' p')).of rfl (fun r => rfl) rfl
  · exact ((round_root st r).map (fun v => Rep.mk z' s' a' b' v h' e' p')).of rfl (fun r => rfl) rfl
  · exact ((round_hashes st h 32768 (by decide) (by decide)).map (fun v => Rep.mk z' s' a' b' r' v e' p')).of rfl (fun r => rfl) rfl
  · exact ((round_texts st e 4096 1000 (by decide) (by decide) (by decide) (by decide)).map (fun v => Rep.mk z' s' a' b' r' h' v p')).of rfl (fun r => rfl) rfl
  · exact ((round_dpartsM st p).map (fun v => Rep.mk z' s' a' b' r' h' e' (p' ++ v))).of rfl (fun r => rfl) rfl
theorem round_dflds : ∀ (l : List Fld) (st : WSt) (R X : Rep), Round st (mFlds l st R).1 (fun r => dFlds l r X) (mergeL l R X)
  | [], st, _, X => (Round.none st X).of rfl (fun r => rfl) rfl
  | f :: l, st, R, X => by
    have h := (round_dfld f st R X).then (g := fun Y r => dFlds l r Y) (round_dflds l (mFld f st R).1 (mFld f st R).2 (mergeF f R X))
    rw [mFld_strip] at h
    exact h.of (by rw [mFlds, mFld_strip]) (fun r => rfl) rfl
theorem round_dbody (st : WSt) (k : Int) (R : Rep) :
    Round st (mRest (if R.status = 0 then mFlds (tableOf k) (mStatus st R.status) R else (mStatus st R.status, R)).1 (if R.status = 0 then mFlds (tableOf k) (mStatus st R.status) R else (mStatus st R.status, R)).2) (dBody k) R := by
  refine round_rest fun hl => ?_
  have key : ∀ r, dBody k r = (fun z r => if z = 0 then dFlds (tableOf k) r (.mk z 0 0 0 [] [] [] []) else (.mk z 0 0 0 [] [] [] [], r)) (((rd pByte 0 r).1 : Nat) : Int) (rd pByte 0 r).2 := fun r => by
    unfold dBody
    by_cases hk : (rd pByte 0 r).1 = 0
    · simp only [hk]; rfl
    · simp only [if_neg hk]; rw [if_neg (by omega)]
  by_cases hz : R.status = 0
  · rw [if_pos hz] at hl ⊢
    rw [mFlds_strip] at hl
    have hm := merge_all k R hl
    refine ((round_status st R.status).then (g := fun z r => if z = 0 then dFlds (tableOf k) r (.mk z 0 0 0 [] [] [] []) else (.mk z 0 0 0 [] [] [] [], r)) ((round_dflds (tableOf k) (mStatus st R.status) R (.mk R.status 0 0 0 [] [] [] [])).of rfl (fun r => by rw [if_pos hz]) rfl)).of rfl key hm.symm
  · rw [if_neg hz] at hl ⊢
    obtain ⟨z, s, a, b, r, h, e, p⟩ := R
    obtain ⟨rfl, rfl, rfl, rfl, rfl, rfl, rfl⟩ := left_none hl
    have hz : ¬ z = 0 := hz
    exact ((round_status st z).then (g := fun z r => if z = 0 then dFlds (tableOf k) r (.mk z 0 0 0 [] [] [] []) else (.mk z 0 0 0 [] [] [] [], r)) ((Round.none _ (Rep.mk z 0 0 0 [] [] [] [])).of rfl (fun r => by rw [if_neg hz]) rfl)).of rfl key rfl
/-- what a reply's frame is -/
theorem encRep_dframe {k : Int} {R : Rep} (h : (encRep k R).2 = 0) : ∃ p c, p.length ≤ 1048576 ∧ encRep k R = (digs p.length ++ p, 0) ∧ (rd pByte 0 (p, 0, 0)).1 = k.toNat ∧ dBody k (rd pByte 0 (p, 0, 0)).2 = (R, ([], c, 0)) ∧ 0 ≤ k ∧ k ≤ 12 := by
  unfold encRep at h ⊢
  by_cases hk : k < 0 ∨ 12 < k
  · rw [if_pos hk] at h
    exact absurd h (by decide)
  rw [if_neg hk] at h ⊢
  by_cases hp : k = 0 ∧ R.status = 0
  · rw [if_pos hp] at h
    exact absurd h (by decide)
  rw [if_neg hp] at h ⊢
  have R0 := round_dbody (wByte ([], 0) k) k R
  have hw : wByte ([], 0) k = ([UInt8.ofNat k.toNat], 0) := by
    unfold wByte
    rw [if_neg (by omega)]
    rfl
  rw [hw] at h R0 ⊢
  dsimp only at h ⊢
  obtain ⟨X, hX⟩ : ∃ X, mRest (if R.status = 0 then mFlds (tableOf k) (mStatus ([UInt8.ofNat k.toNat], 0) R.status) R else (mStatus ([UInt8.ofNat k.toNat], 0) R.status, R)).1 (if R.status = 0 then mFlds (tableOf k) (mStatus ([UInt8.ofNat k.toNat], 0) R.status) R else (mStatus ([UInt8.ofNat k.toNat], 0) R.status, R)).2 = X := ⟨_, rfl⟩
  rw [hX] at h R0 ⊢
  unfold framedW at h ⊢
  by_cases h0 : X.2 ≠ 0
  · rw [if_pos h0] at h
    exact absurd h (by decide)
  rw [if_neg h0] at h ⊢
  obtain ⟨-, d, hd, ht⟩ := R0 (Decidable.not_not.1 h0)
  unfold framed at h ⊢
  by_cases hbig : 1048576 < X.1.length
  · rw [if_pos hbig] at h
    exact absurd h (by decide)
  rw [if_neg hbig] at h ⊢
  have hkn : (UInt8.ofNat k.toNat).toNat = k.toNat := by
    have : k.toNat < 256 := by omega
    simp [UInt8.toNat_ofNat']
    omega
  have hr : rd pByte 0 (X.1, 0, 0) = (k.toNat, (d, X.1.length - d.length, 0)) := by
    rw [hd]
    unfold rd
    rw [if_neg (fun h => h rfl)]
    show ((UInt8.ofNat k.toNat).toNat, (d, _, _)) = _
    rw [hkn]
    simp
  obtain ⟨c', hc⟩ := ht [] (X.1.length - d.length)
  rw [List.append_nil] at hc
  refine ⟨X.1, c', by omega, by simp, ?_, ?_, by omega, by omega⟩
  · rw [hr]
  · rw [hr]; exact hc

def dFitsR (K : Int) (k : Nat) (q : Rep × RSt) (rest s : List UInt8) : Bool := decide ((rDone q.2).1 = 0 ∧ (encRep K q.1).2 = 0 ∧ (k : Int) = K ∧ (encRep K q.1).1 ++ rest = s)
def dDecRep (K : Int) (s : List UInt8) : Rep × List UInt8 × Int :=
  if K < 0 ∨ 12 < K then (noRep, [], 170)
  else if (unframedM s).2.2 ≠ 0 then (noRep, [], (unframedM s).2.2)
  else if dFitsR K (rd pByte 0 ((unframedM s).1, 0, 0)).1 (dBody K (rd pByte 0 ((unframedM s).1, 0, 0)).2) (unframedM s).2.1 s then ((dBody K (rd pByte 0 ((unframedM s).1, 0, 0)).2).1, (unframedM s).2.1, 0) else (noRep, [], 173)
theorem dDecRep_eq (K : Int) (s : List UInt8) : dDecRep K s = decRep K s := by
  by_cases hK : K < 0 ∨ 12 < K
  · unfold dDecRep decRep
    rw [if_pos hK, if_pos hK]
  by_cases hu : (unframedM s).2.2 = 0
  · by_cases hf : dFitsR K (rd pByte 0 ((unframedM s).1, 0, 0)).1 (dBody K (rd pByte 0 ((unframedM s).1, 0, 0)).2) (unframedM s).2.1 s = true
    · have h1 : dDecRep K s = ((dBody K (rd pByte 0 ((unframedM s).1, 0, 0)).2).1, (unframedM s).2.1, 0) := by unfold dDecRep; rw [if_neg hK, if_neg (by simpa using hu), if_pos hf]
      unfold dFitsR at hf
      rw [decide_eq_true_eq] at hf
      have h2 := decRep_back (unframedM s).2.1 hf.2.1
      rw [hf.2.2.2] at h2
      rw [h1, h2]
    · have h1 : dDecRep K s = (noRep, [], 173) := by unfold dDecRep; rw [if_neg hK, if_neg (by simpa using hu), if_neg hf]
      by_cases hd : (decRep K s).2.2 = 0
      · exfalso
        apply hf
        obtain ⟨g1, g2⟩ := decRep_strict K s hd
        obtain ⟨p, c, hp, he, hk, hc, h0, h12⟩ := encRep_dframe g1
        have h3 : unframedM s = (p, (decRep K s).2.1, 0) := by
          have := unframedM_of p (decRep K s).2.1 hp
          rw [← List.append_assoc] at this
          rw [he] at g2
          simp only at g2
          rw [g2] at this
          exact this
        unfold dFitsR
        rw [decide_eq_true_eq, h3]
        simp only
        rw [hc, hk]
        exact ⟨by unfold rDone; simp, g1, by omega, g2⟩
      · rw [h1]
        unfold decRep at hd ⊢
        rw [if_neg hK, if_neg (by simpa using hu)] at hd ⊢
        split
        · rename_i h4
          rw [if_pos h4] at hd
          exact absurd rfl hd
        · rfl
  · have hu' : (unframedM s).2.2 ≠ 0 := hu
    unfold dDecRep decRep
    rw [if_neg hK, if_neg hK, if_pos hu', if_pos hu']
end Go.Proofs.YtpccaodkgboefaaGreatDoor

namespace Go.Proofs.YtpccaodkgboefaaGreatDoor
open Go.RowKit

/-- what takePart, takeReply leave -/
def DTookP (b : Nat) (s : List UInt8) (q : Rep × RSt) (w : World) (e : Ending) (w' : World) : Prop :=
  ∃ v bl, e = .returned v ∧ Keeps (fun q => q = b) w w' ∧ DRep w' b s q.2 ∧ RepOwn w' q.1 v bl ∧ bl.Nodup ∧ ∀ g ∈ bl, w.heap.size ≤ g
theorem drw_start {w w1 : World} {b : Nat} {s : List UInt8} {r r1 : RSt} (k : Int) (h : DRep w b s r) (hk : Keeps (fun q => q = b) (w.alloc (.cells zeroRep 48)) w1) (hr : DRep w1 b s r1) :
    DRw w b w.heap.size w1.heap.size s (.mk k 0 0 0 [] [] [] []) (.slice none 0 0) (.slice none 0 0) (.slice none 0 0) [] (w1.alloc (.cells #[.int .i64 k, .int .i64 0, .int .i64 0, .int .i64 0, .string ⟨#[]⟩, .slice none 0 0, .slice none 0 0, .slice none 0 0] 48)) r1 := by
  have hlt := h.cells.2.2.2.2.2
  have f0 : Fresh w (w.alloc (.cells zeroRep 48)) := (Keeps.refl _ _).alloc _
  have f1 : Fresh w1 (w1.alloc (.cells #[.int .i64 k, .int .i64 0, .int .i64 0, .int .i64 0, .string ⟨#[]⟩, .slice none 0 0, .slice none 0 0, .slice none 0 0] 48)) := (Keeps.refl _ _).alloc _
  have hb4 := f1.at_ (hk.at_ (heap_alloc_new w (.cells zeroRep 48)) (fun e : w.heap.size = b => by omega)) (fun h => h)
  have hsz := hk.size
  simp only [World.size_alloc] at hsz
  refine ⟨hr.keeps f1 fun h => h, (f0.mono_trans hk).trans (f1.mono fun _ _ h => h.elim), hlt, hb4, heap_alloc_new _ _, Nat.le_refl _, by omega, by omega, ?_, List.nodup_nil, fun q hq => by cases hq⟩
  rw [RepOwn]
  exact ⟨_, _, _, [], [], rfl, World.ownsRow_nil _ _ _ _, World.ownsRow_nil _ _ _ _, World.ownsRow_nil _ _ _ _, by rw [ReplsOwn]; exact ⟨rfl, rfl⟩, rfl⟩
theorem xrraw32 (b : Nat) (s : List UInt8) (r : RSt) (w : World) (h : DRep w b s r) :
    Calls Tryz.prog 107 #[.pointer (some ⟨b, 0, none⟩), .int .i64 32] w fun e w' => e = .returned (.string (str (rd (pRaw 32) [] r).1)) ∧ Keeps (fun k => k = b) w w' ∧ DRep w' b s (rd (pRaw 32) [] r).2 := xrraw_any 32 (by omega) b s r w h
theorem xrhashesM (b : Nat) (s : List UInt8) (r : RSt) (w : World) (h : DRep w b s r) :
    Calls Tryz.prog 108 #[.pointer (some ⟨b, 0, none⟩), .int .i64 32768] w fun e w' => DTook 9 texts b s (rd (pHashes 32768) [] r) w e w' := xrhashes_any 32768 (by omega) b s r w h
theorem xrtextsM (b : Nat) (s : List UInt8) (r : RSt) (w : World) (h : DRep w b s r) :
    Calls Tryz.prog 82 #[.pointer (some ⟨b, 0, none⟩), .int .i64 4096, .int .i64 1000] w fun e w' => DTook 9 texts b s (rd (pTexts 4096 1000) [] r) w e w' := xrtexts_any 4096 1000 (by omega) (by omega) b s r w h

set_option maxRecDepth 100000 in
set_option maxHeartbeats 8000000 in
theorem dtakePart_any (b : Nat) (s : List UInt8) (r : RSt) (w : World) (h : DRep w b s r) :
    Calls Tryz.prog 109 #[.pointer (some ⟨b, 0, none⟩)] w (DTookP b s (rPart r) w) := by
  obtain ⟨X, hX⟩ : ∃ X, rPart r = X := ⟨_, rfl⟩
  rw [hX]
  have hX0 : Hid (X = if (rd pByte 0 r).1 = 0 then (if (rd pByte 0 (rd pByte 0 r).2).1 = 1 then (Rep.mk ((rd pByte 0 r).1 : Nat) 0 0 0 (rd (pRaw 32) [] (rd pByte 0 (rd pByte 0 r).2).2).1 [] [] [], (rd (pRaw 32) [] (rd pByte 0 (rd pByte 0 r).2).2).2) else (Rep.mk ((rd pByte 0 r).1 : Nat) 0 0 0 [] (rd (pHashes 32768) [] (rd pByte 0 (rd pByte 0 r).2).2).1 [] [], (rd (pHashes 32768) [] (rd pByte 0 (rd pByte 0 r).2).2).2)) else (Rep.mk ((rd pByte 0 r).1 : Nat) 0 0 0 [] [] [] [], (rd pByte 0 r).2)) := by
    rw [Hid, ← hX]
    rfl
  clear hX
  have HD := hid h
  clear h
  have f0 : Fresh w (w.alloc (.cells zeroRep 48)) := (Keeps.refl _ _).alloc _
  have hby := fun W hW => xrbyte_any b s r W hW
  obtain ⟨k, hk⟩ : ∃ k, (rd pByte 0 r).1 = k := ⟨_, rfl⟩
  obtain ⟨r1, hr1⟩ : ∃ r1, (rd pByte 0 r).2 = r1 := ⟨_, rfl⟩
  rw [hk, hr1] at hby
  have HX := hid hX0.out
  rw [hk, hr1] at HX
  clear hX0 hk hr1
  have HBY := hid hby
  clear hby
  go_enter Tryz.func109, Tryz.ntmps109
  go_wp2_with fail
  refine (HBY.out _ (HD.out.keeps f0 fun h => h)).mono ?_
  rintro e w1 ⟨rfl, k1, hr1⟩
  have U := drw_start (k : Int) HD.out k1 hr1
  have HU := hid U
  clear U k1 hr1 f0
  go_upto_region 2 with fail
  obtain ⟨W1, hW1⟩ : ∃ W1, w1.alloc (.cells #[.int .i64 (k : Int), .int .i64 0, .int .i64 0, .int .i64 0, .string ⟨#[]⟩, .slice none 0 0, .slice none 0 0, .slice none 0 0] 48) = W1 := ⟨_, rfl⟩
  obtain ⟨b4, hb4⟩ : ∃ b4, w.heap.size = b4 := ⟨_, rfl⟩
  obtain ⟨b5, hb5⟩ : ∃ b5, w1.heap.size = b5 := ⟨_, rfl⟩
  rw [hW1, hb4, hb5] at HU
  rw [hW1, hb4, hb5]
  clear hW1 hb4 hb5
  by_cases hk0 : k = 0
  · subst hk0
    have HX2 : Hid (X = if (rd pByte 0 r1).1 = 1 then (Rep.mk 0 0 0 0 (rd (pRaw 32) [] (rd pByte 0 r1).2).1 [] [] [], (rd (pRaw 32) [] (rd pByte 0 r1).2).2) else (Rep.mk 0 0 0 0 [] (rd (pHashes 32768) [] (rd pByte 0 r1).2).1 [] [], (rd (pHashes 32768) [] (rd pByte 0 r1).2).2)) := by
      rw [Hid, HX.out, if_pos rfl]
      rfl
    clear HX
    have c0 := cell_at HU.out.box5 0
    simp [repCells] at c0
    go_wp2_with fail
    refine (xrbyte_any b s r1 W1 HU.out.rep).mono ?_
    rintro e w5 ⟨rfl, k5, hr5⟩
    have U5 := HU.out.call k5 hr5
    obtain ⟨k2, hk2⟩ : ∃ k2, (rd pByte 0 r1).1 = k2 := ⟨_, rfl⟩
    obtain ⟨r2, hr2⟩ : ∃ r2, (rd pByte 0 r1).2 = r2 := ⟨_, rfl⟩
    rw [hk2, hr2] at HX2
    rw [hr2] at U5
    rw [hk2]
    have HU5 := hid U5
    clear U5 k5 hr5 hk2 hr2 HU c0
    by_cases h1 : k2 = 1
    · subst h1
      have HX3 : Hid (X = (Rep.mk 0 0 0 0 (rd (pRaw 32) [] r2).1 [] [] [], (rd (pRaw 32) [] r2).2)) := by rw [Hid, HX2.out, if_pos rfl]
      clear HX2
      go_wp2_with fail
      refine (xrraw32 b s r2 w5 HU5.out.rep).mono ?_
      rintro e w6 ⟨rfl, k6, hr6⟩
      have U6 := HU5.out.call k6 hr6
      have q1 := cell_at U6.box5 4
      have q2 := free_at U6.box5 4
      simp [repCells] at q1
      have HU7 := hid (U6.root (rd (pRaw 32) [] r2).1)
      have HX4 : Hid (X = (repO (Rep.mk 0 0 0 0 [] [] [] []) (rd (pRaw 32) [] r2).1, (rd (pRaw 32) [] r2).2)) := HX3.out
      clear U6 k6 hr6 HX3 HU5
      generalize rd (pRaw 32) [] r2 = Z at *
      go_upto_region 7 with fail
      obtain ⟨W8, hW8⟩ : ∃ W, w6.setCell ⟨b5, 4, none⟩ (.string (str Z.1)) = W := ⟨_, rfl⟩
      have HU8 := HU7
      rw [hW8] at HU8
      rw [hW8]
      clear hW8 HU7 q1 q2
      have u0 := cell_at HU8.out.box5 0
      have u1 := cell_at HU8.out.box5 1
      have u2 := cell_at HU8.out.box5 2
      have u3 := cell_at HU8.out.box5 3
      have u4 := cell_at HU8.out.box5 4
      have u5 := cell_at HU8.out.box5 5
      have u6 := cell_at HU8.out.box5 6
      have u7 := cell_at HU8.out.box5 7
      simp [repCells] at u0 u1 u2 u3 u4 u5 u6 u7
      have z0 := cell_at HU8.out.box4 0
      have z1 := cell_at HU8.out.box4 1
      have z2 := cell_at HU8.out.box4 2
      have z3 := cell_at HU8.out.box4 3
      have z4 := cell_at HU8.out.box4 4
      have z5 := cell_at HU8.out.box4 5
      have z6 := cell_at HU8.out.box4 6
      have z7 := cell_at HU8.out.box4 7
      have y0 := free_at HU8.out.box4 0
      have y1 := free_at HU8.out.box4 1
      have y2 := free_at HU8.out.box4 2
      have y3 := free_at HU8.out.box4 3
      have y4 := free_at HU8.out.box4 4
      have y5 := free_at HU8.out.box4 5
      have y6 := free_at HU8.out.box4 6
      have y7 := free_at HU8.out.box4 7
      simp [zeroRep] at z0 z1 z2 z3 z4 z5 z6 z7
      go_wp2_with fail
      (try simp only [Exit.inBlock, Exit.then])
      refine bodyPost_ret (results_row1 rfl _ _ b4 48 _ (0, 0) _ rfl (by exact heap_setCell_at (heap_setCell_at (heap_setCell_at (heap_setCell_at (heap_setCell_at (heap_setCell_at (heap_setCell_at (heap_setCell_at HU8.out.box4 0 _) 1 _) 2 _) 3 _) 4 _) 5 _) 6 _) 7 _) Tryz.underlying48 rfl (by kernel_rfl)) rfl ?_
      have hn4 := HU8.out.n4
      have hlt := HU8.out.lt
      rw [HX4.out]
      exact ⟨_, _, rfl, HU8.out.keeps.trans' (T8 _ _ _ _ _ _ _ _) (fun q hq (e : q = b4) => by omega), HU8.out.rep.keeps (T8 _ _ _ _ _ _ _ _) (fun e : b = b4 => by omega), RepOwn.keeps (T8 _ _ _ _ _ _ _ _) _ _ _ HU8.out.own (fun q hq (e : q = b4) => (HU8.out.new q hq).2.1 e), HU8.out.nodup, fun g hg => (HU8.out.new g hg).1⟩
    · have HX3 : Hid (X = (repH (Rep.mk 0 0 0 0 [] [] [] []) (rd (pHashes 32768) [] r2).1, (rd (pHashes 32768) [] r2).2)) := by
        rw [Hid, HX2.out, if_neg h1]
        rfl
      clear HX2
      have h1' : ((k2 : Int) == 1) = false := beq_eq_false_iff_ne.2 (by omega)
      go_wp2_with fail
      refine (xrhashesM b s r2 w5 HU5.out.rep).mono ?_
      rintro e w6 ⟨v, rfl, k6, hr6, hrow, hown⟩
      obtain ⟨so, sc, rfl⟩ := ownsRow_slice hrow
      have U6 := HU5.out.call k6 hr6
      obtain ⟨bl', U7⟩ := U6.list hrow (fun g hg => ⟨Nat.le_trans HU5.out.keeps.size (hown g hg), fun h9 => by cases h9⟩)
      have q1 := cell_at U6.box5 5
      have q2 := free_at U6.box5 5
      simp [repCells] at q1
      have HU7 := hid U7
      clear U6 U7 k6 hr6 hrow hown HU5
      generalize rd (pHashes 32768) [] r2 = Z at *
      go_upto_region 7 with fail
      obtain ⟨W8, hW8⟩ : ∃ W, w6.setCell ⟨b5, 5, none⟩ (.slice so Z.1.length sc) = W := ⟨_, rfl⟩
      have HU8 := HU7
      rw [hW8] at HU8
      rw [hW8]
      clear hW8 HU7 q1 q2
      have u0 := cell_at HU8.out.box5 0
      have u1 := cell_at HU8.out.box5 1
      have u2 := cell_at HU8.out.box5 2
      have u3 := cell_at HU8.out.box5 3
      have u4 := cell_at HU8.out.box5 4
      have u5 := cell_at HU8.out.box5 5
      have u6 := cell_at HU8.out.box5 6
      have u7 := cell_at HU8.out.box5 7
      simp [repCells] at u0 u1 u2 u3 u4 u5 u6 u7
      have z0 := cell_at HU8.out.box4 0
      have z1 := cell_at HU8.out.box4 1
      have z2 := cell_at HU8.out.box4 2
      have z3 := cell_at HU8.out.box4 3
      have z4 := cell_at HU8.out.box4 4
      have z5 := cell_at HU8.out.box4 5
      have z6 := cell_at HU8.out.box4 6
      have z7 := cell_at HU8.out.box4 7
      have y0 := free_at HU8.out.box4 0
      have y1 := free_at HU8.out.box4 1
      have y2 := free_at HU8.out.box4 2
      have y3 := free_at HU8.out.box4 3
      have y4 := free_at HU8.out.box4 4
      have y5 := free_at HU8.out.box4 5
      have y6 := free_at HU8.out.box4 6
      have y7 := free_at HU8.out.box4 7
      simp [zeroRep] at z0 z1 z2 z3 z4 z5 z6 z7
      go_wp2_with fail
      (try simp only [Exit.inBlock, Exit.then])
      refine bodyPost_ret (results_row1 rfl _ _ b4 48 _ (0, 0) _ rfl (by exact heap_setCell_at (heap_setCell_at (heap_setCell_at (heap_setCell_at (heap_setCell_at (heap_setCell_at (heap_setCell_at (heap_setCell_at HU8.out.box4 0 _) 1 _) 2 _) 3 _) 4 _) 5 _) 6 _) 7 _) Tryz.underlying48 rfl (by kernel_rfl)) rfl ?_
      have hn4 := HU8.out.n4
      have hlt := HU8.out.lt
      rw [HX3.out]
      exact ⟨_, _, rfl, HU8.out.keeps.trans' (T8 _ _ _ _ _ _ _ _) (fun q hq (e : q = b4) => by omega), HU8.out.rep.keeps (T8 _ _ _ _ _ _ _ _) (fun e : b = b4 => by omega), RepOwn.keeps (T8 _ _ _ _ _ _ _ _) _ _ _ HU8.out.own (fun q hq (e : q = b4) => (HU8.out.new q hq).2.1 e), HU8.out.nodup, fun g hg => (HU8.out.new g hg).1⟩
  · have HX2 : Hid (X = (Rep.mk (k : Int) 0 0 0 [] [] [] [], r1)) := by rw [Hid, HX.out, if_neg hk0]
    clear HX
    have hq : ((k : Int) != 0) = true := bne_iff_ne.2 (by omega)
    have u0 := cell_at HU.out.box5 0
    have u1 := cell_at HU.out.box5 1
    have u2 := cell_at HU.out.box5 2
    have u3 := cell_at HU.out.box5 3
    have u4 := cell_at HU.out.box5 4
    have u5 := cell_at HU.out.box5 5
    have u6 := cell_at HU.out.box5 6
    have u7 := cell_at HU.out.box5 7
    simp [repCells, Rep.status] at u0 u1 u2 u3 u4 u5 u6 u7
    have z0 := cell_at HU.out.box4 0
    have z1 := cell_at HU.out.box4 1
    have z2 := cell_at HU.out.box4 2
    have z3 := cell_at HU.out.box4 3
    have z4 := cell_at HU.out.box4 4
    have z5 := cell_at HU.out.box4 5
    have z6 := cell_at HU.out.box4 6
    have z7 := cell_at HU.out.box4 7
    have y0 := free_at HU.out.box4 0
    have y1 := free_at HU.out.box4 1
    have y2 := free_at HU.out.box4 2
    have y3 := free_at HU.out.box4 3
    have y4 := free_at HU.out.box4 4
    have y5 := free_at HU.out.box4 5
    have y6 := free_at HU.out.box4 6
    have y7 := free_at HU.out.box4 7
    simp [zeroRep] at z0 z1 z2 z3 z4 z5 z6 z7
    go_wp2_with fail
    (try simp only [Exit.inBlock, Exit.then])
    refine bodyPost_ret (results_row1 rfl _ _ b4 48 _ (0, 0) _ rfl (by exact heap_setCell_at (heap_setCell_at (heap_setCell_at (heap_setCell_at (heap_setCell_at (heap_setCell_at (heap_setCell_at (heap_setCell_at HU.out.box4 0 _) 1 _) 2 _) 3 _) 4 _) 5 _) 6 _) 7 _) Tryz.underlying48 rfl (by kernel_rfl)) rfl ?_
    have hn4 := HU.out.n4
    have hlt := HU.out.lt
    rw [HX2.out]
    exact ⟨_, _, rfl, HU.out.keeps.trans' (T8 _ _ _ _ _ _ _ _) (fun q hq (e : q = b4) => by omega), HU.out.rep.keeps (T8 _ _ _ _ _ _ _ _) (fun e : b = b4 => by omega), RepOwn.keeps (T8 _ _ _ _ _ _ _ _) _ _ _ HU.out.own (fun q hq (e : q = b4) => (HU.out.new q hq).2.1 e), HU.out.nodup, fun g hg => (HU.out.new g hg).1⟩
end Go.Proofs.YtpccaodkgboefaaGreatDoor

namespace Go.Proofs.YtpccaodkgboefaaGreatDoor
open Go.RowKit

def fldOf (c : UInt8) : Option Fld :=
  if c = 115 then some .size else if c = 97 then some .a else if c = 98 then some .last else if c = 114 then some .root else if c = 104 then some .hashes else if c = 101 then some .told else if c = 103 then some .parts else none
def dLetR (c : UInt8) (q : Rep × RSt) : Rep × RSt := match fldOf c with | some f => dFld f q.2 q.1 | none => q
def dLetsR : List UInt8 → Rep × RSt → Rep × RSt
  | [], q => q
  | c :: l, q => dLetsR l (dLetR c q)
theorem dLetsR_word (K : Int) (h0 : 0 ≤ K) (h12 : K ≤ 12) (R : Rep) (r : RSt) : dLetsR (wordR K) (R, r) = dFlds (tableOf K) r R := by
  have h' : K = 0 ∨ K = 1 ∨ K = 2 ∨ K = 3 ∨ K = 4 ∨ K = 5 ∨ K = 6 ∨ K = 7 ∨ K = 8 ∨ K = 9 ∨ K = 10 ∨ K = 11 ∨ K = 12 := by omega
  rcases h' with rfl | rfl | rfl | rfl | rfl | rfl | rfl | rfl | rfl | rfl | rfl | rfl | rfl <;> rfl
theorem status_keep (R : Rep) : (∀ n, (repS R n).status = R.status) ∧ (∀ n, (repA R n).status = R.status) ∧ (∀ n, (repB R n).status = R.status) ∧ (∀ n, (repO R n).status = R.status) ∧ (∀ n, (repH R n).status = R.status) ∧ (∀ n, (repE R n).status = R.status) ∧ (∀ n, (repP R n).status = R.status) := by
  cases R
  exact ⟨fun _ => rfl, fun _ => rfl, fun _ => rfl, fun _ => rfl, fun _ => rfl, fun _ => rfl, fun _ => rfl⟩
theorem replies_keep (R : Rep) : (∀ n, (repS R n).replies = R.replies) ∧ (∀ n, (repA R n).replies = R.replies) ∧ (∀ n, (repB R n).replies = R.replies) ∧ (∀ n, (repO R n).replies = R.replies) ∧ (∀ n, (repH R n).replies = R.replies) ∧ (∀ n, (repE R n).replies = R.replies) ∧ (∀ n, (repP R n).replies = n) := by
  cases R
  exact ⟨fun _ => rfl, fun _ => rfl, fun _ => rfl, fun _ => rfl, fun _ => rfl, fun _ => rfl, fun _ => rfl⟩

set_option maxRecDepth 100000 in
set_option maxHeartbeats 8000000 in
theorem dtakeReply_any (K : Int) (hK0 : 0 ≤ K) (hK1 : K ≤ 12) (b : Nat) (s : List UInt8) (r : RSt) (w : World) (h : DRep w b s r) :
    Calls Tryz.prog 61 #[.pointer (some ⟨b, 0, none⟩), .int .i64 K] w (DTookP b s (dBody K r) w) := by
  obtain ⟨wd, hwd⟩ : ∃ wd, wordR K = wd := ⟨_, rfl⟩
  have HWL := hid (wordR_letters K)
  have hwl := wordR_len K
  have HTD := hid (fun W => dtold_any K W)
  rw [hwd] at HWL hwl HTD
  obtain ⟨X, hX⟩ : ∃ X, dBody K r = X := ⟨_, rfl⟩
  rw [hX]
  have hX0 : Hid (X = if (rd pByte 0 r).1 = 0 then dLetsR wd (.mk ((rd pByte 0 r).1 : Nat) 0 0 0 [] [] [] [], (rd pByte 0 r).2) else (.mk ((rd pByte 0 r).1 : Nat) 0 0 0 [] [] [] [], (rd pByte 0 r).2)) := by
    rw [Hid, ← hX, ← hwd, dLetsR_word K hK0 hK1]
    rfl
  clear hX hwd
  have HD := hid h
  clear h
  have f0 : Fresh w (w.alloc (.cells zeroRep 48)) := (Keeps.refl _ _).alloc _
  have hby := fun W hW => xrbyte_any b s r W hW
  obtain ⟨k, hk⟩ : ∃ k, (rd pByte 0 r).1 = k := ⟨_, rfl⟩
  obtain ⟨r1, hr1⟩ : ∃ r1, (rd pByte 0 r).2 = r1 := ⟨_, rfl⟩
  rw [hk, hr1] at hby
  have HX := hid hX0.out
  rw [hk, hr1] at HX
  clear hX0 hk hr1
  have HBY := hid hby
  clear hby
  go_enter Tryz.func61, Tryz.ntmps61
  go_wp2_with fail
  refine (HBY.out _ (HD.out.keeps f0 fun h => h)).mono ?_
  rintro e w1 ⟨rfl, k1, hr1⟩
  have U := drw_start (k : Int) HD.out k1 hr1
  have HU := hid U
  clear U k1 hr1 f0
  go_upto_region 2 with fail
  obtain ⟨W1, hW1⟩ : ∃ W1, w1.alloc (.cells #[.int .i64 (k : Int), .int .i64 0, .int .i64 0, .int .i64 0, .string ⟨#[]⟩, .slice none 0 0, .slice none 0 0, .slice none 0 0] 48) = W1 := ⟨_, rfl⟩
  obtain ⟨b4, hb4⟩ : ∃ b4, w.heap.size = b4 := ⟨_, rfl⟩
  obtain ⟨b5, hb5⟩ : ∃ b5, w1.heap.size = b5 := ⟨_, rfl⟩
  rw [hW1, hb4, hb5] at HU
  rw [hW1, hb4, hb5]
  clear hW1 hb4 hb5
  go_wp2_with fail
  refine (HTD.out _).mono ?_
  rintro e _ ⟨rfl, rfl⟩
  have hsz := str_size wd
  by_cases hk0 : k = 0
  · subst hk0
    have HX2 : Hid (dLetsR wd (.mk 0 0 0 0 [] [] [] [], r1) = X) := by
      rw [Hid, HX.out, if_pos rfl]
      rfl
    clear HX
    go_wp2_with fail
    go_loopw [7] (fun i wr => ∃ (n : Nat) (R : Rep) (lv ev av : Value) (bl : List Nat) (r2 : RSt), i = .int .i64 (n : Int) ∧ n ≤ wd.length ∧ DRw w b b4 b5 s R lv ev av bl wr r2 ∧ dLetsR (wd.drop n) (R, r2) = X ∧ R.status = 0 ∧ R.replies.length ≤ 65 * n) (fun i _ => wd.length - (intOf i).toNat)
    case atStart => exact ⟨0, _, _, _, _, _, r1, rfl, Nat.zero_le _, HU.out, HX2.out, rfl, Nat.zero_le _⟩
    case round =>
      obtain ⟨n, R, lv, ev, av, bl, r2, rfl, hn, U, hd2, hst, ha0⟩ := hrel
      have HD2 := hid hd2
      have HS := hid hst
      have HA := hid ha0
      have c0 := cell_at U.box5 0
      simp [repCells] at c0
      rw [hst] at c0
      clear hd2 hst ha0
      by_cases hlt : n < wd.length
      · obtain ⟨c, hc⟩ : ∃ c, wd[n]? = some c := ⟨wd[n], by simp⟩
        have hidx := byteOf_idx (b := wd) (j := n)
        rw [byteOf_get hc] at hidx
        have hle := HWL.out c (List.mem_of_getElem? hc)
        have HSN : Hid (dLetsR (wd.drop (n + 1)) (dLetR c (R, r2)) = X) := by
          rw [Hid, ← HD2.out]
          obtain ⟨hj, hcc⟩ := List.getElem?_eq_some_iff.1 hc
          rw [List.drop_eq_getElem_cons hj, hcc]
          rfl
        clear hc HD2
        rcases hle with rfl | rfl | rfl | rfl | rfl | rfl | rfl | rfl | rfl
        · go_wp2_with fail
          refine (xrnum_any b s r2 wr U.rep).mono ?_
          rintro e w5 ⟨rfl, k5, h5⟩
          have U5 := U.call k5 h5
          have q1 := cell_at U5.box5 1
          have q2 := free_at U5.box5 1
          simp [repCells] at q1
          have HU6 := hid (U5.numS ((rd (pNum 0 0) 0 r2).1 : Nat))
          have HN := HSN.out
          rw [show dLetR 115 (R, r2) = (repS R ((rd (pNum 0 0) 0 r2).1 : Nat), (rd (pNum 0 0) 0 r2).2) from rfl] at HN
          have HN2 := hid HN
          clear U U5 HN HSN k5 h5
          generalize rd (pNum 0 0) 0 r2 = Z at *
          have HS2 : Hid ((repS R (Z.1 : Nat)).status = 0) := by rw [Hid, (status_keep R).1]; exact HS.out
          have HA2 : Hid ((repS R (Z.1 : Nat)).replies.length ≤ 65 * (n + 1)) := by rw [Hid, (replies_keep R).1]; exact Nat.le_trans HA.out (by omega)
          go_wp2_with fail
          go_roundw
          case rel => exact ⟨n + 1, _, _, _, _, _, _, by go_num, by omega, HU6.out, HN2, HS2.out, HA2.out⟩
          case measure => simp [intOf]; omega
        · go_wp2_with fail
          refine (xrnum_any b s r2 wr U.rep).mono ?_
          rintro e w5 ⟨rfl, k5, h5⟩
          have U5 := U.call k5 h5
          have q1 := cell_at U5.box5 2
          have q2 := free_at U5.box5 2
          simp [repCells] at q1
          have HU6 := hid (U5.numA ((rd (pNum 0 0) 0 r2).1 : Nat))
          have HN := HSN.out
          rw [show dLetR 97 (R, r2) = (repA R ((rd (pNum 0 0) 0 r2).1 : Nat), (rd (pNum 0 0) 0 r2).2) from rfl] at HN
          have HN2 := hid HN
          clear U U5 HN HSN k5 h5
          generalize rd (pNum 0 0) 0 r2 = Z at *
          have HS2 : Hid ((repA R (Z.1 : Nat)).status = 0) := by rw [Hid, (status_keep R).2.1]; exact HS.out
          have HA2 : Hid ((repA R (Z.1 : Nat)).replies.length ≤ 65 * (n + 1)) := by rw [Hid, (replies_keep R).2.1]; exact Nat.le_trans HA.out (by omega)
          go_wp2_with fail
          go_roundw
          case rel => exact ⟨n + 1, _, _, _, _, _, _, by go_num, by omega, HU6.out, HN2, HS2.out, HA2.out⟩
          case measure => simp [intOf]; omega
        · go_wp2_with fail
          refine (xrbyte_any b s r2 wr U.rep).mono ?_
          rintro e w5 ⟨rfl, k5, h5⟩
          have U5 := U.call k5 h5
          have q1 := cell_at U5.box5 3
          have q2 := free_at U5.box5 3
          simp [repCells] at q1
          have HU6 := hid (U5.numB ((rd pByte 0 r2).1 : Nat))
          have HN := HSN.out
          rw [show dLetR 98 (R, r2) = (repB R ((rd pByte 0 r2).1 : Nat), (rd pByte 0 r2).2) from rfl] at HN
          have HN2 := hid HN
          clear U U5 HN HSN k5 h5
          generalize rd pByte 0 r2 = Z at *
          have HS2 : Hid ((repB R (Z.1 : Nat)).status = 0) := by rw [Hid, (status_keep R).2.2.1]; exact HS.out
          have HA2 : Hid ((repB R (Z.1 : Nat)).replies.length ≤ 65 * (n + 1)) := by rw [Hid, (replies_keep R).2.2.1]; exact Nat.le_trans HA.out (by omega)
          go_wp2_with fail
          go_roundw
          case rel => exact ⟨n + 1, _, _, _, _, _, _, by go_num, by omega, HU6.out, HN2, HS2.out, HA2.out⟩
          case measure => simp [intOf]; omega
        · go_wp2_with fail
          refine (xrraw32 b s r2 wr U.rep).mono ?_
          rintro e w5 ⟨rfl, k5, h5⟩
          have U5 := U.call k5 h5
          have q1 := cell_at U5.box5 4
          have q2 := free_at U5.box5 4
          simp [repCells] at q1
          have HU6 := hid (U5.root (rd (pRaw 32) [] r2).1)
          have HN := HSN.out
          rw [show dLetR 114 (R, r2) = (repO R (rd (pRaw 32) [] r2).1, (rd (pRaw 32) [] r2).2) from rfl] at HN
          have HN2 := hid HN
          clear U U5 HN HSN k5 h5
          generalize rd (pRaw 32) [] r2 = Z at *
          have HS2 : Hid ((repO R Z.1).status = 0) := by rw [Hid, (status_keep R).2.2.2.1]; exact HS.out
          have HA2 : Hid ((repO R Z.1).replies.length ≤ 65 * (n + 1)) := by rw [Hid, (replies_keep R).2.2.2.1]; exact Nat.le_trans HA.out (by omega)
          go_wp2_with fail
          go_roundw
          case rel => exact ⟨n + 1, _, _, _, _, _, _, by go_num, by omega, HU6.out, HN2, HS2.out, HA2.out⟩
          case measure => simp [intOf]; omega
        · go_wp2_with fail
          refine (xrhashesM b s r2 wr U.rep).mono ?_
          rintro e w5 ⟨v, rfl, k5, h5, hrow, hown⟩
          obtain ⟨so, sc, rfl⟩ := ownsRow_slice hrow
          have U5 := U.call k5 h5
          obtain ⟨bl', U6⟩ := U5.list hrow (fun g hg => ⟨Nat.le_trans U.keeps.size (hown g hg), fun h9 => by have := U.there g h9; have := hown g hg; omega⟩)
          have q1 := cell_at U5.box5 5
          have q2 := free_at U5.box5 5
          simp [repCells] at q1
          have HN := HSN.out
          rw [show dLetR 104 (R, r2) = (repH R (rd (pHashes 32768) [] r2).1, (rd (pHashes 32768) [] r2).2) from rfl] at HN
          have HU6 := hid U6
          have HN2 := hid HN
          clear U U5 U6 HN HSN k5 h5 hrow hown
          generalize rd (pHashes 32768) [] r2 = Z at *
          have HS2 : Hid ((repH R Z.1).status = 0) := by rw [Hid, (status_keep R).2.2.2.2.1]; exact HS.out
          have HA2 : Hid ((repH R Z.1).replies.length ≤ 65 * (n + 1)) := by rw [Hid, (replies_keep R).2.2.2.2.1]; exact Nat.le_trans HA.out (by omega)
          go_wp2_with fail
          go_roundw
          case rel => exact ⟨n + 1, _, _, _, _, _, _, by go_num, by omega, HU6.out, HN2, HS2.out, HA2.out⟩
          case measure => simp [intOf]; omega
        · go_wp2_with fail
          refine (xrtextsM b s r2 wr U.rep).mono ?_
          rintro e w5 ⟨v, rfl, k5, h5, hrow, hown⟩
          obtain ⟨so, sc, rfl⟩ := ownsRow_slice hrow
          have U5 := U.call k5 h5
          obtain ⟨bl', U6⟩ := U5.entries hrow (fun g hg => ⟨Nat.le_trans U.keeps.size (hown g hg), fun h9 => by have := U.there g h9; have := hown g hg; omega⟩)
          have q1 := cell_at U5.box5 6
          have q2 := free_at U5.box5 6
          simp [repCells] at q1
          have HN := HSN.out
          rw [show dLetR 101 (R, r2) = (repE R (rd (pTexts 4096 1000) [] r2).1, (rd (pTexts 4096 1000) [] r2).2) from rfl] at HN
          have HU6 := hid U6
          have HN2 := hid HN
          clear U U5 U6 HN HSN k5 h5 hrow hown
          generalize rd (pTexts 4096 1000) [] r2 = Z at *
          have HS2 : Hid ((repE R Z.1).status = 0) := by rw [Hid, (status_keep R).2.2.2.2.2.1]; exact HS.out
          have HA2 : Hid ((repE R Z.1).replies.length ≤ 65 * (n + 1)) := by rw [Hid, (replies_keep R).2.2.2.2.2.1]; exact Nat.le_trans HA.out (by omega)
          go_wp2_with fail
          go_roundw
          case rel => exact ⟨n + 1, _, _, _, _, _, _, by go_num, by omega, HU6.out, HN2, HS2.out, HA2.out⟩
          case measure => simp [intOf]; omega
        · go_wp2_with fail
          refine (xrnum_any b s r2 wr U.rep).mono ?_
          rintro e w5 ⟨rfl, k5, h5⟩
          have U5 := U.call k5 h5
          have HN := HSN.out
          rw [show dLetR 103 (R, r2) = (repP R (R.replies ++ (dManyR rPart (min (rd (pNum 0 0) 0 r2).1 65) (rd (pNum 0 0) 0 r2).2).1), (dManyR rPart (min (rd (pNum 0 0) 0 r2).1 65) (rd (pNum 0 0) 0 r2).2).2) from rfl] at HN
          obtain ⟨m, hm⟩ : ∃ m, (rd (pNum 0 0) 0 r2).1 = m := ⟨_, rfl⟩
          obtain ⟨r3, hr3⟩ : ∃ r3, (rd (pNum 0 0) 0 r2).2 = r3 := ⟨_, rfl⟩
          rw [hm, hr3] at HN
          rw [hr3] at U5
          rw [hm]
          have HN2 := hid HN
          have HU5 := hid U5
          clear U U5 HN HSN k5 h5 hm hr3
          obtain ⟨i0, hi, hz0, hz1, hz2⟩ := info_parts Tryz.infoRep
          have HI := hid (And.intro hi (And.intro hz0 (And.intro hz1 hz2)))
          clear hz0 hz1 hz2
          go_wp2_with fail
          go_loopw [9] (fun jv wr => ∃ (j : Nat) (lv ev av : Value) (bl : List Nat), jv = .int .i64 (j : Int) ∧ j ≤ m ∧ j ≤ 65 ∧ DRw w b b4 b5 s (repP R (R.replies ++ (dManyR rPart j r3).1)) lv ev av bl wr (dManyR rPart j r3).2) (fun jv _ => 65 - (intOf jv).toNat)
          case atStart => exact ⟨0, _, _, _, _, rfl, Nat.zero_le _, by omega, by rw [dManyR, List.append_nil]; obtain ⟨_, _, _, _, _, _, _, _⟩ := R; exact HU5.out⟩
          case round =>
            obtain ⟨j, lv, ev, av, bl, rfl, hjm, hj65, U⟩ := hrel
            by_cases hj : j < m ∧ j ≤ 64
            · obtain ⟨hj1, hj2⟩ := hj
              have hlen : (repP R (R.replies ++ (dManyR rPart j r3).1)).replies.length ≤ 400 := by
                have := HA.out
                rw [(replies_keep R).2.2.2.2.2.2, List.length_append, dManyR_len]
                omega
              have hsn : (repP R (R.replies ++ (dManyR rPart (j + 1) r3).1)) = repP (repP R (R.replies ++ (dManyR rPart j r3).1)) ((repP R (R.replies ++ (dManyR rPart j r3).1)).replies ++ [(rPart (dManyR rPart j r3).2).1]) ∧ (dManyR rPart (j + 1) r3).2 = (rPart (dManyR rPart j r3).2).2 := by
                obtain ⟨_, _, _, _, _, _, _, qs⟩ := R
                rw [dManyR_snoc]
                simp [repP, Rep.replies]
              obtain ⟨Q, hQ⟩ : ∃ Q, repP R (R.replies ++ (dManyR rPart j r3).1) = Q := ⟨_, rfl⟩
              obtain ⟨r4, hr4⟩ : ∃ r4, (dManyR rPart j r3).2 = r4 := ⟨_, rfl⟩
              rw [hQ, hr4] at U hsn
              rw [hQ] at hlen
              have HSN := hid hsn
              have hj1' : (j : Int) < (m : Int) := by omega
              have hj2' : (j : Int) ≤ 64 := by omega
              clear hQ hr4 hsn
              go_wp2_with fail
              refine (dtakePart_any b s r4 wr U.rep).mono ?_
              rintro e w5 ⟨v, bx, rfl, k5, h5, ho, hnx, hbx⟩
              obtain ⟨al, cl, ae, ce, aq, cq, rfl⟩ := ho.shape
              have U5 := U.call k5 h5
              obtain ⟨x, hx⟩ : ∃ x, (rPart r4).1 = x := ⟨_, rfl⟩
              obtain ⟨r5, hr5⟩ : ∃ r5, (rPart r4).2 = r5 := ⟨_, rfl⟩
              rw [hx, hr5] at HSN
              rw [hr5] at U5
              rw [hx] at ho ⊢
              have fa : Fresh w5 (w5.alloc (.cells #[.int .i64 x.status, .int .i64 x.size, .int .i64 x.a, .int .i64 x.b, .string (str x.root), .slice al x.hashes.length cl, .slice ae x.entries.length ce, .slice aq x.replies.length cq] 48)) := (Keeps.refl _ _).alloc _
              have h10 := heap_alloc_new w5 (.cells #[.int .i64 x.status, .int .i64 x.size, .int .i64 x.a, .int .i64 x.b, .string (str x.root), .slice al x.hashes.length cl, .slice ae x.entries.length ce, .slice aq x.replies.length cq] 48)
              have U6 := U5.fresh fa
              have ho6 := RepOwn.fresh fa ho
              have hbx6 : ∀ q ∈ bx, (w.heap.size ≤ q ∧ q ≠ b4 ∧ q ≠ b5) ∧ q ∉ bl := fun q hq => by
                have h1 := hbx q hq
                have h2 := U.keeps.size
                have h3 := lt_of_block U.box4
                have h4 := lt_of_block U.box5
                exact ⟨⟨by omega, by omega, by omega⟩, fun h9 => by have := U.there q h9; omega⟩
              obtain ⟨W6, hW6⟩ : ∃ W6, w5.alloc (.cells #[.int .i64 x.status, .int .i64 x.size, .int .i64 x.a, .int .i64 x.b, .string (str x.root), .slice al x.hashes.length cl, .slice ae x.entries.length ce, .slice aq x.replies.length cq] 48) = W6 := ⟨_, rfl⟩
              obtain ⟨b10, hb10⟩ : ∃ b10, w5.heap.size = b10 := ⟨_, rfl⟩
              rw [hW6, hb10] at h10
              rw [hW6] at U6 ho6
              obtain ⟨cs, b1, rw1, rw2, rw3, rw4, rw5⟩ := U6.rows
              have HU6 := hid U6
              have HO6 := hid ho6
              have HBX := hid hbx6
              have R1 := hid rw1
              have R2 := hid rw2
              have R4 := hid rw4
              have R3 := hid rw3
              have R5 := hid rw5
              have H10 := hid h10
              have HW6 := hid hW6
              have HB10 := hid hb10
              clear U U5 U6 k5 h5 ho hbx ho6 hbx6 rw1 rw2 rw4 rw3 rw5 fa hx hr5 h10 hW6 hb10
              go_upto_region 25 with fail
              rw [HW6.out, HB10.out]
              clear HW6 HB10
              have q6 := cell_at HU6.out.box5 7
              have p6 := free_at HU6.out.box5 7
              have x0 := cell_at H10.out 0
              have x1 := cell_at H10.out 1
              have x2 := cell_at H10.out 2
              have x3 := cell_at H10.out 3
              have x4 := cell_at H10.out 4
              have x5 := cell_at H10.out 5
              have x6 := cell_at H10.out 6
              have x7 := cell_at H10.out 7
              simp [repCells] at q6 x0 x1 x2 x3 x4 x5 x6 x7
              obtain ⟨aav, cav, rfl⟩ := ownsRow_slice R3.out
              go_wp2_with (at_builtin; refine wpList_pushN rfl (.tmp 76) (.tmp 78) 46 rfl 48 i0 _ 8 120 Tryz.underlying46 HI.out.1 HI.out.2.1 HI.out.2.2.1 HI.out.2.2.2 rfl (by decide) W6 R3.out #[.int .i64 x.status, .int .i64 x.size, .int .i64 x.a, .int .i64 x.b, .string (str x.root), .slice al x.hashes.length cl, .slice ae x.entries.length ce, .slice aq x.replies.length cq] rfl (by rfl) (by rfl) (by intro u hu; simp at hu; rcases hu with rfl | rfl | rfl | rfl | rfl | rfl | rfl | rfl <;> rfl) (by omega) (by unfold maxLen; omega) ?_)
              intro v4 w4 ha
              obtain ⟨ao4, cp4, rfl⟩ := ownsRow_slice ha.row
              obtain ⟨bl', U8⟩ := HU6.out.push R1.out R2.out R4.out R5.out HO6.out hnx HBX.out ha
              rw [← HSN.out.1, ← HSN.out.2] at U8
              have q7 := cell_at (ha.keeps.at_ HU6.out.box5 (fun e => by have h1 := (HU6.out.new b5 (by rw [R5.out]; simp [mem_ownBlock.2 e])).2.2; exact h1 rfl)) 7
              have p7 := free_at (ha.keeps.at_ HU6.out.box5 (fun e => by have h1 := (HU6.out.new b5 (by rw [R5.out]; simp [mem_ownBlock.2 e])).2.2; exact h1 rfl)) 7
              simp [repCells] at q7
              have HU8 := hid U8
              clear ha U8 q6 p6 x0 x1 x2 x3 x4 x5 x6 x7
              go_wp2_with fail
              go_roundw
              case rel => exact ⟨j + 1, _, _, _, _, by go_num, by omega, by omega, HU8.out⟩
              case measure => simp [intOf]; omega
            · obtain hjj : j = min m 65 := by omega
              have HN3 : Hid (dLetsR (wd.drop (n + 1)) (repP R (R.replies ++ (dManyR rPart j r3).1), (dManyR rPart j r3).2) = X) := by
                rw [Hid, ← HN2.out, hjj]
              have HL : Hid ((repP R (R.replies ++ (dManyR rPart j r3).1)).replies.length ≤ 65 * (n + 1)) := by
                have := HA.out
                rw [Hid, (replies_keep R).2.2.2.2.2.2, List.length_append, dManyR_len]
                omega
              have HS3 : Hid ((repP R (R.replies ++ (dManyR rPart j r3).1)).status = 0) := by rw [Hid, (status_keep R).2.2.2.2.2.2]; exact HS.out
              have HU7 := hid U
              clear U hjj
              by_cases hj1 : (j : Int) < (m : Int)
              · have hj3 : ¬ (j : Int) ≤ 64 := by omega
                go_wp2_with fail
                go_roundw
                case rel => exact ⟨n + 1, _, _, _, _, _, _, by go_num, by omega, HU7.out, HN3.out, HS3.out, HL.out⟩
                case measure => simp [intOf]; omega
              · go_wp2_with fail
                go_roundw
                case rel => exact ⟨n + 1, _, _, _, _, _, _, by go_num, by omega, HU7.out, HN3.out, HS3.out, HL.out⟩
                case measure => simp [intOf]; omega
        · go_wp2_with fail
          go_roundw
          case rel => exact ⟨n + 1, R, _, _, _, bl, r2, by go_num, by omega, U, HSN.out, HS.out, Nat.le_trans HA.out (by omega)⟩
          case measure => simp [intOf]; omega
        · go_wp2_with fail
          go_roundw
          case rel => exact ⟨n + 1, R, _, _, _, bl, r2, by go_num, by omega, U, HSN.out, HS.out, Nat.le_trans HA.out (by omega)⟩
          case measure => simp [intOf]; omega
      · obtain rfl : n = wd.length := by omega
        have HX3 : Hid (X = (R, r2)) := by rw [Hid, ← HD2.out, List.drop_length]; rfl
        obtain ⟨al7, cl7, ae7, ce7, aq7, cq7, hsh⟩ := U.own.shape
        simp only [repCells, Value.agg.injEq, Array.mk.injEq, List.cons.injEq, and_true] at hsh
        obtain ⟨-, -, -, -, -, rfl, rfl, rfl⟩ := hsh
        have HU7 := hid U
        clear U HD2 c0
        have u0 := cell_at HU7.out.box5 0
        have u1 := cell_at HU7.out.box5 1
        have u2 := cell_at HU7.out.box5 2
        have u3 := cell_at HU7.out.box5 3
        have u4 := cell_at HU7.out.box5 4
        have u5 := cell_at HU7.out.box5 5
        have u6 := cell_at HU7.out.box5 6
        have u7 := cell_at HU7.out.box5 7
        simp [repCells] at u0 u1 u2 u3 u4 u5 u6 u7
        have z0 := cell_at HU7.out.box4 0
        have z1 := cell_at HU7.out.box4 1
        have z2 := cell_at HU7.out.box4 2
        have z3 := cell_at HU7.out.box4 3
        have z4 := cell_at HU7.out.box4 4
        have z5 := cell_at HU7.out.box4 5
        have z6 := cell_at HU7.out.box4 6
        have z7 := cell_at HU7.out.box4 7
        have y0 := free_at HU7.out.box4 0
        have y1 := free_at HU7.out.box4 1
        have y2 := free_at HU7.out.box4 2
        have y3 := free_at HU7.out.box4 3
        have y4 := free_at HU7.out.box4 4
        have y5 := free_at HU7.out.box4 5
        have y6 := free_at HU7.out.box4 6
        have y7 := free_at HU7.out.box4 7
        simp [zeroRep] at z0 z1 z2 z3 z4 z5 z6 z7
        go_wp2_with fail
        (try simp only [Exit.inBlock, Exit.then])
        refine bodyPost_ret (results_row1 rfl _ _ b4 48 _ (0, 0) _ rfl (by exact heap_setCell_at (heap_setCell_at (heap_setCell_at (heap_setCell_at (heap_setCell_at (heap_setCell_at (heap_setCell_at (heap_setCell_at HU7.out.box4 0 _) 1 _) 2 _) 3 _) 4 _) 5 _) 6 _) 7 _) Tryz.underlying48 rfl (by kernel_rfl)) rfl ?_
        have hn4 := HU7.out.n4
        have hlt := HU7.out.lt
        rw [HX3.out]
        exact ⟨_, _, rfl, HU7.out.keeps.trans' (T8 _ _ _ _ _ _ _ _) (fun q hq (e : q = b4) => by omega), HU7.out.rep.keeps (T8 _ _ _ _ _ _ _ _) (fun e : b = b4 => by omega), RepOwn.keeps (T8 _ _ _ _ _ _ _ _) _ _ _ HU7.out.own (fun q hq (e : q = b4) => (HU7.out.new q hq).2.1 e), HU7.out.nodup, fun g hg => (HU7.out.new g hg).1⟩
  · have HX2 : Hid (X = (Rep.mk (k : Int) 0 0 0 [] [] [] [], r1)) := by rw [Hid, HX.out, if_neg hk0]
    clear HX
    have hq : ((k : Int) == 0) = false := beq_eq_false_iff_ne.2 (by omega)
    have hkn : ¬ ((k : Int) = 0) := by omega
    go_wp2_with fail
    go_loopw [7] (fun i wr => i = .int .i64 0 ∧ DRw w b b4 b5 s (.mk (k : Int) 0 0 0 [] [] [] []) (.slice none 0 0) (.slice none 0 0) (.slice none 0 0) [] wr r1) (fun _ _ => 0)
    case atStart => exact ⟨rfl, HU.out⟩
    case round =>
      obtain ⟨rfl, U⟩ := hrel
      have HU7 := hid U
      clear U
      have hwz : (0 : Int) < (wd.length : Int) ∨ ¬ (0 : Int) < (wd.length : Int) := Decidable.em _
      rcases hwz with hwz | hwz
      all_goals
        have u0 := cell_at HU7.out.box5 0
        have u1 := cell_at HU7.out.box5 1
        have u2 := cell_at HU7.out.box5 2
        have u3 := cell_at HU7.out.box5 3
        have u4 := cell_at HU7.out.box5 4
        have u5 := cell_at HU7.out.box5 5
        have u6 := cell_at HU7.out.box5 6
        have u7 := cell_at HU7.out.box5 7
        simp [repCells, Rep.status] at u0 u1 u2 u3 u4 u5 u6 u7
        have z0 := cell_at HU7.out.box4 0
        have z1 := cell_at HU7.out.box4 1
        have z2 := cell_at HU7.out.box4 2
        have z3 := cell_at HU7.out.box4 3
        have z4 := cell_at HU7.out.box4 4
        have z5 := cell_at HU7.out.box4 5
        have z6 := cell_at HU7.out.box4 6
        have z7 := cell_at HU7.out.box4 7
        have y0 := free_at HU7.out.box4 0
        have y1 := free_at HU7.out.box4 1
        have y2 := free_at HU7.out.box4 2
        have y3 := free_at HU7.out.box4 3
        have y4 := free_at HU7.out.box4 4
        have y5 := free_at HU7.out.box4 5
        have y6 := free_at HU7.out.box4 6
        have y7 := free_at HU7.out.box4 7
        simp [zeroRep] at z0 z1 z2 z3 z4 z5 z6 z7
        go_wp2_with fail
        (try simp only [Exit.inBlock, Exit.then])
        refine bodyPost_ret (results_row1 rfl _ _ b4 48 _ (0, 0) _ rfl (by exact heap_setCell_at (heap_setCell_at (heap_setCell_at (heap_setCell_at (heap_setCell_at (heap_setCell_at (heap_setCell_at (heap_setCell_at HU7.out.box4 0 _) 1 _) 2 _) 3 _) 4 _) 5 _) 6 _) 7 _) Tryz.underlying48 rfl (by kernel_rfl)) rfl ?_
        have hn4 := HU7.out.n4
        have hlt := HU7.out.lt
        rw [HX2.out]
        exact ⟨_, _, rfl, HU7.out.keeps.trans' (T8 _ _ _ _ _ _ _ _) (fun q hq (e : q = b4) => by omega), HU7.out.rep.keeps (T8 _ _ _ _ _ _ _ _) (fun e : b = b4 => by omega), RepOwn.keeps (T8 _ _ _ _ _ _ _ _) _ _ _ HU7.out.own (fun q hq (e : q = b4) => (HU7.out.new q hq).2.1 e), HU7.out.nodup, fun g hg => (HU7.out.new g hg).1⟩
end Go.Proofs.YtpccaodkgboefaaGreatDoor

namespace Go.Proofs.YtpccaodkgboefaaGreatDoor
open Go.RowKit

theorem len_cntR : ∀ (l : List Rep), l.length ≤ cntRs l
  | [] => Nat.le_refl _
  | x :: r => by
    have h1 := len_cntR r
    have h2 := cntR_eq x
    rw [cntRs, List.length_cons]
    omega
theorem cntRs_app : ∀ (l t : List Rep), cntRs (l ++ t) = cntRs l + cntRs t
  | [], t => by simp [cntRs]
  | x :: r, t => by
    rw [List.cons_append, cntRs, cntRs, cntRs_app r t]
    omega
theorem cntR_part (r : RSt) : cntR (rPart r).1 = 3 := by
  rw [cntR_eq, (rPart_flat r).2]
  rfl
theorem cntR_many {F : RSt → Rep × RSt} (hF : ∀ r, cntR (F r).1 = 3) : ∀ (n : Nat) (r : RSt), cntRs (dManyR F n r).1 = 3 * n
  | 0, r => rfl
  | n + 1, r => by
    rw [dManyR, cntRs, hF, cntR_many hF n]
    omega
theorem cntR_fld (f : Fld) (r : RSt) (R : Rep) : cntRs (dFld f r R).1.replies ≤ cntRs R.replies + 195 := by
  obtain ⟨z, s, a, b, o, h, e, p⟩ := R
  cases f
  case parts =>
    show cntRs (p ++ (dManyR rPart (min (rd (pNum 0 0) 0 r).1 65) (rd (pNum 0 0) 0 r).2).1) ≤ cntRs p + 195
    rw [cntRs_app, cntR_many cntR_part]
    omega
  all_goals exact Nat.le_add_right _ _
theorem cntR_flds : ∀ (l : List Fld) (r : RSt) (R : Rep), cntRs (dFlds l r R).1.replies ≤ cntRs R.replies + 195 * l.length
  | [], r, R => by simp [dFlds]
  | f :: l, r, R => by
    have h1 := cntR_fld f r R
    have h2 := cntR_flds l (dFld f r R).2 (dFld f r R).1
    rw [dFlds, List.length_cons, Nat.mul_succ]
    omega
theorem tableOf_four (K : Int) : (tableOf K).length ≤ 4 := by
  unfold tableOf
  repeat' split
  all_goals simp
theorem cntR_body (K : Int) (r : RSt) : cntR (dBody K r).1 ≤ 800 := by
  rw [cntR_eq]
  unfold dBody
  split
  · have h1 := cntR_flds (tableOf K) (rd pByte 0 r).2 (.mk ((rd pByte 0 r).1 : Nat) 0 0 0 [] [] [] [])
    have h2 := tableOf_four K
    have h0 : cntRs (Rep.mk ((rd pByte 0 r).1 : Nat) 0 0 0 [] [] [] []).replies = 0 := rfl
    omega
  · simp [Rep.replies, cntRs]
theorem TinyRs.of : ∀ {l : List Rep}, (∀ x ∈ l, TinyR x) → TinyRs l
  | [], _ => by rw [TinyRs]; trivial
  | x :: r, h => by
    rw [TinyRs]
    exact ⟨h x (by simp), TinyRs.of fun y hy => h y (by simp [hy])⟩
mutual
theorem TinyR.fine : ∀ (R : Rep), TinyR R → FineR R
  | .mk z s a b o h e p, ht => by
    rw [TinyR] at ht
    rw [FineR]
    exact ⟨by omega, by omega, TinyRs.fine p ht.2.2.2⟩
theorem TinyRs.fine : ∀ (l : List Rep), TinyRs l → FineRs l
  | [], _ => by rw [FineRs]; trivial
  | x :: r, ht => by
    rw [TinyRs] at ht
    rw [FineRs]
    exact ⟨TinyR.fine x ht.1, TinyRs.fine r ht.2⟩
end
/-- small but for how many it holds -/
def SlimR (R : Rep) : Prop := R.hashes.length ≤ 1000000000 ∧ R.entries.length ≤ 1000000000 ∧ ∀ x ∈ R.replies, TinyR x
theorem tinyR_of {R : Rep} (h : SlimR R) (hc : cntR R ≤ 1000000000) : TinyR R := by
  obtain ⟨h1, h2, h3⟩ := h
  rw [cntR_eq] at hc
  have := len_cntR R.replies
  cases R
  simp only [Rep.hashes, Rep.entries, Rep.replies] at *
  rw [TinyR]
  exact ⟨h1, h2, by omega, TinyRs.of h3⟩
theorem dTold_small (r : RSt) : (rd (pTexts 4096 1000) [] r).1.length ≤ 4096 := by
  unfold rd
  split
  · simp
  · cases hp : pTexts 4096 1000 r.1 with
    | error e => simp
    | ok x =>
      have := (pTexts_small hp).1
      simp only
      omega
theorem tinyR_part (r : RSt) : TinyR (rPart r).1 := by
  refine tinyR_of ⟨?_, ?_, fun x hx => ?_⟩ (by rw [cntR_part]; omega)
  · unfold rPart
    dsimp only
    split
    · split
      · simp [Rep.hashes]
      · have := rdHashes_small (rd pByte 0 (rd pByte 0 r).2).2
        simp only [Rep.hashes]
        omega
    · simp [Rep.hashes]
  · rw [(rPart_flat r).1]
    simp
  · rw [(rPart_flat r).2] at hx
    cases hx
theorem tinyR_many {F : RSt → Rep × RSt} (hF : ∀ r, TinyR (F r).1) : ∀ (n : Nat) (r : RSt), ∀ x ∈ (dManyR F n r).1, TinyR x
  | 0, r, x, h => by cases h
  | n + 1, r, x, h => by
    rcases List.mem_cons.1 h with rfl | h
    · exact hF r
    · exact tinyR_many hF n _ x h
theorem slimR_fld (f : Fld) (r : RSt) (R : Rep) (h : SlimR R) : SlimR (dFld f r R).1 := by
  obtain ⟨z, s, a, b, o, hh, e, p⟩ := R
  obtain ⟨h1, h2, h3⟩ := h
  simp only [Rep.hashes, Rep.entries, Rep.replies] at h1 h2 h3
  cases f
  case hashes => exact ⟨by have := rdHashes_small r; exact Nat.le_trans this (by omega), h2, h3⟩
  case told => exact ⟨h1, Nat.le_trans (dTold_small r) (by omega), h3⟩
  case parts =>
    refine ⟨h1, h2, fun x hx => ?_⟩
    rcases List.mem_append.1 hx with hx | hx
    · exact h3 x hx
    · exact tinyR_many tinyR_part _ _ x hx
  all_goals exact ⟨h1, h2, h3⟩
theorem slimR_flds : ∀ (l : List Fld) (r : RSt) (R : Rep), SlimR R → SlimR (dFlds l r R).1
  | [], _, _, h => h
  | f :: l, r, R, h => slimR_flds l _ _ (slimR_fld f r R h)
theorem tinyR_body (K : Int) (r : RSt) : TinyR (dBody K r).1 := by
  refine tinyR_of ?_ (Nat.le_trans (cntR_body K r) (by omega))
  have h0 : ∀ z : Int, SlimR (.mk z 0 0 0 [] [] [] []) := fun z => ⟨by simp [Rep.hashes], by simp [Rep.entries], fun x hx => by cases hx⟩
  unfold dBody
  split
  · exact slimR_flds _ _ _ (h0 _)
  · exact h0 _
theorem decRep_tiny (K : Int) (s : List UInt8) : TinyR (decRep K s).1 ∧ cntR (decRep K s).1 ≤ 800 := by
  have hn : TinyR noRep ∧ cntR noRep ≤ 800 := ⟨by simp [noRep, TinyR, TinyRs], by simp [noRep, cntR, cntRs]⟩
  rw [← dDecRep_eq]
  unfold dDecRep
  split
  · exact hn
  · split
    · exact hn
    · split
      · exact ⟨tinyR_body _ _, cntR_body _ _⟩
      · exact hn
theorem encRep_len (K : Int) (R : Rep) (h : (encRep K R).2 = 0) : (encRep K R).1.length ≤ 1048586 := by
  obtain ⟨p, c, hp, he, -⟩ := encRep_dframe h
  have := digs_len9 (n := p.length) (by omega)
  rw [he]
  simp only [List.length_append]
  omega
end Go.Proofs.YtpccaodkgboefaaGreatDoor

namespace Go.Proofs.YtpccaodkgboefaaGreatDoor
open Go.RowKit

set_option maxRecDepth 100000 in
set_option maxHeartbeats 4000000 in
theorem ddecodeRep_any (K : Int) (s : List UInt8) (w : World) (hl : Laid w) (hs : s.length ≤ 4611686018427387904) :
    Calls Tryz.prog 23 #[.int .i64 K, .string (str s)] w fun e w' => ToldR w (decRep K s) e w' := by
  rw [← dDecRep_eq]
  obtain ⟨X, hX⟩ : ∃ X, dDecRep K s = X := ⟨_, rfl⟩
  rw [hX]
  have hle := unframedM_le s
  have hu := fun W => dunframe_any s W (by omega)
  have hD : X = if K < 0 ∨ 12 < K then (noRep, [], 170) else if (unframedM s).2.2 ≠ 0 then (noRep, [], (unframedM s).2.2) else if dFitsR K (rd pByte 0 ((unframedM s).1, 0, 0)).1 (dBody K (rd pByte 0 ((unframedM s).1, 0, 0)).2) (unframedM s).2.1 s then ((dBody K (rd pByte 0 ((unframedM s).1, 0, 0)).2).1, (unframedM s).2.1, 0) else (noRep, [], 173) := by rw [← hX]; rfl
  obtain ⟨p, hp⟩ : ∃ p, (unframedM s).1 = p := ⟨_, rfl⟩
  obtain ⟨rest, hr⟩ : ∃ r, (unframedM s).2.1 = r := ⟨_, rfl⟩
  obtain ⟨e0, he⟩ : ∃ e, (unframedM s).2.2 = e := ⟨_, rfl⟩
  rw [hp, hr, he] at hu hD
  rw [hp, hr] at hle
  have HU := hid hu
  have HLE := hid hle
  have HS := hid hs
  have HD := hid hD
  have HTD := hid (fun W => dtold_any K W)
  have fa : Fresh w (w.alloc (.cells #[.int .i64 0, .int .i64 0, .int .i64 0, .int .i64 0, .string ⟨#[]⟩, .slice none 0 0, .slice none 0 0, .slice none 0 0] 48)) := (Keeps.refl _ _).alloc _
  have hb0 := heap_alloc_new w (.cells #[.int .i64 0, .int .i64 0, .int .i64 0, .int .i64 0, .string ⟨#[]⟩, .slice none 0 0, .slice none 0 0, .slice none 0 0] 48)
  clear hu hD hp hr he hle hs hX
  obtain ⟨W0, hW0⟩ : ∃ W, w.alloc (.cells #[.int .i64 0, .int .i64 0, .int .i64 0, .int .i64 0, .string ⟨#[]⟩, .slice none 0 0, .slice none 0 0, .slice none 0 0] 48) = W := ⟨_, rfl⟩
  obtain ⟨b4, hb4⟩ : ∃ b4, w.heap.size = b4 := ⟨_, rfl⟩
  rw [hW0] at fa hb0
  rw [hb4] at hb0
  have hs0 : b4 < W0.heap.size := lt_of_block hb0
  have HT8 : Hid (∀ {w7 : World}, Fresh w w7 → ∀ c0 c1 c2 c3 c4 c5 c6 c7 : Value, Fresh w ((((((((w7.setCell ⟨b4, 0, none⟩ c0).setCell ⟨b4, 1, none⟩ c1).setCell ⟨b4, 2, none⟩ c2).setCell ⟨b4, 3, none⟩ c3).setCell ⟨b4, 4, none⟩ c4).setCell ⟨b4, 5, none⟩ c5).setCell ⟨b4, 6, none⟩ c6).setCell ⟨b4, 7, none⟩ c7)) := fun f c0 c1 c2 c3 c4 c5 c6 c7 => f.trans' (T8 c0 c1 c2 c3 c4 c5 c6 c7) (fun i hi (h : i = b4) => by omega)
  have FA := hid fa
  have HB0 := hid hb0
  have HE := hid (And.intro hW0 hb4)
  clear fa hb0 hW0 hb4
  obtain ⟨wd, hwd⟩ : ∃ wd, wordR K = wd := ⟨_, rfl⟩
  rw [hwd] at HTD
  by_cases hk : K < 0 ∨ 12 < K
  · have hX2 : Hid (X = (noRep, [], 170)) := by rw [Hid, HD.out, if_pos hk]
    have hwn : wd = [] := by rw [← hwd, wordR_none hk]
    subst hwn
    have hie : (str ([] : List UInt8)).toList.isEmpty = true := by rw [str_toList]; rfl
    clear HD HU hwd
    go_enter Tryz.func23, Tryz.ntmps23
    go_upto_region 1 with fail
    rw [HE.out.1, HE.out.2]
    go_wp2_with fail
    refine (HTD.out _).mono ?_
    rintro e _ ⟨rfl, rfl⟩
    have z0 := cell_at HB0.out 0
    have y0 := free_at HB0.out 0
    have z1 := cell_at HB0.out 1
    have y1 := free_at HB0.out 1
    have z2 := cell_at HB0.out 2
    have y2 := free_at HB0.out 2
    have z3 := cell_at HB0.out 3
    have y3 := free_at HB0.out 3
    have z4 := cell_at HB0.out 4
    have y4 := free_at HB0.out 4
    have z5 := cell_at HB0.out 5
    have y5 := free_at HB0.out 5
    have z6 := cell_at HB0.out 6
    have y6 := free_at HB0.out 6
    have z7 := cell_at HB0.out 7
    have y7 := free_at HB0.out 7
    simp at z0 z1 z2 z3 z4 z5 z6 z7
    go_wp2_with fail
    (try simp only [Exit.inBlock, Exit.then])
    refine bodyPost_ret (results_row3 rfl _ _ b4 48 _ (0, 0) _ rfl (by exact heap_setCell_at (heap_setCell_at (heap_setCell_at (heap_setCell_at (heap_setCell_at (heap_setCell_at (heap_setCell_at (heap_setCell_at HB0.out 0 _) 1 _) 2 _) 3 _) 4 _) 5 _) 6 _) 7 _) Tryz.underlying48 rfl (by kernel_rfl)) rfl ?_
    rw [hX2.out]
    exact ⟨_, [], rfl, HT8.out FA.out _ _ _ _ _ _ _ _, noRep_own _, List.nodup_nil, fun g hg => by cases hg⟩
  have hwn : wd ≠ [] := by
    have h' : K = 0 ∨ K = 1 ∨ K = 2 ∨ K = 3 ∨ K = 4 ∨ K = 5 ∨ K = 6 ∨ K = 7 ∨ K = 8 ∨ K = 9 ∨ K = 10 ∨ K = 11 ∨ K = 12 := by omega
    rw [← hwd]
    rcases h' with rfl | rfl | rfl | rfl | rfl | rfl | rfl | rfl | rfl | rfl | rfl | rfl | rfl <;> (intro h; cases h)
  have hie : (str wd).toList.isEmpty = false := by
    rw [str_toList]
    cases wd with
    | nil => exact absurd rfl hwn
    | cons a r => rfl
  clear hwn hwd
  by_cases h0 : e0 = 0
  · subst h0
    have HNR := hid (fun W hW => xreader_any p W hW (by have := HLE.out; have := HS.out; omega))
    obtain ⟨kk, hkk⟩ : ∃ kk, (rd pByte 0 (p, 0, 0)).1 = kk := ⟨_, rfl⟩
    obtain ⟨r1, hr1⟩ : ∃ r1, (rd pByte 0 (p, 0, 0)).2 = r1 := ⟨_, rfl⟩
    obtain ⟨q, hq⟩ : ∃ q, dBody K r1 = q := ⟨_, rfl⟩
    have hX1 : X = if dFitsR K kk q rest s then (q.1, rest, (0 : Int)) else (noRep, [], 173) := by
      rw [HD.out, if_neg hk, if_neg (by simp), hkk, hr1, hq]
    have HX := hid hX1
    have HFI := hid (hq ▸ TinyR.fine _ (tinyR_body K r1))
    have HBY := hid (fun b W hW => xrbyte_any b p (p, 0, 0) W hW)
    have HTK := hid (fun b W hW => dtakeReply_any K (by omega) (by omega) b p r1 W hW)
    rw [hkk, hr1] at HBY
    rw [hq] at HTK
    clear hX1 HD hkk hr1 hq
    go_enter Tryz.func23, Tryz.ntmps23
    go_upto_region 1 with fail
    rw [HE.out.1, HE.out.2]
    go_wp2_with fail
    refine (HTD.out _).mono ?_
    rintro e _ ⟨rfl, rfl⟩
    go_wp2_with fail
    refine (HU.out _).mono ?_
    rintro e w1 ⟨rfl, f1⟩
    have hb1 := f1.at_ HB0.out (fun h => h)
    have f01 : Fresh w w1 := FA.out.trans f1
    have hsz1 : b4 < w1.heap.size := lt_of_block hb1
    clear f1
    go_wp2_with fail
    refine (HNR.out _ (hl.fresh_ f01)).mono ?_
    rintro e w2 ⟨b, rfl, f2, hbb, hr2⟩
    have hb2 := f2.at_ hb1 (fun h => h)
    have F02 := hid (f01.trans f2)
    have hsz2 := f2.size
    have HR2 := hid hr2
    have HB2 := hid hb2
    have hws : w.heap.size ≤ w1.heap.size := f01.size
    clear hr2 hb1 hb2 f01 f2
    go_wp2_with fail
    refine (HBY.out b w2 HR2.out).mono ?_
    rintro e w3 ⟨rfl, k3, hr3⟩
    have hb3 := k3.at_ HB2.out (fun (h : _ = b) => by omega)
    have f03 : Fresh w w3 := F02.out.trans' k3 (fun i hi (h : i = b) => by omega)
    have F03 := hid f03
    have HB3 := hid hb3
    have HR3 := hid hr3
    have hsz3 := k3.size
    clear hb3 f03 k3 hr3
    go_wp2_with fail
    refine (HTK.out b w3 HR3.out).mono ?_
    rintro e w4 ⟨v, bl, rfl, k4, hr4, ho4, hnd, hbl⟩
    obtain ⟨al, cl, ae, ce, aq, cq, rfl⟩ := ho4.shape
    have hb44 := k4.at_ HB3.out (fun (h : _ = b) => by omega)
    have f04 : Fresh w w4 := F03.out.trans' k4 (fun i hi (h : i = b) => by omega)
    have fa4 : Fresh w4 (w4.alloc (.cells #[.int .i64 q.1.status, .int .i64 q.1.size, .int .i64 q.1.a, .int .i64 q.1.b, .string (str q.1.root), .slice al q.1.hashes.length cl, .slice ae q.1.entries.length ce, .slice aq q.1.replies.length cq] 48)) := (Keeps.refl _ _).alloc _
    have h9 := heap_alloc_new w4 (.cells #[.int .i64 q.1.status, .int .i64 q.1.size, .int .i64 q.1.a, .int .i64 q.1.b, .string (str q.1.root), .slice al q.1.hashes.length cl, .slice ae q.1.entries.length ce, .slice aq q.1.replies.length cq] 48)
    obtain ⟨w5, hw5⟩ : ∃ W, w4.alloc (.cells #[.int .i64 q.1.status, .int .i64 q.1.size, .int .i64 q.1.a, .int .i64 q.1.b, .string (str q.1.root), .slice al q.1.hashes.length cl, .slice ae q.1.entries.length ce, .slice aq q.1.replies.length cq] 48) = W := ⟨_, rfl⟩
    obtain ⟨p9, hp9⟩ : ∃ g, w4.heap.size = g := ⟨_, rfl⟩
    rw [hw5] at fa4 h9
    rw [hp9] at h9
    have hdn := xrdone_any b p q.2 _ (hr4.keeps fa4 fun h => h)
    have ho5 := RepOwn.fresh fa4 ho4
    have H9 := hid h9
    have HDN := hid hdn
    have HO5 := hid ho5
    have HB5 := hid (fa4.at_ hb44 (fun h => h))
    have F05 := hid (f04.trans fa4)
    have HBL := hid (show ∀ g ∈ bl, b4 < g from fun g hg => by have := hbl g hg; omega)
    have HBW := hid (show ∀ g ∈ bl, w.heap.size ≤ g from fun g hg => by have := hbl g hg; omega)
    have HW5 := hid (And.intro hw5 hp9)
    clear hb44 f04 fa4 h9 hdn ho5 ho4 hr4 hbl k4 hw5 hp9
    go_upto_region 9 with fail
    obtain ⟨e1, e2⟩ := HW5.out
    rw [e1, e2]
    clear e1 e2 HW5
    go_wp2_with fail
    refine HDN.out.mono ?_
    rintro e w6 ⟨rfl, f6⟩
    have h96 := f6.at_ H9.out (fun h => h)
    have x0 := cell_at h96 0
    have x1 := cell_at h96 1
    have x2 := cell_at h96 2
    have x3 := cell_at h96 3
    have x4 := cell_at h96 4
    have x5 := cell_at h96 5
    have x6 := cell_at h96 6
    have x7 := cell_at h96 7
    simp at x0 x1 x2 x3 x4 x5 x6 x7
    have f06 := F05.out.trans f6
    have he6 := dencodeRep_any (fun g => g ∈ bl) K q.1 _ w6 (hl.fresh_ f06) (RepOwn.at _ _ _ (RepOwn.fresh f6 HO5.out) _ (fun _ h => h)) (fun g hg => RepOwn.there _ _ _ (RepOwn.fresh f6 HO5.out) g hg) HFI.out
    have HE6 := hid he6
    have F6 := hid f6
    clear f6 f06 he6
    go_wp2_with fail
    refine HE6.out.mono ?_
    rintro e w7 ⟨rfl, f7⟩
    have F57 := hid (F6.out.trans f7)
    have F07 := hid (F05.out.trans F57.out)
    have HB7 := hid (F57.out.at_ HB5.out (fun h => h))
    have h97 := F57.out.at_ H9.out (fun h => h)
    have q0 := cell_at h97 0
    have q1 := cell_at h97 1
    have q2 := cell_at h97 2
    have q3 := cell_at h97 3
    have q4 := cell_at h97 4
    have q5 := cell_at h97 5
    have q6 := cell_at h97 6
    have q7 := cell_at h97 7
    simp at q0 q1 q2 q3 q4 q5 q6 q7
    clear h97 x0 x1 x2 x3 x4 x5 x6 x7 f7 h96
    have z0 := cell_at HB7.out 0
    have y0 := free_at HB7.out 0
    have z1 := cell_at HB7.out 1
    have y1 := free_at HB7.out 1
    have z2 := cell_at HB7.out 2
    have y2 := free_at HB7.out 2
    have z3 := cell_at HB7.out 3
    have y3 := free_at HB7.out 3
    have z4 := cell_at HB7.out 4
    have y4 := free_at HB7.out 4
    have z5 := cell_at HB7.out 5
    have y5 := free_at HB7.out 5
    have z6 := cell_at HB7.out 6
    have y6 := free_at HB7.out 6
    have z7 := cell_at HB7.out 7
    have y7 := free_at HB7.out 7
    simp at z0 z1 z2 z3 z4 z5 z6 z7
    have hel := hid (encRep_len K q.1)
    obtain ⟨we, hwe⟩ : ∃ we, (rDone q.2).1 = we := ⟨_, rfl⟩
    obtain ⟨wt2, hwt⟩ : ∃ we, (rDone q.2).2 = we := ⟨_, rfl⟩
    obtain ⟨es, hes⟩ : ∃ es, (encRep K q.1).1 = es := ⟨_, rfl⟩
    obtain ⟨ee, hee⟩ : ∃ ee, (encRep K q.1).2 = ee := ⟨_, rfl⟩
    have hfit : dFitsR K kk q rest s = decide (we = 0 ∧ ee = 0 ∧ (kk : Int) = K ∧ es ++ rest = s) := by unfold dFitsR; rw [hwe, hes, hee]
    have hX2 := HX.out
    rw [hfit] at hX2
    rw [hes, hee] at hel
    rw [hwe, hwt, hes, hee]
    clear hfit hwe hwt hes hee
    by_cases h1 : we = 0
    · by_cases h2 : ee = 0
      · subst h1
        subst h2
        by_cases h4 : (kk : Int) = K
        · have hcat := str_app2 es rest
          have htl : (str (es ++ rest)).toList = es ++ rest := str_toList _
          have htl2 : (str s).toList = s := str_toList _
          have hlen1 : (str es).size + (str rest).size ≤ 9223372036854775807 := by rw [str_size, str_size]; have := HLE.out.1; have := HS.out; have := hel.out rfl; omega
          have hkq : ((kk : Int) != K) = false := by rw [h4]; simp
          by_cases h3 : es ++ rest = s
          · have hX3 : Hid (X = (q.1, rest, 0)) := by rw [Hid, ← hX2.symm, if_pos (by simp [h3, h4])]
            clear hX2 hel
            rw [h3] at hcat htl
            clear h3
            have HKK := hid h4
            clear h4
            go_wp2_with fail
            (try simp only [Exit.inBlock, Exit.then])
            refine bodyPost_ret (results_row3 rfl _ _ b4 48 _ (0, 0) _ rfl (by exact heap_setCell_at (heap_setCell_at (heap_setCell_at (heap_setCell_at (heap_setCell_at (heap_setCell_at (heap_setCell_at (heap_setCell_at HB7.out 0 _) 1 _) 2 _) 3 _) 4 _) 5 _) 6 _) 7 _) Tryz.underlying48 rfl (by kernel_rfl)) rfl ?_
            rw [hX3.out]
            exact ⟨_, bl, rfl, HT8.out F07.out _ _ _ _ _ _ _ _, RepOwn.keeps (T8 _ _ _ _ _ _ _ _) _ _ _ (RepOwn.fresh F57.out HO5.out) (fun g hg (h : g = b4) => by have := HBL.out g hg; omega), hnd, HBW.out⟩
          · have hX3 : Hid (X = (noRep, [], 173)) := by rw [Hid, hX2, if_neg (by simp [h3])]
            have hne : (es ++ rest == s) = false := beq_eq_false_iff_ne.2 h3
            clear hX2 hel
            have HKK := hid h4
            clear h4
            go_wp2_with fail
            (try simp only [Exit.inBlock, Exit.then])
            refine bodyPost_ret (results_row3 rfl _ _ b4 48 _ (0, 0) _ rfl (by exact heap_setCell_at (heap_setCell_at (heap_setCell_at (heap_setCell_at (heap_setCell_at (heap_setCell_at (heap_setCell_at (heap_setCell_at HB7.out 0 _) 1 _) 2 _) 3 _) 4 _) 5 _) 6 _) 7 _) Tryz.underlying48 rfl (by kernel_rfl)) rfl ?_
            rw [hX3.out]
            exact ⟨_, [], rfl, HT8.out F07.out _ _ _ _ _ _ _ _, noRep_own _, List.nodup_nil, fun g hg => by cases hg⟩
        · have hX3 : Hid (X = (noRep, [], 173)) := by rw [Hid, hX2, if_neg (by simp [h4])]
          have hkq : ((kk : Int) != K) = true := bne_iff_ne.2 h4
          clear hX2 hel
          go_wp2_with fail
          (try simp only [Exit.inBlock, Exit.then])
          refine bodyPost_ret (results_row3 rfl _ _ b4 48 _ (0, 0) _ rfl (by exact heap_setCell_at (heap_setCell_at (heap_setCell_at (heap_setCell_at (heap_setCell_at (heap_setCell_at (heap_setCell_at (heap_setCell_at HB7.out 0 _) 1 _) 2 _) 3 _) 4 _) 5 _) 6 _) 7 _) Tryz.underlying48 rfl (by kernel_rfl)) rfl ?_
          rw [hX3.out]
          exact ⟨_, [], rfl, HT8.out F07.out _ _ _ _ _ _ _ _, noRep_own _, List.nodup_nil, fun g hg => by cases hg⟩
      · have hb2 : (ee != 0) = true := bne_iff_ne.2 h2
        have hX3 : Hid (X = (noRep, [], 173)) := by rw [Hid, hX2, if_neg (by simp [h2])]
        clear hX2 hel
        subst h1
        go_wp2_with fail
        (try simp only [Exit.inBlock, Exit.then])
        refine bodyPost_ret (results_row3 rfl _ _ b4 48 _ (0, 0) _ rfl (by exact heap_setCell_at (heap_setCell_at (heap_setCell_at (heap_setCell_at (heap_setCell_at (heap_setCell_at (heap_setCell_at (heap_setCell_at HB7.out 0 _) 1 _) 2 _) 3 _) 4 _) 5 _) 6 _) 7 _) Tryz.underlying48 rfl (by kernel_rfl)) rfl ?_
        rw [hX3.out]
        exact ⟨_, [], rfl, HT8.out F07.out _ _ _ _ _ _ _ _, noRep_own _, List.nodup_nil, fun g hg => by cases hg⟩
    · have hb1 : (we != 0) = true := bne_iff_ne.2 h1
      have hX3 : Hid (X = (noRep, [], 173)) := by rw [Hid, hX2, if_neg (by simp [h1])]
      clear hX2 hel
      go_wp2_with fail
      (try simp only [Exit.inBlock, Exit.then])
      refine bodyPost_ret (results_row3 rfl _ _ b4 48 _ (0, 0) _ rfl (by exact heap_setCell_at (heap_setCell_at (heap_setCell_at (heap_setCell_at (heap_setCell_at (heap_setCell_at (heap_setCell_at (heap_setCell_at HB7.out 0 _) 1 _) 2 _) 3 _) 4 _) 5 _) 6 _) 7 _) Tryz.underlying48 rfl (by kernel_rfl)) rfl ?_
      rw [hX3.out]
      exact ⟨_, [], rfl, HT8.out F07.out _ _ _ _ _ _ _ _, noRep_own _, List.nodup_nil, fun g hg => by cases hg⟩
  · have hX2 : Hid (X = (noRep, [], e0)) := by rw [Hid, HD.out, if_neg hk, if_pos h0]
    have hb : (e0 != 0) = true := bne_iff_ne.2 h0
    clear HD
    go_enter Tryz.func23, Tryz.ntmps23
    go_upto_region 1 with fail
    rw [HE.out.1, HE.out.2]
    go_wp2_with fail
    refine (HTD.out _).mono ?_
    rintro e _ ⟨rfl, rfl⟩
    go_wp2_with fail
    refine (HU.out _).mono ?_
    rintro e w1 ⟨rfl, f1⟩
    have HB1 := hid (f1.at_ HB0.out (fun h => h))
    have F01 := hid (FA.out.trans f1)
    clear f1
    have z0 := cell_at HB1.out 0
    have y0 := free_at HB1.out 0
    have z1 := cell_at HB1.out 1
    have y1 := free_at HB1.out 1
    have z2 := cell_at HB1.out 2
    have y2 := free_at HB1.out 2
    have z3 := cell_at HB1.out 3
    have y3 := free_at HB1.out 3
    have z4 := cell_at HB1.out 4
    have y4 := free_at HB1.out 4
    have z5 := cell_at HB1.out 5
    have y5 := free_at HB1.out 5
    have z6 := cell_at HB1.out 6
    have y6 := free_at HB1.out 6
    have z7 := cell_at HB1.out 7
    have y7 := free_at HB1.out 7
    simp at z0 z1 z2 z3 z4 z5 z6 z7
    go_wp2_with fail
    (try simp only [Exit.inBlock, Exit.then])
    refine bodyPost_ret (results_row3 rfl _ _ b4 48 _ (0, 0) _ rfl (by exact heap_setCell_at (heap_setCell_at (heap_setCell_at (heap_setCell_at (heap_setCell_at (heap_setCell_at (heap_setCell_at (heap_setCell_at HB1.out 0 _) 1 _) 2 _) 3 _) 4 _) 5 _) 6 _) 7 _) Tryz.underlying48 rfl (by kernel_rfl)) rfl ?_
    rw [hX2.out]
    exact ⟨_, [], rfl, HT8.out F01.out _ _ _ _ _ _ _ _, noRep_own _, List.nodup_nil, fun g hg => by cases hg⟩
end Go.Proofs.YtpccaodkgboefaaGreatDoor
