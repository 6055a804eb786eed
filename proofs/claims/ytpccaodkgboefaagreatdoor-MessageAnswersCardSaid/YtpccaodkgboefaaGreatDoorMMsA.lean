/-
  Package message in plain words: requests, what is laid down of them.
  Package message in plain words: requests that are taken; replies.
  Requests in memory: what keeps them, what a part of them is.
  The law's Book: its four lists' types. No walk.
  What is left of a Reader's text is never more than what was there.
  How many requests, replies are within one; small ones. Plain.
-/
import Derived.Test.YtpccaodkgboefaaGreatDoorCxFrameP
import Derived.Test.YtpccaodkgboefaaGreatDoorCxWTexts
import Derived.Test.YtpccaodkgboefaaGreatDoorCxListsB
namespace Go.Proofs.YtpccaodkgboefaaGreatDoor
open Go.RowKit

/-- a request -/
inductive Req where
  | mk (kind a b size : Int) (list : List Int) (entries : List (List UInt8)) (asks : List Req) : Req
namespace Req
def kind : Req → Int | .mk k _ _ _ _ _ _ => k
def a : Req → Int | .mk _ x _ _ _ _ _ => x
def b : Req → Int | .mk _ _ x _ _ _ _ => x
def size : Req → Int | .mk _ _ _ x _ _ _ => x
def list : Req → List Int | .mk _ _ _ _ x _ _ => x
def entries : Req → List (List UInt8) | .mk _ _ _ _ _ x _ => x
def asks : Req → List Req | .mk _ _ _ _ _ _ x => x
theorem lt_of_mem {R x : Req} (h : x ∈ R.asks) : SizeOf.sizeOf x < SizeOf.sizeOf R := by
  cases R with
  | mk k a b s l e qs =>
    have := List.sizeOf_lt_of_mem h
    simp only [asks] at this
    simp only [mk.sizeOf_spec]
    omega
end Req

abbrev WSt := List UInt8 × Int
def mSize (st : WSt) (n : Int) : WSt := wNum st (if 1099511627776 < n then -1 else n)
def mRising (st : WSt) (l : List Int) (most : Int) : WSt := if l.length = 0 ∨ most < l.length ∨ 1099511627776 < l.getD (l.length - 1) 0 then wNum st (-1) else wRising st l
def inPart (k : Int) : Bool := decide (3 ≤ k) && decide (k ≤ 7)
/-- the fields of a request that is no group -/
def fieldsFlat (st : WSt) (R : Req) : WSt :=
  if R.kind = 1 then wTexts (if R.entries.length = 0 then wNum st (-1) else st) R.entries 32 4096
  else if R.kind = 3 then mSize st R.size
  else if R.kind = 8 ∨ R.kind = 9 then mSize (mSize (mSize st R.a) R.b) R.size
  else if R.kind = 4 ∨ R.kind = 5 then mSize (mSize st R.a) R.size
  else if R.kind = 10 ∨ R.kind = 11 then mSize st R.a
  else if R.kind = 6 then mRising (mSize st R.size) R.list 256
  else if R.kind = 7 then mRising st R.list 64
  else st
/-- a group's requests, up to the first that may not be in one -/
def partsOf : WSt → List Req → WSt
  | st, [] => st
  | st, x :: r => if inPart x.kind = false then wNum st (-1) else partsOf (fieldsFlat (wByte st x.kind) x) r
def fieldsOf (st : WSt) (R : Req) : WSt :=
  if R.kind = 12 then partsOf (wNum (if R.asks.length = 0 ∨ 64 < R.asks.length then wNum st (-1) else st) R.asks.length) R.asks else fieldsFlat st R

/-- which fields a kind has -/
structure Has where
  a : Bool
  b : Bool
  size : Bool
  list : Bool
  entries : Bool
  asks : Bool
def whichOf (k : Int) : Has := {
  a := decide (k = 4 ∨ k = 5 ∨ (8 ≤ k ∧ k ≤ 11))
  b := decide (k = 8 ∨ k = 9)
  size := decide ((3 ≤ k ∧ k ≤ 6) ∨ k = 8 ∨ k = 9)
  list := decide (k = 6 ∨ k = 7)
  entries := decide (k = 1)
  asks := decide (k = 12) }
/-- a field that the kind has not, and is there -/
def spareOf (R : Req) : Bool :=
  (!(whichOf R.kind).a && decide (R.a ≠ 0)) || (!(whichOf R.kind).b && decide (R.b ≠ 0)) || (!(whichOf R.kind).size && decide (R.size ≠ 0)) || (!(whichOf R.kind).list && decide (0 < R.list.length)) ||
    (!(whichOf R.kind).entries && decide (0 < R.entries.length)) || (!(whichOf R.kind).asks && decide (0 < R.asks.length))
mutual
def plainOf : Req → Bool
  | .mk k a b s l e qs => !spareOf (.mk k a b s l e qs) && plainAll qs
def plainAll : List Req → Bool
  | [] => true
  | x :: r => plainOf x && plainAll r
end
theorem plainOf_eq (R : Req) : plainOf R = (!spareOf R && plainAll R.asks) := by
  cases R
  rw [plainOf]
  rfl
/-- what was written, qs a frame -/
def framedW (st : WSt) : List UInt8 × Int := if st.2 ≠ 0 then ([], 171) else if (framed st.1).2 ≠ 0 then ([], 174) else ((framed st.1).1, 0)
def encOf (R : Req) : List UInt8 × Int :=
  if R.kind < 1 ∨ 12 < R.kind then ([], 170) else if plainOf R = false then ([], 171) else framedW (fieldsOf (wByte ([], 0) R.kind) R)

/-- a value of a request in memory, all its lists in blocks of B -/
def Low (B : Nat → Prop) (v : Value) {α : Type} (l : List α) : Prop := ∀ g, v.ownBlock = some g → l ≠ [] → B g
mutual
def ReqAt (B : Nat → Prop) (w : World) : Req → Value → Prop
  | .mk k a b s l e qs, v => ∃ lv ev ao cap, v = .agg #[.int .i64 k, .int .i64 a, .int .i64 b, .int .i64 s, lv, ev, .slice ao qs.length cap] ∧ (ListAt w lv (ints l) ∧ Low B lv l) ∧ (ListAt w ev (texts e) ∧ Low B ev e) ∧ ReqsAt B w qs ao 0 ∧ qs.length ≤ 9223372036854775807
def ReqsAt (B : Nat → Prop) (w : World) : List Req → Option Addr → Nat → Prop
  | [], _, _ => True
  | x :: r, ao, k => (∃ bb off c0 c1 c2 c3 c4 c5 c6, ao = some ⟨bb, off, none⟩ ∧ B bb ∧ bb < w.heap.size ∧ w.cell? ⟨bb, off + k * 7, none⟩ = some c0 ∧ w.cell? ⟨bb, off + k * 7 + 1, none⟩ = some c1 ∧ w.cell? ⟨bb, off + k * 7 + 2, none⟩ = some c2 ∧ w.cell? ⟨bb, off + k * 7 + 3, none⟩ = some c3 ∧
      w.cell? ⟨bb, off + k * 7 + 4, none⟩ = some c4 ∧ w.cell? ⟨bb, off + k * 7 + 5, none⟩ = some c5 ∧ w.cell? ⟨bb, off + k * 7 + 6, none⟩ = some c6 ∧ ReqAt B w x (.agg #[c0, c1, c2, c3, c4, c5, c6])) ∧ ReqsAt B w r ao (k + 1)
end
end Go.Proofs.YtpccaodkgboefaaGreatDoor

namespace Go.Proofs.YtpccaodkgboefaaGreatDoor
open Go.RowKit

def rN (is : Bool) (r : RSt) : Int × RSt := if is then (((rd (pNum 0 0) 0 r).1 : Nat), (rd (pNum 0 0) 0 r).2) else (0, r)
def rE (is : Bool) (r : RSt) : List (List UInt8) × RSt := if is then rd (pTexts 32 4096) [] r else ([], r)
def rL (is : Bool) (r : RSt) : List Int × RSt := if is then rd (pRising 256) [] r else ([], r)
/-- the numbers and the list -/
def rRest (k : Int) (e : List (List UInt8)) (qs : List Req) (r : RSt) : Req × RSt :=
  (.mk k (rN (whichOf k).a r).1 (rN (whichOf k).b (rN (whichOf k).a r).2).1 (rN (whichOf k).size (rN (whichOf k).b (rN (whichOf k).a r).2).2).1
    (rL (whichOf k).list (rN (whichOf k).size (rN (whichOf k).b (rN (whichOf k).a r).2).2).2).1 e qs, (rL (whichOf k).list (rN (whichOf k).size (rN (whichOf k).b (rN (whichOf k).a r).2).2).2).2)
/-- a group's requests, so many at most, up to the first that may not be in one -/
def rAsks (f : Int → RSt → Req × RSt) : Nat → RSt → List Req × RSt
  | 0, r => ([], r)
  | n + 1, r =>
    let x := f ((rd pByte 0 r).1 : Nat) (rd pByte 0 r).2
    if inPart x.1.kind = false then ([x.1], x.2) else (x.1 :: (rAsks f n x.2).1, (rAsks f n x.2).2)
def rReq : Nat → Int → RSt → Req × RSt
  | 0, k, r => (.mk k 0 0 0 [] [] [], r)
  | fuel + 1, k, r =>
    if (whichOf k).entries then rRest k (rE true r).1 [] (rE true r).2
    else if (whichOf k).asks then
      let q := rAsks (rReq fuel) (min (rd (pNum 0 0) 0 r).1 65) (rd (pNum 0 0) 0 r).2
      rRest k [] q.1 q.2
    else rRest k [] [] r

/-- a reply -/
inductive Rep where
  | mk (status size a b : Int) (root : List UInt8) (hashes entries : List (List UInt8)) (replies : List Rep) : Rep
namespace Rep
def status : Rep → Int | .mk x _ _ _ _ _ _ _ => x
def size : Rep → Int | .mk _ x _ _ _ _ _ _ => x
def a : Rep → Int | .mk _ _ x _ _ _ _ _ => x
def b : Rep → Int | .mk _ _ _ x _ _ _ _ => x
def root : Rep → List UInt8 | .mk _ _ _ _ x _ _ _ => x
def hashes : Rep → List (List UInt8) | .mk _ _ _ _ _ x _ _ => x
def entries : Rep → List (List UInt8) | .mk _ _ _ _ _ _ x _ => x
def replies : Rep → List Rep | .mk _ _ _ _ _ _ _ x => x
end Rep
/-- a reply's own field, laid down -/
inductive Fld where
  | size | a | last | root | hashes | told | parts
def tableOf (k : Int) : List Fld :=
  if k = 1 then [.size, .a, .root] else if k = 2 then [.size, .root] else if k = 3 then [.root] else if 4 ≤ k ∧ k ≤ 7 then [.hashes] else if k = 8 then [.told, .hashes] else if k = 9 then [.a]
  else if k = 10 then [.a, .last, .told, .hashes] else if k = 12 then [.parts] else []
def mStatus (st : WSt) (s : Int) : WSt := wByte st (if 8 < s then -1 else s)
def mRoot (st : WSt) (s : List UInt8) : WSt := wRaw (if s.length ≠ 32 then wNum st (-1) else st) s
/-- is anything left over? -/
def leftOver : Rep → Bool
  | .mk _ s a b r h e p => decide (s ≠ 0 ∨ a ≠ 0 ∨ b ≠ 0 ∨ r ≠ [] ∨ 0 < h.length ∨ 0 < e.length ∨ 0 < p.length)
def mRest (st : WSt) (R : Rep) : WSt := if leftOver R then wNum st (-1) else st
def mPart (st : WSt) : Rep → WSt
  | .mk z s a b r h e p =>
    if z = 0 then
      if r ≠ [] then mRest (mRoot (wByte (mStatus st z) 1) r) (.mk z s a b [] h e p)
      else mRest (wHashes (wByte (mStatus st z) 0) h 32768) (.mk z s a b r [] e p)
    else mRest (mStatus st z) (.mk z s a b r h e p)
def mParts (st : WSt) (l : List Rep) : WSt := l.foldl mPart (wNum (if l.length = 0 ∨ 64 < l.length then wNum st (-1) else st) l.length)
def mFld : Fld → WSt → Rep → WSt × Rep
  | .size, st, .mk z s a b r h e p => (mSize st s, .mk z 0 a b r h e p)
  | .a, st, .mk z s a b r h e p => (mSize st a, .mk z s 0 b r h e p)
  | .last, st, .mk z s a b r h e p => (wByte (if 1 < b then wNum st (-1) else st) b, .mk z s a 0 r h e p)
  | .root, st, .mk z s a b r h e p => (mRoot st r, .mk z s a b [] h e p)
  | .hashes, st, .mk z s a b r h e p => (wHashes st h 32768, .mk z s a b r [] e p)
  | .told, st, .mk z s a b r h e p => (wTexts st e 4096 1000, .mk z s a b r h [] p)
  | .parts, st, .mk z s a b r h e p => (mParts st p, .mk z s a b r h e [])
def mFlds : List Fld → WSt → Rep → WSt × Rep
  | [], st, R => (st, R)
  | f :: l, st, R => mFlds l (mFld f st R).1 (mFld f st R).2
def encRep (k : Int) (R : Rep) : List UInt8 × Int :=
  if k < 0 ∨ 12 < k then ([], 170)
  else if k = 0 ∧ R.status = 0 then ([], 171)
  else
    let q := if R.status = 0 then mFlds (tableOf k) (mStatus (wByte ([], 0) k) R.status) R else (mStatus (wByte ([], 0) k) R.status, R)
    framedW (mRest q.1 q.2)
/-- a part of a group's reply, taken -/
def rPart (r : RSt) : Rep × RSt :=
  let s := rd pByte 0 r
  if s.1 = 0 then
    let k := rd pByte 0 s.2
    if k.1 = 1 then (.mk (s.1 : Nat) 0 0 0 (rd (pRaw 32) [] k.2).1 [] [] [], (rd (pRaw 32) [] k.2).2)
    else (.mk (s.1 : Nat) 0 0 0 [] (rd (pHashes 32768) [] k.2).1 [] [], (rd (pHashes 32768) [] k.2).2)
  else (.mk (s.1 : Nat) 0 0 0 [] [] [] [], s.2)
def rParts : Nat → RSt → List Rep × RSt
  | 0, r => ([], r)
  | n + 1, r => if r.1.length = 0 then ([], r) else ((rPart r).1 :: (rParts n (rPart r).2).1, (rParts n (rPart r).2).2)
def rFld : Fld → RSt → Rep → Rep × RSt
  | .size, r, .mk z _ a b o h e p => (.mk z ((rd (pNum 0 0) 0 r).1 : Nat) a b o h e p, (rd (pNum 0 0) 0 r).2)
  | .a, r, .mk z s _ b o h e p => (.mk z s ((rd (pNum 0 0) 0 r).1 : Nat) b o h e p, (rd (pNum 0 0) 0 r).2)
  | .last, r, .mk z s a _ o h e p => (.mk z s a ((rd pByte 0 r).1 : Nat) o h e p, (rd pByte 0 r).2)
  | .root, r, .mk z s a b _ h e p => (.mk z s a b (rd (pRaw 32) [] r).1 h e p, (rd (pRaw 32) [] r).2)
  | .hashes, r, .mk z s a b o _ e p => (.mk z s a b o (rd (pHashes 32768) [] r).1 e p, (rd (pHashes 32768) [] r).2)
  | .told, r, .mk z s a b o h _ p => (.mk z s a b o h (rd (pTexts 4096 1000) [] r).1 p, (rd (pTexts 4096 1000) [] r).2)
  | .parts, r, .mk z s a b o h e p => (.mk z s a b o h e (p ++ (rParts (min (rd (pNum 0 0) 0 r).1 65) (rd (pNum 0 0) 0 r).2).1), (rParts (min (rd (pNum 0 0) 0 r).1 65) (rd (pNum 0 0) 0 r).2).2)
def rFlds : List Fld → RSt → Rep → Rep × RSt
  | [], r, R => (R, r)
  | f :: l, r, R => rFlds l (rFld f r R).2 (rFld f r R).1
end Go.Proofs.YtpccaodkgboefaaGreatDoor

namespace Go.Proofs.YtpccaodkgboefaaGreatDoor
open Go.RowKit

mutual
theorem ReqAt.keeps {B : Nat → Prop} {w w' : World} {T : Nat → Prop} (hk : Keeps T w w') (hT : ∀ q, T q → ¬ B q) : ∀ (R : Req) (v : Value), ReqAt B w R v → ReqAt B w' R v
  | .mk k a b s l e qs, v, h => by
    rw [ReqAt] at h ⊢
    obtain ⟨lv, ev, ao, cap, rfl, ⟨h1, h2⟩, ⟨h3, h4⟩, h5, h6⟩ := h
    exact ⟨lv, ev, ao, cap, rfl, ⟨h1.keeps_if hk (fun g hg hx h => hT g h (h2 g hg (fun e => hx (by rw [e]; rfl)))), h2⟩, ⟨h3.keeps_if hk (fun g hg hx h => hT g h (h4 g hg (fun e => hx (by rw [e]; rfl)))), h4⟩, ReqsAt.keeps hk hT qs ao 0 h5, h6⟩
theorem ReqsAt.keeps {B : Nat → Prop} {w w' : World} {T : Nat → Prop} (hk : Keeps T w w') (hT : ∀ q, T q → ¬ B q) : ∀ (l : List Req) (ao : Option Addr) (k : Nat), ReqsAt B w l ao k → ReqsAt B w' l ao k
  | [], _, _, _ => by rw [ReqsAt]; trivial
  | x :: r, ao, k, h => by
    rw [ReqsAt] at h ⊢
    obtain ⟨⟨bb, off, c0, c1, c2, c3, c4, c5, c6, rfl, hb, hb2, e0, e1, e2, e3, e4, e5, e6, hx⟩, hr⟩ := h
    have hn : ¬ T bb := fun h => hT bb h hb
    exact ⟨⟨bb, off, c0, c1, c2, c3, c4, c5, c6, rfl, hb, Nat.lt_of_lt_of_le hb2 hk.size, (hk.cell (p := ⟨bb, off + k * 7, none⟩) hb2 hn).trans e0, (hk.cell (p := ⟨bb, off + k * 7 + 1, none⟩) hb2 hn).trans e1, (hk.cell (p := ⟨bb, off + k * 7 + 2, none⟩) hb2 hn).trans e2,
      (hk.cell (p := ⟨bb, off + k * 7 + 3, none⟩) hb2 hn).trans e3, (hk.cell (p := ⟨bb, off + k * 7 + 4, none⟩) hb2 hn).trans e4, (hk.cell (p := ⟨bb, off + k * 7 + 5, none⟩) hb2 hn).trans e5, (hk.cell (p := ⟨bb, off + k * 7 + 6, none⟩) hb2 hn).trans e6,
      ReqAt.keeps hk hT x _ hx⟩, ReqsAt.keeps hk hT r _ _ hr⟩
end
mutual
theorem ReqAt.mono {B B' : Nat → Prop} {w : World} (hb : ∀ q, B q → B' q) : ∀ (R : Req) (v : Value), ReqAt B w R v → ReqAt B' w R v
  | .mk k a b s l e qs, v, h => by
    rw [ReqAt] at h ⊢
    obtain ⟨lv, ev, ao, cap, rfl, ⟨h1, h2⟩, ⟨h3, h4⟩, h5, h6⟩ := h
    exact ⟨lv, ev, ao, cap, rfl, ⟨h1, fun g hg hx => hb g (h2 g hg hx)⟩, ⟨h3, fun g hg hx => hb g (h4 g hg hx)⟩, ReqsAt.mono hb qs ao 0 h5, h6⟩
theorem ReqsAt.mono {B B' : Nat → Prop} {w : World} (hb : ∀ q, B q → B' q) : ∀ (l : List Req) (ao : Option Addr) (k : Nat), ReqsAt B w l ao k → ReqsAt B' w l ao k
  | [], _, _, _ => by rw [ReqsAt]; trivial
  | x :: r, ao, k, h => by
    rw [ReqsAt] at h ⊢
    obtain ⟨⟨bb, off, c0, c1, c2, c3, c4, c5, c6, rfl, hB, hb2, e0, e1, e2, e3, e4, e5, e6, hx⟩, hr⟩ := h
    exact ⟨⟨bb, off, c0, c1, c2, c3, c4, c5, c6, rfl, hb bb hB, hb2, e0, e1, e2, e3, e4, e5, e6, ReqAt.mono hb x _ hx⟩, ReqsAt.mono hb r _ _ hr⟩
end
theorem ReqAt.fresh {B : Nat → Prop} {w w' : World} {R : Req} {v : Value} (h : ReqAt B w R v) (hk : Fresh w w') : ReqAt B w' R v := ReqAt.keeps hk (fun _ h => h.elim) R v h
theorem ReqAt.parts {B : Nat → Prop} {w : World} {R : Req} {v : Value} (h : ReqAt B w R v) : ∃ lv ev ao cap, v = .agg #[.int .i64 R.kind, .int .i64 R.a, .int .i64 R.b, .int .i64 R.size, lv, ev, .slice ao R.asks.length cap] ∧ (ListAt w lv (ints R.list) ∧ Low B lv R.list) ∧ (ListAt w ev (texts R.entries) ∧ Low B ev R.entries) ∧ ReqsAt B w R.asks ao 0 ∧ R.asks.length ≤ 9223372036854775807 := by
  cases R
  rw [ReqAt] at h
  exact h
theorem ReqsAt.get {B : Nat → Prop} {w : World} : ∀ {l : List Req} {ao : Option Addr} {k0 : Nat}, ReqsAt B w l ao k0 → ∀ {k : Nat} {x : Req}, l[k]? = some x →
    ∃ bb off c0 c1 c2 c3 c4 c5 c6, ao = some ⟨bb, off, none⟩ ∧ B bb ∧ bb < w.heap.size ∧ w.cell? ⟨bb, off + (k0 + k) * 7, none⟩ = some c0 ∧ w.cell? ⟨bb, off + (k0 + k) * 7 + 1, none⟩ = some c1 ∧ w.cell? ⟨bb, off + (k0 + k) * 7 + 2, none⟩ = some c2 ∧ w.cell? ⟨bb, off + (k0 + k) * 7 + 3, none⟩ = some c3 ∧
      w.cell? ⟨bb, off + (k0 + k) * 7 + 4, none⟩ = some c4 ∧ w.cell? ⟨bb, off + (k0 + k) * 7 + 5, none⟩ = some c5 ∧ w.cell? ⟨bb, off + (k0 + k) * 7 + 6, none⟩ = some c6 ∧ ReqAt B w x (.agg #[c0, c1, c2, c3, c4, c5, c6])
  | [], ao, k0, _, k, x, hx => by simp at hx
  | y :: r, ao, k0, h, 0, x, hx => by
    rw [ReqsAt] at h
    simp at hx
    subst hx
    exact h.1
  | y :: r, ao, k0, h, k + 1, x, hx => by
    rw [ReqsAt] at h
    have := h.2.get (k := k) (x := x) (by simpa using hx)
    rw [show k0 + (k + 1) = k0 + 1 + k by omega]
    exact this
end Go.Proofs.YtpccaodkgboefaaGreatDoor

namespace Go.Proofs.YtpccaodkgboefaaGreatDoor
open Go.RowKit

def bkT : Fin 4 → TypeId
  | 0 => 22
  | 1 => 23
  | 2 => 24
  | 3 => 46
def bkM : Fin 4 → Value
  | 0 => .int .i64 (-77)
  | 1 => .string (str [126])
  | 2 => .int .i64 (-77)
  | 3 => .int .i64 (-77)
def bkS : Fin 4 → Nat
  | 0 => 1
  | 1 => 1
  | 2 => 7
  | 3 => 8
def bkO : Fin 4 → Nat
  | 0 => 0
  | 1 => 0
  | 2 => 0
  | 3 => 2
def upd {α : Type} (f : Fin 4 → α) (i : Fin 4) (x : α) : Fin 4 → α := fun j => if j = i then x else f j
theorem upd_arr (v : Fin 4 → Value) (i : Fin 4) (x : Value) : (#[v 0, v 1, v 2, v 3] : Array Value).setIfInBounds i.val x = #[upd v i x 0, upd v i x 1, upd v i x 2, upd v i x 3] := by
  obtain ⟨i, hi⟩ := i
  match i, hi with
  | 0, _ => rfl
  | 1, _ => rfl
  | 2, _ => rfl
  | 3, _ => rfl
theorem Tryz.infoIntB : (Tryz.prog.info? 3).map (fun i => (i.zero, i.size, i.bytes)) = some (some (.int .i64 0), 1, 8) := by kernel_rfl
theorem Tryz.infoStrB : (Tryz.prog.info? 9).map (fun i => (i.zero, i.size, i.bytes)) = some (some (.string ⟨#[]⟩), 1, 16) := by kernel_rfl
theorem Tryz.infoSliceB (i : Fin 4) : (Tryz.prog.info? (bkT i)).map (fun i => (i.zero, i.size, i.bytes)) = some (some (.slice none 0 0), 1, 24) := by
  obtain ⟨i, hi⟩ := i
  match i, hi with
  | 0, _ => exact (show (Tryz.prog.info? 22).map (fun i => (i.zero, i.size, i.bytes)) = some (some (.slice none 0 0), 1, 24) by kernel_rfl)
  | 1, _ => exact (show (Tryz.prog.info? 23).map (fun i => (i.zero, i.size, i.bytes)) = some (some (.slice none 0 0), 1, 24) by kernel_rfl)
  | 2, _ => exact (show (Tryz.prog.info? 24).map (fun i => (i.zero, i.size, i.bytes)) = some (some (.slice none 0 0), 1, 24) by kernel_rfl)
  | 3, _ => exact (show (Tryz.prog.info? 46).map (fun i => (i.zero, i.size, i.bytes)) = some (some (.slice none 0 0), 1, 24) by kernel_rfl)
end Go.Proofs.YtpccaodkgboefaaGreatDoor

namespace Go.Proofs.YtpccaodkgboefaaGreatDoor
open Go.RowKit

/-- takes off the front -/
def Takes {α : Type} (p : List UInt8 → Except Int (α × List UInt8)) : Prop := ∀ l x l', p l = .ok (x, l') → l'.length ≤ l.length
theorem rd_len {α : Type} {p : List UInt8 → Except Int (α × List UInt8)} (h : Takes p) (z : α) (r : RSt) : (rd p z r).2.1.length ≤ r.1.length := by
  unfold rd
  split
  · exact Nat.le_refl _
  · cases hp : p r.1 with
    | error e => exact Nat.le_refl _
    | ok x => exact h _ _ _ hp
theorem takes_num : Takes (pNum 0 0) := fun l x l' h => Nat.le_of_lt (pNum_le l 0 0 x l' h).2
theorem takes_byte : Takes pByte := fun l x l' h => by
  cases l with
  | nil => cases h
  | cons c l =>
    injection h with h
    injection h with _ h
    subst h
    simp
theorem takes_count (many : Int) : Takes (pCount many) := fun _ _ _ h => Nat.le_of_lt (pCount_le h).2.1
theorem takes_text (most : Int) : Takes (pText most) := fun _ _ _ h => Nat.le_of_lt (pText_lt h)
theorem takes_32 : Takes p32 := fun l x l' h => by
  unfold p32 at h
  split at h
  · cases h
  · injection h with h
    injection h with _ h
    subst h
    simp
theorem takes_elems {p : List UInt8 → Except Int (List UInt8 × List UInt8)} (hp : Takes p) : ∀ n, Takes (pElems p n)
  | 0, l, x, l', h => by
    injection h with h
    injection h with _ h
    subst h
    exact Nat.le_refl _
  | n + 1, l, x, l', h => by
    rw [pElems] at h
    cases h1 : p l with
    | error e => rw [h1] at h; cases h
    | ok y =>
      rw [h1] at h
      simp only at h
      cases h2 : pElems p n y.2 with
      | error e => rw [h2] at h; cases h
      | ok z =>
        rw [h2] at h
        injection h with h
        injection h with _ h
        subst h
        exact Nat.le_trans (takes_elems hp n _ _ _ h2) (hp _ _ _ h1)
theorem takes_texts (many most : Int) : Takes (pTexts many most) := fun l x l' h => by
  unfold pTexts at h
  split at h
  · cases h
  · cases h1 : pCount many l with
    | error e => rw [h1] at h; cases h
    | ok y =>
      rw [h1] at h
      exact Nat.le_trans (takes_elems (takes_text most) y.1 _ _ _ h) (takes_count many _ _ _ h1)
theorem takes_hashes (many : Int) : Takes (pHashes many) := fun l x l' h => by
  unfold pHashes at h
  split at h
  · cases h
  · cases h1 : pCount many l with
    | error e => rw [h1] at h; cases h
    | ok y =>
      rw [h1] at h
      exact Nat.le_trans (takes_elems takes_32 y.1 _ _ _ h) (takes_count many _ _ _ h1)
theorem takes_riseN : ∀ (n : Nat) (last : Int), Takes (pRiseN n last)
  | 0, last, l, x, l', h => by
    injection h with h
    injection h with _ h
    subst h
    exact Nat.le_refl _
  | n + 1, last, l, x, l', h => by
    rw [pRiseN] at h
    cases h1 : pNum 0 0 l with
    | error e => rw [h1] at h; cases h
    | ok y =>
      rw [h1] at h
      simp only at h
      split at h
      · cases h
      · cases h2 : pRiseN n (last + (y.1 + 1)) y.2 with
        | error e => rw [h2] at h; cases h
        | ok z =>
          rw [h2] at h
          injection h with h
          injection h with _ h
          subst h
          exact Nat.le_trans (takes_riseN n _ _ _ _ h2) (takes_num _ _ _ h1)
theorem takes_rising (many : Int) : Takes (pRising many) := fun l x l' h => by
  unfold pRising at h
  split at h
  · cases h
  · cases h1 : pCount many l with
    | error e => rw [h1] at h; cases h
    | ok y =>
      rw [h1] at h
      exact Nat.le_trans (takes_riseN y.1 _ _ _ _ h) (takes_count many _ _ _ h1)
theorem rN_len (is : Bool) (r : RSt) : (rN is r).2.1.length ≤ r.1.length := by
  unfold rN
  split
  · exact rd_len takes_num _ _
  · exact Nat.le_refl _
theorem rE_len (is : Bool) (r : RSt) : (rE is r).2.1.length ≤ r.1.length := by
  unfold rE
  split
  · exact rd_len (takes_texts _ _) _ _
  · exact Nat.le_refl _
theorem rL_len (is : Bool) (r : RSt) : (rL is r).2.1.length ≤ r.1.length := by
  unfold rL
  split
  · exact rd_len (takes_rising _) _ _
  · exact Nat.le_refl _
theorem rRest_len (k : Int) (e : List (List UInt8)) (qs : List Req) (r : RSt) : (rRest k e qs r).2.1.length ≤ r.1.length := by
  unfold rRest
  exact Nat.le_trans (rL_len _ _) (Nat.le_trans (rN_len _ _) (Nat.le_trans (rN_len _ _) (rN_len _ _)))
theorem rAsks_len {F : Int → RSt → Req × RSt} (hF : ∀ k r, (F k r).2.1.length ≤ r.1.length) : ∀ (n : Nat) (r : RSt), (rAsks F n r).2.1.length ≤ r.1.length
  | 0, r => Nat.le_refl _
  | n + 1, r => by
    rw [rAsks]
    split
    · exact Nat.le_trans (hF _ _) (rd_len takes_byte _ _)
    · exact Nat.le_trans (rAsks_len hF n _) (Nat.le_trans (hF _ _) (rd_len takes_byte _ _))
/-- one round of it -/
def rReqF (F : Int → RSt → Req × RSt) (k : Int) (r : RSt) : Req × RSt :=
  if (whichOf k).entries then rRest k (rE true r).1 [] (rE true r).2
  else if (whichOf k).asks then rRest k [] (rAsks F (min (rd (pNum 0 0) 0 r).1 65) (rd (pNum 0 0) 0 r).2).1 (rAsks F (min (rd (pNum 0 0) 0 r).1 65) (rd (pNum 0 0) 0 r).2).2
  else rRest k [] [] r
theorem rReq_succ (n : Nat) (k : Int) (r : RSt) : rReq (n + 1) k r = rReqF (rReq n) k r := rfl
theorem rReq_len : ∀ (n : Nat) (k : Int) (r : RSt), (rReq n k r).2.1.length ≤ r.1.length
  | 0, k, r => Nat.le_refl _
  | n + 1, k, r => by
    rw [rReq_succ]
    unfold rReqF
    split
    · exact Nat.le_trans (rRest_len _ _ _ _) (rE_len _ _)
    · split
      · exact Nat.le_trans (rRest_len _ _ _ _) (Nat.le_trans (rAsks_len (rReq_len n) _ _) (rd_len takes_num _ _))
      · exact rRest_len _ _ _ _
/-- a byte is taken, or it is 0 -/
theorem rd_byte_lt (r : RSt) : (rd pByte 0 r).2.1.length < r.1.length ∨ (rd pByte 0 r).1 = 0 := by
  unfold rd
  split
  · exact .inr rfl
  · cases hl : r.1 with
    | nil => exact .inr rfl
    | cons c l =>
      refine .inl ?_
      simp [pByte]
theorem rReq_kind (n : Nat) (k : Int) (r : RSt) : (rReq n k r).1.kind = k := by
  cases n with
  | zero => rfl
  | succ n =>
    rw [rReq_succ]
    unfold rReqF rRest
    split
    · rfl
    · split <;> rfl
theorem rReq_zero (r : RSt) (n : Nat) : rReq n 0 r = (.mk 0 0 0 0 [] [] [], r) := by
  cases n with
  | zero => rfl
  | succ n =>
    rw [rReq_succ]
    rfl
end Go.Proofs.YtpccaodkgboefaaGreatDoor

namespace Go.Proofs.YtpccaodkgboefaaGreatDoor
open Go.RowKit

mutual
/-- so many requests; thrice -/
def cnt : Req → Nat
  | .mk _ _ _ _ _ _ qs => 3 + cntAll qs
def cntAll : List Req → Nat
  | [] => 0
  | x :: r => cnt x + cntAll r
end
mutual
def Tiny : Req → Prop
  | .mk _ _ _ _ l e qs => l.length ≤ 1000000000 ∧ e.length ≤ 1000000000 ∧ qs.length ≤ 1000000000 ∧ TinyAll qs
def TinyAll : List Req → Prop
  | [] => True
  | x :: r => Tiny x ∧ TinyAll r
end
theorem TinyAll.all : ∀ {l : List Req}, TinyAll l → ∀ x ∈ l, Tiny x
  | y :: r, h, x, hx => by
    rw [TinyAll] at h
    rcases List.mem_cons.1 hx with rfl | hx
    · exact h.1
    · exact TinyAll.all h.2 x hx
theorem Tiny.parts {R : Req} (h : Tiny R) : R.list.length ≤ 1000000000 ∧ R.entries.length ≤ 1000000000 ∧ R.asks.length ≤ 1000000000 ∧ ∀ x ∈ R.asks, Tiny x := by
  cases R
  rw [Tiny] at h
  exact ⟨h.1, h.2.1, h.2.2.1, h.2.2.2.all⟩
theorem cnt_eq (R : Req) : cnt R = 3 + cntAll R.asks := by
  cases R
  rw [cnt]
  rfl
theorem cntAll_snoc : ∀ (l : List Req) {n : Nat} {x : Req}, l[n]? = some x → cntAll (l.take (n + 1)) = cntAll (l.take n) + cnt x
  | [], n, x, h => by simp at h
  | y :: r, 0, x, h => by
    simp at h
    subst h
    simp [cntAll]
  | y :: r, n + 1, x, h => by
    have := cntAll_snoc r (n := n) (x := x) (by simpa using h)
    simp only [List.take_succ_cons, cntAll, this]
    omega
theorem cntAll_take : ∀ (l : List Req) (n : Nat), cntAll (l.take n) ≤ cntAll l
  | [], n => by simp [cntAll]
  | y :: r, 0 => by simp [cntAll]
  | y :: r, n + 1 => by
    have := cntAll_take r n
    simp only [List.take_succ_cons, cntAll]
    omega

mutual
/-- so many replies; thrice -/
def cntR : Rep → Nat
  | .mk _ _ _ _ _ _ _ p => 3 + cntRs p
def cntRs : List Rep → Nat
  | [] => 0
  | x :: r => cntR x + cntRs r
end
mutual
def TinyR : Rep → Prop
  | .mk _ _ _ _ _ h e p => h.length ≤ 1000000000 ∧ e.length ≤ 1000000000 ∧ p.length ≤ 1000000000 ∧ TinyRs p
def TinyRs : List Rep → Prop
  | [] => True
  | x :: r => TinyR x ∧ TinyRs r
end
theorem TinyRs.all : ∀ {l : List Rep}, TinyRs l → ∀ x ∈ l, TinyR x
  | y :: r, h, x, hx => by
    rw [TinyRs] at h
    rcases List.mem_cons.1 hx with rfl | hx
    · exact h.1
    · exact TinyRs.all h.2 x hx
theorem TinyR.parts {R : Rep} (h : TinyR R) : R.hashes.length ≤ 1000000000 ∧ R.entries.length ≤ 1000000000 ∧ R.replies.length ≤ 1000000000 ∧ ∀ x ∈ R.replies, TinyR x := by
  cases R
  rw [TinyR] at h
  exact ⟨h.1, h.2.1, h.2.2.1, h.2.2.2.all⟩
theorem Rep.lt_of_mem' {R x : Rep} (h : x ∈ R.replies) : SizeOf.sizeOf x < SizeOf.sizeOf R := by
  cases R with
  | mk z s a b r hh e p =>
    have := List.sizeOf_lt_of_mem h
    simp only [Rep.replies] at this
    simp only [Rep.mk.sizeOf_spec]
    omega
theorem cntR_eq (R : Rep) : cntR R = 3 + cntRs R.replies := by
  cases R
  rw [cntR]
  rfl
theorem cntRs_snoc : ∀ (l : List Rep) {n : Nat} {x : Rep}, l[n]? = some x → cntRs (l.take (n + 1)) = cntRs (l.take n) + cntR x
  | [], n, x, h => by simp at h
  | y :: r, 0, x, h => by
    simp at h
    subst h
    simp [cntRs]
  | y :: r, n + 1, x, h => by
    have := cntRs_snoc r (n := n) (x := x) (by simpa using h)
    simp only [List.take_succ_cons, cntRs, this]
    omega
theorem cntRs_take : ∀ (l : List Rep) (n : Nat), cntRs (l.take n) ≤ cntRs l
  | [], n => by simp [cntRs]
  | y :: r, 0 => by simp [cntRs]
  | y :: r, n + 1 => by
    have := cntRs_take r n
    simp only [List.take_succ_cons, cntRs]
    omega
end Go.Proofs.YtpccaodkgboefaaGreatDoor
