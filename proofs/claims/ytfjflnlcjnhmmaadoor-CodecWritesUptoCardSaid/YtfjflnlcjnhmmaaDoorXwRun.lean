/-
  One step of the two writers, under way: what holds between its calls.
-/
import Derived.Test.YtfjflnlcjnhmmaaDoorXwAs
import Derived.Test.YtfjflnlcjnhmmaaDoorCxTold
import Derived.Test.YtfjflnlcjnhmmaaDoorCxWriterB
namespace Go.Proofs.YtfjflnlcjnhmmaaDoor
open Go.RowKit

/-- the step began in w0 with the Writer at a, the document's at c, the step's own fields ov (both boxed at w0's end); now it is w -/
structure Run (S0 : Nat → Prop) (a c : Nat) (w0 : World) (ov : Array Value) (S : Nat → Prop) (w : World) (A X : List UInt8 × Int) : Prop where
  wr : WRep S w a A
  xr : XRep w c X
  old : c < w0.heap.size
  notc : ¬ S c
  grows : Grows S0 S w0 w
  keeps : Keeps (fun k => S0 k ∨ k = c) w0 w
  box1 : w.heap[w0.heap.size]? = some (.cells #[.pointer (some ⟨a, 0, none⟩), .pointer (some ⟨c, 0, none⟩)] 40 (0, 0))
  box2 : w.heap[w0.heap.size + 1]? = some (.cells ov 43 (0, 0))
  not1 : ¬ S w0.heap.size
  not2 : ¬ S (w0.heap.size + 1)
  laid : Laid w

namespace Run
variable {S0 : Nat → Prop} {a c : Nat} {w0 : World} {ov : Array Value} {S : Nat → Prop} {w : World} {A X : List UInt8 × Int}

theorem start (hw : WRep S0 w0 a A) (hx : XRep w0 c X) (hS : ¬ S0 c) (hl : Laid w0) (ov : Array Value) :
    Run S0 a c w0 ov S0 ((w0.alloc (.cells #[.pointer (some ⟨a, 0, none⟩), .pointer (some ⟨c, 0, none⟩)] 40)).alloc (.cells ov 43)) A X := by
  have hf : Fresh w0 ((w0.alloc (.cells #[.pointer (some ⟨a, 0, none⟩), .pointer (some ⟨c, 0, none⟩)] 40)).alloc (.cells ov 43)) := ((Keeps.refl _ _).alloc _).alloc _
  have hlt := hw.2.1
  refine ⟨hw.keeps hf (fun _ _ h => h), hx.keeps hf (fun h => h), hx.cells.2.2.2.2, hS, fun k h => .inl h, hf.mono fun _ _ h => h.elim, ?_, ?_, fun h => ?_, fun h => ?_, hl.keeps hf (fun h => h)⟩
  · rw [Below.heap_alloc _ _ _ (by simp)]; exact heap_alloc_new w0 _
  · have := heap_alloc_new (w0.alloc (.cells #[.pointer (some ⟨a, 0, none⟩), .pointer (some ⟨c, 0, none⟩)] 40)) (.cells ov 43)
    simpa using this
  · have := (hlt _ h).2; omega
  · have := (hlt _ h).2; omega

theorem base (h : Run S0 a c w0 ov S w A X) : w0.heap.size + 1 < w.heap.size := lt_of_block h.box2
/-- nothing of the object's own, nor what was there, is at or behind a place that came later -/
theorem pstep {S' : Nat → Prop} {w' : World} {A' : List UInt8 × Int} (h : Run S0 a c w0 ov S w A X) (hg : Grows S S' w w') (hk : Keeps S w w') (hr : WRep S' w' a A') : Run S0 a c w0 ov S' w' A' X := by
  have hb := h.base
  refine ⟨hr, h.xr.keeps hk h.notc, h.old, fun hc => ?_, fun k hk' => ?_, h.keeps.trans' hk fun i hi hs => ?_, hk.at_ h.box1 h.not1, hk.at_ h.box2 h.not2, fun hc => ?_, fun hc => ?_, h.laid.keeps hk fun hs => ?_⟩
  · rcases hg _ hc with h1 | h1
    · exact h.notc h1
    · have := h.old; omega
  · have := hk.size
    have := h.keeps.size
    rcases hg k hk' with h1 | h1
    · rcases h.grows k h1 with h2 | h2
      · exact .inl h2
      · exact .inr ⟨h2.1, by omega⟩
    · exact .inr ⟨by omega, h1.2⟩
  · rcases h.grows i hs with h2 | h2
    · exact .inl h2
    · omega
  · rcases hg _ hc with h1 | h1
    · exact h.not1 h1
    · omega
  · rcases hg _ hc with h1 | h1
    · exact h.not2 h1
    · omega
  · have := (h.wr.2.1 _ hs).1
    omega
theorem xstep {w' : World} {X' : List UInt8 × Int} (h : Run S0 a c w0 ov S w A X) (hk : Keeps (fun k => k = c) w w') (hr : XRep w' c X') : Run S0 a c w0 ov S w' A X' := by
  have hb := h.base
  have ho := h.old
  refine ⟨h.wr.keeps hk fun k hs he => h.notc (he ▸ hs), hr, h.old, h.notc, fun k hk' => ?_, h.keeps.trans' hk fun i hi hs => .inr hs, hk.at_ h.box1 (by omega), hk.at_ h.box2 (by omega), h.not1, h.not2, h.laid.keeps hk fun hs => ?_⟩
  · rcases h.grows k hk' with h2 | h2
    · exact .inl h2
    · exact .inr ⟨h2.1, Nat.lt_of_lt_of_le h2.2 hk.size⟩
  · have := h.xr.1
    change _ = c at hs
    omega
theorem other {w' : World} {T : Nat → Prop} (h : Run S0 a c w0 ov S w A X) (hk : Keeps T w w') (hT : ∀ k, T k → w0.heap.size + 2 ≤ k ∧ ¬ S k) : Run S0 a c w0 ov S w' A X := by
  have hb := h.base
  have ho := h.old
  refine ⟨h.wr.keeps hk fun k hs ht => (hT k ht).2 hs, h.xr.keeps hk fun ht => ?_, h.old, h.notc, fun k hk' => ?_, h.keeps.trans' hk fun i hi hs => ?_, hk.at_ h.box1 fun ht => ?_, hk.at_ h.box2 fun ht => ?_, h.not1, h.not2, h.laid.keeps hk fun ht => ?_⟩
  · have := (hT _ ht).1; omega
  · rcases h.grows k hk' with h2 | h2
    · exact .inl h2
    · exact .inr ⟨h2.1, Nat.lt_of_lt_of_le h2.2 hk.size⟩
  · have := (hT _ hs).1; omega
  · have := (hT _ ht).1; omega
  · have := (hT _ ht).1; omega
  · have := (hT _ ht).1
    omega
theorem fresh {w' : World} (h : Run S0 a c w0 ov S w A X) (hk : Fresh w w') : Run S0 a c w0 ov S w' A X := h.other hk fun _ h => h.elim
theorem box1s (h : Run S0 a c w0 ov S w A X) : w.cell? ⟨w0.heap.size, 0, none⟩ = some (.pointer (some ⟨a, 0, none⟩)) ∧ w.cell? ⟨w0.heap.size, 1, none⟩ = some (.pointer (some ⟨c, 0, none⟩)) := by
  have c0 := cell_at h.box1 0
  have c1 := cell_at h.box1 1
  simp at c0 c1
  exact ⟨c0, c1⟩
theorem box2s {v0 v1 v2 v3 v4 v5 v6 v7 : Value} (h : Run S0 a c w0 #[v0, v1, v2, v3, v4, v5, v6, v7] S w A X) :
    w.cell? ⟨w0.heap.size + 1, 1, none⟩ = some v1 ∧ w.cell? ⟨w0.heap.size + 1, 2, none⟩ = some v2 ∧ w.cell? ⟨w0.heap.size + 1, 3, none⟩ = some v3 ∧ w.cell? ⟨w0.heap.size + 1, 4, none⟩ = some v4 ∧
    w.cell? ⟨w0.heap.size + 1, 5, none⟩ = some v5 ∧ w.cell? ⟨w0.heap.size + 1, 6, none⟩ = some v6 ∧ w.cell? ⟨w0.heap.size + 1, 7, none⟩ = some v7 := by
  have c1 := cell_at h.box2 1
  have c2 := cell_at h.box2 2
  have c3 := cell_at h.box2 3
  have c4 := cell_at h.box2 4
  have c5 := cell_at h.box2 5
  have c6 := cell_at h.box2 6
  have c7 := cell_at h.box2 7
  simp at c1 c2 c3 c4 c5 c6 c7
  exact ⟨c1, c2, c3, c4, c5, c6, c7⟩
end Run

/-- what a step leaves behind -/
def Stepped (S : Nat → Prop) (a c : Nat) (w w' : World) (A' X' : List UInt8 × Int) : Prop :=
  ∃ S', Grows S S' w w' ∧ Keeps (fun k => S k ∨ k = c) w w' ∧ WRep S' w' a A' ∧ XRep w' c X' ∧ ¬ S' c
theorem Run.stepped {S0 : Nat → Prop} {a c : Nat} {w0 : World} {ov : Array Value} {S : Nat → Prop} {w : World} {A X : List UInt8 × Int} (h : Run S0 a c w0 ov S w A X) : Stepped S0 a c w0 w A X := ⟨S, h.grows, h.keeps, h.wr, h.xr, h.notc⟩

/-- Done, of the program, as the document says it -/
theorem wdone2_any (S : Nat → Prop) (b : Nat) (st : List UInt8 × Int) (w : World) (hl : Laid w) (h : WRep S w b st) :
    Calls Tryd.prog 18 #[.pointer (some ⟨b, 0, none⟩)] w fun e w' => e = .returned (.tuple #[.string (str (wDone st).1), .int .i64 (wDone st).2]) ∧ Fresh w w' := wdone_any S b st w hl h
end Go.Proofs.YtfjflnlcjnhmmaaDoor
