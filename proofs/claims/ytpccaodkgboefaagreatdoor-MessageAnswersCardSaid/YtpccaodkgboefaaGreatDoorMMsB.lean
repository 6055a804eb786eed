/-
  Package message: the fields of a request that is no group, laid down.
  Package message: the fields of any request.
  Package message: the fields of a group; of any request.
-/
import Derived.Test.YtpccaodkgboefaaGreatDoorMsWhich
namespace Go.Proofs.YtpccaodkgboefaaGreatDoor
open Go.RowKit

theorem wNum_len (st : WSt) (n : Int) : (wNum st n).1.length ≤ st.1.length + 10 := by
  unfold wNum wRefuse
  split
  · simp
  · rename_i h
    have := digs_len10 (n := n.toNat) (by omega)
    simp only [List.length_append]
    omega
theorem wByte_len (st : WSt) (n : Int) : (wByte st n).1.length ≤ st.1.length + 1 := by
  unfold wByte wRefuse
  split
  · simp
  · simp
theorem mSize_len (st : WSt) (n : Int) : (mSize st n).1.length ≤ st.1.length + 10 := wNum_len _ _
/-- a Writer under way, a struct in a box beside it: S, w: where the call began -/
structure FSt (B : Nat → Prop) (S : Nat → Prop) (w : World) (b bx : Nat) (cs : Array Value) (S1 : Nat → Prop) (w1 : World) (st : WSt) : Prop where
  rep : WRep S1 w1 b st
  grows : Grows S S1 w w1
  keeps : Keeps S w w1
  box : w1.heap[bx]? = some (.cells cs 26 (0, 0))
  new : w.heap.size ≤ bx
  out : ¬ S1 bx
  low : ∀ q, S1 q → ¬ B q
theorem FSt.step {B : Nat → Prop} {b bx : Nat} {S S1 : Nat → Prop} {w w1 w2 : World} {cs : Array Value} {st st2 : WSt} (h : FSt B S w b bx cs S1 w1 st) (hB : ∀ q, B q → q < w.heap.size) (hA : Acts S1 w1 w2 fun S' => WRep S' w2 b st2) : ∃ S2, FSt B S w b bx cs S2 w2 st2 := by
  obtain ⟨S2, hg, hk, hr⟩ := hA
  have hs := h.keeps.size
  have hbl := lt_of_block h.box
  obtain ⟨S3, g1, g2, g3⟩ := Acts.after (R := fun S' => S' = S2) h.grows h.keeps ⟨S2, hg, hk, rfl⟩
  subst g3
  refine ⟨S3, hr, g1, g2, hk.at_ h.box h.out, h.new, fun hx => ?_, fun q hq => ?_⟩
  · rcases hg bx hx with h1 | h1
    · exact h.out h1
    · omega
  · rcases hg q hq with h1 | h1
    · exact h.low q h1
    · exact fun hb => by have := hB q hb; omega
theorem FSt.start {B : Nat → Prop} {b : Nat} {S : Nat → Prop} {w : World} (cs : Array Value) {st : WSt} (h : WRep S w b st) (hS : ∀ q, S q → ¬ B q) : FSt B S w b w.heap.size cs S (w.alloc (.cells cs 26)) st :=
  ⟨h.keeps ((Keeps.refl (fun _ => False) w).alloc _) (fun _ _ h => h), fun _ h => .inl h, (Keeps.refl _ _).alloc _, heap_alloc_new w _, Nat.le_refl _, fun h' => by have := (h.2.1 _ h').2; omega, hS⟩
theorem FSt.acts {B : Nat → Prop} {b bx : Nat} {S S1 : Nat → Prop} {w w1 : World} {cs : Array Value} {st : WSt} (h : FSt B S w b bx cs S1 w1 st) : Acts S w w1 fun S' => WRep S' w1 b st := ⟨S1, h.grows, h.keeps, h.rep⟩
theorem FSt.cells {B : Nat → Prop} {b bx : Nat} {S S1 : Nat → Prop} {w w1 : World} {c0 c1 c2 c3 c4 c5 c6 : Value} {st : WSt} (h : FSt B S w b bx #[c0, c1, c2, c3, c4, c5, c6] S1 w1 st) :
    w1.cell? ⟨bx, 0, none⟩ = some c0 ∧ w1.cell? ⟨bx, 1, none⟩ = some c1 ∧ w1.cell? ⟨bx, 2, none⟩ = some c2 ∧ w1.cell? ⟨bx, 3, none⟩ = some c3 ∧ w1.cell? ⟨bx, 4, none⟩ = some c4 ∧ w1.cell? ⟨bx, 5, none⟩ = some c5 ∧ w1.cell? ⟨bx, 6, none⟩ = some c6 :=
  ⟨cell_at h.box 0, cell_at h.box 1, cell_at h.box 2, cell_at h.box 3, cell_at h.box 4, cell_at h.box 5, cell_at h.box 6⟩
/-- so many bytes at most -/
def wtF (R : Req) : Nat := 80 + 10 * R.list.length + bulk R.entries + R.entries.length

set_option maxRecDepth 100000 in
set_option maxHeartbeats 1000000 in
theorem fields_3 (B : Nat → Prop) (S : Nat → Prop) (b : Nat) (st : WSt) (R : Req) (v : Value) (w : World) (h : WRep S w b st) (hv : ReqAt B w R v) (hB : ∀ q, B q → q < w.heap.size) (hS : ∀ q, S q → ¬ B q) (hk : R.kind = 3) (hlen : st.1.length + wtF R < 70368744177664) :
    Calls Tryz.prog 31 #[.pointer (some ⟨b, 0, none⟩), v] w fun e w' => e = .returned (.tuple #[]) ∧ Acts S w w' fun S' => WRep S' w' b (fieldsFlat st R) := by
  have hM : fieldsFlat st R = mSize st R.size := by
    unfold fieldsFlat
    rw [hk]
    simp
  unfold wtF at hlen
  rw [hM]
  obtain ⟨lv, ev, ao, cap, rfl, ⟨hl1, hl2⟩, -, -⟩ := hv.parts
  rw [hk]
  have F := FSt.start #[.int .i64 3, .int .i64 R.a, .int .i64 R.b, .int .i64 R.size, lv, ev, .slice ao R.asks.length cap] h hS
  have HL := hid (And.intro hl1 (And.intro hl2 hS))
  clear hv hl1 hl2 hM hk h hS
  have C0 := F.cells
  obtain ⟨x0, x1, x2, x3, x4, x5, x6⟩ := C0
  go_enter Tryz.func31, Tryz.ntmps31
  go_wp2_with fail
  refine (msize_any _ b _ R.size _ F.rep (by omega)).mono ?_
  rintro e w1 ⟨rfl, hA0⟩
  obtain ⟨S1, F1⟩ := F.step hB hA0
  clear x0 x1 x2 x3 x4 x5 x6 hA0
  go_wp2
  go_end0
  exact ⟨rfl, F1.acts⟩

set_option maxRecDepth 100000 in
set_option maxHeartbeats 1000000 in
theorem fields_8 (B : Nat → Prop) (S : Nat → Prop) (b : Nat) (st : WSt) (R : Req) (v : Value) (w : World) (h : WRep S w b st) (hv : ReqAt B w R v) (hB : ∀ q, B q → q < w.heap.size) (hS : ∀ q, S q → ¬ B q) (hk : R.kind = 8) (hlen : st.1.length + wtF R < 70368744177664) :
    Calls Tryz.prog 31 #[.pointer (some ⟨b, 0, none⟩), v] w fun e w' => e = .returned (.tuple #[]) ∧ Acts S w w' fun S' => WRep S' w' b (fieldsFlat st R) := by
  have hM : fieldsFlat st R = mSize (mSize (mSize st R.a) R.b) R.size := by
    unfold fieldsFlat
    rw [hk]
    simp
  unfold wtF at hlen
  rw [hM]
  obtain ⟨lv, ev, ao, cap, rfl, ⟨hl1, hl2⟩, -, -⟩ := hv.parts
  rw [hk]
  have F := FSt.start #[.int .i64 8, .int .i64 R.a, .int .i64 R.b, .int .i64 R.size, lv, ev, .slice ao R.asks.length cap] h hS
  have HL := hid (And.intro hl1 (And.intro hl2 hS))
  clear hv hl1 hl2 hM hk h hS
  have C0 := F.cells
  obtain ⟨x0, x1, x2, x3, x4, x5, x6⟩ := C0
  go_enter Tryz.func31, Tryz.ntmps31
  go_wp2_with fail
  refine (msize_any _ b _ R.a _ F.rep (by omega)).mono ?_
  rintro e w1 ⟨rfl, hA0⟩
  obtain ⟨S1, F1⟩ := F.step hB hA0
  clear x0 x1 x2 x3 x4 x5 x6 hA0
  have C1 := F1.cells
  obtain ⟨x0, x1, x2, x3, x4, x5, x6⟩ := C1
  go_wp2_with fail
  refine (msize_any _ b _ R.b _ F1.rep (by have := mSize_len st R.a; omega)).mono ?_
  rintro e w2 ⟨rfl, hA1⟩
  obtain ⟨S2, F2⟩ := F1.step hB hA1
  clear x0 x1 x2 x3 x4 x5 x6 hA1
  have C2 := F2.cells
  obtain ⟨x0, x1, x2, x3, x4, x5, x6⟩ := C2
  go_wp2_with fail
  refine (msize_any _ b _ R.size _ F2.rep (by have := mSize_len st R.a; have := mSize_len (mSize st R.a) R.b; omega)).mono ?_
  rintro e w3 ⟨rfl, hA2⟩
  obtain ⟨S3, F3⟩ := F2.step hB hA2
  clear x0 x1 x2 x3 x4 x5 x6 hA2
  go_wp2
  go_end0
  exact ⟨rfl, F3.acts⟩

set_option maxRecDepth 100000 in
set_option maxHeartbeats 1000000 in
theorem fields_9 (B : Nat → Prop) (S : Nat → Prop) (b : Nat) (st : WSt) (R : Req) (v : Value) (w : World) (h : WRep S w b st) (hv : ReqAt B w R v) (hB : ∀ q, B q → q < w.heap.size) (hS : ∀ q, S q → ¬ B q) (hk : R.kind = 9) (hlen : st.1.length + wtF R < 70368744177664) :
    Calls Tryz.prog 31 #[.pointer (some ⟨b, 0, none⟩), v] w fun e w' => e = .returned (.tuple #[]) ∧ Acts S w w' fun S' => WRep S' w' b (fieldsFlat st R) := by
  have hM : fieldsFlat st R = mSize (mSize (mSize st R.a) R.b) R.size := by
    unfold fieldsFlat
    rw [hk]
    simp
  unfold wtF at hlen
  rw [hM]
  obtain ⟨lv, ev, ao, cap, rfl, ⟨hl1, hl2⟩, -, -⟩ := hv.parts
  rw [hk]
  have F := FSt.start #[.int .i64 9, .int .i64 R.a, .int .i64 R.b, .int .i64 R.size, lv, ev, .slice ao R.asks.length cap] h hS
  have HL := hid (And.intro hl1 (And.intro hl2 hS))
  clear hv hl1 hl2 hM hk h hS
  have C0 := F.cells
  obtain ⟨x0, x1, x2, x3, x4, x5, x6⟩ := C0
  go_enter Tryz.func31, Tryz.ntmps31
  go_wp2_with fail
  refine (msize_any _ b _ R.a _ F.rep (by omega)).mono ?_
  rintro e w1 ⟨rfl, hA0⟩
  obtain ⟨S1, F1⟩ := F.step hB hA0
  clear x0 x1 x2 x3 x4 x5 x6 hA0
  have C1 := F1.cells
  obtain ⟨x0, x1, x2, x3, x4, x5, x6⟩ := C1
  go_wp2_with fail
  refine (msize_any _ b _ R.b _ F1.rep (by have := mSize_len st R.a; omega)).mono ?_
  rintro e w2 ⟨rfl, hA1⟩
  obtain ⟨S2, F2⟩ := F1.step hB hA1
  clear x0 x1 x2 x3 x4 x5 x6 hA1
  have C2 := F2.cells
  obtain ⟨x0, x1, x2, x3, x4, x5, x6⟩ := C2
  go_wp2_with fail
  refine (msize_any _ b _ R.size _ F2.rep (by have := mSize_len st R.a; have := mSize_len (mSize st R.a) R.b; omega)).mono ?_
  rintro e w3 ⟨rfl, hA2⟩
  obtain ⟨S3, F3⟩ := F2.step hB hA2
  clear x0 x1 x2 x3 x4 x5 x6 hA2
  go_wp2
  go_end0
  exact ⟨rfl, F3.acts⟩

set_option maxRecDepth 100000 in
set_option maxHeartbeats 1000000 in
theorem fields_4 (B : Nat → Prop) (S : Nat → Prop) (b : Nat) (st : WSt) (R : Req) (v : Value) (w : World) (h : WRep S w b st) (hv : ReqAt B w R v) (hB : ∀ q, B q → q < w.heap.size) (hS : ∀ q, S q → ¬ B q) (hk : R.kind = 4) (hlen : st.1.length + wtF R < 70368744177664) :
    Calls Tryz.prog 31 #[.pointer (some ⟨b, 0, none⟩), v] w fun e w' => e = .returned (.tuple #[]) ∧ Acts S w w' fun S' => WRep S' w' b (fieldsFlat st R) := by
  have hM : fieldsFlat st R = mSize (mSize st R.a) R.size := by
    unfold fieldsFlat
    rw [hk]
    simp
  unfold wtF at hlen
  rw [hM]
  obtain ⟨lv, ev, ao, cap, rfl, ⟨hl1, hl2⟩, -, -⟩ := hv.parts
  rw [hk]
  have F := FSt.start #[.int .i64 4, .int .i64 R.a, .int .i64 R.b, .int .i64 R.size, lv, ev, .slice ao R.asks.length cap] h hS
  have HL := hid (And.intro hl1 (And.intro hl2 hS))
  clear hv hl1 hl2 hM hk h hS
  have C0 := F.cells
  obtain ⟨x0, x1, x2, x3, x4, x5, x6⟩ := C0
  go_enter Tryz.func31, Tryz.ntmps31
  go_wp2_with fail
  refine (msize_any _ b _ R.a _ F.rep (by omega)).mono ?_
  rintro e w1 ⟨rfl, hA0⟩
  obtain ⟨S1, F1⟩ := F.step hB hA0
  clear x0 x1 x2 x3 x4 x5 x6 hA0
  have C1 := F1.cells
  obtain ⟨x0, x1, x2, x3, x4, x5, x6⟩ := C1
  go_wp2_with fail
  refine (msize_any _ b _ R.size _ F1.rep (by have := mSize_len st R.a; omega)).mono ?_
  rintro e w2 ⟨rfl, hA1⟩
  obtain ⟨S2, F2⟩ := F1.step hB hA1
  clear x0 x1 x2 x3 x4 x5 x6 hA1
  go_wp2
  go_end0
  exact ⟨rfl, F2.acts⟩

set_option maxRecDepth 100000 in
set_option maxHeartbeats 1000000 in
theorem fields_5 (B : Nat → Prop) (S : Nat → Prop) (b : Nat) (st : WSt) (R : Req) (v : Value) (w : World) (h : WRep S w b st) (hv : ReqAt B w R v) (hB : ∀ q, B q → q < w.heap.size) (hS : ∀ q, S q → ¬ B q) (hk : R.kind = 5) (hlen : st.1.length + wtF R < 70368744177664) :
    Calls Tryz.prog 31 #[.pointer (some ⟨b, 0, none⟩), v] w fun e w' => e = .returned (.tuple #[]) ∧ Acts S w w' fun S' => WRep S' w' b (fieldsFlat st R) := by
  have hM : fieldsFlat st R = mSize (mSize st R.a) R.size := by
    unfold fieldsFlat
    rw [hk]
    simp
  unfold wtF at hlen
  rw [hM]
  obtain ⟨lv, ev, ao, cap, rfl, ⟨hl1, hl2⟩, -, -⟩ := hv.parts
  rw [hk]
  have F := FSt.start #[.int .i64 5, .int .i64 R.a, .int .i64 R.b, .int .i64 R.size, lv, ev, .slice ao R.asks.length cap] h hS
  have HL := hid (And.intro hl1 (And.intro hl2 hS))
  clear hv hl1 hl2 hM hk h hS
  have C0 := F.cells
  obtain ⟨x0, x1, x2, x3, x4, x5, x6⟩ := C0
  go_enter Tryz.func31, Tryz.ntmps31
  go_wp2_with fail
  refine (msize_any _ b _ R.a _ F.rep (by omega)).mono ?_
  rintro e w1 ⟨rfl, hA0⟩
  obtain ⟨S1, F1⟩ := F.step hB hA0
  clear x0 x1 x2 x3 x4 x5 x6 hA0
  have C1 := F1.cells
  obtain ⟨x0, x1, x2, x3, x4, x5, x6⟩ := C1
  go_wp2_with fail
  refine (msize_any _ b _ R.size _ F1.rep (by have := mSize_len st R.a; omega)).mono ?_
  rintro e w2 ⟨rfl, hA1⟩
  obtain ⟨S2, F2⟩ := F1.step hB hA1
  clear x0 x1 x2 x3 x4 x5 x6 hA1
  go_wp2
  go_end0
  exact ⟨rfl, F2.acts⟩

set_option maxRecDepth 100000 in
set_option maxHeartbeats 1000000 in
theorem fields_10 (B : Nat → Prop) (S : Nat → Prop) (b : Nat) (st : WSt) (R : Req) (v : Value) (w : World) (h : WRep S w b st) (hv : ReqAt B w R v) (hB : ∀ q, B q → q < w.heap.size) (hS : ∀ q, S q → ¬ B q) (hk : R.kind = 10) (hlen : st.1.length + wtF R < 70368744177664) :
    Calls Tryz.prog 31 #[.pointer (some ⟨b, 0, none⟩), v] w fun e w' => e = .returned (.tuple #[]) ∧ Acts S w w' fun S' => WRep S' w' b (fieldsFlat st R) := by
  have hM : fieldsFlat st R = mSize st R.a := by
    unfold fieldsFlat
    rw [hk]
    simp
  unfold wtF at hlen
  rw [hM]
  obtain ⟨lv, ev, ao, cap, rfl, ⟨hl1, hl2⟩, -, -⟩ := hv.parts
  rw [hk]
  have F := FSt.start #[.int .i64 10, .int .i64 R.a, .int .i64 R.b, .int .i64 R.size, lv, ev, .slice ao R.asks.length cap] h hS
  have HL := hid (And.intro hl1 (And.intro hl2 hS))
  clear hv hl1 hl2 hM hk h hS
  have C0 := F.cells
  obtain ⟨x0, x1, x2, x3, x4, x5, x6⟩ := C0
  go_enter Tryz.func31, Tryz.ntmps31
  go_wp2_with fail
  refine (msize_any _ b _ R.a _ F.rep (by omega)).mono ?_
  rintro e w1 ⟨rfl, hA0⟩
  obtain ⟨S1, F1⟩ := F.step hB hA0
  clear x0 x1 x2 x3 x4 x5 x6 hA0
  go_wp2
  go_end0
  exact ⟨rfl, F1.acts⟩

set_option maxRecDepth 100000 in
set_option maxHeartbeats 1000000 in
theorem fields_11 (B : Nat → Prop) (S : Nat → Prop) (b : Nat) (st : WSt) (R : Req) (v : Value) (w : World) (h : WRep S w b st) (hv : ReqAt B w R v) (hB : ∀ q, B q → q < w.heap.size) (hS : ∀ q, S q → ¬ B q) (hk : R.kind = 11) (hlen : st.1.length + wtF R < 70368744177664) :
    Calls Tryz.prog 31 #[.pointer (some ⟨b, 0, none⟩), v] w fun e w' => e = .returned (.tuple #[]) ∧ Acts S w w' fun S' => WRep S' w' b (fieldsFlat st R) := by
  have hM : fieldsFlat st R = mSize st R.a := by
    unfold fieldsFlat
    rw [hk]
    simp
  unfold wtF at hlen
  rw [hM]
  obtain ⟨lv, ev, ao, cap, rfl, ⟨hl1, hl2⟩, -, -⟩ := hv.parts
  rw [hk]
  have F := FSt.start #[.int .i64 11, .int .i64 R.a, .int .i64 R.b, .int .i64 R.size, lv, ev, .slice ao R.asks.length cap] h hS
  have HL := hid (And.intro hl1 (And.intro hl2 hS))
  clear hv hl1 hl2 hM hk h hS
  have C0 := F.cells
  obtain ⟨x0, x1, x2, x3, x4, x5, x6⟩ := C0
  go_enter Tryz.func31, Tryz.ntmps31
  go_wp2_with fail
  refine (msize_any _ b _ R.a _ F.rep (by omega)).mono ?_
  rintro e w1 ⟨rfl, hA0⟩
  obtain ⟨S1, F1⟩ := F.step hB hA0
  clear x0 x1 x2 x3 x4 x5 x6 hA0
  go_wp2
  go_end0
  exact ⟨rfl, F1.acts⟩

set_option maxRecDepth 100000 in
set_option maxHeartbeats 1000000 in
theorem fields_6 (B : Nat → Prop) (S : Nat → Prop) (b : Nat) (st : WSt) (R : Req) (v : Value) (w : World) (h : WRep S w b st) (hv : ReqAt B w R v) (hB : ∀ q, B q → q < w.heap.size) (hS : ∀ q, S q → ¬ B q) (hk : R.kind = 6) (hlen : st.1.length + wtF R < 70368744177664) :
    Calls Tryz.prog 31 #[.pointer (some ⟨b, 0, none⟩), v] w fun e w' => e = .returned (.tuple #[]) ∧ Acts S w w' fun S' => WRep S' w' b (fieldsFlat st R) := by
  have hM : fieldsFlat st R = mRising (mSize st R.size) R.list 256 := by
    unfold fieldsFlat
    rw [hk]
    simp
  unfold wtF at hlen
  rw [hM]
  obtain ⟨lv, ev, ao, cap, rfl, ⟨hl1, hl2⟩, -, -⟩ := hv.parts
  rw [hk]
  have F := FSt.start #[.int .i64 6, .int .i64 R.a, .int .i64 R.b, .int .i64 R.size, lv, ev, .slice ao R.asks.length cap] h hS
  have HL := hid (And.intro hl1 (And.intro hl2 hS))
  obtain ⟨aol, capl, rfl, -⟩ := hl1.ints_
  clear hv hl1 hl2 hM hk h hS
  have C0 := F.cells
  obtain ⟨x0, x1, x2, x3, x4, x5, x6⟩ := C0
  go_enter Tryz.func31, Tryz.ntmps31
  go_wp2_with fail
  refine (msize_any _ b _ R.size _ F.rep (by omega)).mono ?_
  rintro e w1 ⟨rfl, hA0⟩
  obtain ⟨S1, F1⟩ := F.step hB hA0
  clear x0 x1 x2 x3 x4 x5 x6 hA0
  have C1 := F1.cells
  obtain ⟨x0, x1, x2, x3, x4, x5, x6⟩ := C1
  go_wp2_with fail
  refine (mrising_any _ b _ _ R.list 256 _ F1.rep (HL.out.1.keeps_if F1.keeps (fun g hg hx hs => HL.out.2.2 g hs (HL.out.2.1 g hg (fun e => hx (by rw [e]; rfl))))) (fun g hg hx hs => F1.low g hs (HL.out.2.1 g hg hx)) (by omega) (by have := mSize_len st R.size; omega)).mono ?_
  rintro e w2 ⟨rfl, hA1⟩
  obtain ⟨S2, F2⟩ := F1.step hB hA1
  clear x0 x1 x2 x3 x4 x5 x6 hA1
  go_wp2
  go_end0
  exact ⟨rfl, F2.acts⟩

set_option maxRecDepth 100000 in
set_option maxHeartbeats 1000000 in
theorem fields_7 (B : Nat → Prop) (S : Nat → Prop) (b : Nat) (st : WSt) (R : Req) (v : Value) (w : World) (h : WRep S w b st) (hv : ReqAt B w R v) (hB : ∀ q, B q → q < w.heap.size) (hS : ∀ q, S q → ¬ B q) (hk : R.kind = 7) (hlen : st.1.length + wtF R < 70368744177664) :
    Calls Tryz.prog 31 #[.pointer (some ⟨b, 0, none⟩), v] w fun e w' => e = .returned (.tuple #[]) ∧ Acts S w w' fun S' => WRep S' w' b (fieldsFlat st R) := by
  have hM : fieldsFlat st R = mRising st R.list 64 := by
    unfold fieldsFlat
    rw [hk]
    simp
  unfold wtF at hlen
  rw [hM]
  obtain ⟨lv, ev, ao, cap, rfl, ⟨hl1, hl2⟩, -, -⟩ := hv.parts
  rw [hk]
  have F := FSt.start #[.int .i64 7, .int .i64 R.a, .int .i64 R.b, .int .i64 R.size, lv, ev, .slice ao R.asks.length cap] h hS
  have HL := hid (And.intro hl1 (And.intro hl2 hS))
  obtain ⟨aol, capl, rfl, -⟩ := hl1.ints_
  clear hv hl1 hl2 hM hk h hS
  have C0 := F.cells
  obtain ⟨x0, x1, x2, x3, x4, x5, x6⟩ := C0
  go_enter Tryz.func31, Tryz.ntmps31
  go_wp2_with fail
  refine (mrising_any _ b _ _ R.list 64 _ F.rep (HL.out.1.keeps_if F.keeps (fun g hg hx hs => HL.out.2.2 g hs (HL.out.2.1 g hg (fun e => hx (by rw [e]; rfl))))) (fun g hg hx hs => F.low g hs (HL.out.2.1 g hg hx)) (by omega) (by omega)).mono ?_
  rintro e w1 ⟨rfl, hA0⟩
  obtain ⟨S1, F1⟩ := F.step hB hA0
  clear x0 x1 x2 x3 x4 x5 x6 hA0
  go_wp2
  go_end0
  exact ⟨rfl, F1.acts⟩

end Go.Proofs.YtpccaodkgboefaaGreatDoor

namespace Go.Proofs.YtpccaodkgboefaaGreatDoor
open Go.RowKit

theorem wRising_len (st : WSt) (l : List Int) (hl : l.length ≤ 9223372036854775807) : (wRising st l).1.length ≤ st.1.length + 10 + 10 * l.length := by
  unfold wRising
  split
  · rename_i h
    have h1 := deltas_len l (-1) (by first | exact h | exact h.1 | exact h.2) (by omega)
    have h2 := digs_len10 hl
    simp only [List.length_append] at *
    omega
  · unfold wRefuse
    simp
    omega
theorem mRising_len (st : WSt) (l : List Int) (m : Int) (hl : l.length ≤ 9223372036854775807) : (mRising st l m).1.length ≤ st.1.length + 10 + 10 * l.length := by
  unfold mRising
  split
  · have := wNum_len st (-1)
    omega
  · exact wRising_len st l hl
theorem fieldsFlat_len {R : Req} (st : WSt) (h : inPart R.kind = true) (hl : R.list.length ≤ 9223372036854775807) : (fieldsFlat st R).1.length ≤ st.1.length + wtF R := by
  unfold inPart at h
  simp only [Bool.and_eq_true, decide_eq_true_eq] at h
  have hk : R.kind = 3 ∨ R.kind = 4 ∨ R.kind = 5 ∨ R.kind = 6 ∨ R.kind = 7 := by omega
  unfold wtF fieldsFlat
  rcases hk with hk | hk | hk | hk | hk <;> rw [hk] <;> simp
  · have := mSize_len st R.size; omega
  · have := mSize_len st R.a; have := mSize_len (mSize st R.a) R.size; omega
  · have := mSize_len st R.a; have := mSize_len (mSize st R.a) R.size; omega
  · have := mSize_len st R.size; have := mRising_len (mSize st R.size) R.list 256 hl; omega
  · have := mRising_len st R.list 64 hl; omega
def wtAll : List Req → Nat
  | [] => 0
  | x :: r => 1 + wtF x + wtAll r
/-- so many bytes at most, of any request -/
def wt (R : Req) : Nat := wtF R + 40 + wtAll R.asks

set_option maxRecDepth 100000 in
set_option maxHeartbeats 1000000 in
theorem fields_1 (B : Nat → Prop) (S : Nat → Prop) (b : Nat) (st : WSt) (R : Req) (v : Value) (w : World) (h : WRep S w b st) (hv : ReqAt B w R v) (hB : ∀ q, B q → q < w.heap.size) (hS : ∀ q, S q → ¬ B q) (hk : R.kind = 1) (hlen : st.1.length + wtF R < 70368744177664) :
    Calls Tryz.prog 31 #[.pointer (some ⟨b, 0, none⟩), v] w fun e w' => e = .returned (.tuple #[]) ∧ Acts S w w' fun S' => WRep S' w' b (fieldsFlat st R) := by
  unfold wtF at hlen
  obtain ⟨lv, ev, ao, cap, rfl, -, ⟨hl1, hl2⟩, -⟩ := hv.parts
  rw [hk]
  have F := FSt.start #[.int .i64 1, .int .i64 R.a, .int .i64 R.b, .int .i64 R.size, lv, ev, .slice ao R.asks.length cap] h hS
  have HL := hid (And.intro hl1 (And.intro hl2 hS))
  obtain ⟨aol, capl, rfl, -⟩ := hl1.texts
  by_cases h0 : R.entries.length = 0
  · have hM : fieldsFlat st R = wTexts (wNum st (-1)) R.entries 32 4096 := by
      unfold fieldsFlat
      rw [hk, if_pos rfl, if_pos h0]
    rw [hM]
    have h0b : ((R.entries.length : Int) == 0) = true := by rw [h0]; rfl
    have hl2' := wNum_len st (-1)
    clear hv hl1 hl2 hM hk h hS
    have C0 := F.cells
    obtain ⟨x0, x1, x2, x3, x4, x5, x6⟩ := C0
    rw [h0] at x5 F HL ⊢
    go_enter Tryz.func31, Tryz.ntmps31
    go_wp2_with fail
    refine (wnum_any _ b _ (-1) _ F.rep (by omega)).mono ?_
    rintro e w1 ⟨rfl, hA0⟩
    obtain ⟨S1, F1⟩ := F.step hB hA0
    clear x0 x1 x2 x3 x4 x5 x6 hA0
    have C1 := F1.cells
    obtain ⟨x0, x1, x2, x3, x4, x5, x6⟩ := C1
    go_wp2_with fail
    refine (wtexts_if _ b _ _ R.entries 32 4096 _ F1.rep (HL.out.1.keeps_if F1.keeps (fun g hg hx hs => HL.out.2.2 g hs (HL.out.2.1 g hg (fun e => hx (by rw [e]; rfl))))) (fun g hg hx hs => F1.low g hs (HL.out.2.1 g hg hx)) (by omega)).mono ?_
    rintro e w2 ⟨rfl, hA1⟩
    obtain ⟨S2, F2⟩ := F1.step hB hA1
    clear x0 x1 x2 x3 x4 x5 x6 hA1
    go_wp2
    go_end0
    exact ⟨rfl, F2.acts⟩
  · have hM : fieldsFlat st R = wTexts st R.entries 32 4096 := by
      unfold fieldsFlat
      rw [hk, if_pos rfl, if_neg h0]
    rw [hM]
    have h0b : ((R.entries.length : Int) == 0) = false := by rw [beq_eq_false_iff_ne]; omega
    have h0c : ¬ ((R.entries.length : Int) = 0) := by omega
    clear hv hl1 hl2 hM hk h hS
    have C0 := F.cells
    obtain ⟨x0, x1, x2, x3, x4, x5, x6⟩ := C0
    go_enter Tryz.func31, Tryz.ntmps31
    go_wp2_with fail
    refine (wtexts_if _ b _ _ R.entries 32 4096 _ F.rep (HL.out.1.keeps_if F.keeps (fun g hg hx hs => HL.out.2.2 g hs (HL.out.2.1 g hg (fun e => hx (by rw [e]; rfl))))) (fun g hg hx hs => F.low g hs (HL.out.2.1 g hg hx)) (by omega)).mono ?_
    rintro e w2 ⟨rfl, hA1⟩
    obtain ⟨S2, F2⟩ := F.step hB hA1
    clear x0 x1 x2 x3 x4 x5 x6 hA1
    go_wp2
    go_end0
    exact ⟨rfl, F2.acts⟩

set_option maxRecDepth 100000 in
set_option maxHeartbeats 1000000 in
theorem fields_none (B : Nat → Prop) (S : Nat → Prop) (b : Nat) (st : WSt) (R : Req) (v : Value) (w : World) (h : WRep S w b st) (hv : ReqAt B w R v) (_hB : ∀ q, B q → q < w.heap.size) (hS : ∀ q, S q → ¬ B q) (hk : R.kind < 1 ∨ R.kind = 2 ∨ 12 < R.kind) :
    Calls Tryz.prog 31 #[.pointer (some ⟨b, 0, none⟩), v] w fun e w' => e = .returned (.tuple #[]) ∧ Acts S w w' fun S' => WRep S' w' b (fieldsFlat st R) := by
  have hM : fieldsFlat st R = st := by
    unfold fieldsFlat
    repeat rw [if_neg (by omega)]
  rw [hM]
  obtain ⟨lv, ev, ao, cap, rfl, -, -, -⟩ := hv.parts
  have F := FSt.start #[.int .i64 R.kind, .int .i64 R.a, .int .i64 R.b, .int .i64 R.size, lv, ev, .slice ao R.asks.length cap] h hS
  obtain ⟨K, hK⟩ : ∃ K, R.kind = K := ⟨_, rfl⟩
  rw [hK] at hk F ⊢
  have h1 : ¬ K = 1 := by omega
  have h3 : ¬ K = 3 := by omega
  have h4 : ¬ K = 4 := by omega
  have h5 : ¬ K = 5 := by omega
  have h6 : ¬ K = 6 := by omega
  have h7 : ¬ K = 7 := by omega
  have h8 : ¬ K = 8 := by omega
  have h9 : ¬ K = 9 := by omega
  have h10 : ¬ K = 10 := by omega
  have h11 : ¬ K = 11 := by omega
  have h12 : ¬ K = 12 := by omega
  have C0 := F.cells
  obtain ⟨x0, x1, x2, x3, x4, x5, x6⟩ := C0
  clear hk hv hM h hK
  go_enter Tryz.func31, Tryz.ntmps31
  go_wp2_with fail
  go_end0
  exact ⟨rfl, F.acts⟩

/-- the fields of a request that is no group -/
theorem fieldsFlat_any (B : Nat → Prop) (S : Nat → Prop) (b : Nat) (st : WSt) (R : Req) (v : Value) (w : World) (h : WRep S w b st) (hv : ReqAt B w R v) (hB : ∀ q, B q → q < w.heap.size) (hS : ∀ q, S q → ¬ B q) (hk : R.kind ≠ 12) (hlen : st.1.length + wtF R < 70368744177664) :
    Calls Tryz.prog 31 #[.pointer (some ⟨b, 0, none⟩), v] w fun e w' => e = .returned (.tuple #[]) ∧ Acts S w w' fun S' => WRep S' w' b (fieldsFlat st R) := by
  by_cases h1 : R.kind = 1
  · exact fields_1 B S b st R v w h hv hB hS h1 hlen
  by_cases h3 : R.kind = 3
  · exact fields_3 B S b st R v w h hv hB hS h3 hlen
  by_cases h4 : R.kind = 4
  · exact fields_4 B S b st R v w h hv hB hS h4 hlen
  by_cases h5 : R.kind = 5
  · exact fields_5 B S b st R v w h hv hB hS h5 hlen
  by_cases h6 : R.kind = 6
  · exact fields_6 B S b st R v w h hv hB hS h6 hlen
  by_cases h7 : R.kind = 7
  · exact fields_7 B S b st R v w h hv hB hS h7 hlen
  by_cases h8 : R.kind = 8
  · exact fields_8 B S b st R v w h hv hB hS h8 hlen
  by_cases h9 : R.kind = 9
  · exact fields_9 B S b st R v w h hv hB hS h9 hlen
  by_cases h10 : R.kind = 10
  · exact fields_10 B S b st R v w h hv hB hS h10 hlen
  by_cases h11 : R.kind = 11
  · exact fields_11 B S b st R v w h hv hB hS h11 hlen
  exact fields_none B S b st R v w h hv hB hS (by omega)
end Go.Proofs.YtpccaodkgboefaaGreatDoor

namespace Go.Proofs.YtpccaodkgboefaaGreatDoor
open Go.RowKit

theorem partsOf_cons (st : WSt) (x : Req) (r : List Req) : partsOf st (x :: r) = if inPart x.kind = false then wNum st (-1) else partsOf (fieldsFlat (wByte st x.kind) x) r := rfl
theorem FSt.step2 {B : Nat → Prop} {b bx kb : Nat} {S S1 : Nat → Prop} {w w1 w2 : World} {cs ks : Array Value} {st st2 : WSt} (h : FSt B S w b bx cs S1 w1 st) (k : FSt B S w b kb ks S1 w1 st) (hB : ∀ q, B q → q < w.heap.size) (hA : Acts S1 w1 w2 fun S' => WRep S' w2 b st2) : ∃ S2, FSt B S w b bx cs S2 w2 st2 ∧ FSt B S w b kb ks S2 w2 st2 := by
  obtain ⟨S2, hg, hk, hr⟩ := hA
  have hs := h.keeps.size
  have hbl := lt_of_block h.box
  have hkl := lt_of_block k.box
  obtain ⟨S3, g1, g2, g3⟩ := Acts.after (R := fun S' => S' = S2) h.grows h.keeps ⟨S2, hg, hk, rfl⟩
  subst g3
  have hlow : ∀ q, S3 q → ¬ B q := fun q hq => by
    rcases hg q hq with h1 | h1
    · exact h.low q h1
    · exact fun hb => by have := hB q hb; omega
  refine ⟨S3, ⟨hr, g1, g2, hk.at_ h.box h.out, h.new, fun hx => ?_, hlow⟩, ⟨hr, g1, g2, hk.at_ k.box k.out, k.new, fun hx => ?_, hlow⟩⟩
  · rcases hg bx hx with h1 | h1
    · exact h.out h1
    · omega
  · rcases hg kb hx with h1 | h1
    · exact k.out h1
    · omega
theorem FSt.alloc {B : Nat → Prop} {b bx : Nat} {S S1 : Nat → Prop} {w w1 : World} {cs : Array Value} {st : WSt} (h : FSt B S w b bx cs S1 w1 st) (ks : Array Value) :
    FSt B S w b bx cs S1 (w1.alloc (.cells ks 26)) st ∧ FSt B S w b w1.heap.size ks S1 (w1.alloc (.cells ks 26)) st := by
  have f : Fresh w1 (w1.alloc (.cells ks 26)) := (Keeps.refl _ _).alloc _
  have hr := h.rep.keeps f (fun _ _ h => h)
  have hk := h.keeps.alloc (.cells ks 26)
  have hg : Grows S S1 w (w1.alloc (.cells ks 26)) := fun q hq => (h.grows q hq).imp id (fun h => ⟨h.1, by simp; omega⟩)
  exact ⟨⟨hr, hg, hk, f.at_ h.box (fun h => h), h.new, h.out, h.low⟩, ⟨hr, hg, hk, heap_alloc_new w1 _, h.keeps.size, fun h' => by have := (h.rep.2.1 _ h').2; omega, h.low⟩⟩

set_option maxRecDepth 100000 in
set_option maxHeartbeats 4000000 in
theorem fields_12 (B : Nat → Prop) (S : Nat → Prop) (b : Nat) (st : WSt) (R : Req) (v : Value) (w : World) (h : WRep S w b st) (hv : ReqAt B w R v) (hB : ∀ q, B q → q < w.heap.size) (hS : ∀ q, S q → ¬ B q) (hk : R.kind = 12) (hlen : st.1.length + wt R < 70368744177664) :
    Calls Tryz.prog 31 #[.pointer (some ⟨b, 0, none⟩), v] w fun e w' => e = .returned (.tuple #[]) ∧ Acts S w w' fun S' => WRep S' w' b (fieldsOf st R) := by
  unfold wt wtF at hlen
  obtain ⟨lv, ev, ao, cap, rfl, -, -, hreqs, hal⟩ := hv.parts
  rw [hk]
  have hM : fieldsOf st R = partsOf (wNum (if R.asks.length = 0 ∨ 64 < R.asks.length then wNum st (-1) else st) R.asks.length) R.asks := by
    unfold fieldsOf
    rw [if_pos hk]
  rw [hM]
  obtain ⟨A, hA⟩ : ∃ A, R.asks = A := ⟨_, rfl⟩
  rw [hA] at hreqs hal hlen ⊢
  have F := FSt.start #[.int .i64 12, .int .i64 R.a, .int .i64 R.b, .int .i64 R.size, lv, ev, .slice ao A.length cap] h hS
  have HRQ := hid hreqs
  have HS := hid hS
  have hni := inpart_any
  clear hM hk hA hv hreqs hS h
  by_cases h0 : A.length = 0
  · have hif : (if A.length = 0 ∨ 64 < A.length then wNum st (-1) else st) = wNum st (-1) := if_pos (by omega)
    have hl1 := wNum_len st (-1)
    rw [hif]
    clear hif
    obtain ⟨st2, hst2⟩ : ∃ st2, wNum (wNum st (-1)) (A.length : Int) = st2 := ⟨_, rfl⟩
    rw [hst2]
    have h0b : ((A.length : Int) == 0) = true := by rw [h0]; rfl
    have H0 := hid h0
    clear h0
    obtain ⟨x0, x1, x2, x3, x4, x5, x6⟩ := F.cells
    go_enter Tryz.func31, Tryz.ntmps31
    go_wp2_with fail
    refine (wnum_any _ b _ (-1) _ F.rep (by omega)).mono ?_
    rintro e w1 ⟨rfl, hA0⟩
    obtain ⟨S1, F1⟩ := F.step hB hA0
    clear x0 x1 x2 x3 x4 x5 x6 hA0
    obtain ⟨x0, x1, x2, x3, x4, x5, x6⟩ := F1.cells
    go_wp2_with fail
    refine (wnum_any _ b _ (A.length : Int) _ F1.rep (by omega)).mono ?_
    rintro e w2 ⟨rfl, hA1⟩
    obtain ⟨S2, F2⟩ := F1.step hB hA1
    clear x0 x1 x2 x3 x4 x5 x6 hA1
    have hl2 := wNum_len (wNum st (-1)) (A.length : Int)
    rw [hst2] at F2 hl2
    obtain ⟨x0, x1, x2, x3, x4, x5, x6⟩ := F2.cells
    clear hst2
    have hlen2 : st2.1.length + wtAll A + 40 < 70368744177664 := by omega
    clear hl2 hl1 h0b hlen
    go_wp2_with fail
    go_loopw [97] (fun i wr => ∃ (m : Nat) (Sr : Nat → Prop) (str : WSt), i = .int .i64 (m : Int) ∧ m ≤ A.length ∧ FSt B S w b w.heap.size #[.int .i64 12, .int .i64 R.a, .int .i64 R.b, .int .i64 R.size, lv, ev, .slice ao A.length cap] Sr wr str ∧ Hid (partsOf st2 A = partsOf str (A.drop m)) ∧ str.1.length + wtAll (A.drop m) + 40 < 70368744177664) (fun i _ => A.length - (intOf i).toNat)
    case atStart => exact ⟨0, S2, st2, rfl, by omega, F2, rfl, hlen2⟩
    case round =>
      obtain ⟨m, Sr, str, rfl, hm, Fr, HP, hlr⟩ := hrel
      clear x0 x1 x2 x3 x4 x5 x6
      by_cases hlt : m < A.length
      · obtain ⟨x, hx⟩ : ∃ x, A[m]? = some x := ⟨A[m], by simp⟩
        have hreq := (ReqsAt.keeps Fr.keeps HS.out A ao 0 HRQ.out).get hx
        obtain ⟨bb, off, c0, c1, c2, c3, c4, c5, c6, rfl, hb1, hb2, y0, y1, y2, y3, y4, y5, y6, hxa⟩ := hreq
        rw [Nat.zero_add] at y0 y1 y2 y3 y4 y5 y6
        obtain ⟨lx, ex, ax, capx, he, ⟨hl1, -⟩, ⟨he1, -⟩, -⟩ := hxa.parts
        obtain ⟨al, cl, rfl, -⟩ := hl1.ints_
        obtain ⟨ae, ce, rfl, -⟩ := he1.texts
        clear hl1 he1
        simp only [Value.agg.injEq, Array.mk.injEq, List.cons.injEq, and_true] at he
        obtain ⟨rfl, rfl, rfl, rfl, rfl, rfl, rfl⟩ := he
        have hPx := HP.out
        have hd : A.drop m = x :: A.drop (m + 1) := by
          obtain ⟨hm', rfl⟩ := List.getElem?_eq_some_iff.1 hx
          exact List.drop_eq_getElem_cons hm'
        rw [hd] at hPx hlr
        rw [partsOf_cons] at hPx
        unfold wtAll at hlr
        obtain ⟨Fk, G⟩ := Fr.alloc #[.int .i64 x.kind, .int .i64 x.a, .int .i64 x.b, .int .i64 x.size, (.slice al x.list.length cl), (.slice ae x.entries.length ce), .slice ax x.asks.length capx]
        have hxa4 := hxa.fresh (w' := wr.alloc (.cells #[.int .i64 x.kind, .int .i64 x.a, .int .i64 x.b, .int .i64 x.size, (.slice al x.list.length cl), (.slice ae x.entries.length ce), .slice ax x.asks.length capx] 26)) ((Keeps.refl _ _).alloc _)
        have HPX := hid hPx
        have HXA := hid hxa4
        obtain ⟨k0, k1, k2, k3, k4, k5, k6⟩ := G.cells
        clear hPx hxa hxa4 hd hx HP
        go_wp2_with fail
        refine (hni _ _).mono ?_
        rintro e _ ⟨rfl, rfl⟩
        cases hin : inPart x.kind with
        | false =>
          have hfin : partsOf st2 A = wNum str (-1) := by rw [HPX.out, if_pos hin]
          go_wp2_with fail
          refine (wnum_any _ b _ (-1) _ G.rep (by omega)).mono ?_
          rintro e w5 ⟨rfl, hA5⟩
          obtain ⟨S5, F5⟩ := Fk.step hB hA5
          go_wp2
          (try simp only [Exit.inBlock, Exit.then])
          refine bodyPost_ret (results_none rfl _ _ _) rfl ?_
          exact ⟨rfl, by rw [hfin]; exact F5.acts⟩
        | true =>
          have hk12 : x.kind ≠ 12 := fun h => by rw [h] at hin; exact absurd hin (by decide)
          have hP2 := HPX.out
          rw [if_neg (by rw [hin]; decide)] at hP2
          have HP2 := hid hP2
          have hfl := fieldsFlat_len (wByte str x.kind) hin (by unfold wtF at hlr; omega)
          have hbl := wByte_len str x.kind
          clear hP2 HPX
          go_wp2_with fail
          refine (wbyte_any _ b _ x.kind _ G.rep (by omega)).mono ?_
          rintro e w5 ⟨rfl, hA5⟩
          obtain ⟨S5, F5, G5⟩ := Fk.step2 G hB hA5
          have hxa5 : ReqAt B w5 x _ := ReqAt.keeps hA5.choose_spec.2.1 Fk.low x _ HXA.out
          have HXA5 := hid hxa5
          clear k0 k1 k2 k3 k4 k5 k6 hA5 hxa5 HXA
          obtain ⟨k0, k1, k2, k3, k4, k5, k6⟩ := G5.cells
          go_wp2_with fail
          refine (fieldsFlat_any B _ b _ x _ _ G5.rep HXA5.out (fun q hq => Nat.lt_of_lt_of_le (hB q hq) F5.keeps.size) G5.low hk12 (by omega)).mono ?_
          rintro e w6 ⟨rfl, hA6⟩
          obtain ⟨S6, F6⟩ := F5.step hB hA6
          clear k0 k1 k2 k3 k4 k5 k6 hA6 HXA5 G5 G Fk
          go_wp2
          go_roundw
          case rel => exact ⟨m + 1, S6, _, by go_num, by omega, F6, HP2, by omega⟩
          case measure => simp [intOf]; omega
      · obtain rfl : m = A.length := by omega
        have hfin : partsOf st2 A = str := by rw [HP.out, List.drop_length]; rfl
        go_wp2
        go_end0
        exact ⟨rfl, by rw [hfin]; exact Fr.acts⟩
  · by_cases hmany : 64 < A.length
    · have hif : (if A.length = 0 ∨ 64 < A.length then wNum st (-1) else st) = wNum st (-1) := if_pos (by omega)
      have hl1 := wNum_len st (-1)
      rw [hif]
      clear hif
      obtain ⟨st2, hst2⟩ : ∃ st2, wNum (wNum st (-1)) (A.length : Int) = st2 := ⟨_, rfl⟩
      rw [hst2]
      have h0b : ((A.length : Int) == 0) = false := by rw [beq_eq_false_iff_ne]; omega
      have h0c : ¬ ((A.length : Int) = 0) := by omega
      have h64 : (64 : Int) < (A.length : Int) := by omega
      obtain ⟨x0, x1, x2, x3, x4, x5, x6⟩ := F.cells
      go_enter Tryz.func31, Tryz.ntmps31
      go_wp2_with fail
      refine (wnum_any _ b _ (-1) _ F.rep (by omega)).mono ?_
      rintro e w1 ⟨rfl, hA0⟩
      obtain ⟨S1, F1⟩ := F.step hB hA0
      clear x0 x1 x2 x3 x4 x5 x6 hA0
      obtain ⟨x0, x1, x2, x3, x4, x5, x6⟩ := F1.cells
      go_wp2_with fail
      refine (wnum_any _ b _ (A.length : Int) _ F1.rep (by omega)).mono ?_
      rintro e w2 ⟨rfl, hA1⟩
      obtain ⟨S2, F2⟩ := F1.step hB hA1
      clear x0 x1 x2 x3 x4 x5 x6 hA1
      have hl2 := wNum_len (wNum st (-1)) (A.length : Int)
      rw [hst2] at F2 hl2
      obtain ⟨x0, x1, x2, x3, x4, x5, x6⟩ := F2.cells
      clear hst2
      have hlen2 : st2.1.length + wtAll A + 40 < 70368744177664 := by omega
      clear hl2 hl1 h0b h0c h64 hlen
      go_wp2_with fail
      go_loopw [97] (fun i wr => ∃ (m : Nat) (Sr : Nat → Prop) (str : WSt), i = .int .i64 (m : Int) ∧ m ≤ A.length ∧ FSt B S w b w.heap.size #[.int .i64 12, .int .i64 R.a, .int .i64 R.b, .int .i64 R.size, lv, ev, .slice ao A.length cap] Sr wr str ∧ Hid (partsOf st2 A = partsOf str (A.drop m)) ∧ str.1.length + wtAll (A.drop m) + 40 < 70368744177664) (fun i _ => A.length - (intOf i).toNat)
      case atStart => exact ⟨0, S2, st2, rfl, by omega, F2, rfl, hlen2⟩
      case round =>
        obtain ⟨m, Sr, str, rfl, hm, Fr, HP, hlr⟩ := hrel
        clear x0 x1 x2 x3 x4 x5 x6
        by_cases hlt : m < A.length
        · obtain ⟨x, hx⟩ : ∃ x, A[m]? = some x := ⟨A[m], by simp⟩
          have hreq := (ReqsAt.keeps Fr.keeps HS.out A ao 0 HRQ.out).get hx
          obtain ⟨bb, off, c0, c1, c2, c3, c4, c5, c6, rfl, hb1, hb2, y0, y1, y2, y3, y4, y5, y6, hxa⟩ := hreq
          rw [Nat.zero_add] at y0 y1 y2 y3 y4 y5 y6
          obtain ⟨lx, ex, ax, capx, he, ⟨hl1, -⟩, ⟨he1, -⟩, -⟩ := hxa.parts
          obtain ⟨al, cl, rfl, -⟩ := hl1.ints_
          obtain ⟨ae, ce, rfl, -⟩ := he1.texts
          clear hl1 he1
          simp only [Value.agg.injEq, Array.mk.injEq, List.cons.injEq, and_true] at he
          obtain ⟨rfl, rfl, rfl, rfl, rfl, rfl, rfl⟩ := he
          have hPx := HP.out
          have hd : A.drop m = x :: A.drop (m + 1) := by
            obtain ⟨hm', rfl⟩ := List.getElem?_eq_some_iff.1 hx
            exact List.drop_eq_getElem_cons hm'
          rw [hd] at hPx hlr
          rw [partsOf_cons] at hPx
          unfold wtAll at hlr
          obtain ⟨Fk, G⟩ := Fr.alloc #[.int .i64 x.kind, .int .i64 x.a, .int .i64 x.b, .int .i64 x.size, (.slice al x.list.length cl), (.slice ae x.entries.length ce), .slice ax x.asks.length capx]
          have hxa4 := hxa.fresh (w' := wr.alloc (.cells #[.int .i64 x.kind, .int .i64 x.a, .int .i64 x.b, .int .i64 x.size, (.slice al x.list.length cl), (.slice ae x.entries.length ce), .slice ax x.asks.length capx] 26)) ((Keeps.refl _ _).alloc _)
          have HPX := hid hPx
          have HXA := hid hxa4
          obtain ⟨k0, k1, k2, k3, k4, k5, k6⟩ := G.cells
          clear hPx hxa hxa4 hd hx HP
          go_wp2_with fail
          refine (hni _ _).mono ?_
          rintro e _ ⟨rfl, rfl⟩
          cases hin : inPart x.kind with
          | false =>
            have hfin : partsOf st2 A = wNum str (-1) := by rw [HPX.out, if_pos hin]
            go_wp2_with fail
            refine (wnum_any _ b _ (-1) _ G.rep (by omega)).mono ?_
            rintro e w5 ⟨rfl, hA5⟩
            obtain ⟨S5, F5⟩ := Fk.step hB hA5
            go_wp2
            (try simp only [Exit.inBlock, Exit.then])
            refine bodyPost_ret (results_none rfl _ _ _) rfl ?_
            exact ⟨rfl, by rw [hfin]; exact F5.acts⟩
          | true =>
            have hk12 : x.kind ≠ 12 := fun h => by rw [h] at hin; exact absurd hin (by decide)
            have hP2 := HPX.out
            rw [if_neg (by rw [hin]; decide)] at hP2
            have HP2 := hid hP2
            have hfl := fieldsFlat_len (wByte str x.kind) hin (by unfold wtF at hlr; omega)
            have hbl := wByte_len str x.kind
            clear hP2 HPX
            go_wp2_with fail
            refine (wbyte_any _ b _ x.kind _ G.rep (by omega)).mono ?_
            rintro e w5 ⟨rfl, hA5⟩
            obtain ⟨S5, F5, G5⟩ := Fk.step2 G hB hA5
            have hxa5 : ReqAt B w5 x _ := ReqAt.keeps hA5.choose_spec.2.1 Fk.low x _ HXA.out
            have HXA5 := hid hxa5
            clear k0 k1 k2 k3 k4 k5 k6 hA5 hxa5 HXA
            obtain ⟨k0, k1, k2, k3, k4, k5, k6⟩ := G5.cells
            go_wp2_with fail
            refine (fieldsFlat_any B _ b _ x _ _ G5.rep HXA5.out (fun q hq => Nat.lt_of_lt_of_le (hB q hq) F5.keeps.size) G5.low hk12 (by omega)).mono ?_
            rintro e w6 ⟨rfl, hA6⟩
            obtain ⟨S6, F6⟩ := F5.step hB hA6
            clear k0 k1 k2 k3 k4 k5 k6 hA6 HXA5 G5 G Fk
            go_wp2
            go_roundw
            case rel => exact ⟨m + 1, S6, _, by go_num, by omega, F6, HP2, by omega⟩
            case measure => simp [intOf]; omega
        · obtain rfl : m = A.length := by omega
          have hfin : partsOf st2 A = str := by rw [HP.out, List.drop_length]; rfl
          go_wp2
          go_end0
          exact ⟨rfl, by rw [hfin]; exact Fr.acts⟩
    · have hif : (if A.length = 0 ∨ 64 < A.length then wNum st (-1) else st) = st := if_neg (by omega)
      rw [hif]
      clear hif
      obtain ⟨st2, hst2⟩ : ∃ st2, wNum st (A.length : Int) = st2 := ⟨_, rfl⟩
      rw [hst2]
      have h0b : ((A.length : Int) == 0) = false := by rw [beq_eq_false_iff_ne]; omega
      have h0c : ¬ ((A.length : Int) = 0) := by omega
      have h64 : ¬ (64 : Int) < (A.length : Int) := by omega
      obtain ⟨x0, x1, x2, x3, x4, x5, x6⟩ := F.cells
      go_enter Tryz.func31, Tryz.ntmps31
      go_wp2_with fail
      refine (wnum_any _ b _ (A.length : Int) _ F.rep (by omega)).mono ?_
      rintro e w2 ⟨rfl, hA1⟩
      obtain ⟨S2, F2⟩ := F.step hB hA1
      clear x0 x1 x2 x3 x4 x5 x6 hA1
      have hl2 := wNum_len st (A.length : Int)
      rw [hst2] at F2 hl2
      obtain ⟨x0, x1, x2, x3, x4, x5, x6⟩ := F2.cells
      clear hst2
      have hlen2 : st2.1.length + wtAll A + 40 < 70368744177664 := by omega
      clear hl2 h0b h0c h64 hlen
      go_wp2_with fail
      go_loopw [97] (fun i wr => ∃ (m : Nat) (Sr : Nat → Prop) (str : WSt), i = .int .i64 (m : Int) ∧ m ≤ A.length ∧ FSt B S w b w.heap.size #[.int .i64 12, .int .i64 R.a, .int .i64 R.b, .int .i64 R.size, lv, ev, .slice ao A.length cap] Sr wr str ∧ Hid (partsOf st2 A = partsOf str (A.drop m)) ∧ str.1.length + wtAll (A.drop m) + 40 < 70368744177664) (fun i _ => A.length - (intOf i).toNat)
      case atStart => exact ⟨0, S2, st2, rfl, by omega, F2, rfl, hlen2⟩
      case round =>
        obtain ⟨m, Sr, str, rfl, hm, Fr, HP, hlr⟩ := hrel
        clear x0 x1 x2 x3 x4 x5 x6
        by_cases hlt : m < A.length
        · obtain ⟨x, hx⟩ : ∃ x, A[m]? = some x := ⟨A[m], by simp⟩
          have hreq := (ReqsAt.keeps Fr.keeps HS.out A ao 0 HRQ.out).get hx
          obtain ⟨bb, off, c0, c1, c2, c3, c4, c5, c6, rfl, hb1, hb2, y0, y1, y2, y3, y4, y5, y6, hxa⟩ := hreq
          rw [Nat.zero_add] at y0 y1 y2 y3 y4 y5 y6
          obtain ⟨lx, ex, ax, capx, he, ⟨hl1, -⟩, ⟨he1, -⟩, -⟩ := hxa.parts
          obtain ⟨al, cl, rfl, -⟩ := hl1.ints_
          obtain ⟨ae, ce, rfl, -⟩ := he1.texts
          clear hl1 he1
          simp only [Value.agg.injEq, Array.mk.injEq, List.cons.injEq, and_true] at he
          obtain ⟨rfl, rfl, rfl, rfl, rfl, rfl, rfl⟩ := he
          have hPx := HP.out
          have hd : A.drop m = x :: A.drop (m + 1) := by
            obtain ⟨hm', rfl⟩ := List.getElem?_eq_some_iff.1 hx
            exact List.drop_eq_getElem_cons hm'
          rw [hd] at hPx hlr
          rw [partsOf_cons] at hPx
          unfold wtAll at hlr
          obtain ⟨Fk, G⟩ := Fr.alloc #[.int .i64 x.kind, .int .i64 x.a, .int .i64 x.b, .int .i64 x.size, (.slice al x.list.length cl), (.slice ae x.entries.length ce), .slice ax x.asks.length capx]
          have hxa4 := hxa.fresh (w' := wr.alloc (.cells #[.int .i64 x.kind, .int .i64 x.a, .int .i64 x.b, .int .i64 x.size, (.slice al x.list.length cl), (.slice ae x.entries.length ce), .slice ax x.asks.length capx] 26)) ((Keeps.refl _ _).alloc _)
          have HPX := hid hPx
          have HXA := hid hxa4
          obtain ⟨k0, k1, k2, k3, k4, k5, k6⟩ := G.cells
          clear hPx hxa hxa4 hd hx HP
          go_wp2_with fail
          refine (hni _ _).mono ?_
          rintro e _ ⟨rfl, rfl⟩
          cases hin : inPart x.kind with
          | false =>
            have hfin : partsOf st2 A = wNum str (-1) := by rw [HPX.out, if_pos hin]
            go_wp2_with fail
            refine (wnum_any _ b _ (-1) _ G.rep (by omega)).mono ?_
            rintro e w5 ⟨rfl, hA5⟩
            obtain ⟨S5, F5⟩ := Fk.step hB hA5
            go_wp2
            (try simp only [Exit.inBlock, Exit.then])
            refine bodyPost_ret (results_none rfl _ _ _) rfl ?_
            exact ⟨rfl, by rw [hfin]; exact F5.acts⟩
          | true =>
            have hk12 : x.kind ≠ 12 := fun h => by rw [h] at hin; exact absurd hin (by decide)
            have hP2 := HPX.out
            rw [if_neg (by rw [hin]; decide)] at hP2
            have HP2 := hid hP2
            have hfl := fieldsFlat_len (wByte str x.kind) hin (by unfold wtF at hlr; omega)
            have hbl := wByte_len str x.kind
            clear hP2 HPX
            go_wp2_with fail
            refine (wbyte_any _ b _ x.kind _ G.rep (by omega)).mono ?_
            rintro e w5 ⟨rfl, hA5⟩
            obtain ⟨S5, F5, G5⟩ := Fk.step2 G hB hA5
            have hxa5 : ReqAt B w5 x _ := ReqAt.keeps hA5.choose_spec.2.1 Fk.low x _ HXA.out
            have HXA5 := hid hxa5
            clear k0 k1 k2 k3 k4 k5 k6 hA5 hxa5 HXA
            obtain ⟨k0, k1, k2, k3, k4, k5, k6⟩ := G5.cells
            go_wp2_with fail
            refine (fieldsFlat_any B _ b _ x _ _ G5.rep HXA5.out (fun q hq => Nat.lt_of_lt_of_le (hB q hq) F5.keeps.size) G5.low hk12 (by omega)).mono ?_
            rintro e w6 ⟨rfl, hA6⟩
            obtain ⟨S6, F6⟩ := F5.step hB hA6
            clear k0 k1 k2 k3 k4 k5 k6 hA6 HXA5 G5 G Fk
            go_wp2
            go_roundw
            case rel => exact ⟨m + 1, S6, _, by go_num, by omega, F6, HP2, by omega⟩
            case measure => simp [intOf]; omega
        · obtain rfl : m = A.length := by omega
          have hfin : partsOf st2 A = str := by rw [HP.out, List.drop_length]; rfl
          go_wp2
          go_end0
          exact ⟨rfl, by rw [hfin]; exact Fr.acts⟩

/-- the fields of any request -/
theorem fields_any (B : Nat → Prop) (S : Nat → Prop) (b : Nat) (st : WSt) (R : Req) (v : Value) (w : World) (h : WRep S w b st) (hv : ReqAt B w R v) (hB : ∀ q, B q → q < w.heap.size) (hS : ∀ q, S q → ¬ B q) (hlen : st.1.length + wt R < 70368744177664) :
    Calls Tryz.prog 31 #[.pointer (some ⟨b, 0, none⟩), v] w fun e w' => e = .returned (.tuple #[]) ∧ Acts S w w' fun S' => WRep S' w' b (fieldsOf st R) := by
  by_cases hk : R.kind = 12
  · exact fields_12 B S b st R v w h hv hB hS hk hlen
  · have e : fieldsOf st R = fieldsFlat st R := by unfold fieldsOf; rw [if_neg hk]
    rw [e]
    exact fieldsFlat_any B S b st R v w h hv hB hS hk (by unfold wt at hlen; omega)
end Go.Proofs.YtpccaodkgboefaaGreatDoor
