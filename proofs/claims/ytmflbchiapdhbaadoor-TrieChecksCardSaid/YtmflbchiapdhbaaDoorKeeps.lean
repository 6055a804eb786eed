/-
  What a call leaves alone: 'Keeps S w w1': outside the set S of block numbers the world w1 is as w was; laws for new blocks, stores, draws, appends. No program is in sight.
-/
import Derived.WalkKit
import Derived.WalkSpells
import Derived.WalkLawsBesides
namespace Go.Proofs.YtmflbchiapdhbaaDoor
open Go.RowKit

theorem orr {a b c : Prop} (h : a ∨ b) (f : b → c) : a ∨ c := h.elim .inl fun h => .inr (f h)
theorem orl {a b c : Prop} (h : a ∨ b) (f : a → c) : c ∨ b := h.elim (fun h => .inl (f h)) .inr
theorem hid {p : Prop} (h : p) : Hid p := h

/-- Outside the set S of blocks w' is as w was. -/
structure Keeps (S : Nat → Prop) (w w' : World) : Prop where
  os : w'.os = w.os
  tape : w'.tape = w.tape
  output : w'.output = w.output
  size : w.heap.size ≤ w'.heap.size
  block : ∀ k, k < w.heap.size → ¬ S k → w'.heap[k]? = w.heap[k]?

theorem addr_add0 (g j : Nat) : (⟨g, 0, none⟩ : Addr).add j = ⟨g, j, none⟩ := by unfold Addr.add; split <;> simp_all
theorem lt_of_block {w : World} {k : Nat} {o : Obj} (h : w.heap[k]? = some o) : k < w.heap.size := (Array.getElem?_eq_some_iff.1 h).1

theorem heap_setCell_ne (w : World) (a : Addr) (u : Value) (k : Nat) (h : k ≠ a.block) : (w.setCell a u).heap[k]? = w.heap[k]? := Below.heap_setCell w a u k h
theorem heap_setCell_at {w : World} {b : Nat} {c : Array Value} {e : TypeId} {fr : Nat × Nat} (h : w.heap[b]? = some (.cells c e fr)) (o : Nat) (u : Value) :
    (w.setCell ⟨b, o, none⟩ u).heap[b]? = some (.cells (c.setIfInBounds o u) e fr) := by
  simp only [World.setCell, Array.getElem?_modify, if_true, h]; rfl
theorem heap_drew (w : World) (k : Nat) : w.drew.heap[k]? = w.heap[k]? := rfl
theorem cell_at {w : World} {b : Nat} {c : Array Value} {e : TypeId} {fr : Nat × Nat} (h : w.heap[b]? = some (.cells c e fr)) (o : Nat) : w.cell? ⟨b, o, none⟩ = c[o]? := by
  simp [World.cell?, h]
theorem free_at {w : World} {b : Nat} {c : Array Value} {e : TypeId} (h : w.heap[b]? = some (.cells c e (0, 0))) (o : Nat) : w.frozen? ⟨b, o, none⟩ = false := by
  simp [World.frozen?, h]

namespace Keeps
variable {S : Nat → Prop} {w w1 w2 : World}
theorem refl (S : Nat → Prop) (w : World) : Keeps S w w := ⟨rfl, rfl, rfl, Nat.le_refl _, fun _ _ _ => rfl⟩
theorem trans' {S' : Nat → Prop} (h : Keeps S w w1) (k : Keeps S' w1 w2) (hs : ∀ i, i < w.heap.size → S' i → S i) : Keeps S w w2 :=
  ⟨k.os.trans h.os, k.tape.trans h.tape, k.output.trans h.output, Nat.le_trans h.size k.size,
    fun i hi hn => (k.block i (Nat.lt_of_lt_of_le hi h.size) (fun e => hn (hs i hi e))).trans (h.block i hi hn)⟩
theorem trans (h : Keeps S w w1) (k : Keeps S w1 w2) : Keeps S w w2 := h.trans' k (fun _ _ h => h)
theorem mono {S' : Nat → Prop} (h : Keeps S w w1) (hs : ∀ i, i < w.heap.size → S i → S' i) : Keeps S' w w1 :=
  ⟨h.os, h.tape, h.output, h.size, fun i hi hn => h.block i hi (fun e => hn (hs i hi e))⟩
theorem drew (h : Keeps S w w1) : Keeps S w w1.drew := ⟨h.os, h.tape, h.output, h.size, h.block⟩
theorem drewN (h : Keeps S w w1) (n : Nat) : Keeps S w (w1.drewN n) := ⟨h.os, h.tape, h.output, h.size, h.block⟩
theorem alloc (h : Keeps S w w1) (o : Obj) : Keeps S w (w1.alloc o) :=
  h.trans ⟨rfl, rfl, rfl, by simp, fun k hk _ => Below.heap_alloc _ _ _ hk⟩
theorem setCell (h : Keeps S w w1) {p : Addr} (hp : p.block < w.heap.size → S p.block) (u : Value) : Keeps S w (w1.setCell p u) :=
  ⟨h.os, h.tape, h.output, by simpa using h.size, fun k hk hn => by
    rw [heap_setCell_ne _ _ _ _ (fun e => hn (by subst e; exact hp hk))]; exact h.block k hk hn⟩
theorem grown {row : Option Nat} (h : Keeps S w w1) (hg : w1.grownBy w2 row) (hr : ∀ k, row = some k → k < w.heap.size → S k) : Keeps S w w2 :=
  ⟨hg.os.trans h.os, hg.tape.trans h.tape, hg.output.trans h.output, Nat.le_trans h.size hg.size,
    fun k hk hn => (hg.block k (Nat.lt_of_lt_of_le hk h.size) (fun e => hn (hr k e.symm hk))).trans (h.block k hk hn)⟩
theorem below {B : Nat} (h : Keeps S w w1) (hB : B ≤ w.heap.size) (hs : ∀ k, S k → B ≤ k) : Below B w w1 :=
  ⟨h.os, h.tape, h.output, h.size, fun k hk => h.block k (by omega) (fun e => by have := hs k e; omega)⟩
theorem of_below {B : Nat} (h : Below B w w1) : Keeps (fun k => B ≤ k) w w1 :=
  ⟨h.os, h.tape, h.output, h.size, fun k _ hn => h.block k (by omega)⟩
theorem at_ (h : Keeps S w w1) {k : Nat} {o : Obj} (ho : w.heap[k]? = some o) (hn : ¬ S k) : w1.heap[k]? = some o :=
  (h.block k (lt_of_block ho) hn).trans ho
theorem cell (h : Keeps S w w1) {p : Addr} (hp : p.block < w.heap.size) (hn : ¬ S p.block) : w1.cell? p = w.cell? p := World.cell?_of_block (w := w) (h.block p.block hp hn)
theorem frozen (h : Keeps S w w1) {p : Addr} (hp : p.block < w.heap.size) (hn : ¬ S p.block) : w1.frozen? p = w.frozen? p := World.frozen?_of_block (w := w) (h.block p.block hp hn)
end Keeps

/-- An owned row stays where nothing writes its block. -/
theorem ownsRow_keeps {S : Nat → Prop} {w w' : World} {base : Nat} {e : TypeId} {size : Nat} {v : Value} {n : Nat} {xs : List Value} (h : w.ownsRow base e size v n xs) (hk : Keeps S w w')
    (hn : ∀ g, v.ownBlock = some g → ¬ S g) : w'.ownsRow base e size v n xs := by
  refine ⟨h.1, ?_⟩
  rcases h.2 with h2 | ⟨g, cap, cur, rfl, hb, hg, r⟩
  · exact .inl h2
  · exact .inr ⟨g, cap, cur, rfl, hb, hk.at_ hg (hn g rfl), r⟩
theorem ownsRow_setCell_ne {w : World} {base : Nat} {e : TypeId} {size : Nat} {v : Value} {n : Nat} {xs : List Value} (h : w.ownsRow base e size v n xs) {a : Addr} (ha : v.ownBlock ≠ some a.block) (u : Value) :
    (w.setCell a u).ownsRow base e size v n xs := by
  refine ⟨h.1, ?_⟩
  rcases h.2 with h2 | ⟨g, cap, cur, rfl, hb, hg, r⟩
  · exact .inl h2
  · exact .inr ⟨g, cap, cur, rfl, hb, by rw [heap_setCell_ne _ _ _ _ (fun e => ha (by simp [Value.ownBlock, e]))]; exact hg, r⟩

theorem ownsRow_slice {w : World} {base : Nat} {e : TypeId} {size : Nat} {v : Value} {n : Nat} {xs : List Value} (h : w.ownsRow base e size v n xs) : ∃ ao cap, v = .slice ao n cap := by
  rcases h.2 with ⟨rfl, rfl⟩ | ⟨g, cap, cur, rfl, _⟩
  · exact ⟨none, 0, rfl⟩
  · exact ⟨some ⟨g, 0, none⟩, cap, rfl⟩

/-- What an object owns now: what it owned, and blocks that are new. -/
def Grows (S S' : Nat → Prop) (w w' : World) : Prop := ∀ k, S' k → S k ∨ (w.heap.size ≤ k ∧ k < w'.heap.size)
end Go.Proofs.YtmflbchiapdhbaaDoor
