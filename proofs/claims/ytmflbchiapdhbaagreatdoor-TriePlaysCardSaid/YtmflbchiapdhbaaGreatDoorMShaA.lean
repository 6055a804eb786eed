/-
  What a call leaves alone: 'Keeps S w w1': outside the set S of block numbers the world w1 is as w was; laws for new blocks, stores, draws, appends. No program is in sight.
  Bytes and texts as lists; what an object in memory owns and what its methods may write. No program is in sight.
  SHA-256 over natural numbers: one rotation, the words of a block, the rounds, what is filled up.
  A word turned right: the program's and the document's.
  'append' on a row that an object owns, whatever is appended: what the row is then, which blocks may have been written, where it lies. No program is in sight.
  The document's 'big': a number by so many bytes, the highest first.
  A row whose block may bear a mark behind its end (what '[]byte(s)' makes), and an append of one element onto it. No program is in sight.
  The document's 'filled'.
  The document's tables.
  The document's table of round numbers, as an array; words in an array in memory.
  Bits of words, as the document's code has them: over whole numbers of 64 bits.
  The cells of a row. No program is in sight.
-/
import Derived.WalkKit
import Derived.WalkSpells
import Derived.WalkLawsBesides
import Derived.Test.YtmflbchiapdhbaaGreatDoorRows
import Derived.BigQuiet
import Derived.Laws.BitsLemmas
import Derived.Deep.AppendSrc
import Derived.Laws.BytesArg
import Derived.Laws.IdiomStrings
import Derived.Deep.RegionLaw
import Derived.Deep.WholeRow
import Derived.Deep.CutBlock
namespace Go.Proofs.YtmflbchiapdhbaaGreatDoor
open Go.RowKit

theorem orr {a b c : Prop} (h : a ∨ b) (f : b → c) : a ∨ c := h.elim .inl fun h => .inr (f h)
theorem orl {a b c : Prop} (h : a ∨ b) (f : a → c) : c ∨ b := h.elim (fun h => .inl (f h)) .inr
theorem hid {p : Prop} (h : p) : Hid p := h

/-- Outside the set S of blocks w' is as w was. -/
structure Keeps (S : Nat → Prop) (w w' : World) : Prop where
  os : w'.os = w.os
  tape : w'.tape = w.tape
  output : w'.output = w.output
  size : w.heap.size ≤ w'.heap.size
  block : ∀ k, k < w.heap.size → ¬ S k → w'.heap[k]? = w.heap[k]?

theorem addr_add0 (g j : Nat) : (⟨g, 0, none⟩ : Addr).add j = ⟨g, j, none⟩ := by unfold Addr.add; split <;> simp_all
theorem lt_of_block {w : World} {k : Nat} {o : Obj} (h : w.heap[k]? = some o) : k < w.heap.size := (Array.getElem?_eq_some_iff.1 h).1

theorem heap_setCell_ne (w : World) (a : Addr) (u : Value) (k : Nat) (h : k ≠ a.block) : (w.setCell a u).heap[k]? = w.heap[k]? := Below.heap_setCell w a u k h
theorem heap_setCell_at {w : World} {b : Nat} {c : Array Value} {e : TypeId} {fr : Nat × Nat} (h : w.heap[b]? = some (.cells c e fr)) (o : Nat) (u : Value) :
    (w.setCell ⟨b, o, none⟩ u).heap[b]? = some (.cells (c.setIfInBounds o u) e fr) := by
  simp only [World.setCell, Array.getElem?_modify, if_true, h]; rfl
theorem heap_drew (w : World) (k : Nat) : w.drew.heap[k]? = w.heap[k]? := rfl
theorem cell_at {w : World} {b : Nat} {c : Array Value} {e : TypeId} {fr : Nat × Nat} (h : w.heap[b]? = some (.cells c e fr)) (o : Nat) : w.cell? ⟨b, o, none⟩ = c[o]? := by
  simp [World.cell?, h]
theorem free_at {w : World} {b : Nat} {c : Array Value} {e : TypeId} (h : w.heap[b]? = some (.cells c e (0, 0))) (o : Nat) : w.frozen? ⟨b, o, none⟩ = false := by
  simp [World.frozen?, h]

namespace Keeps
variable {S : Nat → Prop} {w w1 w2 : World}
theorem refl (S : Nat → Prop) (w : World) : Keeps S w w := ⟨rfl, rfl, rfl, Nat.le_refl _, fun _ _ _ => rfl⟩
theorem trans' {S' : Nat → Prop} (h : Keeps S w w1) (k : Keeps S' w1 w2) (hs : ∀ i, i < w.heap.size → S' i → S i) : Keeps S w w2 :=
  ⟨k.os.trans h.os, k.tape.trans h.tape, k.output.trans h.output, Nat.le_trans h.size k.size,
    fun i hi hn => (k.block i (Nat.lt_of_lt_of_le hi h.size) (fun e => hn (hs i hi e))).trans (h.block i hi hn)⟩
theorem trans (h : Keeps S w w1) (k : Keeps S w1 w2) : Keeps S w w2 := h.trans' k (fun _ _ h => h)
theorem mono {S' : Nat → Prop} (h : Keeps S w w1) (hs : ∀ i, i < w.heap.size → S i → S' i) : Keeps S' w w1 :=
  ⟨h.os, h.tape, h.output, h.size, fun i hi hn => h.block i hi (fun e => hn (hs i hi e))⟩
theorem drew (h : Keeps S w w1) : Keeps S w w1.drew := ⟨h.os, h.tape, h.output, h.size, h.block⟩
theorem drewN (h : Keeps S w w1) (n : Nat) : Keeps S w (w1.drewN n) := ⟨h.os, h.tape, h.output, h.size, h.block⟩
theorem alloc (h : Keeps S w w1) (o : Obj) : Keeps S w (w1.alloc o) :=
  h.trans ⟨rfl, rfl, rfl, by simp, fun k hk _ => Below.heap_alloc _ _ _ hk⟩
theorem setCell (h : Keeps S w w1) {p : Addr} (hp : p.block < w.heap.size → S p.block) (u : Value) : Keeps S w (w1.setCell p u) :=
  ⟨h.os, h.tape, h.output, by simpa using h.size, fun k hk hn => by
    rw [heap_setCell_ne _ _ _ _ (fun e => hn (by subst e; exact hp hk))]; exact h.block k hk hn⟩
theorem grown {row : Option Nat} (h : Keeps S w w1) (hg : w1.grownBy w2 row) (hr : ∀ k, row = some k → k < w.heap.size → S k) : Keeps S w w2 :=
  ⟨hg.os.trans h.os, hg.tape.trans h.tape, hg.output.trans h.output, Nat.le_trans h.size hg.size,
    fun k hk hn => (hg.block k (Nat.lt_of_lt_of_le hk h.size) (fun e => hn (hr k e.symm hk))).trans (h.block k hk hn)⟩
theorem below {B : Nat} (h : Keeps S w w1) (hB : B ≤ w.heap.size) (hs : ∀ k, S k → B ≤ k) : Below B w w1 :=
  ⟨h.os, h.tape, h.output, h.size, fun k hk => h.block k (by omega) (fun e => by have := hs k e; omega)⟩
theorem of_below {B : Nat} (h : Below B w w1) : Keeps (fun k => B ≤ k) w w1 :=
  ⟨h.os, h.tape, h.output, h.size, fun k _ hn => h.block k (by omega)⟩
theorem at_ (h : Keeps S w w1) {k : Nat} {o : Obj} (ho : w.heap[k]? = some o) (hn : ¬ S k) : w1.heap[k]? = some o :=
  (h.block k (lt_of_block ho) hn).trans ho
theorem cell (h : Keeps S w w1) {p : Addr} (hp : p.block < w.heap.size) (hn : ¬ S p.block) : w1.cell? p = w.cell? p := World.cell?_of_block (w := w) (h.block p.block hp hn)
theorem frozen (h : Keeps S w w1) {p : Addr} (hp : p.block < w.heap.size) (hn : ¬ S p.block) : w1.frozen? p = w.frozen? p := World.frozen?_of_block (w := w) (h.block p.block hp hn)
end Keeps

/-- An owned row stays where nothing writes its block. -/
theorem ownsRow_keeps {S : Nat → Prop} {w w' : World} {base : Nat} {e : TypeId} {size : Nat} {v : Value} {n : Nat} {xs : List Value} (h : w.ownsRow base e size v n xs) (hk : Keeps S w w')
    (hn : ∀ g, v.ownBlock = some g → ¬ S g) : w'.ownsRow base e size v n xs := by
  refine ⟨h.1, ?_⟩
  rcases h.2 with h2 | ⟨g, cap, cur, rfl, hb, hg, r⟩
  · exact .inl h2
  · exact .inr ⟨g, cap, cur, rfl, hb, hk.at_ hg (hn g rfl), r⟩
theorem ownsRow_setCell_ne {w : World} {base : Nat} {e : TypeId} {size : Nat} {v : Value} {n : Nat} {xs : List Value} (h : w.ownsRow base e size v n xs) {a : Addr} (ha : v.ownBlock ≠ some a.block) (u : Value) :
    (w.setCell a u).ownsRow base e size v n xs := by
  refine ⟨h.1, ?_⟩
  rcases h.2 with h2 | ⟨g, cap, cur, rfl, hb, hg, r⟩
  · exact .inl h2
  · exact .inr ⟨g, cap, cur, rfl, hb, by rw [heap_setCell_ne _ _ _ _ (fun e => ha (by simp [Value.ownBlock, e]))]; exact hg, r⟩

theorem ownsRow_slice {w : World} {base : Nat} {e : TypeId} {size : Nat} {v : Value} {n : Nat} {xs : List Value} (h : w.ownsRow base e size v n xs) : ∃ ao cap, v = .slice ao n cap := by
  rcases h.2 with ⟨rfl, rfl⟩ | ⟨g, cap, cur, rfl, _⟩
  · exact ⟨none, 0, rfl⟩
  · exact ⟨some ⟨g, 0, none⟩, cap, rfl⟩

/-- What an object owns now: what it owned, and blocks that are new. -/
def Grows (S S' : Nat → Prop) (w w' : World) : Prop := ∀ k, S' k → S k ∨ (w.heap.size ≤ k ∧ k < w'.heap.size)
end Go.Proofs.YtmflbchiapdhbaaGreatDoor

namespace Go.Proofs.YtmflbchiapdhbaaGreatDoor
open Go.RowKit

/-- The bytes as the cells of a []byte. -/
def u8s (l : List UInt8) : List Value := l.map fun b => Value.int .u8 (b.toNat : Int)

/-- A text by its bytes. -/
def str (l : List UInt8) : ByteArray := ⟨l.toArray⟩
theorem str_size (l : List UInt8) : (str l).size = l.length := by simp [str, ByteArray.size]
theorem str_data (l : List UInt8) : (str l).data.toList = l := rfl
theorem str_of (s : ByteArray) : s = str s.data.toList := rfl
theorem str_extract (l : List UInt8) (a b : Nat) : (str l).extract a b = str ((l.take b).drop a) := by
  apply ByteArray.ext
  simp [str, ByteArray.data_extract, List.drop_take]
theorem str_to (l : List UInt8) (n : Nat) : (str l).extract 0 n = str (l.take n) := by rw [str_extract, List.drop_zero]
theorem str_from (l : List UInt8) (n : Nat) : (str l).extract n l.length = str (l.drop n) := by rw [str_extract, List.take_length]

theorem str_toList (l : List UInt8) : (str l).toList = l := ByteArray.toList_eq _

/-- Nothing that was there has turned. -/
abbrev Fresh (w w' : World) : Prop := Keeps (fun _ => False) w w'

/-- What an object owns lies behind the package-level variables, and is there. -/
def Lives (S : Nat → Prop) (w : World) : Prop := ∀ k, S k → 3 ≤ k ∧ k < w.heap.size
theorem Lives.keeps {S T : Nat → Prop} {w w' : World} (h : Lives S w) (hk : Keeps T w w') : Lives S w' := fun k h' => ⟨(h k h').1, Nat.lt_of_lt_of_le (h k h').2 hk.size⟩
theorem Lives.grows {S S' : Nat → Prop} {w w' : World} {b : Nat} (h : Lives S w) (hb : S b) (hs : w.heap.size ≤ w'.heap.size) (hg : Grows S S' w w') : Lives S' w' := fun k hk => by
  have := h b hb
  rcases hg k hk with h1 | h1
  · have := h k h1; omega
  · omega

/-- noted first -/
def first (e f : Int) : Int := if e = 0 then f else e

/-- What a method does to an object: it owns now what it owned and what is new; all else is as it was. -/
def Acts (S : Nat → Prop) (w w' : World) (R : (Nat → Prop) → Prop) : Prop := ∃ S', Grows S S' w w' ∧ Keeps S w w' ∧ R S'

theorem Acts.same {S : Nat → Prop} {w : World} {R : (Nat → Prop) → Prop} (h : R S) : Acts S w w R := ⟨S, fun _ h => .inl h, Keeps.refl _ _, h⟩
/-- one call behind the other -/
theorem Acts.after {S S1 : Nat → Prop} {w w1 w2 : World} {R : (Nat → Prop) → Prop} (hg : Grows S S1 w w1) (hk : Keeps S w w1) (h : Acts S1 w1 w2 R) : Acts S w w2 R := by
  obtain ⟨S2, hg2, hk2, hr2⟩ := h
  refine ⟨S2, fun k hk' => ?_, hk.trans' hk2 fun i hi h1 => ?_, hr2⟩
  · rcases hg2 k hk' with h1 | h1
    · rcases hg k h1 with h0 | h0
      · exact .inl h0
      · exact .inr ⟨h0.1, Nat.lt_of_lt_of_le h0.2 hk2.size⟩
    · exact .inr ⟨Nat.le_trans hk.size h1.1, h1.2⟩
  · rcases hg i h1 with h0 | h0
    · exact h0
    · omega
/-- the same, where something beside the object's own may have been written as well -/
theorem Acts.afterT {S S1 T : Nat → Prop} {w w1 w2 : World} {R : (Nat → Prop) → Prop} (hg : Grows S S1 w w1) (hk : Keeps (fun k => S k ∨ T k) w w1) (h : Acts S1 w1 w2 R) :
    ∃ S2, Grows S S2 w w2 ∧ Keeps (fun k => S k ∨ T k) w w2 ∧ R S2 := by
  obtain ⟨S2, hg2, hk2, hr2⟩ := h
  refine ⟨S2, fun k hk' => ?_, hk.trans' hk2 fun i hi h1 => ?_, hr2⟩
  · rcases hg2 k hk' with h1 | h1
    · rcases hg k h1 with h0 | h0
      · exact .inl h0
      · exact .inr ⟨h0.1, Nat.lt_of_lt_of_le h0.2 hk2.size⟩
    · exact .inr ⟨Nat.le_trans hk.size h1.1, h1.2⟩
  · rcases hg i h1 with h0 | h0
    · exact .inl h0
    · omega
theorem heap_size_alloc (w : World) (o : Obj) : (w.alloc o).heap[w.heap.size]? = some o := heap_alloc_new w o

/-- an object that was made since w: nothing that was there in w has turned -/
def Mine (w : World) (S : Nat → Prop) (w' : World) : Prop := Fresh w w' ∧ ∀ k, S k → w.heap.size ≤ k
theorem Mine.step {w w1 w2 : World} {S S2 : Nat → Prop} (h : Mine w S w1) (hg : Grows S S2 w1 w2) (hk : Keeps S w1 w2) : Mine w S2 w2 :=
  ⟨h.1.trans' hk fun i hi hs => by have := h.2 i hs; omega, fun k hk2 => by
    have := h.1.size
    rcases hg k hk2 with h1 | h1
    · exact h.2 k h1
    · omega⟩
theorem Mine.fresh {w w1 w2 : World} {S : Nat → Prop} (h : Mine w S w1) (hk : Fresh w1 w2) : Mine w S w2 := ⟨h.1.trans hk, h.2⟩

/-- three variables of one cell or more, one behind the other -/
theorem cells3 (w : World) (a b c : Array Value) (ta tb tc : TypeId) (o : Nat) :
    (((w.alloc (.cells a ta)).alloc (.cells b tb)).alloc (.cells c tc)).cell? ⟨w.heap.size, o, none⟩ = a[o]? ∧ (((w.alloc (.cells a ta)).alloc (.cells b tb)).alloc (.cells c tc)).cell? ⟨w.heap.size + 1, o, none⟩ = b[o]? ∧
    (((w.alloc (.cells a ta)).alloc (.cells b tb)).alloc (.cells c tc)).cell? ⟨w.heap.size + 1 + 1, o, none⟩ = c[o]? ∧ (((w.alloc (.cells a ta)).alloc (.cells b tb)).alloc (.cells c tc)).frozen? ⟨w.heap.size, o, none⟩ = false ∧
    (((w.alloc (.cells a ta)).alloc (.cells b tb)).alloc (.cells c tc)).frozen? ⟨w.heap.size + 1, o, none⟩ = false ∧ (((w.alloc (.cells a ta)).alloc (.cells b tb)).alloc (.cells c tc)).frozen? ⟨w.heap.size + 1 + 1, o, none⟩ = false := by
  refine ⟨?_, ?_, ?_, ?_, ?_, ?_⟩
  · rw [World.cell?_alloc_past _ _ _ (by simp only [World.size_alloc]; try omega), World.cell?_alloc_past _ _ _ (by simp only [World.size_alloc]; try omega), World.cell?_alloc_at _ _ _ _ rfl]
  · rw [World.cell?_alloc_past _ _ _ (by simp only [World.size_alloc]; try omega), World.cell?_alloc_at _ _ _ _ (by simp only [World.size_alloc]; try omega)]
  · rw [World.cell?_alloc_at _ _ _ _ (by simp only [World.size_alloc]; try omega)]
  · rw [World.frozen?_alloc_past _ _ _ (by simp only [World.size_alloc]; try omega), World.frozen?_alloc_past _ _ _ (by simp only [World.size_alloc]; try omega), World.frozen?_alloc_at _ _ _ _ rfl]
  · rw [World.frozen?_alloc_past _ _ _ (by simp only [World.size_alloc]; try omega), World.frozen?_alloc_at _ _ _ _ (by simp only [World.size_alloc]; try omega)]
  · rw [World.frozen?_alloc_at _ _ _ _ (by simp only [World.size_alloc]; try omega)]
theorem cells3n (w : World) (a b c : Array Value) (ta tb tc : TypeId) (n o : Nat) :
    ((((w.alloc (.cells a ta)).alloc (.cells b tb)).alloc (.cells c tc)).drewN n).cell? ⟨w.heap.size, o, none⟩ = a[o]? ∧ ((((w.alloc (.cells a ta)).alloc (.cells b tb)).alloc (.cells c tc)).drewN n).cell? ⟨w.heap.size + 1, o, none⟩ = b[o]? ∧
    ((((w.alloc (.cells a ta)).alloc (.cells b tb)).alloc (.cells c tc)).drewN n).cell? ⟨w.heap.size + 1 + 1, o, none⟩ = c[o]? ∧ ((((w.alloc (.cells a ta)).alloc (.cells b tb)).alloc (.cells c tc)).drewN n).frozen? ⟨w.heap.size, o, none⟩ = false ∧
    ((((w.alloc (.cells a ta)).alloc (.cells b tb)).alloc (.cells c tc)).drewN n).frozen? ⟨w.heap.size + 1, o, none⟩ = false ∧ ((((w.alloc (.cells a ta)).alloc (.cells b tb)).alloc (.cells c tc)).drewN n).frozen? ⟨w.heap.size + 1 + 1, o, none⟩ = false := cells3 w a b c ta tb tc o
end Go.Proofs.YtmflbchiapdhbaaGreatDoor

namespace Go.Proofs.YtmflbchiapdhbaaGreatDoor
open Go.RowKit

/-- x (below 2^32) turned right by n (1 to 31) -/
def rot (x n : Nat) : Nat := (x >>> n ||| x <<< (32 - n)) % 4294967296
theorem rot_lt (x n : Nat) : rot x n < 4294967296 := Nat.mod_lt _ (by decide)

/-- word t of 64 bytes -/
def be32 (b : List UInt8) (t : Nat) : Nat := (b.getD (4 * t) 0).toNat * 16777216 + (b.getD (4 * t + 1) 0).toNat * 65536 + (b.getD (4 * t + 2) 0).toNat * 256 + (b.getD (4 * t + 3) 0).toNat
theorem be32_lt (b : List UInt8) (t : Nat) : be32 b t < 4294967296 := by
  have h1 := (b.getD (4 * t) 0).toNat_lt
  have h2 := (b.getD (4 * t + 1) 0).toNat_lt
  have h3 := (b.getD (4 * t + 2) 0).toNat_lt
  have h4 := (b.getD (4 * t + 3) 0).toNat_lt
  unfold be32
  omega
def small0 (x : Nat) : Nat := (rot x 7 ^^^ rot x 18) ^^^ x >>> 3
def small1 (x : Nat) : Nat := (rot x 17 ^^^ rot x 19) ^^^ x >>> 10
def big0 (x : Nat) : Nat := (rot x 2 ^^^ rot x 13) ^^^ rot x 22
def big1 (x : Nat) : Nat := (rot x 6 ^^^ rot x 11) ^^^ rot x 25
def choose (e f g : Nat) : Nat := (e &&& f) ^^^ ((4294967295 - e) &&& g)
def most (a b c : Nat) : Nat := ((a &&& b) ^^^ (a &&& c)) ^^^ (b &&& c)

/-- word t of a block's schedule -/
def word (b : List UInt8) (t : Nat) : Nat :=
  if t < 16 then be32 b t else (small1 (word b (t - 2)) + word b (t - 7) + small0 (word b (t - 15)) + word b (t - 16)) % 4294967296
termination_by t
decreasing_by all_goals omega
theorem word_lt (b : List UInt8) (t : Nat) : word b t < 4294967296 := by
  rw [word]
  split
  · exact be32_lt b t
  · exact Nat.mod_lt _ (by decide)
theorem word_first {b : List UInt8} {t : Nat} (h : t < 16) : word b t = be32 b t := by rw [word, if_pos h]
theorem word_next {b : List UInt8} {t : Nat} (h : 16 ≤ t) : word b t = (small1 (word b (t - 2)) + word b (t - 7) + small0 (word b (t - 15)) + word b (t - 16)) % 4294967296 := by
  rw [word, if_neg (by omega)]

/-- a state: eight words -/
structure Eight where
  a : Nat
  b : Nat
  c : Nat
  d : Nat
  e : Nat
  f : Nat
  g : Nat
  h : Nat
def Eight.list (v : Eight) : List Nat := [v.a, v.b, v.c, v.d, v.e, v.f, v.g, v.h]
def Eight.ok (v : Eight) : Prop := v.a < 4294967296 ∧ v.b < 4294967296 ∧ v.c < 4294967296 ∧ v.d < 4294967296 ∧ v.e < 4294967296 ∧ v.f < 4294967296 ∧ v.g < 4294967296 ∧ v.h < 4294967296
def tempX (v : Eight) (k w : Nat) : Nat := (v.h + big1 v.e + choose v.e v.f v.g + k + w) % 4294967296
def tempY (v : Eight) : Nat := (big0 v.a + most v.a v.b v.c) % 4294967296
def Eight.next (v : Eight) (k w : Nat) : Eight := ⟨(tempX v k w + tempY v) % 4294967296, v.a, v.b, v.c, (v.d + tempX v k w) % 4294967296, v.e, v.f, v.g⟩
theorem Eight.next_ok {v : Eight} (h : v.ok) (k w : Nat) : (v.next k w).ok := by
  obtain ⟨h1, h2, h3, h4, h5, h6, h7, h8⟩ := h
  exact ⟨Nat.mod_lt _ (by decide), h1, h2, h3, Nat.mod_lt _ (by decide), h5, h6, h7⟩
def kTab : List Nat := [1116352408, 1899447441, 3049323471, 3921009573, 961987163, 1508970993, 2453635748, 2870763221,
  3624381080, 310598401, 607225278, 1426881987, 1925078388, 2162078206, 2614888103, 3248222580,
  3835390401, 4022224774, 264347078, 604807628, 770255983, 1249150122, 1555081692, 1996064986,
  2554220882, 2821834349, 2952996808, 3210313671, 3336571891, 3584528711, 113926993, 338241895,
  666307205, 773529912, 1294757372, 1396182291, 1695183700, 1986661051, 2177026350, 2456956037,
  2730485921, 2820302411, 3259730800, 3345764771, 3516065817, 3600352804, 4094571909, 275423344,
  430227734, 506948616, 659060556, 883997877, 958139571, 1322822218, 1537002063, 1747873779,
  1955562222, 2024104815, 2227730452, 2361852424, 2428436474, 2756734187, 3204031479, 3329325298]
def kAt (t : Nat) : Nat := kTab.getD t 0
theorem kAt_lt : ∀ t, kAt t < 4294967296 := by
  intro t
  by_cases h : t < 64
  · exact (show ∀ t : Fin 64, kAt t.val < 4294967296 by decide) ⟨t, h⟩
  · have : kAt t = 0 := by
      unfold kAt
      rw [List.getD, List.getElem?_eq_none (by simp [kTab]; omega)]
      rfl
    omega
/-- the state behind t rounds -/
def roundsOf (b : List UInt8) (v : Eight) : Nat → Eight
  | 0 => v
  | t + 1 => (roundsOf b v t).next (kAt t) (word b t)
theorem roundsOf_ok {b : List UInt8} {v : Eight} (h : v.ok) : ∀ t, (roundsOf b v t).ok
  | 0 => h
  | t + 1 => Eight.next_ok (roundsOf_ok h t) _ _
def Eight.add (v u : Eight) : Eight := ⟨(v.a + u.a) % 4294967296, (v.b + u.b) % 4294967296, (v.c + u.c) % 4294967296, (v.d + u.d) % 4294967296, (v.e + u.e) % 4294967296, (v.f + u.f) % 4294967296, (v.g + u.g) % 4294967296, (v.h + u.h) % 4294967296⟩
theorem Eight.add_ok (v u : Eight) : (v.add u).ok := ⟨Nat.mod_lt _ (by decide), Nat.mod_lt _ (by decide), Nat.mod_lt _ (by decide), Nat.mod_lt _ (by decide), Nat.mod_lt _ (by decide), Nat.mod_lt _ (by decide), Nat.mod_lt _ (by decide), Nat.mod_lt _ (by decide)⟩
/-- a block -/
def shaBlock (v : Eight) (b : List UInt8) : Eight := v.add (roundsOf b v 64)
def eight0 : Eight := ⟨1779033703, 3144134277, 1013904242, 2773480762, 1359893119, 2600822924, 528734635, 1541459225⟩
theorem eight0_ok : eight0.ok := by unfold Eight.ok eight0; decide

/-- whole blocks, one by one -/
def shaBlocks (v : Eight) (l : List UInt8) : Eight := if _h : l.length < 64 then v else shaBlocks (shaBlock v (l.take 64)) (l.drop 64)
termination_by l.length
decreasing_by simp; omega
/-- n by k bytes, the highest first -/
def bigEnd (n : Nat) : Nat → List UInt8
  | 0 => []
  | k + 1 => UInt8.ofNat (n / 256 ^ k) :: bigEnd n k
/-- how many noughts stand behind the 128 of a text of n bytes -/
def noughts (n : Nat) : Nat := (119 - n % 64) % 64
def filledUp (s : List UInt8) : List UInt8 := s ++ 128 :: (List.replicate (noughts s.length) 0 ++ bigEnd (8 * s.length % 18446744073709551616) 8)
def sha (s : List UInt8) : List UInt8 := (shaBlocks eight0 (filledUp s)).list.flatMap (fun x => bigEnd x 4)
theorem bigEnd_len (n : Nat) : ∀ k, (bigEnd n k).length = k
  | 0 => rfl
  | k + 1 => by simp [bigEnd, bigEnd_len n k]
theorem sha_len (s : List UInt8) : (sha s).length = 32 := by simp [sha, Eight.list, bigEnd_len]
theorem filledUp_len (s : List UInt8) : (filledUp s).length % 64 = 0 := by
  simp only [filledUp, List.length_append, List.length_cons, List.length_replicate, bigEnd_len, noughts]
  omega
end Go.Proofs.YtmflbchiapdhbaaGreatDoor

namespace Go.Proofs.YtmflbchiapdhbaaGreatDoor
open Go.RowKit

theorem shift_lt {x n : Nat} (hx : x < 4294967296) (hn : n < 32) : x <<< n < 2 ^ 63 := by
  rw [Nat.shiftLeft_eq]
  calc x * 2 ^ n ≤ x * 2 ^ 31 := Nat.mul_le_mul_left _ (Nat.pow_le_pow_right (by decide) (by omega))
    _ < 2 ^ 63 := by omega
theorem shr_lt {x n : Nat} (hx : x < 4294967296) : x >>> n < 4294967296 := by
  rw [Nat.shiftRight_eq_div_pow]
  exact Nat.lt_of_le_of_lt (Nat.div_le_self _ _) hx
theorem int_shr (x n : Nat) : (x : Int) / 2 ^ n = ((x >>> n : Nat) : Int) := by rw [Nat.shiftRight_eq_div_pow]; simp
theorem int_shl (x n : Nat) : (x : Int) * 2 ^ n = ((x <<< n : Nat) : Int) := by rw [Nat.shiftLeft_eq]; simp
theorem i64_keeps (n : Int) (h0 : 0 ≤ n) (h1 : n < 2 ^ 63) : IntKind.i64.wrap n = n := by rw [IntKind.wrap_i64]; omega
theorem u32_keeps (n : Int) (h0 : 0 ≤ n) (h1 : n < 2 ^ 32) : IntKind.u32.wrap n = n := by rw [IntKind.wrap_u32]; omega

theorem ror_eq {x n : Nat} (hx : x < 4294967296) (hn : 1 ≤ n) (hn2 : n < 32) : bits BinOp.and IntKind.i64 (bits BinOp.or IntKind.i64 ((x : Int) / 2 ^ n) (wrap64 ((x : Int) * 2 ^ (32 - n)))) 4294967295 = (rot x n : Int) := by
  have h1 : wrap64 (((x <<< (32 - n) : Nat)) : Int) = ((x <<< (32 - n) : Nat) : Int) := by
    have := shift_lt (n := 32 - n) hx (by omega)
    generalize x <<< (32 - n) = y at *
    unfold wrap64
    omega
  rw [int_shr, int_shl, h1, (bits_nat .i64 63 (by decide) i64_keeps _ _ (by have := shr_lt (n := n) hx; omega) (shift_lt hx (by omega))).2]
  have h2 : x >>> n ||| x <<< (32 - n) < 2 ^ 63 := Nat.or_lt_two_pow (by have := shr_lt (n := n) hx; omega) (shift_lt hx (by omega))
  have h3 := bits_mask .i64 63 (by decide) i64_keeps 32 (by decide) ((x >>> n ||| x <<< (32 - n) : Nat) : Int) (by omega) (by exact_mod_cast h2)
  have h4 : ((2 : Int) ^ 32 - 1) = 4294967295 := by decide
  rw [h4] at h3
  rw [h3, rot]
  rfl
theorem rotl_eq {x n m : Nat} (hx : x < 4294967296) (hm : m + n = 32) (hn : 1 ≤ n) (hn2 : n < 32) : bits BinOp.or IntKind.u32 ((x : Int) * 2 ^ m % 4294967296) ((x : Int) / 2 ^ (32 - m)) = (rot x n : Int) := by
  have e1 : 32 - m = n := by omega
  have e2 : 32 - n = m := by omega
  have h5 := shr_lt (n := n) hx
  rw [e1, int_shr, int_shl]
  have h1 : ((x <<< m : Nat) : Int) % 4294967296 = ((x <<< m % 4294967296 : Nat) : Int) := by simp
  rw [h1, (bits_nat .u32 32 (by decide) u32_keeps _ _ (Nat.mod_lt _ (by decide)) (by omega)).2, rot, e2]
  have h2 : (x >>> n ||| x <<< m) % 2 ^ 32 = (x >>> n) % 2 ^ 32 ||| (x <<< m) % 2 ^ 32 := Nat.or_mod_two_pow
  have h3 : (x >>> n) % 2 ^ 32 = x >>> n := Nat.mod_eq_of_lt (by omega)
  rw [h3] at h2
  rw [show (4294967296 : Nat) = 2 ^ 32 from rfl, h2, Nat.or_comm]

theorem back31 {n m : Nat} (hm : m + n = 32) (hn : 1 ≤ n) (hn2 : n < 32) : bits BinOp.and IntKind.u64 (IntKind.u64.wrap (-(n : Int))) 31 = (m : Int) := by
  have key : ∀ n : Fin 32, 1 ≤ n.val → bits BinOp.and IntKind.u64 (IntKind.u64.wrap (-(n.val : Int))) 31 = ((32 - n.val : Nat) : Int) := by decide
  have h := key ⟨n, hn2⟩ hn
  have e : 32 - n = m := by omega
  simp only [e] at h
  exact h

set_option maxRecDepth 100000 in
theorem ror_any (x n : Nat) (w : World) (hx : x < 4294967296) (hn : 1 ≤ n) (hn2 : n < 32) :
    Calls Tryz.prog 74 #[.int .i64 (x : Int), .int .i64 (n : Int)] w fun e w' => e = .returned (.int .i64 (rot x n : Int)) ∧ ∃ k, w' = w.drewN k := by
  have he := ror_eq hx hn hn2
  have HE := hid he
  clear he
  go_enter Tryz.func74, Tryz.ntmps74
  go_wp2_with fail
  go_quiet (fail)
  go_wp2
  go_ret
  exact ⟨by rw [HE.out]; rfl, _, rfl⟩
set_option maxRecDepth 100000 in
theorem rotl_any (x n : Nat) (w : World) (hx : x < 4294967296) (hn : 1 ≤ n) (hn2 : n < 32) :
    Calls Tryz.prog 92 #[.int .u32 (x : Int), .int .i64 (-(n : Int))] w fun e w' => e = .returned (.int .u32 (rot x n : Int)) ∧ w = w' := by
  obtain ⟨m, hm⟩ : ∃ m : Nat, m + n = 32 := ⟨32 - n, by omega⟩
  have hb := back31 hm hn hn2
  have hm1 : 1 ≤ m := by omega
  have hm2 : m < 32 := by omega
  have he := rotl_eq hx hm hn hn2
  have HE := hid he
  clear he
  go_enter Tryz.func92, Tryz.ntmps92
  go_wp2
  go_ret
  exact ⟨by rw [HE.out]; rfl, rfl⟩
set_option maxRecDepth 100000 in
theorem turned_any (x n : Nat) (w : World) (hx : x < 4294967296) (hn : 1 ≤ n) (hn2 : n < 32) :
    Calls Tryz.prog 73 #[.int .u32 (x : Int), .int .i64 (n : Int)] w fun e w' => e = .returned (.int .u32 (rot x n : Int)) ∧ w = w' := by
  go_enter Tryz.func73, Tryz.ntmps73
  go_wp2_with fail
  refine (rotl_any x n w hx hn hn2).mono ?_
  rintro e w1 ⟨rfl, rfl⟩
  go_wp2
  go_ret
  exact ⟨rfl, rfl⟩
end Go.Proofs.YtmflbchiapdhbaaGreatDoor

namespace Go.Proofs.YtmflbchiapdhbaaGreatDoor
open Go.RowKit

theorem setCells_size (b : Nat) : ∀ (vs : List Value) (o : Nat) (w : World), (w.setCells b o vs).heap.size = w.heap.size
  | [], _, _ => rfl
  | v :: r, o, w => by rw [World.setCells, setCells_size b r]; simp
theorem setCells_other (b : Nat) (k : Nat) (hk : k ≠ b) : ∀ (vs : List Value) (o : Nat) (w : World), (w.setCells b o vs).heap[k]? = w.heap[k]?
  | [], _, _ => rfl
  | v :: r, o, w => by rw [World.setCells, setCells_other b k hk r, heap_setCell_ne _ _ _ _ hk]
theorem setCells_os (b : Nat) : ∀ (vs : List Value) (o : Nat) (w : World), (w.setCells b o vs).os = w.os ∧ (w.setCells b o vs).tape = w.tape ∧ (w.setCells b o vs).output = w.output
  | [], _, _ => ⟨rfl, rfl, rfl⟩
  | v :: r, o, w => by rw [World.setCells]; exact setCells_os b r _ _
theorem setCells_at (b : Nat) (e : TypeId) : ∀ (vs : List Value) (o : Nat) (w : World) (cur : Array Value), w.heap[b]? = some (.cells cur e (0, 0)) → o + vs.length ≤ cur.size →
    ∃ cur', (w.setCells b o vs).heap[b]? = some (.cells cur' e (0, 0)) ∧ cur'.size = cur.size ∧ cur'.toList.take (o + vs.length) = cur.toList.take o ++ vs
  | [], o, w, cur, h, _ => ⟨cur, h, rfl, by simp⟩
  | v :: r, o, w, cur, h, hl => by
    simp at hl
    obtain ⟨cur', h1, h2, h3⟩ := setCells_at b e r (o + 1) (w.setCell ⟨b, o, none⟩ v) _ (heap_setCell_at h o v) (by simp; omega)
    refine ⟨cur', h1, by simpa using h2, ?_⟩
    rw [show o + (v :: r).length = o + 1 + r.length by simp; omega, h3]
    rw [List.take_succ_eq_append_getElem (by simp; omega)]
    simp [List.take_set_of_le]

theorem firstCells_own {P : Program} {w : World} {base : Nat} {e : TypeId} {size n cap g : Nat} {xs : List Value} (hown : w.ownsRow base e size (.slice (some ⟨g, 0, none⟩) n cap) n xs) :
    (Builtin.firstCells size n (.slice (some ⟨g, 0, none⟩) n cap)).run P w.drew = .ok xs.toArray w.drew :=
  run_firstCells_some w.drew size n ⟨g, 0, none⟩ n cap xs hown.1 (by simpa using hown.cells (g := g) rfl)

/-- what a row is behind an append -/
structure Appended (e : TypeId) (size : Nat) (w w' : World) (v v' : Value) (n : Nat) (xs : List Value) : Prop where
  row : w'.ownsRow 0 e size v' n xs
  keeps : Keeps (fun k => v.ownBlock = some k) w w'
  own : ∀ g, v'.ownBlock = some g → v.ownBlock = some g ∨ (w.heap.size ≤ g ∧ g < w'.heap.size)

theorem Appended.refl {e : TypeId} {size : Nat} {w : World} {v : Value} {n : Nat} {xs : List Value} (h : w.ownsRow 0 e size v n xs) : Appended e size w w v v n xs := ⟨h, Keeps.refl _ _, fun _ h => .inl h⟩
theorem Appended.trans {e : TypeId} {size : Nat} {w w1 w2 : World} {v v1 v2 : Value} {n n' : Nat} {xs xs' : List Value} (h : Appended e size w w1 v v1 n xs) (k : Appended e size w1 w2 v1 v2 n' xs') : Appended e size w w2 v v2 n' xs' := by
  refine ⟨k.row, h.keeps.trans' k.keeps fun i hi h1 => ?_, fun g hg => ?_⟩
  · rcases h.own i h1 with h0 | h0
    · exact h0
    · omega
  · rcases k.own g hg with h1 | h1
    · rcases h.own g h1 with h0 | h0
      · exact .inl h0
      · exact .inr ⟨h0.1, Nat.lt_of_lt_of_le h0.2 k.keeps.size⟩
    · exact .inr ⟨Nat.le_trans h.keeps.size h1.1, h1.2⟩

theorem run_append_row {P : Program} (w : World) (t tx ty e : TypeId) (i : TypeInfo) (z : Value) (size bytes : Nat) (ht : P.underlying t = some (.slice e)) (hi : P.info? e = some i) (hz : i.zero = some z)
    (hsize : i.size = size) (hby : i.bytes = bytes) (hzs : z.cells.size = size) (_hsz : 0 < size)
    (v : Value) (n : Nat) (xs : List Value) (hown : w.ownsRow 0 e size v n xs) (x : Value) (m : Nat) (news : List Value) (hs : Src P size tx x m news w)
    (h63 : n + m ≤ maxLen) (hbytes : (n + m) * bytes ≤ 140737488355328) :
    ∃ v' w', (Builtin.append_ #[t, tx] ty #[v, x]).run P w = .ok v' w' ∧ Appended e size w w' v v' (n + m) (xs ++ news) ∧ (v' = .slice none 0 0 ↔ v = .slice none 0 0 ∧ m = 0) := by
  subst hsize
  subst hby
  have hsmall : ((n + m : Nat) : Int) ≤ 9223372036854775807 := by simp only [maxLen] at h63; omega
  have hlen : (xs ++ news).length = (n + m) * i.size := by rw [List.length_append, hown.1, hs.newsLen, Nat.add_mul]
  have grown : ∀ old, old < n + m → ∀ (v0 : Value),
      Appended e i.size w (w.drew.alloc (.cells ((xs ++ news).toArray ++ Builtin.zeroCells z.cells (grownCap w (n + m) old e - (n + m))) e)) v0 (.slice (some ⟨w.heap.size, 0, none⟩) (n + m) (grownCap w (n + m) old e)) (n + m) (xs ++ news) := by
    intro old ho v0
    have hge := grownCap_ge w (n + m) old e
    have hcm : grownCap w (n + m) old e ≤ maxLen := grownCap_le_maxLen w (n + m) old e h63
    refine ⟨⟨hlen, .inr ⟨w.heap.size, _, _, rfl, Nat.zero_le _, heap_alloc_new w.drew _, hge, hcm, ?_, ?_⟩⟩, (Keeps.refl _ w).drew.alloc _, fun g hg => ?_⟩
    · simp only [Array.size_append, List.size_toArray, size_zeroCells, hzs, hlen, ← Nat.add_mul]
      congr 1
      omega
    · simp only [Array.toList_append, ← hlen]
      exact List.take_left
    · simp [Value.ownBlock] at hg
      subst hg
      exact .inr ⟨Nat.le_refl _, by simp⟩
  rcases hown.2 with ⟨rfl, rfl⟩ | ⟨g, cap, cur, rfl, hbg, hg, hnc, hcm, hcs, htake⟩
  · have hx : xs = [] := List.eq_nil_of_length_eq_zero (by simpa using hown.1)
    subst hx
    by_cases hm : m = 0
    · subst hm
      have hn : news = [] := List.eq_nil_of_length_eq_zero (by simpa using hs.newsLen)
      subst hn
      refine ⟨.slice none 0 0, w, ?_, ⟨World.ownsRow_nil w 0 e i.size, Keeps.refl _ _, fun g h => .inl h⟩, by simp⟩
      rcases hs.kind with ⟨e', hk⟩ | hk <;> simp [Builtin.append_, run_underlying ht, run_underlying hk, sizeOf, typeInfo, hi, hs.len, hs.cells]
    · have hr := run_append_grow_src (P := P) w t tx ty e i z ht hi hz none 0 0 [] (run_firstCells_none w.drew i.size 0 0 0) x m news hs (by omega) (by simpa using hsmall) (growslice_fits (by omega) hbytes)
      have hgr := grown 0 (by omega) (.slice none 0 0)
      refine ⟨_, _, hr, hgr, by simp [hm]⟩
  · by_cases hroom : n + m ≤ cap
    · have hfit : n * i.size + news.length ≤ cur.size := by rw [hs.newsLen, hcs, ← Nat.add_mul]; exact Nat.mul_le_mul_right _ hroom
      have hr := run_append_room_src (P := P) w t tx ty e i ht hi g 0 n cap x m news hs hroom
        (fun j hj => by rw [cell_at hg]; simp; omega) (fun j _ => free_at hg _)
      obtain ⟨cur', h1, h2, h3⟩ := setCells_at g e news (0 + n * i.size) w cur hg (by omega)
      refine ⟨_, _, hr, ⟨⟨hlen, .inr ⟨g, cap, cur', rfl, hbg, h1, hroom, hcm, by omega, ?_⟩⟩, ⟨(setCells_os g _ _ _).1, (setCells_os g _ _ _).2.1, (setCells_os g _ _ _).2.2, by rw [setCells_size]; exact Nat.le_refl _, fun k _ hk => setCells_other g k (fun e => hk (by simp [Value.ownBlock, e])) _ _ _⟩, fun _ h => .inl h⟩, by simp⟩
      rw [show (n + m) * i.size = 0 + n * i.size + news.length by rw [hs.newsLen, Nat.add_mul]; omega, h3]
      simp [htake]
    · have hr := run_append_grow_src (P := P) w t tx ty e i z ht hi hz (some ⟨g, 0, none⟩) n cap xs (firstCells_own hown) x m news hs (by omega) hsmall (growslice_fits (by omega) hbytes)
      exact ⟨_, _, hr, grown cap (by omega) _, by simp⟩

/-- THE WALK's STEP: one element, which the statement has just laid in a block of its own. -/
theorem wpList_push {P : Program} {ops : Array Oper} {rest : List Oper} {o : Oper} {a : Act} {Q : Exit → Act → World → Prop} (hgd : o.guard = none) (s x : Operand) (t : TypeId)
    (ho : o.op = .call { callee := .builtin .append, args := #[s, x], argTypes := #[t, t] })
    (e : TypeId) (i : TypeInfo) (z : Value) (bytes : Nat) (ht : P.underlying t = some (.slice e)) (hi : P.info? e = some i) (hz : i.zero = some z) (hsize : i.size = 1) (hby : i.bytes = bytes) (hzs : z.cells.size = 1)
    {v : Value} {n : Nat} {xs : List Value} (w0 : World) (hown : w0.ownsRow 0 e 1 v n xs) (u : Value) (hs : a.eval s = v) (hx : a.eval x = .slice (some ⟨w0.heap.size, 0, none⟩) 1 1) (hu : u.oneCell' = true)
    (hb : (n + 1) * bytes ≤ 140737488355328) (hn : n + 1 ≤ maxLen)
    (h : ∀ v' w', Appended e 1 w0 w' v v' (n + 1) (xs ++ [u]) → wpList P ops Q rest (a.put o.dst v') w') : wpList P ops Q (o :: rest) a (w0.alloc (.cells #[u] e)) := by
  refine wpList_plain hgd fun K hK => ?_
  have hsrc : Src P 1 t (.slice (some ⟨w0.heap.size, 0, none⟩) 1 1) 1 [u] (w0.alloc (.cells #[u] e)) := Src.ofSlice _ ht _ 1 1 [u] rfl (fun j y hj => by
    match j, hj with
    | 0, hj => simp at hj; subst hj; simp [Addr.add]
    | (j + 1), hj => simp at hj) (fun y hy => by simp at hy; subst hy; exact hu)
  obtain ⟨v', w', hr, ⟨h1, h2, h3⟩, h4⟩ := run_append_row (P := P) (w0.alloc (.cells #[u] e)) t t o.type e i z 1 bytes ht hi hz hsize hby hzs (by decide) v n xs (hown.alloc _) _ 1 [u] hsrc hn hb
  unfold Oper.wp
  simp [execOp, ho, resolve, invoke, builtin, hs, hx, hr, Result.andThen]
  refine hK _ _ (h v' w' ⟨h1, ((Keeps.refl _ w0).alloc _).trans h2, fun g hg => ?_⟩)
  rcases h3 g hg with h | h
  · exact .inl h
  · have := h.1; simp at this; exact .inr ⟨by omega, h.2⟩

theorem step_push {P : Program} {ops : Array Oper} {o : Oper} {a : Act} {K : Act → World → Prop} {Q : Exit → Act → World → Prop} {F : Prop} (hgd : o.guard = none) (s x : Operand) (t : TypeId)
    (ho : o.op = .call { callee := .builtin .append, args := #[s, x], argTypes := #[t, t] })
    (e : TypeId) (i : TypeInfo) (z : Value) (bytes : Nat) (ht : P.underlying t = some (.slice e)) (hi : P.info? e = some i) (hz : i.zero = some z) (hsize : i.size = 1) (hby : i.bytes = bytes) (hzs : z.cells.size = 1)
    {v : Value} {n : Nat} {xs : List Value} (w0 : World) (hown : w0.ownsRow 0 e 1 v n xs) (u : Value) (hs : a.eval s = v) (hx : a.eval x = .slice (some ⟨w0.heap.size, 0, none⟩) 1 1) (hu : u.oneCell' = true)
    (hb : (n + 1) * bytes ≤ 140737488355328) (hn : n + 1 ≤ maxLen)
    (h : ∀ v' w', Appended e 1 w0 w' v v' (n + 1) (xs ++ [u]) → K (a.put o.dst v') w') :
    if Region.wanted o (yielded ops a.tmps) = true then Oper.wp P o a (w0.alloc (.cells #[u] e)) K Q else F := by
  have hw : Region.wanted o (yielded ops a.tmps) = true := by simp [Region.wanted, hgd]
  rw [if_pos hw]
  have hsrc : Src P 1 t (.slice (some ⟨w0.heap.size, 0, none⟩) 1 1) 1 [u] (w0.alloc (.cells #[u] e)) := Src.ofSlice _ ht _ 1 1 [u] rfl (fun j y hj => by
    match j, hj with
    | 0, hj => simp at hj; subst hj; simp [Addr.add]
    | (j + 1), hj => simp at hj) (fun y hy => by simp at hy; subst hy; exact hu)
  obtain ⟨v', w', hr, ⟨h1, h2, h3⟩, h4⟩ := run_append_row (P := P) (w0.alloc (.cells #[u] e)) t t o.type e i z 1 bytes ht hi hz hsize hby hzs (by decide) v n xs (hown.alloc _) _ 1 [u] hsrc hn hb
  unfold Oper.wp
  simp [execOp, ho, resolve, invoke, builtin, hs, hx, hr, Result.andThen]
  refine h v' w' ⟨h1, ((Keeps.refl _ w0).alloc _).trans h2, fun g hg => ?_⟩
  rcases h3 g hg with h | h
  · exact .inl h
  · have := h.1; simp at this; exact .inr ⟨by omega, h.2⟩

/-- THE WALK's STEP: whatever is appended ('append(s, x...)'). -/
theorem wpList_append_src {P : Program} {w : World} {ops : Array Oper} {rest : List Oper} {o : Oper} {a : Act} {Q : Exit → Act → World → Prop} (hgd : o.guard = none) (s x : Operand) (t tx : TypeId)
    (ho : o.op = .call { callee := .builtin .append, args := #[s, x], argTypes := #[t, tx] })
    (e : TypeId) (i : TypeInfo) (z : Value) (size bytes : Nat) (ht : P.underlying t = some (.slice e)) (hi : P.info? e = some i) (hz : i.zero = some z) (hsize : i.size = size) (hby : i.bytes = bytes) (hzs : z.cells.size = size) (hsz : 0 < size)
    {v : Value} {n : Nat} {xs : List Value} (hown : w.ownsRow 0 e size v n xs) (xv : Value) (m : Nat) (news : List Value) (hs : a.eval s = v) (hx : a.eval x = xv) (hsrc : Src P size tx xv m news w)
    (hn : n + m ≤ maxLen) (hb : (n + m) * bytes ≤ 140737488355328)
    (h : ∀ v' w', Appended e size w w' v v' (n + m) (xs ++ news) → wpList P ops Q rest (a.put o.dst v') w') : wpList P ops Q (o :: rest) a w := by
  refine wpList_plain hgd fun K hK => ?_
  obtain ⟨v', w', hr, h1, h4⟩ := run_append_row (P := P) w t tx o.type e i z size bytes ht hi hz hsize hby hzs hsz v n xs hown xv m news hsrc hn hb
  unfold Oper.wp
  simp [execOp, ho, resolve, invoke, builtin, hs, hx, hr, Result.andThen]
  exact hK _ _ (h v' w' h1)

/-- 'string(b)' of a row of bytes that is owned. -/
theorem run_text_of_row {P : Program} {w : World} {base : Nat} {e : TypeId} {v : Value} {bs : List UInt8} (src dst : TypeId) (hs : P.underlying src = some (.slice e)) (he : P.underlying e = some (.int .u8)) (hd : P.underlying dst = some .string)
    (h : w.ownsRow base e 1 v bs.length (bs.map fun b => Value.int .u8 (b.toNat : Int))) : (convert src dst v).run P w = .ok (.string ⟨bs.toArray⟩) w := by
  rcases h.2 with ⟨rfl, h0⟩ | ⟨g, cap, cur, rfl, _⟩
  · have : bs = [] := List.eq_nil_of_length_eq_zero h0
    subst this
    exact run_convert_bytes_nil w src e hs he 0 0 dst hd
  · refine run_convert_bytes_back w src dst e _ cap bs hs he hd fun j hj => ?_
    exact h.cells (g := g) rfl j _ (by simp [List.getElem?_eq_getElem hj])
end Go.Proofs.YtmflbchiapdhbaaGreatDoor

namespace Go.Proofs.YtmflbchiapdhbaaGreatDoor
open Go.RowKit

theorem zeros_cells' (n : Nat) : (madeCells #[Value.int .u8 0] n).toList = u8s (List.replicate n 0) := by
  simp only [madeCells, u8s]
  apply List.ext_getElem?
  intro j
  simp only [Array.toList_map, Array.toList_range, List.getElem?_map, List.getElem?_replicate]
  by_cases hj : j < n
  · simp [hj, Nat.mod_one]
  · simp [hj]
theorem Tryz.infoByte : (Tryz.prog.info? 5).map (fun i => (i.zero, i.size, i.bytes)) = some (some (.int .u8 0), 1, 1) := by kernel_rfl

/-- the number of which a raw one is the word -/
def low64 (c : Int) : Nat := (c % 18446744073709551616).toNat
theorem byte_at (c : Int) (i : Nat) (hi : i < 8) : IntKind.u8.wrap (c / 2 ^ (8 * i)) = ((UInt8.ofNat (low64 c / 256 ^ i)).toNat : Int) := by
  rw [IntKind.wrap_u8]
  simp only [UInt8.toNat_ofNat', low64]
  rcases (by omega : i = 0 ∨ i = 1 ∨ i = 2 ∨ i = 3 ∨ i = 4 ∨ i = 5 ∨ i = 6 ∨ i = 7) with rfl | rfl | rfl | rfl | rfl | rfl | rfl | rfl
  all_goals
    simp
    omega
theorem fill_step (N k i : Nat) (h : i < k) : (u8s (List.replicate (k - i) 0 ++ bigEnd N i)).set (k - 1 - i) (.int .u8 ((UInt8.ofNat (N / 256 ^ i)).toNat : Int)) = u8s (List.replicate (k - (i + 1)) 0 ++ bigEnd N (i + 1)) := by
  obtain ⟨j, rfl⟩ : ∃ j, k = i + 1 + j := ⟨k - (i + 1), by omega⟩
  have e1 : i + 1 + j - i = j + 1 := by omega
  have e2 : i + 1 + j - 1 - i = j := by omega
  have e3 : i + 1 + j - (i + 1) = j := by omega
  rw [e1, e2, e3]
  simp only [u8s, List.map_append, List.map_replicate, bigEnd, List.map_cons]
  rw [List.replicate_succ', List.append_assoc, List.set_append_right _ _ (by simp)]
  simp

set_option maxRecDepth 100000 in
set_option maxHeartbeats 1000000 in
theorem big_any (c : Int) (k : Nat) (w : World) (hk : k ≤ 8) (_h1 : -9223372036854775808 ≤ c) (_h2 : c ≤ 9223372036854775807) :
    Calls Tryz.prog 63 #[.int .i64 c, .int .i64 (k : Int)] w fun e w' => e = .returned (.string (str (bigEnd (low64 c) k))) ∧ Fresh w w' := by
  obtain ⟨i0, hi, hz0, hz1, hz2⟩ := info_parts Tryz.infoByte
  go_enter Tryz.func63, Tryz.ntmps63
  go_wp2_with (at_make; refine wpList_make_full _ rfl (.tmp 7) (.tmp 7) 47 rfl 0 5 i0 (.int .u8 0) 1 Tryz.underlying47 hi hz0 hz1 .i64 .i64 (k : Int) (k : Int) k rfl rfl (by omega) (by omega) (by rw [hz2]; omega) (by unfold maxLen; omega) (Nat.zero_le _) ?_)
  intro w3 hrow hgr
  have f3 : Fresh w w3 := (Keeps.refl _ w).grown hgr (fun k h => by cases h)
  have hrow2 : w3.ownsRow 0 5 1 (.slice (some ⟨w.heap.size, 0, none⟩) k k) k (u8s (List.replicate (k - 0) 0 ++ bigEnd (low64 c) 0)) := by
    rw [zeros_cells'] at hrow; simpa [bigEnd] using hrow
  clear hrow hgr hi hz0 hz1 hz2
  go_wp2
  go_loopw [6] (fun i wr => ∃ (j : Nat), i = .int .i64 (j : Int) ∧ j ≤ k ∧ wr.ownsRow 0 5 1 (.slice (some ⟨w.heap.size, 0, none⟩) k k) k (u8s (List.replicate (k - j) 0 ++ bigEnd (low64 c) j)) ∧ Fresh w wr) (fun i _ => k - (intOf i).toNat)
  case atStart => exact ⟨0, rfl, by omega, hrow2, f3⟩
  case round =>
    obtain ⟨j, rfl, hj, hrow, fr⟩ := hrel
    by_cases hlt : j < k
    · have hst := hrow.stored (k - 1 - j) (.int .u8 ((UInt8.ofNat (low64 c / 256 ^ j)).toNat : Int))
      rw [fill_step _ _ _ hlt] at hst
      have hb := byte_at c j (by omega)
      obtain ⟨u, hu⟩ : ∃ u, (u8s (List.replicate (k - j) 0 ++ bigEnd (low64 c) j))[k - 1 - j]? = some u := by
        have hlen : k - 1 - j < (u8s (List.replicate (k - j) 0 ++ bigEnd (low64 c) j)).length := by simp [u8s, bigEnd_len]; omega
        exact ⟨_, List.getElem?_eq_getElem hlen⟩
      have hcell := (hrow.cellAt (k - 1 - j) (by omega)).trans hu
      have hfz := hrow.frozenAt (k - 1 - j)
      generalize UInt8.ofNat (low64 c / 256 ^ j) = y at *
      have HST := hid hst
      have he1 : IntKind.i64.wrap (8 * (j : Int)) = 8 * (j : Int) := by rw [IntKind.wrap_i64]; omega
      clear hst hrow hu
      go_wp2
      go_roundw
      case rel => exact ⟨j + 1, by go_num, by omega, HST.out.1, fr.grown HST.out.2 (fun b hb hlt => by cases hb; omega)⟩
      case measure => simp [intOf]; omega
    · obtain rfl : j = k := by omega
      have hcv : (convert 47 9 (.slice (some ⟨w.heap.size, 0, none⟩) j j)).run Tryz.prog wr = .ok (.string (str (bigEnd (low64 c) j))) wr := by
        have h0 : List.replicate (j - j) (0 : UInt8) ++ bigEnd (low64 c) j = bigEnd (low64 c) j := by simp
        rw [h0] at hrow
        have hl := bigEnd_len (low64 c) j
        have := run_text_of_row 47 9 Tryz.underlying47 Tryz.underlying5 Tryz.underlying9 (bs := bigEnd (low64 c) j) (by rw [hl]; exact hrow)
        exact this
      clear hrow
      go_wp2
      go_ret
      exact ⟨rfl, fr⟩
end Go.Proofs.YtmflbchiapdhbaaGreatDoor

namespace Go.Proofs.YtmflbchiapdhbaaGreatDoor
open Go.RowKit

/-- xs, one cell each, at the beginning of a block whose cells are not frozen -/
def RowM (w : World) (e : TypeId) (v : Value) (xs : List Value) : Prop :=
  ∃ g cur fr, v = .slice (some ⟨g, 0, none⟩) xs.length cur.size ∧ w.heap[g]? = some (.cells cur e fr) ∧ (fr.1 = fr.2 ∨ cur.size ≤ fr.1) ∧ xs.length ≤ cur.size ∧ cur.size ≤ maxLen ∧ cur.toList.take xs.length = xs
theorem free_mark {w : World} {b : Nat} {c : Array Value} {e : TypeId} {fr : Nat × Nat} (h : w.heap[b]? = some (.cells c e fr)) (hfr : fr.1 = fr.2 ∨ c.size ≤ fr.1) (o : Nat) (ho : o < c.size) : w.frozen? ⟨b, o, none⟩ = false := by
  simp [World.frozen?, h]
  omega
theorem RowM.cells {w : World} {e : TypeId} {n cap g : Nat} {xs : List Value} (h : RowM w e (.slice (some ⟨g, 0, none⟩) n cap) xs) : ∀ j u, xs[j]? = some u → w.cell? ((⟨g, 0, none⟩ : Addr).add j) = some u := by
  obtain ⟨g', cur, fr, hv, hg, _, hn, _, ht⟩ := h
  simp only [Value.slice.injEq, Option.some.injEq, Addr.mk.injEq, and_true] at hv
  obtain ⟨rfl, _, _⟩ := hv
  intro j u hj
  rw [addr_add0, cell_at hg]
  rw [← ht, List.getElem?_take] at hj
  split at hj
  · simpa using hj
  · cases hj
theorem RowM.len {w : World} {e : TypeId} {g n cap : Nat} {xs : List Value} (h : RowM w e (.slice (some ⟨g, 0, none⟩) n cap) xs) : n = xs.length := by
  obtain ⟨g', cur, fr, hv, _⟩ := h
  simp at hv
  exact hv.2.1
theorem RowM.keeps {S : Nat → Prop} {w w' : World} {e : TypeId} {v : Value} {xs : List Value} (h : RowM w e v xs) (hk : Keeps S w w') (hn : ∀ g, v.ownBlock = some g → ¬ S g) : RowM w' e v xs := by
  obtain ⟨g, cur, fr, rfl, hg, h3⟩ := h
  exact ⟨g, cur, fr, rfl, hk.at_ hg (hn g rfl), h3⟩

theorem wpList_pushM {P : Program} {ops : Array Oper} {rest : List Oper} {o : Oper} {a : Act} {Q : Exit → Act → World → Prop} (hgd : o.guard = none) (s x : Operand) (t : TypeId)
    (ho : o.op = .call { callee := .builtin .append, args := #[s, x], argTypes := #[t, t] })
    (e : TypeId) (i : TypeInfo) (z : Value) (bytes : Nat) (ht : P.underlying t = some (.slice e)) (hi : P.info? e = some i) (hz : i.zero = some z) (hsize : i.size = 1) (hby : i.bytes = bytes) (hzs : z.cells.size = 1)
    {v : Value} {xs : List Value} (w0 : World) (hrow : RowM w0 e v xs) (u : Value) (hs : a.eval s = v) (hx : a.eval x = .slice (some ⟨w0.heap.size, 0, none⟩) 1 1) (hu : u.oneCell' = true)
    (hb : (xs.length + 1) * bytes ≤ 140737488355328) (hn : xs.length + 1 ≤ maxLen)
    (h : ∀ v' w', RowM w' e v' (xs ++ [u]) → Keeps (fun k => v.ownBlock = some k) w0 w' → (∀ g, v'.ownBlock = some g → v.ownBlock = some g ∨ (w0.heap.size ≤ g ∧ g < w'.heap.size)) → wpList P ops Q rest (a.put o.dst v') w') : wpList P ops Q (o :: rest) a (w0.alloc (.cells #[u] e)) := by
  refine wpList_plain hgd fun K hK => ?_
  have hsrc : Src P i.size t (.slice (some ⟨w0.heap.size, 0, none⟩) 1 1) 1 [u] (w0.alloc (.cells #[u] e)) := by
    rw [hsize]
    exact Src.ofSlice _ ht _ 1 1 [u] rfl (fun j y hj => by
      match j, hj with
      | 0, hj => simp at hj; subst hj; simp [Addr.add]
      | (j + 1), hj => simp at hj) (fun y hy => by simp at hy; subst hy; exact hu)
  have hk0 : Keeps (fun _ => False) w0 (w0.alloc (.cells #[u] e)) := (Keeps.refl _ w0).alloc _
  have hrow1 := hrow.keeps hk0 (fun _ _ h => h)
  obtain ⟨g, cur, fr, hv, hg, hfr, hle, hcm, htake⟩ := hrow1
  have hglt : g < w0.heap.size := by
    obtain ⟨g', cur', fr', hv', hg', _⟩ := hrow
    rw [hv] at hv'
    simp only [Value.slice.injEq, Option.some.injEq, Addr.mk.injEq, and_true] at hv'
    rw [hv'.1]
    exact lt_of_block hg'
  have fin : ∀ v' w', (Builtin.append_ #[t, t] o.type #[v, .slice (some ⟨w0.heap.size, 0, none⟩) 1 1]).run P (w0.alloc (.cells #[u] e)) = .ok v' w' → RowM w' e v' (xs ++ [u]) → Keeps (fun k => v.ownBlock = some k) w0 w' →
      (∀ g, v'.ownBlock = some g → v.ownBlock = some g ∨ (w0.heap.size ≤ g ∧ g < w'.heap.size)) → o.wp P a (w0.alloc (.cells #[u] e)) K Q := by
    intro v' w' hr h1 h2 h3
    unfold Oper.wp
    simp [execOp, ho, resolve, invoke, builtin, hs, hx, hr, Result.andThen]
    exact hK _ _ (h v' w' h1 h2 h3)
  by_cases hroom : xs.length + 1 ≤ cur.size
  · have hr := run_append_room_src (P := P) (w := w0.alloc (.cells #[u] e)) t t o.type e i ht hi g 0 xs.length cur.size _ 1 [u] hsrc hroom
      (fun j hj => by simp at hj; subst hj; rw [cell_at hg, hsize]; simp; omega) (fun j hj => by simp at hj; subst hj; rw [hsize]; exact free_mark hg hfr _ (by omega))
    rw [← hv] at hr
    refine fin _ _ hr ⟨g, cur.setIfInBounds xs.length u, fr, ?_, ?_, by simpa using hfr, by simp; omega, by simpa using hcm, ?_⟩ ?_ (fun g' hg' => .inl ?_)
    · simp
    · simp only [World.setCells, hsize]
      rw [show 0 + xs.length * 1 = xs.length by omega]
      exact heap_setCell_at hg _ _
    · rw [Array.toList_setIfInBounds, List.length_append, List.length_singleton, List.take_succ_eq_append_getElem (by simp; omega)]
      simp [List.take_set_of_le, htake]
    · simp only [World.setCells, hsize]
      exact (hk0.mono (S' := fun k => v.ownBlock = some k) fun _ _ h => h.elim).setCell (fun _ => by rw [hv]; rfl) _
    · rw [hv]; exact hg'
  · have hr := run_append_grow_src (P := P) (w := w0.alloc (.cells #[u] e)) t t o.type e i z ht hi hz (some ⟨g, 0, none⟩) xs.length cur.size xs
      (by
        rw [hsize]
        refine run_firstCells_some _ 1 xs.length ⟨g, 0, none⟩ xs.length cur.size xs (by omega) ?_
        have : RowM (w0.alloc (.cells #[u] e)) e (.slice (some ⟨g, 0, none⟩) xs.length cur.size) xs := ⟨g, cur, fr, rfl, hg, hfr, hle, hcm, htake⟩
        simpa using this.cells) _ 1 [u] hsrc (by omega) (by simp only [maxLen] at hn; omega) (growslice_fits (by omega) (by rw [hby]; exact hb))
    rw [← hv] at hr
    have hge := grownCap_ge (w0.alloc (.cells #[u] e)) (xs.length + 1) cur.size e
    have hcm2 : grownCap (w0.alloc (.cells #[u] e)) (xs.length + 1) cur.size e ≤ maxLen := grownCap_le_maxLen _ _ _ e hn
    refine fin _ _ hr ⟨_, _, (0, 0), ?_, heap_alloc_new (w0.alloc (.cells #[u] e)).drew _, .inl rfl, ?_, ?_, ?_⟩ ((hk0.drew.alloc _).mono fun _ _ h => h.elim) (fun g' hg' => .inr ?_)
    · simp only [List.length_append, List.length_singleton, Array.size_append, List.size_toArray, size_zeroCells, hzs]
      congr 1
      omega
    · simp only [List.length_append, List.length_singleton, Array.size_append, List.size_toArray, size_zeroCells, hzs]
      omega
    · simp only [List.length_append, List.length_singleton, Array.size_append, List.size_toArray, size_zeroCells, hzs]
      omega
    · simp only [Array.toList_append]
      exact List.take_left
    · simp [Value.ownBlock] at hg'
      subst hg'
      exact ⟨by simp, by simp⟩
end Go.Proofs.YtmflbchiapdhbaaGreatDoor

namespace Go.Proofs.YtmflbchiapdhbaaGreatDoor
open Go.RowKit

theorem str_cat (a b : List UInt8) : str a ++ str b = str (a ++ b) := by
  apply ByteArray.ext
  simp [str]
theorem u8s_len (l : List UInt8) : (u8s l).length = l.length := by simp [u8s]
theorem u8s_snoc (l : List UInt8) (x : UInt8) : u8s (l ++ [x]) = u8s l ++ [.int .u8 (x.toNat : Int)] := by simp [u8s]

/-- '[]byte(s)' -/
theorem bytes_of (w : World) (s : List UInt8) (hs : s.length ≤ 140737488355328) : ∃ C w2, (convert 9 47 (.string (str s))).run Tryz.prog w = .ok (.slice (some ⟨w.heap.size, 0, none⟩) s.length C) w2 ∧
    RowM w2 5 (.slice (some ⟨w.heap.size, 0, none⟩) s.length C) (u8s s) ∧ Fresh w w2 := by
  have hr := run_bytes_of_string (P := Tryz.prog) w 9 47 5 (str s) Tryz.underlying9 Tryz.underlying47 Tryz.underlying5
  have hsz := str_size s
  have hge := grownCap_ge w (str s).size 0 5
  have hle : grownCap w (str s).size 0 5 ≤ maxLen := grownCap_le_maxLen w _ 0 _ (by unfold maxLen; omega)
  have hcs : (bytesRow (str s) (grownCap w (str s).size 0 5)).size = grownCap w (str s).size 0 5 := by
    have : (str s).data.size = (str s).size := rfl
    simp only [bytesRow, Array.size_append, Array.size_map, Array.size_replicate]
    omega
  generalize grownCap w (str s).size 0 5 = C at *
  rw [hsz] at hr
  refine ⟨C, _, hr, ⟨w.heap.size, bytesRow (str s) C, _, ?_, heap_alloc_new w.drew _, .inr (Nat.le_refl _), ?_, by rw [hcs]; exact hle, ?_⟩, (Keeps.refl _ w).drew.alloc _⟩
  · rw [u8s_len, hcs]
  · rw [u8s_len, hcs]; omega
  · simp only [bytesRow, Array.toList_append, Array.toList_map]
    exact List.take_left' (by simp [u8s_len]; rfl)

/-- 'string(b)' -/
theorem text_ofM (w : World) (g n cap : Nat) (l : List UInt8) (h : RowM w 5 (.slice (some ⟨g, 0, none⟩) n cap) (u8s l)) : (convert 47 9 (.slice (some ⟨g, 0, none⟩) n cap)).run Tryz.prog w = .ok (.string (str l)) w := by
  have hn := h.len
  rw [u8s_len] at hn
  subst hn
  exact run_convert_bytes_back w 47 9 5 _ cap l Tryz.underlying47 Tryz.underlying5 Tryz.underlying9 fun j hj => h.cells j _ (by simp [u8s, hj])

/-- 128 and so many noughts -/
def fillTo (s : List UInt8) (k : Nat) : List UInt8 := s ++ 128 :: List.replicate k 0
theorem fillTo_succ (s : List UInt8) (k : Nat) : fillTo s k ++ [0] = fillTo s (k + 1) := by simp [fillTo, List.replicate_succ']
theorem fillTo_len (s : List UInt8) (k : Nat) : (fillTo s k).length = s.length + 1 + k := by simp [fillTo]; omega
theorem filledUp_eq (s : List UInt8) (n : Nat) (h : n = 8 * s.length % 18446744073709551616) : fillTo s (noughts s.length) ++ bigEnd n 8 = filledUp s := by simp [fillTo, filledUp, h]

set_option maxRecDepth 100000 in
set_option maxHeartbeats 1000000 in
theorem filled_any (s : List UInt8) (w : World) (hs : s.length ≤ 70368744177664) :
    Calls Tryz.prog 60 #[.string (str s)] w fun e w' => e = .returned (.string (str (filledUp s))) ∧ Fresh w w' := by
  obtain ⟨i0, hi, hz0, hz1, hz2⟩ := info_parts Tryz.infoByte
  obtain ⟨C, w2, hcv, hrow, f2⟩ := bytes_of w s (by omega)
  have hsz := str_size s
  go_enter Tryz.func60, Tryz.ntmps60
  go_wp2_with (at_builtin; refine wpList_pushM rfl (.tmp 9) (.tmp 10) 47 rfl 5 i0 (.int .u8 0) 1 Tryz.underlying47 hi hz0 hz1 hz2 rfl w2 hrow _ (by rfl) (by rfl) rfl (by rw [u8s_len]; omega) (by rw [u8s_len]; unfold maxLen; omega) ?_)
  intro v3 w3 hrow3 hk3 hown3
  have e3 : u8s s ++ [Value.int IntKind.u8 128] = u8s (fillTo s 0) := by simp [fillTo, u8s]
  rw [e3] at hrow3
  have hnew3 : ∀ g, v3.ownBlock = some g → w.heap.size ≤ g := fun g hg => by
    rcases hown3 g hg with h | h
    · simp [Value.ownBlock] at h; omega
    · have := f2.size; omega
  have f3 : Fresh w w3 := f2.trans' hk3 fun i hi h => by simp [Value.ownBlock] at h; omega
  obtain ⟨z, hz⟩ : ∃ z, z = noughts s.length := ⟨_, rfl⟩
  have HZ := hid hz
  have hzm : (s.length + 1 + z) % 64 = 56 := by rw [hz]; unfold noughts; omega
  have hzl : z < 64 := by rw [hz]; unfold noughts; omega
  have HZM := hid hzm
  clear hz hzm hrow hk3 hown3 e3 hcv
  obtain ⟨g3, cur3, fr3, rfl, hr3⟩ := id hrow3
  clear hr3
  go_wp2
  go_loopw [4] (fun v wr => ∃ (k g cap : Nat), v = .slice (some ⟨g, 0, none⟩) (s.length + 1 + k) cap ∧ k ≤ z ∧ RowM wr 5 (.slice (some ⟨g, 0, none⟩) (s.length + 1 + k) cap) (u8s (fillTo s k)) ∧ Fresh w wr ∧ w.heap.size ≤ g) (fun v _ => match v with | .slice _ n _ => s.length + 1 + z - n | _ => 0)
  case atStart => exact ⟨0, g3, cur3.size, by rw [u8s_len, fillTo_len], by omega, by have := hrow3; rw [u8s_len, fillTo_len] at this; exact this, f3, hnew3 g3 rfl⟩
  case round =>
    obtain ⟨k, g, cap, rfl, hk, hrow, fr, hg⟩ := hrel
    by_cases hkz : k < z
    · have hne : ((s.length : Int) + 1 + k) % 64 ≠ 56 := by have := HZM.out; omega
      go_wp2_with (at_builtin; refine wpList_pushM rfl (.tmp 16) (.tmp 17) 47 rfl 5 i0 (.int .u8 0) 1 Tryz.underlying47 hi hz0 hz1 hz2 rfl wr hrow _ (by rfl) (by rfl) rfl (by rw [u8s_len, fillTo_len]; omega) (by rw [u8s_len, fillTo_len]; unfold maxLen; omega) ?_)
      intro v4 w4 hrow4 hk4 hown4
      have e4 : u8s (fillTo s k) ++ [Value.int IntKind.u8 0] = u8s (fillTo s (k + 1)) := by rw [← fillTo_succ]; simp [u8s]
      rw [e4] at hrow4
      have hnew4 : ∀ g, v4.ownBlock = some g → w.heap.size ≤ g := fun g' hg' => by
        rcases hown4 g' hg' with h | h
        · simp [Value.ownBlock] at h; omega
        · have := fr.size; omega
      have f4 : Fresh w w4 := fr.trans' hk4 fun i hi h => by simp [Value.ownBlock] at h; omega
      obtain ⟨g4, cur4, fr4, rfl, hr4⟩ := id hrow4
      clear hr4 hk4 hown4 e4
      go_wp2
      go_roundw
      case rel => exact ⟨k + 1, g4, cur4.size, by rw [u8s_len, fillTo_len], by omega, by have := hrow4; rw [u8s_len, fillTo_len] at this; exact this, f4, hnew4 g4 rfl⟩
      case measure => rw [u8s_len, fillTo_len]; simp only; omega
    · obtain rfl : k = z := by omega
      have h56 : ((s.length : Int) + 1 + k) % 64 = 56 := by have := HZM.out; omega
      have hct := text_ofM wr g _ cap _ hrow
      have hcat := str_cat
      have hszf := str_size (fillTo s k)
      have hfl := fillTo_len s k
      have hszb := str_size (bigEnd (low64 (8 * (s.length : Int))) 8)
      have hbl := bigEnd_len (low64 (8 * (s.length : Int))) 8
      rw [hfl] at hszf
      rw [hbl] at hszb
      have hfin : Hid (fillTo s k ++ bigEnd (low64 (8 * (s.length : Int))) 8 = filledUp s) := by
        rw [Hid, HZ.out]
        exact filledUp_eq s _ (by unfold low64; omega)
      clear hfl hbl
      have hrowA := hrow.keeps ((Keeps.refl (fun _ => False) wr).drew) (fun _ _ h => h)
      have hctA := text_ofM wr.drew g _ cap _ hrowA
      have frA : Fresh w wr.drew := fr.drew
      have hov : ¬ 9223372036854775807 < s.length + 1 + k + 8 := by omega
      have hw8 : IntKind.i64.wrap (8 * (s.length : Int)) = 8 * (s.length : Int) := by rw [IntKind.wrap_i64]; omega
      go_wp2_with fail
      go_region_law (first | (go_simp; go_at_call 63; refine (big_any (8 * (s.length : Int)) 8 _ (by omega) (by omega) (by omega)).mono ?_; rintro e w5 ⟨rfl, f5⟩; have hct5 := text_ofM w5 g _ cap _ (hrowA.keeps f5 (fun _ _ h => h)); have f6 := frA.trans f5))
      all_goals
        go_wp2
        go_ret
        exact ⟨by rw [hfin.out]; rfl, f6⟩
end Go.Proofs.YtmflbchiapdhbaaGreatDoor

namespace Go.Proofs.YtmflbchiapdhbaaGreatDoor
open Go.RowKit

def i64s (l : List Nat) : Array Value := (l.map fun (n : Nat) => Value.int .i64 (n : Int)).toArray
set_option maxRecDepth 100000 in
theorem begins_any (w : World) : Calls Tryz.prog 61 #[] w fun e w' => e = .returned (.agg (i64s eight0.list)) ∧ Fresh w w' := by
  go_enter Tryz.func61, Tryz.ntmps61
  go_wp2
  refine bodyPost_ret (v := .agg (i64s eight0.list)) ?_ rfl ⟨rfl, (Keeps.refl _ w).alloc _⟩
  simp [results, Tryz.results61, go_sem]
  rfl
end Go.Proofs.YtmflbchiapdhbaaGreatDoor

namespace Go.Proofs.YtmflbchiapdhbaaGreatDoor
open Go.RowKit

/-- whole numbers of a kind, as cells -/
def words (k : IntKind) (l : List Nat) : Array Value := (l.map fun (n : Nat) => Value.int k (n : Int)).toArray
theorem words_size (k : IntKind) (l : List Nat) : (words k l).size = l.length := by simp [words]
theorem words_at {k : IntKind} {l : List Nat} {j : Nat} (h : j < l.length) : (words k l)[j]? = some (.int k (l.getD j 0 : Int)) := by
  simp [words, List.getD, h]
theorem words_set (k : IntKind) (l : List Nat) (j n : Nat) : (words k l).setIfInBounds j (.int k (n : Int)) = words k (l.set j n) := by
  simp [words]
theorem words_one (k : IntKind) (l : List Nat) : (words k l).all (·.oneCell') = true := by
  rw [Array.all_eq_true_iff_forall_mem]
  intro v hv
  simp only [words, List.mem_toArray, List.mem_map] at hv
  obtain ⟨n, _, rfl⟩ := hv
  rfl

theorem Tryz.sizeEight : (Tryz.prog.info? 115).map (·.size) = some 8 := by kernel_rfl
theorem Tryz.sizeTab : (Tryz.prog.info? 137).map (·.size) = some 64 := by kernel_rfl

theorem wpList_build_to {P : Program} {ops : Array Oper} {rest : List Oper} {o : Oper} {a : Act} {w : World} {Q : Exit → Act → World → Prop} (hg : o.guard = none) (t : TypeId) (parts : Array (Nat × Operand)) (ho : o.op = .build t parts)
    (cells : Array Value) (hf : P.built t (parts.map fun (i, x) => (i, a.eval x)).toList = some cells) (h : wpList P ops Q rest (a.put o.dst (.agg cells)) w) : wpList P ops Q (o :: rest) a w := by
  refine wpList_build hg t parts ho (by rw [hf]; rfl) ?_
  rw [hf]
  exact h

set_option maxRecDepth 100000 in
set_option maxHeartbeats 1000000 in
theorem rounds_any (w : World) :
    Calls Tryz.prog 75 #[] w fun e w' => e = .returned (.agg (words .i64 kTab)) ∧ Fresh w w' := by
  have hld := fun (c : Array Value) (h : (Tryz.prog.info? 137).map (·.size) = some c.size) => run_loadVar_new (P := Tryz.prog) w 137 c 64 3 (by kernel_rfl) h
  have hl2 := hld (words .i64 kTab) (by rw [Tryz.sizeTab]; rfl)
  go_enter Tryz.func75, Tryz.ntmps75
  go_upto_region 1 with (fail)
  go_wp2_with (first | (refine wpList_build_to rfl 137 _ rfl (words .i64 kTab) (by kernel_rfl) ?_) | (refine wpList_store_row rfl 137 (.tmp 0) (.tmp 1) rfl w.heap.size (words .i64 kTab) rfl rfl 137 _ (heap_alloc_last w _) (by rw [Tryz.sizeTab]; rfl) (by rfl) (words_one _ _) ?_; rw [World.setRow_alloc_new]))
  refine bodyPost_ret (v := .agg (words .i64 kTab)) ?_ rfl ⟨rfl, (Keeps.refl _ w).alloc _⟩
  simp [results, Tryz.results75, Act.put, Result.andThen]
  exact hl2
end Go.Proofs.YtmflbchiapdhbaaGreatDoor

namespace Go.Proofs.YtmflbchiapdhbaaGreatDoor
open Go.RowKit

theorem words_cell {w : World} {g : Nat} {k : IntKind} {l : List Nat} {t : TypeId} {fr : Nat × Nat} (h : w.heap[g]? = some (.cells (words k l) t fr)) {j : Nat} (hj : j < l.length) : w.cell? ⟨g, j, none⟩ = some (.int k (l.getD j 0 : Int)) := by
  rw [cell_at h, words_at hj]
def byteAt (b : List UInt8) (j : Nat) : UInt8 := b.getD j 0
theorem byte_idx {b : List UInt8} {j : Nat} : ∀ h : j < (str b).size, (str b)[j]'h = byteAt b j := by
  intro h
  have hl : j < b.length := by rw [← str_size b]; exact h
  have : (str b)[j]'h = b[j] := rfl
  rw [this, byteAt, List.getD, List.getElem?_eq_getElem hl]
  rfl

theorem wrap_small {n : Int} (h0 : 0 ≤ n) (h1 : n < 9223372036854775808) : wrap64 n = n := by unfold wrap64; omega
theorem or_nat {a b : Nat} (ha : a < 9223372036854775808) (hb : b < 9223372036854775808) : bits BinOp.or IntKind.i64 (a : Int) (b : Int) = ((a ||| b : Nat) : Int) :=
  (bits_nat .i64 63 (by decide) i64_keeps a b (by omega) (by omega)).2
theorem and_nat {a b : Nat} (ha : a < 9223372036854775808) (hb : b < 9223372036854775808) : bits BinOp.and IntKind.i64 (a : Int) (b : Int) = ((a &&& b : Nat) : Int) :=
  (bits_nat .i64 63 (by decide) i64_keeps a b (by omega) (by omega)).1
theorem and_low {n : Nat} (h : n < 9223372036854775808) : bits BinOp.and IntKind.i64 (n : Int) 4294967295 = ((n % 4294967296 : Nat) : Int) := by
  have h3 := bits_mask .i64 63 (by decide) i64_keeps 32 (by decide) (n : Int) (by omega) (by exact_mod_cast (by omega : n < 2 ^ 63))
  have h4 : ((2 : Int) ^ 32 - 1) = 4294967295 := by decide
  rw [h4] at h3
  rw [h3]
  rfl
theorem xor_nat {a b : Nat} (ha : a < 9223372036854775808) (hb : b < 9223372036854775808) : bits BinOp.xor IntKind.i64 (a : Int) (b : Int) = ((a ^^^ b : Nat) : Int) := by
  have h1 : (BitVec.ofInt 64 (a : Int)).toNat = a := by
    rw [BitVec.ofInt_natCast, BitVec.toNat_ofNat]; exact Nat.mod_eq_of_lt (by omega)
  have h2 : (BitVec.ofInt 64 (b : Int)).toNat = b := by
    rw [BitVec.ofInt_natCast, BitVec.toNat_ofNat]; exact Nat.mod_eq_of_lt (by omega)
  have h3 : a ^^^ b < 2 ^ 63 := Nat.xor_lt_two_pow (by omega) (by omega)
  show IntKind.i64.wrap ((BitVec.ofInt 64 (a : Int) ^^^ BitVec.ofInt 64 (b : Int)).toNat : Int) = _
  rw [BitVec.toNat_xor, h1, h2]
  exact i64_keeps _ (by omega) (by exact_mod_cast h3)
theorem or_add {a b i : Nat} (h : b < 2 ^ i) : a * 2 ^ i ||| b = a * 2 ^ i + b := by
  rw [← Nat.shiftLeft_eq, Nat.shiftLeft_add_eq_or_of_lt h]

theorem be_expr (c0 c1 c2 c3 : UInt8) : bits BinOp.or IntKind.i64 (bits BinOp.or IntKind.i64 (bits BinOp.or IntKind.i64 (wrap64 (wrap64 (c0.toNat : Int) * 16777216)) (wrap64 (wrap64 (c1.toNat : Int) * 65536))) (wrap64 (wrap64 (c2.toNat : Int) * 256))) (wrap64 (c3.toNat : Int)) =
    ((c0.toNat * 16777216 + c1.toNat * 65536 + c2.toNat * 256 + c3.toNat : Nat) : Int) := by
  have h0 := c0.toNat_lt
  have h1 := c1.toNat_lt
  have h2 := c2.toNat_lt
  have h3 := c3.toNat_lt
  rw [wrap_small (n := (c0.toNat : Int)) (by omega) (by omega), wrap_small (n := (c1.toNat : Int)) (by omega) (by omega), wrap_small (n := (c2.toNat : Int)) (by omega) (by omega), wrap_small (n := (c3.toNat : Int)) (by omega) (by omega),
    wrap_small (n := (c0.toNat : Int) * 16777216) (by omega) (by omega), wrap_small (n := (c1.toNat : Int) * 65536) (by omega) (by omega), wrap_small (n := (c2.toNat : Int) * 256) (by omega) (by omega)]
  have e0 : (c0.toNat : Int) * 16777216 = ((c0.toNat * 16777216 : Nat) : Int) := by omega
  have e1 : (c1.toNat : Int) * 65536 = ((c1.toNat * 65536 : Nat) : Int) := by omega
  have e2 : (c2.toNat : Int) * 256 = ((c2.toNat * 256 : Nat) : Int) := by omega
  have f1 : c0.toNat * 16777216 ||| c1.toNat * 65536 = c0.toNat * 16777216 + c1.toNat * 65536 := or_add (i := 24) (by omega)
  have f2 : (c0.toNat * 16777216 + c1.toNat * 65536) ||| c2.toNat * 256 = c0.toNat * 16777216 + c1.toNat * 65536 + c2.toNat * 256 := by
    have := or_add (a := c0.toNat * 256 + c1.toNat) (b := c2.toNat * 256) (i := 16) (by omega)
    rw [show (c0.toNat * 256 + c1.toNat) * 2 ^ 16 = c0.toNat * 16777216 + c1.toNat * 65536 by omega] at this
    exact this
  have f3 : (c0.toNat * 16777216 + c1.toNat * 65536 + c2.toNat * 256) ||| c3.toNat = c0.toNat * 16777216 + c1.toNat * 65536 + c2.toNat * 256 + c3.toNat := by
    have := or_add (a := c0.toNat * 65536 + c1.toNat * 256 + c2.toNat) (b := c3.toNat) (i := 8) (by omega)
    rw [show (c0.toNat * 65536 + c1.toNat * 256 + c2.toNat) * 2 ^ 8 = c0.toNat * 16777216 + c1.toNat * 65536 + c2.toNat * 256 by omega] at this
    exact this
  rw [e0, e1, e2, or_nat (by omega) (by omega), f1, or_nat (by omega) (by omega), f2, or_nat (by omega) (by omega), f3]

theorem xor32 {a b : Nat} (ha : a < 4294967296) (hb : b < 4294967296) : a ^^^ b < 4294967296 := Nat.xor_lt_two_pow (n := 32) ha hb
theorem and32 {a b : Nat} (ha : a < 4294967296) : a &&& b < 4294967296 := Nat.lt_of_le_of_lt Nat.and_le_left ha
theorem small0_lt {x : Nat} (hx : x < 4294967296) : small0 x < 4294967296 := xor32 (xor32 (rot_lt _ _) (rot_lt _ _)) (shr_lt hx)
theorem small1_lt {x : Nat} (hx : x < 4294967296) : small1 x < 4294967296 := xor32 (xor32 (rot_lt _ _) (rot_lt _ _)) (shr_lt hx)
theorem big0_lt (x : Nat) : big0 x < 4294967296 := xor32 (xor32 (rot_lt _ _) (rot_lt _ _)) (rot_lt _ _)
theorem big1_lt (x : Nat) : big1 x < 4294967296 := xor32 (xor32 (rot_lt _ _) (rot_lt _ _)) (rot_lt _ _)
theorem choose_lt {e f g : Nat} (he : e < 4294967296) : choose e f g < 4294967296 := xor32 (and32 he) (and32 (by omega))
theorem most_lt {a b c : Nat} (ha : a < 4294967296) (hb : b < 4294967296) : most a b c < 4294967296 := xor32 (xor32 (and32 ha) (and32 ha)) (and32 hb)
theorem small1_expr {x : Nat} (hx : x < 4294967296) : bits BinOp.xor IntKind.i64 (bits BinOp.xor IntKind.i64 (rot x 17 : Int) (rot x 19 : Int)) ((x : Int) / 1024) = (small1 x : Int) := by
  have h1 := rot_lt x 17
  have h2 := rot_lt x 19
  have h3 := shr_lt (n := 10) hx
  have h4 := xor32 h1 h2
  have e : (x : Int) / (1024 : Int) = ((x >>> 10 : Nat) : Int) := by rw [Nat.shiftRight_eq_div_pow]; omega
  rw [e, xor_nat (by omega) (by omega), xor_nat (by omega) (by omega)]
  rfl
theorem small0_expr {x : Nat} (hx : x < 4294967296) : bits BinOp.xor IntKind.i64 (bits BinOp.xor IntKind.i64 (rot x 7 : Int) (rot x 18 : Int)) ((x : Int) / 8) = (small0 x : Int) := by
  have h1 := rot_lt x 7
  have h2 := rot_lt x 18
  have h3 := shr_lt (n := 3) hx
  have h4 := xor32 h1 h2
  have e : (x : Int) / (8 : Int) = ((x >>> 3 : Nat) : Int) := by rw [Nat.shiftRight_eq_div_pow]; omega
  rw [e, xor_nat (by omega) (by omega), xor_nat (by omega) (by omega)]
  rfl
theorem big0_expr (x : Nat) : bits BinOp.xor IntKind.i64 (bits BinOp.xor IntKind.i64 (rot x 2 : Int) (rot x 13 : Int)) (rot x 22 : Int) = (big0 x : Int) := by
  have h1 := rot_lt x 2
  have h2 := rot_lt x 13
  have h3 := rot_lt x 22
  have h4 := xor32 h1 h2
  rw [xor_nat (by omega) (by omega), xor_nat (by omega) (by omega)]
  rfl
theorem big1_expr (x : Nat) : bits BinOp.xor IntKind.i64 (bits BinOp.xor IntKind.i64 (rot x 6 : Int) (rot x 11 : Int)) (rot x 25 : Int) = (big1 x : Int) := by
  have h1 := rot_lt x 6
  have h2 := rot_lt x 11
  have h3 := rot_lt x 25
  have h4 := xor32 h1 h2
  rw [xor_nat (by omega) (by omega), xor_nat (by omega) (by omega)]
  rfl
theorem choose_expr {e f g : Nat} (he : e < 4294967296) (hf : f < 4294967296) (hg : g < 4294967296) : bits BinOp.xor IntKind.i64 (bits BinOp.and IntKind.i64 (e : Int) (f : Int)) (bits BinOp.and IntKind.i64 (bits BinOp.xor IntKind.i64 4294967295 (e : Int)) (g : Int)) = (choose e f g : Int) := by
  have h1 : (4294967295 : Int) = ((4294967295 : Nat) : Int) := rfl
  have h2 : (4294967295 : Nat) ^^^ e = 4294967295 - e := by
    have h := BitVec.toNat_not (x := BitVec.ofNat 32 e)
    rw [BitVec.not_def, BitVec.toNat_xor, BitVec.toNat_allOnes, BitVec.toNat_ofNat, Nat.mod_eq_of_lt (by omega)] at h
    simpa using h
  rw [h1, xor_nat (by omega) (by omega), h2, and_nat (by omega) (by omega), and_nat (by omega) (by omega), xor_nat (by have := and32 (b := f) he; omega) (by have := and32 (a := 4294967295 - e) (b := g) (by omega); omega)]
  rfl
theorem most_expr {a b c : Nat} (ha : a < 4294967296) (hb : b < 4294967296) (hc : c < 4294967296) : bits BinOp.xor IntKind.i64 (bits BinOp.xor IntKind.i64 (bits BinOp.and IntKind.i64 (a : Int) (b : Int)) (bits BinOp.and IntKind.i64 (a : Int) (c : Int))) (bits BinOp.and IntKind.i64 (b : Int) (c : Int)) = (most a b c : Int) := by
  have h1 := and32 (b := b) ha
  have h2 := and32 (b := c) ha
  have h3 := and32 (b := c) hb
  have h4 := xor32 h1 h2
  rw [and_nat (by omega) (by omega), and_nat (by omega) (by omega), and_nat (by omega) (by omega), xor_nat (by omega) (by omega), xor_nat (by omega) (by omega)]
  rfl
/-- nothing but draws lies between -/
def Quiet (w w' : World) : Prop := ∃ k, w' = w.drewN k
theorem Quiet.refl (w : World) : Quiet w w := ⟨0, rfl⟩
theorem Quiet.trans {a b c : World} (h : Quiet a b) (k : Quiet b c) : Quiet a c := by
  obtain ⟨i, rfl⟩ := h
  obtain ⟨j, rfl⟩ := k
  exact ⟨i + j, by rw [World.drewN_drewN]⟩
theorem Quiet.heap {a b : World} (h : Quiet a b) : b.heap = a.heap := by obtain ⟨i, rfl⟩ := h; rfl
theorem Quiet.fresh {a b : World} (h : Quiet a b) : Fresh a b := by obtain ⟨i, rfl⟩ := h; exact (Keeps.refl _ _).drewN i
theorem ints8_one (k : IntKind) (a b c d e f g h : Int) : (#[Value.int k a, .int k b, .int k c, .int k d, .int k e, .int k f, .int k g, .int k h] : Array Value).all (·.oneCell') = true := by
  rw [Array.all_eq_true_iff_forall_mem]
  intro v hv
  simp only [List.mem_toArray, List.mem_cons, List.not_mem_nil, or_false] at hv
  rcases hv with rfl | rfl | rfl | rfl | rfl | rfl | rfl | rfl <;> rfl
/-- the first i of some sums, the rest as it was -/
def mixed (a b : List Nat) (i : Nat) : List Nat := (List.range 8).map fun j => if j < i then (a.getD j 0 + b.getD j 0) % 4294967296 else a.getD j 0
theorem mixed_len (a b : List Nat) (i : Nat) : (mixed a b i).length = 8 := by simp [mixed]
theorem mixed_at {a b : List Nat} {i : Nat} (h : i < 8) : (mixed a b i).getD i 0 = a.getD i 0 := by
  simp [mixed, List.getD, h]
theorem mixed_set {a b : List Nat} {i : Nat} (_h : i < 8) (_ha : a.length = 8) : (mixed a b i).set i ((a.getD i 0 + b.getD i 0) % 4294967296) = mixed a b (i + 1) := by
  apply List.ext_getElem?
  intro j
  by_cases hj : j = i
  · subst hj
    rw [List.getElem?_set_self (by rw [mixed_len]; exact _h)]
    simp [mixed, _h]
  · rw [List.getElem?_set_ne (fun h => hj h.symm)]
    simp only [mixed, List.getElem?_map]
    cases hr : (List.range 8)[j]? with
    | none => rfl
    | some k =>
      have hk : k = j := by
        have := List.getElem?_eq_some_iff.1 hr
        obtain ⟨h1, h2⟩ := this
        simpa using h2.symm
      subst hk
      simp only [Option.map_some]
      by_cases h1 : k < i
      · rw [if_pos h1, if_pos (by omega)]
      · rw [if_neg h1, if_neg (by omega)]
theorem mixed_all (v u : Eight) : mixed v.list u.list 8 = (v.add u).list := rfl
theorem eight_lt {v : Eight} (h : v.ok) : ∀ j, v.list.getD j 0 < 4294967296 := by
  obtain ⟨h1, h2, h3, h4, h5, h6, h7, h8⟩ := h
  intro j
  match j with
  | 0 => exact h1
  | 1 => exact h2
  | 2 => exact h3
  | 3 => exact h4
  | 4 => exact h5
  | 5 => exact h6
  | 6 => exact h7
  | 7 => exact h8
  | (j + 8) => simp [Eight.list, List.getD]
end Go.Proofs.YtmflbchiapdhbaaGreatDoor

namespace Go.Proofs.YtmflbchiapdhbaaGreatDoor
open Go.RowKit

theorem rowCellsB {w : World} {e : TypeId} {size n cap : Nat} {ao : Option Addr} {xs : List Value} (h : w.ownsRow 0 e size (.slice ao n cap) n xs) (hn : 0 < n) :
    ∃ g, ao = some ⟨g, 0, none⟩ ∧ ∀ k y, xs[k]? = some y → g < w.heap.size ∧ w.cell? ⟨g, k, none⟩ = some y := by
  obtain ⟨hl, ⟨-, h0⟩ | ⟨g, cap', cur, he, -, hg, -, -, -, ht⟩⟩ := h
  · omega
  · injection he with e1
    refine ⟨g, e1, fun k y hk => ⟨lt_of_block hg, ?_⟩⟩
    rw [cell_at hg]
    rw [← ht, List.getElem?_take] at hk
    split at hk
    · simpa using hk
    · cases hk
end Go.Proofs.YtmflbchiapdhbaaGreatDoor
