/-
  Bytes and texts as lists; what an object in memory owns and what its methods may write. No program is in sight.
-/
import Derived.Test.YtmflbchiapdhbaaDoorKeeps
namespace Go.Proofs.YtmflbchiapdhbaaDoor
open Go.RowKit

/-- The bytes as the cells of a []byte. -/
def u8s (l : List UInt8) : List Value := l.map fun b => Value.int .u8 (b.toNat : Int)

/-- A text by its bytes. -/
def str (l : List UInt8) : ByteArray := ⟨l.toArray⟩
theorem str_size (l : List UInt8) : (str l).size = l.length := by simp [str, ByteArray.size]
theorem str_data (l : List UInt8) : (str l).data.toList = l := rfl
theorem str_of (s : ByteArray) : s = str s.data.toList := rfl
theorem str_extract (l : List UInt8) (a b : Nat) : (str l).extract a b = str ((l.take b).drop a) := by
  apply ByteArray.ext
  simp [str, ByteArray.data_extract, List.drop_take]
theorem str_to (l : List UInt8) (n : Nat) : (str l).extract 0 n = str (l.take n) := by rw [str_extract, List.drop_zero]
theorem str_from (l : List UInt8) (n : Nat) : (str l).extract n l.length = str (l.drop n) := by rw [str_extract, List.take_length]

theorem str_toList (l : List UInt8) : (str l).toList = l := ByteArray.toList_eq _

/-- Nothing that was there has turned. -/
abbrev Fresh (w w' : World) : Prop := Keeps (fun _ => False) w w'

/-- What an object owns lies behind the package-level variables, and is there. -/
def Lives (S : Nat → Prop) (w : World) : Prop := ∀ k, S k → 3 ≤ k ∧ k < w.heap.size
theorem Lives.keeps {S T : Nat → Prop} {w w' : World} (h : Lives S w) (hk : Keeps T w w') : Lives S w' := fun k h' => ⟨(h k h').1, Nat.lt_of_lt_of_le (h k h').2 hk.size⟩
theorem Lives.grows {S S' : Nat → Prop} {w w' : World} {b : Nat} (h : Lives S w) (hb : S b) (hs : w.heap.size ≤ w'.heap.size) (hg : Grows S S' w w') : Lives S' w' := fun k hk => by
  have := h b hb
  rcases hg k hk with h1 | h1
  · have := h k h1; omega
  · omega

/-- noted first -/
def first (e f : Int) : Int := if e = 0 then f else e

/-- What a method does to an object: it owns now what it owned and what is new; all else is as it was. -/
def Acts (S : Nat → Prop) (w w' : World) (R : (Nat → Prop) → Prop) : Prop := ∃ S', Grows S S' w w' ∧ Keeps S w w' ∧ R S'

theorem Acts.same {S : Nat → Prop} {w : World} {R : (Nat → Prop) → Prop} (h : R S) : Acts S w w R := ⟨S, fun _ h => .inl h, Keeps.refl _ _, h⟩
/-- one call behind the other -/
theorem Acts.after {S S1 : Nat → Prop} {w w1 w2 : World} {R : (Nat → Prop) → Prop} (hg : Grows S S1 w w1) (hk : Keeps S w w1) (h : Acts S1 w1 w2 R) : Acts S w w2 R := by
  obtain ⟨S2, hg2, hk2, hr2⟩ := h
  refine ⟨S2, fun k hk' => ?_, hk.trans' hk2 fun i hi h1 => ?_, hr2⟩
  · rcases hg2 k hk' with h1 | h1
    · rcases hg k h1 with h0 | h0
      · exact .inl h0
      · exact .inr ⟨h0.1, Nat.lt_of_lt_of_le h0.2 hk2.size⟩
    · exact .inr ⟨Nat.le_trans hk.size h1.1, h1.2⟩
  · rcases hg i h1 with h0 | h0
    · exact h0
    · omega
/-- the same, where something beside the object's own may have been written as well -/
theorem Acts.afterT {S S1 T : Nat → Prop} {w w1 w2 : World} {R : (Nat → Prop) → Prop} (hg : Grows S S1 w w1) (hk : Keeps (fun k => S k ∨ T k) w w1) (h : Acts S1 w1 w2 R) :
    ∃ S2, Grows S S2 w w2 ∧ Keeps (fun k => S k ∨ T k) w w2 ∧ R S2 := by
  obtain ⟨S2, hg2, hk2, hr2⟩ := h
  refine ⟨S2, fun k hk' => ?_, hk.trans' hk2 fun i hi h1 => ?_, hr2⟩
  · rcases hg2 k hk' with h1 | h1
    · rcases hg k h1 with h0 | h0
      · exact .inl h0
      · exact .inr ⟨h0.1, Nat.lt_of_lt_of_le h0.2 hk2.size⟩
    · exact .inr ⟨Nat.le_trans hk.size h1.1, h1.2⟩
  · rcases hg i h1 with h0 | h0
    · exact .inl h0
    · omega
theorem heap_size_alloc (w : World) (o : Obj) : (w.alloc o).heap[w.heap.size]? = some o := heap_alloc_new w o

/-- an object that was made since w: nothing that was there in w has turned -/
def Mine (w : World) (S : Nat → Prop) (w' : World) : Prop := Fresh w w' ∧ ∀ k, S k → w.heap.size ≤ k
theorem Mine.step {w w1 w2 : World} {S S2 : Nat → Prop} (h : Mine w S w1) (hg : Grows S S2 w1 w2) (hk : Keeps S w1 w2) : Mine w S2 w2 :=
  ⟨h.1.trans' hk fun i hi hs => by have := h.2 i hs; omega, fun k hk2 => by
    have := h.1.size
    rcases hg k hk2 with h1 | h1
    · exact h.2 k h1
    · omega⟩
theorem Mine.fresh {w w1 w2 : World} {S : Nat → Prop} (h : Mine w S w1) (hk : Fresh w1 w2) : Mine w S w2 := ⟨h.1.trans hk, h.2⟩

/-- three variables of one cell or more, one behind the other -/
theorem cells3 (w : World) (a b c : Array Value) (ta tb tc : TypeId) (o : Nat) :
    (((w.alloc (.cells a ta)).alloc (.cells b tb)).alloc (.cells c tc)).cell? ⟨w.heap.size, o, none⟩ = a[o]? ∧ (((w.alloc (.cells a ta)).alloc (.cells b tb)).alloc (.cells c tc)).cell? ⟨w.heap.size + 1, o, none⟩ = b[o]? ∧
    (((w.alloc (.cells a ta)).alloc (.cells b tb)).alloc (.cells c tc)).cell? ⟨w.heap.size + 1 + 1, o, none⟩ = c[o]? ∧ (((w.alloc (.cells a ta)).alloc (.cells b tb)).alloc (.cells c tc)).frozen? ⟨w.heap.size, o, none⟩ = false ∧
    (((w.alloc (.cells a ta)).alloc (.cells b tb)).alloc (.cells c tc)).frozen? ⟨w.heap.size + 1, o, none⟩ = false ∧ (((w.alloc (.cells a ta)).alloc (.cells b tb)).alloc (.cells c tc)).frozen? ⟨w.heap.size + 1 + 1, o, none⟩ = false := by
  refine ⟨?_, ?_, ?_, ?_, ?_, ?_⟩
  · rw [World.cell?_alloc_past _ _ _ (by simp only [World.size_alloc]; try omega), World.cell?_alloc_past _ _ _ (by simp only [World.size_alloc]; try omega), World.cell?_alloc_at _ _ _ _ rfl]
  · rw [World.cell?_alloc_past _ _ _ (by simp only [World.size_alloc]; try omega), World.cell?_alloc_at _ _ _ _ (by simp only [World.size_alloc]; try omega)]
  · rw [World.cell?_alloc_at _ _ _ _ (by simp only [World.size_alloc]; try omega)]
  · rw [World.frozen?_alloc_past _ _ _ (by simp only [World.size_alloc]; try omega), World.frozen?_alloc_past _ _ _ (by simp only [World.size_alloc]; try omega), World.frozen?_alloc_at _ _ _ _ rfl]
  · rw [World.frozen?_alloc_past _ _ _ (by simp only [World.size_alloc]; try omega), World.frozen?_alloc_at _ _ _ _ (by simp only [World.size_alloc]; try omega)]
  · rw [World.frozen?_alloc_at _ _ _ _ (by simp only [World.size_alloc]; try omega)]
theorem cells3n (w : World) (a b c : Array Value) (ta tb tc : TypeId) (n o : Nat) :
    ((((w.alloc (.cells a ta)).alloc (.cells b tb)).alloc (.cells c tc)).drewN n).cell? ⟨w.heap.size, o, none⟩ = a[o]? ∧ ((((w.alloc (.cells a ta)).alloc (.cells b tb)).alloc (.cells c tc)).drewN n).cell? ⟨w.heap.size + 1, o, none⟩ = b[o]? ∧
    ((((w.alloc (.cells a ta)).alloc (.cells b tb)).alloc (.cells c tc)).drewN n).cell? ⟨w.heap.size + 1 + 1, o, none⟩ = c[o]? ∧ ((((w.alloc (.cells a ta)).alloc (.cells b tb)).alloc (.cells c tc)).drewN n).frozen? ⟨w.heap.size, o, none⟩ = false ∧
    ((((w.alloc (.cells a ta)).alloc (.cells b tb)).alloc (.cells c tc)).drewN n).frozen? ⟨w.heap.size + 1, o, none⟩ = false ∧ ((((w.alloc (.cells a ta)).alloc (.cells b tb)).alloc (.cells c tc)).drewN n).frozen? ⟨w.heap.size + 1 + 1, o, none⟩ = false := cells3 w a b c ta tb tc o
end Go.Proofs.YtmflbchiapdhbaaDoor
