/-
  The program's trie: what stands for nothing; the hashes of the three nodes.
-/
import Derived.Test.YtmflbchiapdhbaaDoorTrPlain
import Derived.Test.YtmflbchiapdhbaaDoorShelf
import Derived.Handy
namespace Go.Proofs.YtmflbchiapdhbaaDoor
open Go.RowKit

set_option maxRecDepth 100000 in
theorem none_any (w : World) :
    Calls Tryd.prog 25 #[] w fun e w' => e = .returned (.string (str nought32)) ∧ Fresh w w' := by
  have hr := Tryd.strings_Repeat (str [0]) 32 w (by omega) (by rw [str_size]; decide)
  have he : (⟨(Lib.repeatL (str [0]).data.toList 32).toArray⟩ : ByteArray) = str nought32 := rfl
  rw [he] at hr
  have HR := hid hr
  clear hr he
  go_enter Tryd.func25, Tryd.ntmps25
  go_wp2_with fail
  refine HR.out.mono ?_
  rintro e w2 ⟨rfl, hb⟩
  have f2 : Fresh w w2 := (Keeps.of_below hb).mono fun k hk hk2 => absurd hk (by omega)
  go_wp2
  go_ret
  exact ⟨rfl, f2⟩

/-- A node, as Go has it. -/
inductive Tr where
  | none
  | leaf (k sum key val : List UInt8)
  | fork (l r : Tr) (sum : List UInt8)
def leafCells (k sum key val : List UInt8) : Array Value := #[.string (str k), .string (str sum), .string (str key), .string (str val)]
def Tr.val : Tr → Value
  | .none => .iface 81 (.agg #[])
  | .leaf k sum key val => .iface 71 (.agg (leafCells k sum key val))
  | .fork l r sum => .iface 95 (.agg #[l.val, r.val, .string (str sum)])
def Tr.hash : Tr → List UInt8
  | .none => nought32
  | .leaf _ sum _ _ => sum
  | .fork _ _ sum => sum

set_option maxRecDepth 100000 in
theorem nothingHash_any (w : World) :
    Calls Tryd.prog 108 #[.agg #[]] w fun e w' => e = .returned (.string (str nought32)) ∧ Fresh w w' := by
  go_enter Tryd.func108, Tryd.ntmps108
  go_wp2_with fail
  refine (none_any _).mono ?_
  rintro e w2 ⟨rfl, f2⟩
  go_wp2
  go_ret
  exact ⟨rfl, ((Keeps.refl _ _).alloc _).trans f2⟩
set_option maxRecDepth 100000 in
theorem leafNodeHash_any (k sum key val : List UInt8) (w : World) :
    Calls Tryd.prog 106 #[.agg #[.string (str k), .string (str sum), .string (str key), .string (str val)]] w fun e w' => e = .returned (.string (str sum)) ∧ Fresh w w' := by
  go_enter Tryd.func106, Tryd.ntmps106
  go_wp2_with fail
  go_ret
  exact ⟨rfl, ((Keeps.refl _ _).alloc _)⟩
set_option maxRecDepth 100000 in
theorem forkHash_any (l r : Value) (sum : List UInt8) (w : World) :
    Calls Tryd.prog 109 #[.agg #[l, r, .string (str sum)]] w fun e w' => e = .returned (.string (str sum)) ∧ Fresh w w' := by
  go_enter Tryd.func109, Tryd.ntmps109
  go_wp2_with fail
  go_ret
  exact ⟨rfl, ((Keeps.refl _ _).alloc _)⟩

/-- The map in memory: one block of two cells. -/
def MapAt (w : World) (b : Nat) (t : Tr) (many : Int) : Prop := w.heap[b]? = some (.cells #[t.val, .int .i64 many] 69 (0, 0))

set_option maxRecDepth 100000 in
theorem new_any (w : World) :
    Calls Tryd.prog 18 #[] w fun e w' => e = .returned (.pointer (some ⟨w.heap.size, 0, none⟩)) ∧ Fresh w w' ∧ MapAt w' w.heap.size .none 0 := by
  go_enter Tryd.func18, Tryd.ntmps18
  go_wp2_with fail
  go_ret
  exact ⟨rfl, (Keeps.refl _ _).alloc _, heap_alloc_new w _⟩
end Go.Proofs.YtmflbchiapdhbaaDoor
