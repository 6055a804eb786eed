/-
  What the rows' listed variables give a walk of a law on spans; a world that meets the rows' condition.
-/
import Derived.Test.YtgikabafaocemaaDoorCards
import Derived.Test.YtgikabafaocemaaDoorTie
import Derived.Test.YtgikabafaocemaaDoorSpArgs
import Derived.Test.YtgikabafaocemaaDoorTlAdd
import Derived.ProofKit
import Derived.OpenShut
import Derived.Deep.DeepHandedRow
import Derived.LaidLaws
import Derived.LaidHandle
import Derived.ShutString
namespace Go.Proofs.YtgikabafaocemaaDoor
open Go.RowKit Go.ChangeShapes Go.WideShapes Go.ChangeAt

theorem knob : ownKnob Tryd.prog.godebug = none := by kernel_rfl
theorem Tryd.gDb : Tryd.prog.globalNamed "math/bits.deBruijn64tab" = some 1 := by kernel_rfl
theorem Tryd.gDbType : (Tryd.prog.globals[1]?).map (·.type) = some 174 := by kernel_rfl
theorem Tryd.underDb : Tryd.prog.underlying 174 = some (.array 64 5) := by kernel_rfl
theorem Tryd.underByte : Tryd.prog.underlying 5 = some (.int .u8) := by kernel_rfl
theorem Tryd.cellsByte : Tryd.prog.cellsOf 5 = 1 := by kernel_rfl
theorem Tryd.cellsDb : Tryd.prog.cellsOf 174 = 64 := by kernel_rfl
noncomputable def laidAll : List (String × DataW Unit) := [("math/bits.deBruijn32tab", Rows.laid_math_bits_deBruijn32tab), ("math/bits.deBruijn64tab", Rows.laid_math_bits_deBruijn64tab), ("scrivener/digest.first", Rows.laid_scrivener_digest_first), ("scrivener/digest.numbers", Rows.laid_scrivener_digest_numbers)]

theorem nums_of_row {W : World} (h : laidMetH Tryd.prog laidAll W) (hs : W.ShapedOpen Tryd.prog) : Nums W := by
  have h' : laidMet Tryd.prog laidAll W := h
  unfold laidAll at h'
  have h1 := laidMet_tail h'
  obtain ⟨a, b⟩ := sha_laid (l := []) (laidMet_tail h1)
  have c := Lib.tabIs_of_head (k := .u8) (zs := dbTab.map fun (n : Nat) => (n : Int)) Tryd.gDb Tryd.gDbType Tryd.underDb Tryd.underByte Tryd.cellsByte Tryd.cellsDb h1
  refine ⟨⟨b, a, ?_⟩, fun t ht => ?_⟩
  · obtain ⟨cs, hh, _, _⟩ := hs.1 3 (Array.replicate 64 (.int .u32 0)) 188 (of_decide_eq_true (by kernel_rfl)) (by kernel_rfl)
    have := lt_of_block hh
    omega
  · have hl : dbTab.length = 64 := rfl
    have := c.cell Tryd.gDb t (by rw [List.length_map]; omega)
    rw [this, List.getD, List.getElem?_map, List.getD, List.getElem?_eq_getElem (by omega)]
    rfl

def relaid (h : Array Obj) (g : Nat) (cs : Array Value) : Array Obj := h.modify g fun
  | .cells _ t frozen => .cells cs t frozen
  | o => o
def db32Tab : List Nat := [0, 1, 28, 2, 29, 14, 24, 3, 30, 22, 20, 15, 25, 17, 4, 8, 31, 27, 13, 23, 21, 19, 16, 7, 26, 12, 18, 6, 11, 5, 10, 9]
/-- A world that meets the condition: the settled one, the variables' cells laid. -/
noncomputable def laidWorld (os : Os) : World :=
  { World.holding Tryd.prog os ⟨#[], #[], []⟩ with heap := relaid (relaid (relaid (relaid (World.holding Tryd.prog os ⟨#[], #[], []⟩).heap 0 (db32Tab.map fun (n : Nat) => Value.int .u8 (n : Int)).toArray) 1 (dbTab.map fun (n : Nat) => Value.int .u8 (n : Int)).toArray) 2 (eight0.list.map fun (n : Nat) => Value.int .u32 (n : Int)).toArray) 3 (kTab.map fun (n : Nat) => Value.int .u32 (n : Int)).toArray }
theorem laidWorld_met (os : Os) (args : Array Value) : laidMetH Tryd.prog laidAll ((laidWorld os).forCall (fun _ _ => 0) ⟨#[], args, []⟩).memory := by
  have h : laidMet Tryd.prog laidAll ((laidWorld os).forCall (fun _ _ => 0) ⟨#[], args, []⟩).memory :=
    laidMet_of_run' 20 (by kernel_rfl) (by kernel_rfl)
  exact h
end Go.Proofs.YtgikabafaocemaaDoor
