/-
  What the row's listed variable gives a walk; a world that meets the row's condition.
-/
import Derived.Test.YtpccaodkgboefaaGreatDoorCards
import Derived.Test.YtpccaodkgboefaaGreatDoorTie
import Derived.Test.YtpccaodkgboefaaGreatDoorCxTold
import Derived.ProofKit
import Derived.OpenShut
import Derived.Deep.DeepHandedRow
import Derived.LaidLaws
import Derived.LaidHandle
import Derived.ShutString
namespace Go.Proofs.YtpccaodkgboefaaGreatDoor
open Go.RowKit Go.ChangeShapes Go.WideShapes Go.ChangeAt

theorem knob : ownKnob Tryz.prog.godebug = none := by kernel_rfl
theorem etName : Tryz.prog.globalNamed "errors.errorType" = some 0 := by kernel_rfl
theorem rtName : (Tryz.prog.cutTypes.find? (·.1 == "internal/reflectlite.rtype")).map (·.2) = some 165 := by kernel_rfl
theorem oneRow : ((List.range 207).filter fun t => Tryz.prog.rowNamed t [101, 114, 114, 111, 114]) = [98] := by kernel_rfl
theorem typesSize : Tryz.prog.types.size = 207 := by kernel_rfl

theorem laid_of_row {W : World} (h : laidMetH Tryz.prog [("errors.errorType", Rows.laid_errors_errorType)] W) : Laid W := by
  have h' : laidMet Tryz.prog [] W ∧ handlesMet Tryz.prog [("errors.errorType", Rows.laid_errors_errorType)] W := h
  obtain ⟨name, u, ty, e1, e2, e3, e4, e5⟩ := h'.2 _ (List.mem_singleton.2 rfl)
  have en : name = [101, 114, 114, 111, 114] := (Option.some.inj e1).symm
  subst en
  obtain rfl := Option.some.inj (rtName.symm.trans e2)
  have hm : ty ∈ (List.range 207).filter fun t => Tryz.prog.rowNamed t [101, 114, 114, 111, 114] := List.mem_filter.2 ⟨List.mem_range.2 (by rw [← typesSize]; exact e3), e4⟩
  rw [oneRow] at hm
  obtain rfl := List.mem_singleton.1 hm
  have hh : typeHandle Tryz.prog 98 = .pointer (some ⟨1, 98, none⟩) := by kernel_rfl
  rw [hh] at e5
  have := World.var?_cell etName e5 0
  simpa [Laid] using this

/-- A world that meets the condition: the settled one, the variable's cell laid. -/
noncomputable def laidWorld (os : Os) : World :=
  { World.holding Tryz.prog os ⟨#[], #[], []⟩ with heap := (World.holding Tryz.prog os ⟨#[], #[], []⟩).heap.modify 0 fun
      | .cells _ t frozen => .cells #[.iface 165 (.agg #[.pointer (some ⟨1, 98, none⟩)])] t frozen
      | o => o }
theorem laidWorld_met (os : Os) (args : Array Value) : laidMetH Tryz.prog [("errors.errorType", Rows.laid_errors_errorType)] ((laidWorld os).forCall (fun _ _ => 0) ⟨#[], args, []⟩).memory :=
  laidMetH_of_parts (laidMet_nil _ _) (by kernel_rfl)
end Go.Proofs.YtpccaodkgboefaaGreatDoor
