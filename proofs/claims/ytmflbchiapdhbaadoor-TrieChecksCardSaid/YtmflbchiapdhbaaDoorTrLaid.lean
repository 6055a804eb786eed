/-
  What the row's listed variables give a walk; a world that meets the row's condition.
-/
import Derived.Test.YtmflbchiapdhbaaDoorCards
import Derived.Test.YtmflbchiapdhbaaDoorTie
import Derived.Test.YtmflbchiapdhbaaDoorTrArgs
import Derived.ProofKit
import Derived.OpenShut
import Derived.Deep.DeepHandedRow
import Derived.LaidLaws
import Derived.LaidHandle
import Derived.ShutString
namespace Go.Proofs.YtmflbchiapdhbaaDoor
open Go.RowKit Go.ChangeShapes Go.WideShapes Go.ChangeAt

theorem knob : ownKnob Tryd.prog.godebug = none := by kernel_rfl

theorem dig_of_row {W : World} (h : laidMetH Tryd.prog [("scrivener/digest.first", Rows.laid_scrivener_digest_first), ("scrivener/digest.numbers", Rows.laid_scrivener_digest_numbers)] W) (hs : W.ShapedOpen Tryd.prog) : Dig W := by
  have h' : laidMet Tryd.prog [("scrivener/digest.first", Rows.laid_scrivener_digest_first), ("scrivener/digest.numbers", Rows.laid_scrivener_digest_numbers)] W := h
  obtain ⟨a, b⟩ := sha_laid (l := []) h'
  refine ⟨b, a, ?_⟩
  obtain ⟨cs, hh, _, _⟩ := hs.1 2 #[.int .i64 0] 3 (of_decide_eq_true (by kernel_rfl)) (by kernel_rfl)
  have := lt_of_block hh
  omega

def relaid (h : Array Obj) (g : Nat) (cs : Array Value) : Array Obj := h.modify g fun
  | .cells _ t frozen => .cells cs t frozen
  | o => o
/-- A world that meets the condition: the settled one, the variables' cells laid. -/
noncomputable def laidWorld (os : Os) : World :=
  { World.holding Tryd.prog os ⟨#[], #[], []⟩ with heap := relaid (relaid (World.holding Tryd.prog os ⟨#[], #[], []⟩).heap 0 (eight0.list.map fun (n : Nat) => Value.int .u32 (n : Int)).toArray) 1 (kTab.map fun (n : Nat) => Value.int .u32 (n : Int)).toArray }
theorem laidWorld_met (os : Os) (args : Array Value) : laidMetH Tryd.prog [("scrivener/digest.first", Rows.laid_scrivener_digest_first), ("scrivener/digest.numbers", Rows.laid_scrivener_digest_numbers)] ((laidWorld os).forCall (fun _ _ => 0) ⟨#[], args, []⟩).memory := by
  have h : laidMet Tryd.prog [("scrivener/digest.first", Rows.laid_scrivener_digest_first), ("scrivener/digest.numbers", Rows.laid_scrivener_digest_numbers)] ((laidWorld os).forCall (fun _ _ => 0) ⟨#[], args, []⟩).memory :=
    laidMet_of_run' 20 (by kernel_rfl) (by kernel_rfl)
  exact h
end Go.Proofs.YtmflbchiapdhbaaDoor
