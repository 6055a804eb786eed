/-
  The document's tables.
-/
import Derived.Test.YtmflbchiapdhbaaDoorShaFilled
namespace Go.Proofs.YtmflbchiapdhbaaDoor
open Go.RowKit

def i64s (l : List Nat) : Array Value := (l.map fun (n : Nat) => Value.int .i64 (n : Int)).toArray
set_option maxRecDepth 100000 in
theorem begins_any (w : World) : Calls Tryd.prog 48 #[] w fun e w' => e = .returned (.agg (i64s eight0.list)) ∧ Fresh w w' := by
  go_enter Tryd.func48, Tryd.ntmps48
  go_wp2
  refine bodyPost_ret (v := .agg (i64s eight0.list)) ?_ rfl ⟨rfl, (Keeps.refl _ w).alloc _⟩
  simp [results, Tryd.results48, go_sem]
  rfl
end Go.Proofs.YtmflbchiapdhbaaDoor
