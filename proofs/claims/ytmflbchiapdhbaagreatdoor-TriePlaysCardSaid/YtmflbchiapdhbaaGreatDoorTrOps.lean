/-
  A script of steps on maps, as it comes in.
-/
import Derived.Test.YtmflbchiapdhbaaGreatDoorMTrI
namespace Go.Proofs.YtmflbchiapdhbaaGreatDoor
open Go.RowKit

/-- a step of a script -/
structure GOp where
  other : Bool
  kept : Bool
  kind : Int
  key : List UInt8
  val : List UInt8
/-- the script, as it came in: n steps -/
def OpsAt (w : World) (v : Value) (n : Nat) : Prop :=
  ∃ ao cap, v = .slice ao n cap ∧ ∀ i : Nat, i < n → ∃ bb off, ao = some ⟨bb, off, none⟩ ∧ bb < w.heap.size ∧ ∃ o : GOp, o.key.length ≤ 9223372036854775807 ∧ o.val.length ≤ 9223372036854775807 ∧
    w.cell? ⟨bb, off + i * 5, none⟩ = some (.bool o.other) ∧ w.cell? ⟨bb, off + i * 5 + 1, none⟩ = some (.bool o.kept) ∧ w.cell? ⟨bb, off + i * 5 + 2, none⟩ = some (.int .i64 o.kind) ∧ w.cell? ⟨bb, off + i * 5 + 3, none⟩ = some (.string (str o.key)) ∧ w.cell? ⟨bb, off + i * 5 + 4, none⟩ = some (.string (str o.val))
end Go.Proofs.YtmflbchiapdhbaaGreatDoor
