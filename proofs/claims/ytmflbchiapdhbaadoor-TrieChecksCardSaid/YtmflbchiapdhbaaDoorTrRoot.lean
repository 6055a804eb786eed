/-
  The program's trie: Root; a fork of two sides.
-/
import Derived.Test.YtmflbchiapdhbaaDoorTrZero
import Derived.Deep.RegionLaw
namespace Go.Proofs.YtmflbchiapdhbaaDoor
open Go.RowKit

set_option maxRecDepth 100000 in
theorem root_any (b : Nat) (t : Tr) (many : Int) (w : World) (h : MapAt w b t many) :
    Calls Tryd.prog 13 #[.pointer (some ⟨b, 0, none⟩)] w fun e w' => e = .returned (.string (str t.hash)) ∧ Fresh w w' := by
  have c0 := cell_at h 0
  simp at c0
  cases t with
  | none =>
    simp only [Tr.val] at c0
    clear h
    go_enter Tryd.func13, Tryd.ntmps13
    go_wp2_with (go_at_call 108; refine (nothingHash_any _).mono ?_; rintro e w2 ⟨rfl, f2⟩)
    go_ret
    exact ⟨rfl, f2⟩
  | leaf k sum key val =>
    simp only [Tr.val, leafCells] at c0
    clear h
    go_enter Tryd.func13, Tryd.ntmps13
    go_wp2_with (go_at_call 106; refine (leafNodeHash_any _ _ _ _ _).mono ?_; rintro e w2 ⟨rfl, f2⟩)
    go_ret
    exact ⟨rfl, f2⟩
  | fork l r sum =>
    simp only [Tr.val] at c0
    generalize l.val = lv at c0
    generalize r.val = rv at c0
    clear h
    go_enter Tryd.func13, Tryd.ntmps13
    go_wp2_with (go_at_call 109; refine (forkHash_any _ _ _ _).mono ?_; rintro e w2 ⟨rfl, f2⟩)
    go_ret
    exact ⟨rfl, f2⟩
end Go.Proofs.YtmflbchiapdhbaaDoor
