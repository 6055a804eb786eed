/-
  The document's device: Pages.
-/
import Derived.Test.YtbhienlalpbflaaMDvD
namespace Go.Proofs.Ytbhienlalpbflaa
open Go.RowKit Go.Maps

set_option maxRecDepth 100000 in
set_option maxHeartbeats 1000000 in
theorem rpages_any (B : Nat → Prop) (x : Nat) (l : List (List UInt8)) (is : List Bool) (ps : List (List UInt8)) (left : Int) (dead : Bool) (w : World) (h : RDev B w x l is ps left dead) (hll : l.length ≤ 4096) :
    Calls Try.prog 20 #[.pointer (some ⟨x, 0, none⟩)] w fun e w' => ∃ v, e = .returned v ∧ OwnTexts w.heap.size w' v l ∧ Fresh w w' := by
  obtain ⟨i0, hi, hz0, hz1, hz2⟩ := info_parts Try.infoText
  obtain ⟨lv, iv, pv, h1, h2, -⟩ := h.ex
  have hsr := Src.ofTexts (P := Try.prog) Try.underlying30 h2.at_
  have c0 := cell_at h1 0
  simp at c0
  clear h1 h2 h
  go_enter Try.func20, Try.ntmps20
  go_wp2_with (at_builtin; refine wpList_appendAll rfl _ _ 30 rfl 9 i0 (.string ⟨#[]⟩) 16 Try.underlying30 hi hz0 hz1 hz2 rfl (World.ownsRow_nil _ _ _ _) _ _ _ (by rfl) (by rfl) hsr (by unfold maxLen; omega) (by omega) ?_)
  intro v4 w4 ha
  have hrow4 := ha.row
  have hnew4 : ∀ g, v4.ownBlock = some g → w.heap.size ≤ g := fun g hg => by
    rcases ha.own g hg with h | h
    · cases h
    · exact h.1
  have f4 : Fresh w w4 := ha.keeps.mono fun i _ h => by cases h
  clear ha
  go_wp2_with fail
  go_ret
  exact ⟨_, rfl, ⟨hrow4, hnew4⟩, f4⟩
end Go.Proofs.Ytbhienlalpbflaa
