/-
  The document's trie: what stands for nothing.
-/
import Derived.Test.YtmflbchiapdhbaaDoorTrLeaf
namespace Go.Proofs.YtmflbchiapdhbaaDoor
open Go.RowKit

def nought32 : List UInt8 := List.replicate 32 0
set_option maxRecDepth 100000 in
set_option maxHeartbeats 1000000 in
theorem noughts_any (w : World) :
    Calls Tryd.prog 31 #[] w fun e w' => e = .returned (.string (str nought32)) ∧ Fresh w w' := by
  obtain ⟨i0, hi, hz0, hz1, hz2⟩ := info_parts Tryd.infoByte
  go_enter Tryd.func31, Tryd.ntmps31
  go_wp2_with (at_make; refine wpList_make_full _ rfl (.const (.int .i64 32)) (.const (.int .i64 32)) 53 rfl 0 5 i0 (.int .u8 0) 1 Tryd.underlying53 hi hz0 hz1 .i64 .i64 32 32 32 rfl rfl rfl rfl (by rw [hz2]; omega) (by unfold maxLen; omega) (Nat.zero_le _) ?_)
  intro w3 hrow hgr
  have f3 : Fresh w w3 := (Keeps.refl _ w).grown hgr (fun k h => by cases h)
  rw [zeros_cells'] at hrow
  have hct := run_text_of_row (P := Tryd.prog) (w := w3) (base := 0) (e := 5) (v := .slice (some ⟨w.heap.size, 0, none⟩) 32 32) (bs := nought32) 53 9 Tryd.underlying53 Tryd.underlying5 Tryd.underlying9 hrow
  have hct2 : (convert 53 9 (.slice (some ⟨w.heap.size, 0, none⟩) 32 32)).run Tryd.prog w3 = .ok (.string (str nought32)) w3 := hct
  clear hct hrow hgr
  go_wp2
  go_ret
  exact ⟨rfl, f3⟩
end Go.Proofs.YtmflbchiapdhbaaDoor
