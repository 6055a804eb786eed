/-
  The trie: a leaf's hash.
-/
import Derived.Test.YtmflbchiapdhbaaDoorTrBit
namespace Go.Proofs.YtmflbchiapdhbaaDoor
open Go.RowKit

set_option maxRecDepth 100000 in
set_option maxHeartbeats 1000000 in
theorem leafHash_any (k v : List UInt8) (w : World) (hT : TabLaid w) (hF : FirstLaid w) (hng : 3 ≤ w.heap.size) (hb : k.length + v.length ≤ 70368744170000) :
    Calls Tryd.prog 26 #[.string (str k), .string (str v)] w fun e w' => e = .returned (.string (str (sha (2 :: (k ++ v))))) ∧ Fresh w w' := by
  have f1 : Fresh w (w.alloc (.cells #[.string (str [2]), .string (str k), .string (str v)] 9)) := (Keeps.refl _ _).alloc _
  have hl : TextsAt (w.alloc (.cells #[.string (str [2]), .string (str k), .string (str v)] 9)) (.slice (some ⟨w.heap.size, 0, none⟩) 3 3) [[2], k, v] :=
    ⟨_, _, rfl, fun j s hs => by
      refine ⟨w.heap.size, 0, rfl, by simp, ?_⟩
      rw [cell_at (heap_alloc_new w _)]
      match j, hs with
      | 0, hs => simp at hs; subst hs; rfl
      | 1, hs => simp at hs; subst hs; rfl
      | 2, hs => simp at hs; subst hs; rfl
      | (j + 3), hs => simp at hs⟩
  have hp := psum_any (.slice (some ⟨w.heap.size, 0, none⟩) 3 3) [[2], k, v] _ hl (hT.keeps f1 (fun h => h)) (hF.keeps f1 (fun h => h)) (by simp; omega) (by simp) (by simp; omega)
  have he : ([[2], k, v] : List (List UInt8)).flatten = 2 :: (k ++ v) := by simp
  rw [he] at hp
  have HP := hid hp
  clear hp hl he
  go_enter Tryd.func26, Tryd.ntmps26
  go_wp2_with fail
  refine HP.out.mono ?_
  rintro e w2 ⟨rfl, f2⟩
  go_wp2
  go_ret
  exact ⟨rfl, f1.trans f2⟩
end Go.Proofs.YtmflbchiapdhbaaDoor
