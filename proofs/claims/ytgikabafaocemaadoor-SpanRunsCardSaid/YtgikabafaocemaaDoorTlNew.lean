/-
  The tree of tiles: New, Size.
-/
import Derived.Test.YtgikabafaocemaaDoorTlAdd
namespace Go.Proofs.YtgikabafaocemaaDoor
open Go.RowKit Go.Maps

set_option maxRecDepth 100000 in
set_option maxHeartbeats 1000000 in
theorem tlnew_any (h : Nat) (h1 : 1 ≤ h) (h8 : h ≤ 8) (w : World) (hng : 4 ≤ w.heap.size) :
    Calls Tryd.prog 37 #[.int .i64 (h : Int)] w fun x w' => ∃ tb, x = .returned (.tuple #[.pointer (some ⟨tb, 0, none⟩), .int .i64 0]) ∧ TileTree (fun q => w.heap.size ≤ q ∧ q < w'.heap.size) w' tb h [] ∧ Fresh w w' := by
  have hmm := @run_makeMap Tryd.prog
  have a1 : ¬ (h : Int) < 1 := by omega
  have a2 : ¬ (8 : Int) < (h : Int) := by omega
  go_enter Tryd.func37, Tryd.ntmps37
  go_wp2_with fail
  go_ret2
  have hm := World.ownsMap_made (H := Value) w Tryd.prog 165 keepR
  have f : Fresh w ((w.alloc (.map #[] 0)).alloc (tileC h 0 w.heap.size)) := ((Keeps.refl _ _).alloc _).alloc _
  have hs1 : (w.alloc (.map #[] 0)).heap.size = w.heap.size + 1 := World.size_alloc _ _
  have hs2 : ((w.alloc (.map #[] 0)).alloc (tileC h 0 w.heap.size)).heap.size = w.heap.size + 2 := by rw [World.size_alloc, hs1]
  have hm2 := ownsMap_keeps hm ((Keeps.refl (fun _ => False) _).alloc (tileC h 0 w.heap.size)) (fun h => h)
  have hb := heap_alloc_new (w.alloc (.map #[] 0)) (tileC h 0 w.heap.size)
  rw [hs1] at hb
  refine ⟨w.heap.size + 1, rfl, ⟨⟨⟨fun _ => none, fun _ _ => none, w.heap.size, ?_, hb, ⟨Nat.le_refl _, by show _ < ((w.alloc (.map #[] 0)).alloc (tileC h 0 w.heap.size)).heap.size; omega⟩, by omega, rfl, fun _ _ h => (by cases h)⟩, ⟨by omega, by show _ < ((w.alloc (.map #[] 0)).alloc (tileC h 0 w.heap.size)).heap.size; omega⟩, h1, h8⟩, fun _ h => (by cases h), by simp, fun q hq => ⟨by omega, hq.2⟩⟩, f⟩
  have := Tiles.empty ((w.alloc (.map #[] 0)).alloc (tileC h 0 w.heap.size)) w.heap.size h (nodeOf []) hm2
  rw [show (fun l => ([] : List (List UInt8)).length / 2 ^ l) = fun _ => 0 from by funext l; simp]
  exact this

set_option maxRecDepth 100000 in
set_option maxHeartbeats 1000000 in
theorem tlsize_any (S : Nat → Prop) (tb h : Nat) (L : List (List UInt8)) (w : World) (ht : TileTree S w tb h L) :
    Calls Tryd.prog 19 #[.pointer (some ⟨tb, 0, none⟩)] w fun x w' => x = .returned (.int .i64 (L.length : Int)) ∧ Fresh w w' := by
  obtain ⟨mb, hc⟩ := ht.at_.cell
  have c1 := (cell_at hc 1).trans (show _ = some (Value.int .i64 (L.length : Int)) from rfl)
  clear hc ht
  go_enter Tryd.func19, Tryd.ntmps19
  go_wp2_with fail
  go_ret
  exact ⟨rfl, Keeps.refl _ _⟩
end Go.Proofs.YtgikabafaocemaaDoor
