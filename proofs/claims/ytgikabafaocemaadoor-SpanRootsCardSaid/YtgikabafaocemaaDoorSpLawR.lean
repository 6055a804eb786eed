/-
  SpanRoots: the law's walk.
-/
import Derived.Test.YtgikabafaocemaaDoorSpAsk
import Derived.Test.YtgikabafaocemaaDoorSpKnown
namespace Go.Proofs.YtgikabafaocemaaDoor
open Go.RowKit

set_option maxRecDepth 100000 in
theorem roots_any (n b e : Int) (vH vL : Value) (H L : List (List UInt8)) (root : List UInt8) (w : World) (hH : TextsAt w vH H) (hL : TextsAt w vL L) (hN : Nums w) (hnb : H.length ≤ 8796093022200) (hmb : L.length ≤ 8796093022200) :
    Calls Tryd.prog 4 #[runV n b e vH, vL, .string (str root)] w fun x w' => x = .returned (.bool true) ∧ Fresh w w' := by
  have f0 : Fresh w (w.alloc (.cells #[.int .i64 n, .int .i64 b, .int .i64 e, vH] 41)) := (Keeps.refl _ _).alloc _
  have hrb0 := heap_alloc_new w (.cells #[.int .i64 n, .int .i64 b, .int .i64 e, vH] 41)
  have hk := hid (known_any _ (hN.fresh f0))
  have hask := hid (fun W (f : Fresh w W) => asks_any n b e vH vL H L root W (hH.fresh f) (hL.fresh f) (hN.fresh f).dig hnb hmb)
  unfold runV at hask
  unfold runV
  obtain ⟨ao, cap, rfl, -⟩ := hH
  go_enter Tryd.func4, Tryd.ntmps4
  go_wp2_with fail
  refine hk.out.mono ?_
  rintro x w1 ⟨rfl, f1⟩
  have hrb := f1.at_ hrb0 (fun h => h)
  have f1' := f0.trans f1
  generalize w.heap.size = rb at hrb ⊢
  have R0 := (cell_at hrb 0).trans (show _ = some (Value.int .i64 n) from rfl)
  have R1 := (cell_at hrb 1).trans (show _ = some (Value.int .i64 b) from rfl)
  have R2 := (cell_at hrb 2).trans (show _ = some (Value.int .i64 e) from rfl)
  have R3 := (cell_at hrb 3).trans (show _ = some (Value.slice ao H.length cap) from rfl)
  clear hrb hrb0 hk
  go_wp2_with fail
  refine (hask.out w1 f1').mono ?_
  rintro x w2 ⟨rfl, f2⟩
  go_wp2_with fail
  go_ret
  exact ⟨rfl, f1'.trans f2⟩
end Go.Proofs.YtgikabafaocemaaDoor
