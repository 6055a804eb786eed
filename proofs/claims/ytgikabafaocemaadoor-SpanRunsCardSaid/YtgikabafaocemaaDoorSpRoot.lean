/-
  The program's span: Root.
-/
import Derived.Test.YtgikabafaocemaaDoorMSpA
import Derived.Test.YtgikabafaocemaaDoorSpRun
import Derived.Test.YtgikabafaocemaaDoorMSpC
namespace Go.Proofs.YtgikabafaocemaaDoor
open Go.RowKit

/-- a run as a value -/
def runV (n b e : Int) (vh : Value) : Value := .agg #[.int .i64 n, .int .i64 b, .int .i64 e, vh]

set_option maxRecDepth 100000 in
set_option maxHeartbeats 2000000 in
theorem proot_range (n b e : Int) (vh vl : Value) (H L : List (List UInt8)) (w : World) (h : n < 1 ∨ 1099511627776 < n ∨ b < 0 ∨ e ≤ b ∨ n < e) (hH : TextsAt w vh H) (hL : TextsAt w vl L) :
    Calls Tryd.prog 25 #[runV n b e vh, vl] w fun x w' => x = .returned (.tuple #[.string (str []), .int .i64 140]) ∧ Fresh w w' := by
  obtain ⟨ao, cap, rfl, -⟩ := hH
  obtain ⟨al, cal, rfl, -⟩ := hL
  have f0 : Fresh w (w.alloc (.cells #[.int .i64 n, .int .i64 b, .int .i64 e, .slice ao H.length cap] 41)) := (Keeps.refl _ _).alloc _
  have f1 := f0.alloc (spanC b e)
  unfold spanC at f1
  unfold runV
  by_cases h1 : n < 1
  · clear h
    go_enter Tryd.func25, Tryd.ntmps25
    go_wp2_with fail
    go_ret2
    exact ⟨rfl, f1⟩
  by_cases h2 : 1099511627776 < n
  · clear h
    go_enter Tryd.func25, Tryd.ntmps25
    go_wp2_with fail
    go_ret2
    exact ⟨rfl, f1⟩
  · have hi := isRun_any n b e ((w.alloc (.cells #[.int .i64 n, .int .i64 b, .int .i64 e, .slice ao H.length cap] 41)).alloc (.cells #[.int .i64 b, .int .i64 e] 24))
    rw [decide_eq_false (show ¬ (0 ≤ b ∧ b < e ∧ e ≤ n) by omega)] at hi
    have HI := hid hi
    clear h hi
    go_enter Tryd.func25, Tryd.ntmps25
    go_wp2_with fail
    refine HI.out.mono ?_
    rintro x w1 ⟨rfl, fa⟩
    go_wp2_with fail
    go_ret2
    exact ⟨rfl, f1.trans fa⟩

set_option maxRecDepth 100000 in
set_option maxHeartbeats 4000000 in
theorem proot_form (n b e : Nat) (vh vl : Value) (H L : List (List UInt8)) (w : World) (hbe : b < e) (hen : e ≤ n) (hn : n ≤ 1099511627776) (hH : TextsAt w vh H) (hL : TextsAt w vl L) (hHn : H.length ≤ 9223372036854775807) (hLn : L.length ≤ 9223372036854775807)
    (h : 4096 < L.length ∨ (L.length : Int) ≠ (e : Int) - (b : Int) ∨ ¬ all32P L ∨ ¬ all32P H) :
    Calls Tryd.prog 25 #[runV n b e vh, vl] w fun x w' => x = .returned (.tuple #[.string (str []), .int .i64 141]) ∧ Fresh w w' := by
  have HH := hH
  have HL := hL
  obtain ⟨ao, cap, rfl, -⟩ := hH
  obtain ⟨al, cal, rfl, -⟩ := hL
  have f0 : Fresh w (w.alloc (.cells #[.int .i64 (n : Int), .int .i64 (b : Int), .int .i64 (e : Int), .slice ao H.length cap] 41)) := (Keeps.refl _ _).alloc _
  have f1 := f0.alloc (.cells #[.int .i64 (b : Int), .int .i64 (e : Int)] 24)
  have hr0 := ((Keeps.refl (fun _ => False) _).alloc (.cells #[.int .i64 (b : Int), .int .i64 (e : Int)] 24)).at_ (heap_alloc_new w (.cells #[.int .i64 (n : Int), .int .i64 (b : Int), .int .i64 (e : Int), .slice ao H.length cap] 41)) (fun h => h)
  have hb0 := heap_alloc_new (w.alloc (.cells #[.int .i64 (n : Int), .int .i64 (b : Int), .int .i64 (e : Int), .slice ao H.length cap] 41)) (.cells #[.int .i64 (b : Int), .int .i64 (e : Int)] 24)
  rw [World.size_alloc] at hb0
  have hi := isRun_any n b e ((w.alloc (.cells #[.int .i64 (n : Int), .int .i64 (b : Int), .int .i64 (e : Int), .slice ao H.length cap] 41)).alloc (.cells #[.int .i64 (b : Int), .int .i64 (e : Int)] 24))
  rw [decide_eq_true (show (0 ≤ (b : Int) ∧ (b : Int) < e ∧ (e : Int) ≤ n) by omega)] at hi
  have HI := hid hi
  clear hi f0
  unfold runV
  by_cases h1 : 4096 < L.length
  · clear h
    go_enter Tryd.func25, Tryd.ntmps25
    go_wp2_with fail
    refine HI.out.mono ?_
    rintro x w1 ⟨rfl, fa⟩
    have f2 := f1.trans fa
    have hb1 := fa.at_ hb0 (fun h => h)
    have hr1 := fa.at_ hr0 (fun h => h)
    have c0 := cell_at hb1 0
    have c1 := cell_at hb1 1
    have d0 := cell_at hr1 0
    have d3 := cell_at hr1 3
    simp at c0 c1 d0 d3
    clear fa hb0 hr0 f1
    go_wp2_with fail
    go_ret2
    exact ⟨rfl, f2⟩
  by_cases h2 : (L.length : Int) = (e : Int) - (b : Int)
  rotate_left
  · clear h
    go_enter Tryd.func25, Tryd.ntmps25
    go_wp2_with fail
    refine HI.out.mono ?_
    rintro x w1 ⟨rfl, fa⟩
    have f2 := f1.trans fa
    have hb1 := fa.at_ hb0 (fun h => h)
    have hr1 := fa.at_ hr0 (fun h => h)
    have c0 := cell_at hb1 0
    have c1 := cell_at hb1 1
    have d0 := cell_at hr1 0
    have d3 := cell_at hr1 3
    simp at c0 c1 d0 d3
    clear fa hb0 hr0 f1
    go_wp2_with fail
    go_ret2
    exact ⟨rfl, f2⟩
  by_cases h3 : all32P L
  rotate_left
  · have DL := decide_eq_false h3
    have h2' : (L.length : Int) = (e : Int) - (b : Int) := h2
    clear h
    go_enter Tryd.func25, Tryd.ntmps25
    go_wp2_with fail
    refine HI.out.mono ?_
    rintro x w1 ⟨rfl, fa⟩
    have f2 := f1.trans fa
    have hb1 := fa.at_ hb0 (fun h => h)
    have hr1 := fa.at_ hr0 (fun h => h)
    have c0 := cell_at hb1 0
    have c1 := cell_at hb1 1
    have d0 := cell_at hr1 0
    have d3 := cell_at hr1 3
    simp at c0 c1 d0 d3
    clear fa hb0 hr0 f1
    go_wp2_with fail
    refine (all_any _ L w1 (HL.fresh f2) hLn).mono ?_
    rintro x w2 ⟨rfl, fb⟩
    have f3 := f2.trans fb
    rw [DL]
    have hb2 := fb.at_ hb1 (fun h => h)
    have hr2 := fb.at_ hr1 (fun h => h)
    clear c0 c1 d0 d3
    have c0 := cell_at hb2 0
    have c1 := cell_at hb2 1
    have d0 := cell_at hr2 0
    have d3 := cell_at hr2 3
    simp at c0 c1 d0 d3
    go_wp2_with fail
    go_ret2
    exact ⟨rfl, f3⟩
  · have DL := decide_eq_true h3
    have DH := decide_eq_false (show ¬ all32P H from by
      rcases h with h | h | h | h
      · exact absurd h h1
      · exact absurd h2 h
      · exact absurd h3 h
      · exact h)
    clear h
    go_enter Tryd.func25, Tryd.ntmps25
    go_wp2_with fail
    refine HI.out.mono ?_
    rintro x w1 ⟨rfl, fa⟩
    have f2 := f1.trans fa
    have hb1 := fa.at_ hb0 (fun h => h)
    have hr1 := fa.at_ hr0 (fun h => h)
    have c0 := cell_at hb1 0
    have c1 := cell_at hb1 1
    have d0 := cell_at hr1 0
    have d3 := cell_at hr1 3
    simp at c0 c1 d0 d3
    clear fa hb0 hr0 f1
    go_wp2_with fail
    refine (all_any _ L w1 (HL.fresh f2) hLn).mono ?_
    rintro x w2 ⟨rfl, fb⟩
    have f3 := f2.trans fb
    rw [DL]
    have hb2 := fb.at_ hb1 (fun h => h)
    have hr2 := fb.at_ hr1 (fun h => h)
    clear c0 c1 d0 d3
    have c0 := cell_at hb2 0
    have c1 := cell_at hb2 1
    have d0 := cell_at hr2 0
    have d3 := cell_at hr2 3
    simp at c0 c1 d0 d3
    go_wp2_with fail
    refine (all_any _ H w2 (HH.fresh f3) hHn).mono ?_
    rintro x w3 ⟨rfl, fc⟩
    rw [DH]
    go_wp2_with fail
    go_ret2
    exact ⟨rfl, f3.trans fc⟩
end Go.Proofs.YtgikabafaocemaaDoor
