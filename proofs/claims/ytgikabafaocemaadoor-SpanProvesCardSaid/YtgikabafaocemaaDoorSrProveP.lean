/-
  The program's proof of a span: what is refused.
-/
import Derived.Test.YtgikabafaocemaaDoorSrProve
namespace Go.Proofs.YtgikabafaocemaaDoor
open Go.RowKit Go.Maps

set_option maxRecDepth 100000 in
set_option maxHeartbeats 2000000 in
theorem pprove_bad (S : Nat → Prop) (tb h : Nat) (L : List (List UInt8)) (n b e : Int) (w : World) (ht : TileTree S w tb h L) (hbad : n < 1 ∨ (L.length : Int) < n ∨ ¬ (0 ≤ b ∧ b < e ∧ e ≤ n)) :
    Calls Tryd.prog 14 #[.pointer (some ⟨tb, 0, none⟩), .int .i64 n, .agg #[.int .i64 b, .int .i64 e]] w fun x w' => x = .returned (.tuple #[.agg #[.int .i64 0, .int .i64 0, .int .i64 0, .slice none 0 0], .int .i64 140]) ∧ Fresh w w' := by
  have hsz := fun W q => tlsize_any S tb h L W q
  have hI := fun W => isRun_any n b e W
  have hf0 : Fresh w ((w.alloc (spanC b e)).alloc (.cells #[.int .i64 0, .int .i64 0, .int .i64 0, .slice none 0 0] 41)) := ((Keeps.refl _ _).alloc _).alloc _
  have hb0 := ((Keeps.refl (fun _ => False) (w.alloc (spanC b e))).alloc (.cells #[.int .i64 0, .int .i64 0, .int .i64 0, .slice none 0 0] 41)).at_ (heap_alloc_new w (spanC b e)) (fun h => h)
  have hr0 := heap_alloc_new (w.alloc (spanC b e)) (.cells #[.int .i64 0, .int .i64 0, .int .i64 0, .slice none 0 0] 41)
  rw [World.size_alloc] at hr0
  have HSZ := hid hsz
  have HI := hid hI
  have HW := hid (show w.heap.size + 1 ≥ w.heap.size by omega)
  obtain ⟨p6, hp6e⟩ : ∃ p6, w.heap.size + 1 = p6 := ⟨_, rfl⟩
  rw [hp6e] at hr0 HW
  have HP6 := hid hp6e
  obtain ⟨R, hR⟩ : ∃ R, decide (0 ≤ b ∧ b < e ∧ e ≤ n) = R := ⟨_, rfl⟩
  rw [hR] at HI
  have HR := hid hR
  obtain ⟨LN, hLN⟩ : ∃ LN : Nat, L.length = LN := ⟨_, rfl⟩
  rw [hLN] at HSZ hbad
  clear hsz hI hR hp6e hLN
  unfold spanC at *
  have c0 := (cell_at hb0 0).trans (show _ = some (Value.int .i64 b) from rfl)
  have c1 := (cell_at hb0 1).trans (show _ = some (Value.int .i64 e) from rfl)
  have hw3 : n < 1 ∨ (¬ n < 1 ∧ (LN : Int) < n) ∨ (¬ n < 1 ∧ ¬ (LN : Int) < n ∧ R = false) := by
    have := HR.out
    by_cases h1 : n < 1
    · exact .inl h1
    · by_cases h2 : (LN : Int) < n
      · exact .inr (.inl ⟨h1, h2⟩)
      · refine .inr (.inr ⟨h1, h2, ?_⟩)
        rw [← this]
        exact decide_eq_false (by omega)
  clear hbad
  rcases hw3 with h1 | ⟨h1, h2⟩ | ⟨h1, h2, rfl⟩
  · go_enter Tryd.func14, Tryd.ntmps14
    have hp1 := hr0
    have d0 := (cell_at hp1 0).trans (show _ = some (Value.int .i64 0) from rfl)
    have d1 := (cell_at hp1 1).trans (show _ = some (Value.int .i64 0) from rfl)
    have d2 := (cell_at hp1 2).trans (show _ = some (Value.int .i64 0) from rfl)
    have d3 := (cell_at hp1 3).trans (show _ = some (Value.slice none 0 0) from rfl)
    have y0 := free_at hp1 0
    have y1 := free_at hp1 1
    have y2 := free_at hp1 2
    have y3 := free_at hp1 3
    have hpl := lt_of_block hp1
    have HP := hid hp1
    clear hp1
    (try rw [HP6.out])
    go_wp2_with fail
    refine bodyPost_ret (results_row2 rfl _ _ (w.heap.size + 1) 41 _ (0, 0) _ rfl (by rw [HP6.out]; exact HP.out) Tryd.underlying41 rfl (by kernel_rfl)) rfl ⟨rfl, hf0⟩
  · go_enter Tryd.func14, Tryd.ntmps14
    go_wp2_with fail
    refine (HSZ.out _ (ht.fresh hf0)).mono ?_
    rintro x w1 ⟨rfl, f1⟩
    have hp1 := (f1).at_ hr0 (fun h => h)
    have d0 := (cell_at hp1 0).trans (show _ = some (Value.int .i64 0) from rfl)
    have d1 := (cell_at hp1 1).trans (show _ = some (Value.int .i64 0) from rfl)
    have d2 := (cell_at hp1 2).trans (show _ = some (Value.int .i64 0) from rfl)
    have d3 := (cell_at hp1 3).trans (show _ = some (Value.slice none 0 0) from rfl)
    have y0 := free_at hp1 0
    have y1 := free_at hp1 1
    have y2 := free_at hp1 2
    have y3 := free_at hp1 3
    have hpl := lt_of_block hp1
    have HP := hid hp1
    clear hp1
    (try rw [HP6.out])
    go_wp2_with fail
    have kS := (((((Keeps.refl (fun q => q = p6) w1)).setCell (p := ⟨p6, 0, none⟩) (fun _ => rfl) (.int .i64 0)).setCell (p := ⟨p6, 1, none⟩) (fun _ => rfl) (.int .i64 0)).setCell (p := ⟨p6, 2, none⟩) (fun _ => rfl) (.int .i64 0)).setCell (p := ⟨p6, 3, none⟩) (fun _ => rfl) (.slice none 0 0)
    have r2 := heap_setCell_at (heap_setCell_at (heap_setCell_at (heap_setCell_at HP.out 0 (.int .i64 0)) 1 (.int .i64 0)) 2 (.int .i64 0)) 3 (.slice none 0 0)
    refine bodyPost_ret (results_row2 rfl _ _ p6 41 _ (0, 0) _ rfl (by exact r2) Tryd.underlying41 rfl (by kernel_rfl)) rfl ⟨rfl, ?_⟩
    exact (hf0.trans f1).trans' kS (fun q hq e => by have := HP6.out; omega)
  · go_enter Tryd.func14, Tryd.ntmps14
    go_wp2_with fail
    refine (HSZ.out _ (ht.fresh hf0)).mono ?_
    rintro x w1 ⟨rfl, f1⟩
    have hb1 := f1.at_ hb0 (fun h => h)
    have c0 := (cell_at hb1 0).trans (show _ = some (Value.int .i64 b) from rfl)
    have c1 := (cell_at hb1 1).trans (show _ = some (Value.int .i64 e) from rfl)
    clear hb1
    go_wp2_with fail
    refine (HI.out _).mono ?_
    rintro x w2 ⟨rfl, f2⟩
    have f12 := f1.trans f2
    have hp1 := (f12).at_ hr0 (fun h => h)
    have d0 := (cell_at hp1 0).trans (show _ = some (Value.int .i64 0) from rfl)
    have d1 := (cell_at hp1 1).trans (show _ = some (Value.int .i64 0) from rfl)
    have d2 := (cell_at hp1 2).trans (show _ = some (Value.int .i64 0) from rfl)
    have d3 := (cell_at hp1 3).trans (show _ = some (Value.slice none 0 0) from rfl)
    have y0 := free_at hp1 0
    have y1 := free_at hp1 1
    have y2 := free_at hp1 2
    have y3 := free_at hp1 3
    have hpl := lt_of_block hp1
    have HP := hid hp1
    clear hp1
    (try rw [HP6.out])
    go_wp2_with fail
    have kS := (((((Keeps.refl (fun q => q = p6) w2)).setCell (p := ⟨p6, 0, none⟩) (fun _ => rfl) (.int .i64 0)).setCell (p := ⟨p6, 1, none⟩) (fun _ => rfl) (.int .i64 0)).setCell (p := ⟨p6, 2, none⟩) (fun _ => rfl) (.int .i64 0)).setCell (p := ⟨p6, 3, none⟩) (fun _ => rfl) (.slice none 0 0)
    have r2 := heap_setCell_at (heap_setCell_at (heap_setCell_at (heap_setCell_at HP.out 0 (.int .i64 0)) 1 (.int .i64 0)) 2 (.int .i64 0)) 3 (.slice none 0 0)
    refine bodyPost_ret (results_row2 rfl _ _ p6 41 _ (0, 0) _ rfl (by exact r2) Tryd.underlying41 rfl (by kernel_rfl)) rfl ⟨rfl, ?_⟩
    exact (hf0.trans f12).trans' kS (fun q hq e => by have := HP6.out; omega)
end Go.Proofs.YtgikabafaocemaaDoor
