/-
  The document's span: Root of what is in range.
-/
import Derived.Test.YtgikabafaocemaaDoorMSpF
import Derived.BigQuiet
import Derived.Test.YtgikabafaocemaaDoorMMsF
namespace Go.Proofs.YtgikabafaocemaaDoor
open Go.RowKit

def goodRun (b e : Nat) (T : List (Nat × Nat)) (H L : List (List UInt8)) : Prop := (L.length : Int) = (e : Int) - (b : Int) ∧ ¬ 4096 < L.length ∧ T.length = H.length ∧ all32P H ∧ all32P L
theorem rootOf_good {n b e : Nat} {H L : List (List UInt8)} (hbe : b < e) (hen : e ≤ n) (hn : n ≤ 1099511627776) (h : goodRun b e (toldF 40 b e 0 n) H L) : rootOf n b e H L = ((walkF 40 b e 0 n H L).1, 0) := by
  obtain ⟨h1, h2, h3, h4, h5⟩ := h
  rw [rootOf, if_neg (by omega), if_neg]
  · simp
  · rintro (q | q | q | q | q)
    · exact h2 q
    · exact q h1
    · exact q h5
    · exact q h4
    · exact q (by simpa using h3)
theorem rootOf_bad {n b e : Nat} {H L : List (List UInt8)} (hbe : b < e) (hen : e ≤ n) (hn : n ≤ 1099511627776) (h : ¬ goodRun b e (toldF 40 b e 0 n) H L) : rootOf n b e H L = ([], 141) := by
  rw [rootOf, if_neg (by omega), if_pos]
  apply Classical.byContradiction
  intro q
  apply h
  refine ⟨Classical.byContradiction fun z => q (.inr (.inl z)), fun z => q (.inl z), Classical.byContradiction fun z => q (.inr (.inr (.inr (.inr (by simpa using z))))), Classical.byContradiction fun z => q (.inr (.inr (.inr (.inl z)))), Classical.byContradiction fun z => q (.inr (.inr (.inl z)))⟩

set_option maxRecDepth 100000 in
set_option maxHeartbeats 8000000 in
theorem rroot_in (n b e : Nat) (vh vl : Value) (H L : List (List UInt8)) (w : World) (hbe : b < e) (hen : e ≤ n) (hn : n ≤ 1099511627776) (hH : TextsAt w vh H) (hL : TextsAt w vl L) (hHn : H.length ≤ 9223372036854775807) (hLn : L.length ≤ 9223372036854775807)
    (hHB : ∀ wb, w.heap.size ≤ wb → ListBut wb w vh H) (hLB : ∀ wb, w.heap.size ≤ wb → ListBut wb w vl L) :
    Calls Tryd.prog 49 #[runV n b e vh, vl] w fun x w' => x = .returned (.tuple #[.string (str (rootOf n b e H L).1), .int .i64 (rootOf n b e H L).2]) ∧ Fresh w w' := by
  have HH := hH
  have HL := hL
  obtain ⟨ao, cap, rfl, -⟩ := hH
  obtain ⟨al, cal, rfl, -⟩ := hL
  have f0 : Fresh w (w.alloc (.cells #[.int .i64 (n : Int), .int .i64 (b : Int), .int .i64 (e : Int), .slice ao H.length cap] 41)) := (Keeps.refl _ _).alloc _
  have f1 := f0.alloc (.cells #[.int .i64 (b : Int), .int .i64 (e : Int)] 24)
  have hr0 := ((Keeps.refl (fun _ => False) _).alloc (.cells #[.int .i64 (b : Int), .int .i64 (e : Int)] 24)).at_ (heap_alloc_new w (.cells #[.int .i64 (n : Int), .int .i64 (b : Int), .int .i64 (e : Int), .slice ao H.length cap] 41)) (fun h => h)
  have hb0 := heap_alloc_new (w.alloc (.cells #[.int .i64 (n : Int), .int .i64 (b : Int), .int .i64 (e : Int), .slice ao H.length cap] 41)) (.cells #[.int .i64 (b : Int), .int .i64 (e : Int)] 24)
  rw [World.size_alloc] at hb0
  have hi := refrun_any n b e ((w.alloc (.cells #[.int .i64 (n : Int), .int .i64 (b : Int), .int .i64 (e : Int), .slice ao H.length cap] 41)).alloc (.cells #[.int .i64 (b : Int), .int .i64 (e : Int)] 24))
  rw [decide_eq_true (show (0 ≤ (b : Int) ∧ (b : Int) < e ∧ (e : Int) ≤ n) by omega)] at hi
  have HI := hid hi
  clear hi f0
  have HG := hid (fun h => rootOf_good (H := H) (L := L) hbe hen hn h)
  have HB := hid (fun h => rootOf_bad (H := H) (L := L) hbe hen hn h)
  have HT := hid (fun w => told_any b e 40 0 n w (by omega) (by omega) (by omega) (by omega))
  obtain ⟨R, hR⟩ : ∃ R, rootOf n b e H L = R := ⟨_, rfl⟩
  obtain ⟨T, hT⟩ : ∃ T, toldF 40 b e 0 n = T := ⟨_, rfl⟩
  rw [hR, hT] at HG HB
  rw [hT] at HT
  rw [hR]
  have HTE := hid hT
  clear hR hT
  unfold runV
  obtain ⟨dH, hdH⟩ : ∃ d, decide (all32P H) = d := ⟨_, rfl⟩
  obtain ⟨dL, hdL⟩ : ∃ d, decide (all32P L) = d := ⟨_, rfl⟩
  have HDH := hid hdH
  have HDL := hid hdL
  clear hdH hdL
  go_enter Tryd.func49, Tryd.ntmps49
  go_wp2_with fail
  refine HI.out.mono ?_
  rintro x w1 ⟨rfl, fa⟩
  have f2 := f1.trans fa
  have hb1 := fa.at_ hb0 (fun h => h)
  have hr1 := fa.at_ hr0 (fun h => h)
  have c0 := cell_at hb1 0
  have c1 := cell_at hb1 1
  have d0 := cell_at hr1 0
  have d3 := cell_at hr1 3
  simp at c0 c1 d0 d3
  clear fa hb0 hr0 f1
  go_wp2_with fail
  refine (refhashes_any _ H w1 (HH.fresh f2) hHn).mono ?_
  rintro x w2 ⟨rfl, fb⟩
  have f3 := f2.trans fb
  rw [HDH.out]
  have hb2 := fb.at_ hb1 (fun h => h)
  have hr2 := fb.at_ hr1 (fun h => h)
  clear c0 c1 d0 d3
  have c0 := cell_at hb2 0
  have c1 := cell_at hb2 1
  have d0 := cell_at hr2 0
  have d3 := cell_at hr2 3
  simp at c0 c1 d0 d3
  go_wp2_with fail
  refine (refhashes_any _ L w2 (HL.fresh f3) hLn).mono ?_
  rintro x w3 ⟨rfl, fc⟩
  rw [HDL.out]
  have f4 := f3.trans fc
  have hb3 := fc.at_ hb2 (fun h => h)
  have hr3 := fc.at_ hr2 (fun h => h)
  clear c0 c1 d0 d3
  have c0 := cell_at hb3 0
  have c1 := cell_at hb3 1
  have d0 := cell_at hr3 0
  have d3 := cell_at hr3 3
  simp at c0 c1 d0 d3
  clear hb1 hr1 hb2 hr2
  have C0 := hid (show w3.cell? ⟨w.heap.size + 1, 0, none⟩ = _ from c0)
  have C1 := hid (show w3.cell? ⟨w.heap.size + 1, 1, none⟩ = _ from c1)
  have D0 := hid (show w3.cell? ⟨w.heap.size, 0, none⟩ = _ from d0)
  have D3 := hid (show w3.cell? ⟨w.heap.size, 3, none⟩ = _ from d3)
  have HSZ := hid (show w.heap.size < w3.heap.size ∧ w.heap.size + 1 < w3.heap.size from ⟨lt_of_block hr3, lt_of_block hb3⟩)
  unfold spanV at HT
  clear c0 c1 d0 d3
  have hw : IntKind.i64.wrap ((e : Int) - (b : Int)) = (e : Int) - (b : Int) := by rw [IntKind.wrap_i64]; omega
  by_cases h1 : (L.length : Int) = (e : Int) - (b : Int)
  rotate_left
  · have g1 : ((L.length : Int) != IntKind.i64.wrap ((e : Int) - (b : Int))) = true := by rw [hw]; simpa using h1
    clear hw
    have hbad := HB.out (fun g => h1 g.1)
    subst hbad
    clear h1
    go_wp2_with fail
    refine wp_region_keep 32 (fun w' => Fresh w3 w') (fun _ => True) (fun _ => true) (by kernel_rfl) (by kernel_rfl) ?_
    (try (change wpKeep _ _ _ _ _ _ _ _ _ _ (World.drew _)))
    refine wpKeep_takeT (i := 0) (oi := ⟨some 37, _, _, _, _, _⟩) (v := ?_) rfl (by kernel_rfl) (by kernel_rfl) (by kernel_rfl) (by kernel_rfl) (fun _ _ _ h => h) (Or.inl ⟨by rfl, ?_⟩) (Keeps.refl _ _).drew (fun _ => trivial) ?_
    rotate_left
    · intro w' hT
      have c0 := (hT.cell (p := ⟨w.heap.size + 1, 0, none⟩) HSZ.out.2 (fun h => h)).trans C0.out
      have c1 := (hT.cell (p := ⟨w.heap.size + 1, 1, none⟩) HSZ.out.2 (fun h => h)).trans C1.out
      have d0 := (hT.cell (p := ⟨w.heap.size, 0, none⟩) HSZ.out.1 (fun h => h)).trans D0.out
      have d3 := (hT.cell (p := ⟨w.heap.size, 3, none⟩) HSZ.out.1 (fun h => h)).trans D3.out
      go_simp
      (try with_reducible rfl)
    rotate_left
    (try simp only [Act.put, List.setIfInBounds_toArray, List.set_cons_zero, List.set_cons_succ])
    refine wpKeep_takeT (i := 1) (oi := ⟨some 38, _, _, _, _, _⟩) (v := ?_) rfl (by kernel_rfl) (by kernel_rfl) (by kernel_rfl) (by kernel_rfl) (fun _ _ _ h => h) (Or.inl ⟨by rfl, ?_⟩) (Keeps.refl _ _).drew (fun _ => trivial) ?_
    rotate_left
    · intro w' hT
      have c0 := (hT.cell (p := ⟨w.heap.size + 1, 0, none⟩) HSZ.out.2 (fun h => h)).trans C0.out
      have c1 := (hT.cell (p := ⟨w.heap.size + 1, 1, none⟩) HSZ.out.2 (fun h => h)).trans C1.out
      have d0 := (hT.cell (p := ⟨w.heap.size, 0, none⟩) HSZ.out.1 (fun h => h)).trans D0.out
      have d3 := (hT.cell (p := ⟨w.heap.size, 3, none⟩) HSZ.out.1 (fun h => h)).trans D3.out
      go_simp
      (try with_reducible rfl)
    rotate_left
    (try simp only [Act.put, List.setIfInBounds_toArray, List.set_cons_zero, List.set_cons_succ])
    refine wpKeep_takeT (i := 2) (oi := ⟨some 39, _, _, _, _, _⟩) (v := ?_) rfl (by kernel_rfl) (by kernel_rfl) (by kernel_rfl) (by kernel_rfl) (fun _ _ _ h => h) (Or.inl ⟨by rfl, ?_⟩) (Keeps.refl _ _).drew (fun _ => trivial) ?_
    rotate_left
    · intro w' hT
      have c0 := (hT.cell (p := ⟨w.heap.size + 1, 0, none⟩) HSZ.out.2 (fun h => h)).trans C0.out
      have c1 := (hT.cell (p := ⟨w.heap.size + 1, 1, none⟩) HSZ.out.2 (fun h => h)).trans C1.out
      have d0 := (hT.cell (p := ⟨w.heap.size, 0, none⟩) HSZ.out.1 (fun h => h)).trans D0.out
      have d3 := (hT.cell (p := ⟨w.heap.size, 3, none⟩) HSZ.out.1 (fun h => h)).trans D3.out
      go_simp
      (try with_reducible rfl)
    rotate_left
    (try simp only [Act.put, List.setIfInBounds_toArray, List.set_cons_zero, List.set_cons_succ])
    refine wpKeep_takeT (i := 3) (oi := ⟨some 40, _, _, _, _, _⟩) (v := ?_) rfl (by kernel_rfl) (by kernel_rfl) (by kernel_rfl) (by kernel_rfl) (fun _ _ _ h => h) (Or.inl ⟨by rfl, ?_⟩) (Keeps.refl _ _).drew (fun _ => trivial) ?_
    rotate_left
    · intro w' hT
      have c0 := (hT.cell (p := ⟨w.heap.size + 1, 0, none⟩) HSZ.out.2 (fun h => h)).trans C0.out
      have c1 := (hT.cell (p := ⟨w.heap.size + 1, 1, none⟩) HSZ.out.2 (fun h => h)).trans C1.out
      have d0 := (hT.cell (p := ⟨w.heap.size, 0, none⟩) HSZ.out.1 (fun h => h)).trans D0.out
      have d3 := (hT.cell (p := ⟨w.heap.size, 3, none⟩) HSZ.out.1 (fun h => h)).trans D3.out
      go_simp
      (try with_reducible rfl)
    rotate_left
    (try simp only [Act.put, List.setIfInBounds_toArray, List.set_cons_zero, List.set_cons_succ])
    refine wpKeep_takeT (i := 4) (oi := ⟨some 41, _, _, _, _, _⟩) (v := ?_) rfl (by kernel_rfl) (by kernel_rfl) (by kernel_rfl) (by kernel_rfl) (fun _ _ _ h => h) (Or.inl ⟨by rfl, ?_⟩) (Keeps.refl _ _).drew (fun _ => trivial) ?_
    rotate_left
    · intro w' hT
      have c0 := (hT.cell (p := ⟨w.heap.size + 1, 0, none⟩) HSZ.out.2 (fun h => h)).trans C0.out
      have c1 := (hT.cell (p := ⟨w.heap.size + 1, 1, none⟩) HSZ.out.2 (fun h => h)).trans C1.out
      have d0 := (hT.cell (p := ⟨w.heap.size, 0, none⟩) HSZ.out.1 (fun h => h)).trans D0.out
      have d3 := (hT.cell (p := ⟨w.heap.size, 3, none⟩) HSZ.out.1 (fun h => h)).trans D3.out
      go_simp
      (try with_reducible rfl)
    rotate_left
    (try simp only [Act.put, List.setIfInBounds_toArray, List.set_cons_zero, List.set_cons_succ])
    refine wpKeep_takeT (i := 5) (oi := ⟨some 42, _, _, _, _, _⟩) (v := ?_) rfl (by kernel_rfl) (by kernel_rfl) (by kernel_rfl) (by kernel_rfl) (fun _ _ _ h => h) (Or.inl ⟨by rfl, ?_⟩) (Keeps.refl _ _).drew (fun _ => trivial) ?_
    rotate_left
    · intro w' hT
      have c0 := (hT.cell (p := ⟨w.heap.size + 1, 0, none⟩) HSZ.out.2 (fun h => h)).trans C0.out
      have c1 := (hT.cell (p := ⟨w.heap.size + 1, 1, none⟩) HSZ.out.2 (fun h => h)).trans C1.out
      have d0 := (hT.cell (p := ⟨w.heap.size, 0, none⟩) HSZ.out.1 (fun h => h)).trans D0.out
      have d3 := (hT.cell (p := ⟨w.heap.size, 3, none⟩) HSZ.out.1 (fun h => h)).trans D3.out
      go_simp
      (try with_reducible rfl)
    rotate_left
    (try simp only [Act.put, List.setIfInBounds_toArray, List.set_cons_zero, List.set_cons_succ])
    refine wpKeep_takeT (i := 6) (oi := ⟨some 43, _, _, _, _, _⟩) (v := ?_) rfl (by kernel_rfl) (by kernel_rfl) (by kernel_rfl) (by kernel_rfl) (fun _ _ _ h => h) (Or.inl ⟨by rfl, ?_⟩) (Keeps.refl _ _).drew (fun _ => trivial) ?_
    rotate_left
    · intro w' hT
      have c0 := (hT.cell (p := ⟨w.heap.size + 1, 0, none⟩) HSZ.out.2 (fun h => h)).trans C0.out
      have c1 := (hT.cell (p := ⟨w.heap.size + 1, 1, none⟩) HSZ.out.2 (fun h => h)).trans C1.out
      have d0 := (hT.cell (p := ⟨w.heap.size, 0, none⟩) HSZ.out.1 (fun h => h)).trans D0.out
      have d3 := (hT.cell (p := ⟨w.heap.size, 3, none⟩) HSZ.out.1 (fun h => h)).trans D3.out
      go_simp
      (try with_reducible rfl)
    rotate_left
    (try simp only [Act.put, List.setIfInBounds_toArray, List.set_cons_zero, List.set_cons_succ])
    refine wpKeep_takeT (i := 7) (oi := ⟨some 44, _, _, _, _, _⟩) (v := ?_) rfl (by kernel_rfl) (by kernel_rfl) (by kernel_rfl) (by kernel_rfl) (fun _ _ _ h => h) (Or.inl ⟨by rfl, ?_⟩) (Keeps.refl _ _).drew (fun _ => trivial) ?_
    rotate_left
    · intro w' hT
      have c0 := (hT.cell (p := ⟨w.heap.size + 1, 0, none⟩) HSZ.out.2 (fun h => h)).trans C0.out
      have c1 := (hT.cell (p := ⟨w.heap.size + 1, 1, none⟩) HSZ.out.2 (fun h => h)).trans C1.out
      have d0 := (hT.cell (p := ⟨w.heap.size, 0, none⟩) HSZ.out.1 (fun h => h)).trans D0.out
      have d3 := (hT.cell (p := ⟨w.heap.size, 3, none⟩) HSZ.out.1 (fun h => h)).trans D3.out
      go_simp
      (try with_reducible rfl)
    rotate_left
    (try simp only [Act.put, List.setIfInBounds_toArray, List.set_cons_zero, List.set_cons_succ])
    refine wpKeep_takeT (i := 8) (oi := ⟨some 45, _, _, _, _, _⟩) (v := ?_) rfl (by kernel_rfl) (by kernel_rfl) (by kernel_rfl) (by kernel_rfl) (fun _ _ _ h => h) (Or.inl ⟨by rfl, ?_⟩) (Keeps.refl _ _).drew (fun _ => trivial) ?_
    rotate_left
    · intro w' hT
      have c0 := (hT.cell (p := ⟨w.heap.size + 1, 0, none⟩) HSZ.out.2 (fun h => h)).trans C0.out
      have c1 := (hT.cell (p := ⟨w.heap.size + 1, 1, none⟩) HSZ.out.2 (fun h => h)).trans C1.out
      have d0 := (hT.cell (p := ⟨w.heap.size, 0, none⟩) HSZ.out.1 (fun h => h)).trans D0.out
      have d3 := (hT.cell (p := ⟨w.heap.size, 3, none⟩) HSZ.out.1 (fun h => h)).trans D3.out
      go_simp
      (try with_reducible rfl)
    rotate_left
    (try simp only [Act.put, List.setIfInBounds_toArray, List.set_cons_zero, List.set_cons_succ])
    refine wpKeep_takeT (i := 9) (oi := ⟨some 46, _, _, _, _, _⟩) (v := undef) rfl (by kernel_rfl) (by kernel_rfl) (by kernel_rfl) (by kernel_rfl) (fun _ _ _ h => h) (Or.inr ⟨by rfl, rfl⟩) (Keeps.refl _ _).drew (fun _ => trivial) ?_
    (try simp only [Act.put, List.setIfInBounds_toArray, List.set_cons_zero, List.set_cons_succ])
    refine wpKeep_takeT (i := 10) (oi := ⟨some 47, _, _, _, _, _⟩) (v := undef) rfl (by kernel_rfl) (by kernel_rfl) (by kernel_rfl) (by kernel_rfl) (fun _ _ _ h => h) (Or.inr ⟨by rfl, rfl⟩) (Keeps.refl _ _).drew (fun _ => trivial) ?_
    (try simp only [Act.put, List.setIfInBounds_toArray, List.set_cons_zero, List.set_cons_succ])
    refine wpKeep_takeT (i := 11) (oi := ⟨some 48, _, _, _, _, _⟩) (v := undef) rfl (by kernel_rfl) (by kernel_rfl) (by kernel_rfl) (by kernel_rfl) (fun _ _ _ h => h) (Or.inr ⟨by rfl, rfl⟩) (Keeps.refl _ _).drew (fun _ => trivial) ?_
    (try simp only [Act.put, List.setIfInBounds_toArray, List.set_cons_zero, List.set_cons_succ])
    refine wpKeep_takeT (i := 12) (oi := ⟨some 49, _, _, _, _, _⟩) (v := ?_) rfl (by kernel_rfl) (by kernel_rfl) (by kernel_rfl) (by kernel_rfl) (fun _ _ _ h => h) (Or.inl ⟨by rfl, ?_⟩) (Keeps.refl _ _).drew (fun _ => trivial) ?_
    rotate_left
    · intro w' hT
      have c0 := (hT.cell (p := ⟨w.heap.size + 1, 0, none⟩) HSZ.out.2 (fun h => h)).trans C0.out
      have c1 := (hT.cell (p := ⟨w.heap.size + 1, 1, none⟩) HSZ.out.2 (fun h => h)).trans C1.out
      have d0 := (hT.cell (p := ⟨w.heap.size, 0, none⟩) HSZ.out.1 (fun h => h)).trans D0.out
      have d3 := (hT.cell (p := ⟨w.heap.size, 3, none⟩) HSZ.out.1 (fun h => h)).trans D3.out
      go_simp
      (try with_reducible rfl)
    rotate_left
    (try simp only [Act.put, List.setIfInBounds_toArray, List.set_cons_zero, List.set_cons_succ])
    refine wpKeep_takeT (i := 13) (oi := ⟨some 50, _, _, _, _, _⟩) (v := ?_) rfl (by kernel_rfl) (by kernel_rfl) (by kernel_rfl) (by kernel_rfl) (fun _ _ _ h => h) (Or.inl ⟨by rfl, ?_⟩) (Keeps.refl _ _).drew (fun _ => trivial) ?_
    rotate_left
    · intro w' hT
      have c0 := (hT.cell (p := ⟨w.heap.size + 1, 0, none⟩) HSZ.out.2 (fun h => h)).trans C0.out
      have c1 := (hT.cell (p := ⟨w.heap.size + 1, 1, none⟩) HSZ.out.2 (fun h => h)).trans C1.out
      have d0 := (hT.cell (p := ⟨w.heap.size, 0, none⟩) HSZ.out.1 (fun h => h)).trans D0.out
      have d3 := (hT.cell (p := ⟨w.heap.size, 3, none⟩) HSZ.out.1 (fun h => h)).trans D3.out
      go_simp
      (try with_reducible rfl)
    rotate_left
    (try simp only [Act.put, List.setIfInBounds_toArray, List.set_cons_zero, List.set_cons_succ])
    refine wpKeep_takeT (i := 14) (oi := ⟨some 51, _, _, _, _, _⟩) (v := undef) rfl (by kernel_rfl) (by kernel_rfl) (by kernel_rfl) (by kernel_rfl) (fun _ _ _ h => h) (Or.inr ⟨by rfl, rfl⟩) (Keeps.refl _ _).drew (fun _ => trivial) ?_
    (try simp only [Act.put, List.setIfInBounds_toArray, List.set_cons_zero, List.set_cons_succ])
    refine wpKeep_takeT (i := 15) (oi := ⟨some 52, _, _, _, _, _⟩) (v := undef) rfl (by kernel_rfl) (by kernel_rfl) (by kernel_rfl) (by kernel_rfl) (fun _ _ _ h => h) (Or.inr ⟨by rfl, rfl⟩) (Keeps.refl _ _).drew (fun _ => trivial) ?_
    (try simp only [Act.put, List.setIfInBounds_toArray, List.set_cons_zero, List.set_cons_succ])
    refine wpKeep_takeT (i := 16) (oi := ⟨some 53, _, _, _, _, _⟩) (v := undef) rfl (by kernel_rfl) (by kernel_rfl) (by kernel_rfl) (by kernel_rfl) (fun _ _ _ h => h) (Or.inr ⟨by rfl, rfl⟩) (Keeps.refl _ _).drew (fun _ => trivial) ?_
    (try simp only [Act.put, List.setIfInBounds_toArray, List.set_cons_zero, List.set_cons_succ])
    refine wpKeep_takeT (i := 17) (oi := ⟨some 54, _, _, _, _, _⟩) (v := undef) rfl (by kernel_rfl) (by kernel_rfl) (by kernel_rfl) (by kernel_rfl) (fun _ _ _ h => h) (Or.inr ⟨by rfl, rfl⟩) (Keeps.refl _ _).drew (fun _ => trivial) ?_
    (try simp only [Act.put, List.setIfInBounds_toArray, List.set_cons_zero, List.set_cons_succ])
    refine wpKeep_takeT (i := 18) (oi := ⟨some 55, _, _, _, _, _⟩) (v := undef) rfl (by kernel_rfl) (by kernel_rfl) (by kernel_rfl) (by kernel_rfl) (fun _ _ _ h => h) (Or.inr ⟨by rfl, rfl⟩) (Keeps.refl _ _).drew (fun _ => trivial) ?_
    (try simp only [Act.put, List.setIfInBounds_toArray, List.set_cons_zero, List.set_cons_succ])
    refine wpKeep_takeT (i := 19) (oi := ⟨some 56, _, _, _, _, _⟩) (v := undef) rfl (by kernel_rfl) (by kernel_rfl) (by kernel_rfl) (by kernel_rfl) (fun _ _ _ h => h) (Or.inr ⟨by rfl, rfl⟩) (Keeps.refl _ _).drew (fun _ => trivial) ?_
    (try simp only [Act.put, List.setIfInBounds_toArray, List.set_cons_zero, List.set_cons_succ])
    refine wpKeep_takeT (i := 20) (oi := ⟨some 57, _, _, _, _, _⟩) (v := undef) rfl (by kernel_rfl) (by kernel_rfl) (by kernel_rfl) (by kernel_rfl) (fun _ _ _ h => h) (Or.inr ⟨by rfl, rfl⟩) (Keeps.refl _ _).drew (fun _ => trivial) ?_
    (try simp only [Act.put, List.setIfInBounds_toArray, List.set_cons_zero, List.set_cons_succ])
    refine wpKeep_takeT (i := 21) (oi := ⟨some 58, _, _, _, _, _⟩) (v := undef) rfl (by kernel_rfl) (by kernel_rfl) (by kernel_rfl) (by kernel_rfl) (fun _ _ _ h => h) (Or.inr ⟨by rfl, rfl⟩) (Keeps.refl _ _).drew (fun _ => trivial) ?_
    (try simp only [Act.put, List.setIfInBounds_toArray, List.set_cons_zero, List.set_cons_succ])
    refine wpKeep_takeT (i := 22) (oi := ⟨some 59, _, _, _, _, _⟩) (v := undef) rfl (by kernel_rfl) (by kernel_rfl) (by kernel_rfl) (by kernel_rfl) (fun _ _ _ h => h) (Or.inr ⟨by rfl, rfl⟩) (Keeps.refl _ _).drew (fun _ => trivial) ?_
    (try simp only [Act.put, List.setIfInBounds_toArray, List.set_cons_zero, List.set_cons_succ])
    refine wpKeep_takeT (i := 23) (oi := ⟨some 60, _, _, _, _, _⟩) (v := ?_) rfl (by kernel_rfl) (by kernel_rfl) (by kernel_rfl) (by kernel_rfl) (fun _ _ _ h => h) (Or.inl ⟨by rfl, ?_⟩) (Keeps.refl _ _).drew (fun _ => trivial) ?_
    rotate_left
    · intro w' hT
      have c0 := (hT.cell (p := ⟨w.heap.size + 1, 0, none⟩) HSZ.out.2 (fun h => h)).trans C0.out
      have c1 := (hT.cell (p := ⟨w.heap.size + 1, 1, none⟩) HSZ.out.2 (fun h => h)).trans C1.out
      have d0 := (hT.cell (p := ⟨w.heap.size, 0, none⟩) HSZ.out.1 (fun h => h)).trans D0.out
      have d3 := (hT.cell (p := ⟨w.heap.size, 3, none⟩) HSZ.out.1 (fun h => h)).trans D3.out
      go_simp
      (try with_reducible rfl)
    rotate_left
    (try simp only [Act.put, List.setIfInBounds_toArray, List.set_cons_zero, List.set_cons_succ])
    refine wpKeep_takeT (i := 24) (oi := ⟨some 61, _, _, _, _, _⟩) (v := ?_) rfl (by kernel_rfl) (by kernel_rfl) (by kernel_rfl) (by kernel_rfl) (fun _ _ _ h => h) (Or.inl ⟨by rfl, ?_⟩) (Keeps.refl _ _).drew (fun _ => trivial) ?_
    rotate_left
    · intro w' hT
      have c0 := (hT.cell (p := ⟨w.heap.size + 1, 0, none⟩) HSZ.out.2 (fun h => h)).trans C0.out
      have c1 := (hT.cell (p := ⟨w.heap.size + 1, 1, none⟩) HSZ.out.2 (fun h => h)).trans C1.out
      have d0 := (hT.cell (p := ⟨w.heap.size, 0, none⟩) HSZ.out.1 (fun h => h)).trans D0.out
      have d3 := (hT.cell (p := ⟨w.heap.size, 3, none⟩) HSZ.out.1 (fun h => h)).trans D3.out
      go_simp
      (try with_reducible rfl)
    rotate_left
    (try simp only [Act.put, List.setIfInBounds_toArray, List.set_cons_zero, List.set_cons_succ])
    refine wpKeep_takeT (i := 25) (oi := ⟨some 62, _, _, _, _, _⟩) (v := undef) rfl (by kernel_rfl) (by kernel_rfl) (by kernel_rfl) (by kernel_rfl) (fun _ _ _ h => h) (Or.inr ⟨by rfl, rfl⟩) (Keeps.refl _ _).drew (fun _ => trivial) ?_
    (try simp only [Act.put, List.setIfInBounds_toArray, List.set_cons_zero, List.set_cons_succ])
    refine wpKeep_takeT (i := 26) (oi := ⟨some 63, _, _, _, _, _⟩) (v := undef) rfl (by kernel_rfl) (by kernel_rfl) (by kernel_rfl) (by kernel_rfl) (fun _ _ _ h => h) (Or.inr ⟨by rfl, rfl⟩) (Keeps.refl _ _).drew (fun _ => trivial) ?_
    (try simp only [Act.put, List.setIfInBounds_toArray, List.set_cons_zero, List.set_cons_succ])
    refine wpKeep_takeT (i := 27) (oi := ⟨some 64, _, _, _, _, _⟩) (v := ?_) rfl (by kernel_rfl) (by kernel_rfl) (by kernel_rfl) (by kernel_rfl) (fun _ _ _ h => h) (Or.inl ⟨by rfl, ?_⟩) (Keeps.refl _ _).drew (fun _ => trivial) ?_
    rotate_left
    · intro w' hT
      have c0 := (hT.cell (p := ⟨w.heap.size + 1, 0, none⟩) HSZ.out.2 (fun h => h)).trans C0.out
      have c1 := (hT.cell (p := ⟨w.heap.size + 1, 1, none⟩) HSZ.out.2 (fun h => h)).trans C1.out
      have d0 := (hT.cell (p := ⟨w.heap.size, 0, none⟩) HSZ.out.1 (fun h => h)).trans D0.out
      have d3 := (hT.cell (p := ⟨w.heap.size, 3, none⟩) HSZ.out.1 (fun h => h)).trans D3.out
      go_simp
      (try with_reducible rfl)
    rotate_left
    (try simp only [Act.put, List.setIfInBounds_toArray, List.set_cons_zero, List.set_cons_succ])
    refine wpKeep_takeT (i := 28) (oi := ⟨some 65, _, _, _, _, _⟩) (v := ?_) rfl (by kernel_rfl) (by kernel_rfl) (by kernel_rfl) (by kernel_rfl) (fun _ _ _ h => h) (Or.inl ⟨by rfl, ?_⟩) (Keeps.refl _ _).drew (fun _ => trivial) ?_
    rotate_left
    · intro w' hT
      have c0 := (hT.cell (p := ⟨w.heap.size + 1, 0, none⟩) HSZ.out.2 (fun h => h)).trans C0.out
      have c1 := (hT.cell (p := ⟨w.heap.size + 1, 1, none⟩) HSZ.out.2 (fun h => h)).trans C1.out
      have d0 := (hT.cell (p := ⟨w.heap.size, 0, none⟩) HSZ.out.1 (fun h => h)).trans D0.out
      have d3 := (hT.cell (p := ⟨w.heap.size, 3, none⟩) HSZ.out.1 (fun h => h)).trans D3.out
      go_simp
      (try with_reducible rfl)
    rotate_left
    (try simp only [Act.put, List.setIfInBounds_toArray, List.set_cons_zero, List.set_cons_succ])
    refine wpKeep_takeT (i := 29) (oi := ⟨some 66, _, _, _, _, _⟩) (v := undef) rfl (by kernel_rfl) (by kernel_rfl) (by kernel_rfl) (by kernel_rfl) (fun _ _ _ h => h) (Or.inr ⟨by rfl, rfl⟩) (Keeps.refl _ _).drew (fun _ => trivial) ?_
    (try simp only [Act.put, List.setIfInBounds_toArray, List.set_cons_zero, List.set_cons_succ])
    refine wpKeep_takeT (i := 30) (oi := ⟨some 67, _, _, _, _, _⟩) (v := undef) rfl (by kernel_rfl) (by kernel_rfl) (by kernel_rfl) (by kernel_rfl) (fun _ _ _ h => h) (Or.inr ⟨by rfl, rfl⟩) (Keeps.refl _ _).drew (fun _ => trivial) ?_
    (try simp only [Act.put, List.setIfInBounds_toArray, List.set_cons_zero, List.set_cons_succ])
    refine wpKeep_takeT (i := 31) (oi := ⟨some 68, _, _, _, _, _⟩) (v := ?_) rfl (by kernel_rfl) (by kernel_rfl) (by kernel_rfl) (by kernel_rfl) (fun _ _ _ h => h) (Or.inl ⟨by rfl, ?_⟩) (Keeps.refl _ _).drew (fun _ => trivial) ?_
    rotate_left
    · intro w' hT
      have c0 := (hT.cell (p := ⟨w.heap.size + 1, 0, none⟩) HSZ.out.2 (fun h => h)).trans C0.out
      have c1 := (hT.cell (p := ⟨w.heap.size + 1, 1, none⟩) HSZ.out.2 (fun h => h)).trans C1.out
      have d0 := (hT.cell (p := ⟨w.heap.size, 0, none⟩) HSZ.out.1 (fun h => h)).trans D0.out
      have d3 := (hT.cell (p := ⟨w.heap.size, 3, none⟩) HSZ.out.1 (fun h => h)).trans D3.out
      go_simp
      (try with_reducible rfl)
    rotate_left
    (try simp only [Act.put, List.setIfInBounds_toArray, List.set_cons_zero, List.set_cons_succ])
    refine wpKeep_done (by kernel_rfl) ?_ _
    go_wp2_with fail
    go_ret2
    exact ⟨rfl, f4.drew⟩
  have g1 : ((L.length : Int) != IntKind.i64.wrap ((e : Int) - (b : Int))) = false := by rw [hw]; simpa using h1
  have H1 := hid h1
  clear hw h1
  by_cases h2 : 4096 < L.length
  · have g2 : decide ((4096 : Int) < (L.length : Int)) = true := decide_eq_true (by omega)
    have hbad := HB.out (fun g => g.2.1 h2)
    subst hbad
    clear h2
    go_wp2_with fail
    refine wp_region_keep 32 (fun w' => Fresh w3 w') (fun _ => True) (fun _ => true) (by kernel_rfl) (by kernel_rfl) ?_
    (try (change wpKeep _ _ _ _ _ _ _ _ _ _ (World.drew _)))
    refine wpKeep_takeT (i := 0) (oi := ⟨some 37, _, _, _, _, _⟩) (v := ?_) rfl (by kernel_rfl) (by kernel_rfl) (by kernel_rfl) (by kernel_rfl) (fun _ _ _ h => h) (Or.inl ⟨by rfl, ?_⟩) (Keeps.refl _ _).drew (fun _ => trivial) ?_
    rotate_left
    · intro w' hT
      have c0 := (hT.cell (p := ⟨w.heap.size + 1, 0, none⟩) HSZ.out.2 (fun h => h)).trans C0.out
      have c1 := (hT.cell (p := ⟨w.heap.size + 1, 1, none⟩) HSZ.out.2 (fun h => h)).trans C1.out
      have d0 := (hT.cell (p := ⟨w.heap.size, 0, none⟩) HSZ.out.1 (fun h => h)).trans D0.out
      have d3 := (hT.cell (p := ⟨w.heap.size, 3, none⟩) HSZ.out.1 (fun h => h)).trans D3.out
      go_simp
      (try with_reducible rfl)
    rotate_left
    (try simp only [Act.put, List.setIfInBounds_toArray, List.set_cons_zero, List.set_cons_succ])
    refine wpKeep_takeT (i := 1) (oi := ⟨some 38, _, _, _, _, _⟩) (v := ?_) rfl (by kernel_rfl) (by kernel_rfl) (by kernel_rfl) (by kernel_rfl) (fun _ _ _ h => h) (Or.inl ⟨by rfl, ?_⟩) (Keeps.refl _ _).drew (fun _ => trivial) ?_
    rotate_left
    · intro w' hT
      have c0 := (hT.cell (p := ⟨w.heap.size + 1, 0, none⟩) HSZ.out.2 (fun h => h)).trans C0.out
      have c1 := (hT.cell (p := ⟨w.heap.size + 1, 1, none⟩) HSZ.out.2 (fun h => h)).trans C1.out
      have d0 := (hT.cell (p := ⟨w.heap.size, 0, none⟩) HSZ.out.1 (fun h => h)).trans D0.out
      have d3 := (hT.cell (p := ⟨w.heap.size, 3, none⟩) HSZ.out.1 (fun h => h)).trans D3.out
      go_simp
      (try with_reducible rfl)
    rotate_left
    (try simp only [Act.put, List.setIfInBounds_toArray, List.set_cons_zero, List.set_cons_succ])
    refine wpKeep_takeT (i := 2) (oi := ⟨some 39, _, _, _, _, _⟩) (v := ?_) rfl (by kernel_rfl) (by kernel_rfl) (by kernel_rfl) (by kernel_rfl) (fun _ _ _ h => h) (Or.inl ⟨by rfl, ?_⟩) (Keeps.refl _ _).drew (fun _ => trivial) ?_
    rotate_left
    · intro w' hT
      have c0 := (hT.cell (p := ⟨w.heap.size + 1, 0, none⟩) HSZ.out.2 (fun h => h)).trans C0.out
      have c1 := (hT.cell (p := ⟨w.heap.size + 1, 1, none⟩) HSZ.out.2 (fun h => h)).trans C1.out
      have d0 := (hT.cell (p := ⟨w.heap.size, 0, none⟩) HSZ.out.1 (fun h => h)).trans D0.out
      have d3 := (hT.cell (p := ⟨w.heap.size, 3, none⟩) HSZ.out.1 (fun h => h)).trans D3.out
      go_simp
      (try with_reducible rfl)
    rotate_left
    (try simp only [Act.put, List.setIfInBounds_toArray, List.set_cons_zero, List.set_cons_succ])
    refine wpKeep_takeT (i := 3) (oi := ⟨some 40, _, _, _, _, _⟩) (v := ?_) rfl (by kernel_rfl) (by kernel_rfl) (by kernel_rfl) (by kernel_rfl) (fun _ _ _ h => h) (Or.inl ⟨by rfl, ?_⟩) (Keeps.refl _ _).drew (fun _ => trivial) ?_
    rotate_left
    · intro w' hT
      have c0 := (hT.cell (p := ⟨w.heap.size + 1, 0, none⟩) HSZ.out.2 (fun h => h)).trans C0.out
      have c1 := (hT.cell (p := ⟨w.heap.size + 1, 1, none⟩) HSZ.out.2 (fun h => h)).trans C1.out
      have d0 := (hT.cell (p := ⟨w.heap.size, 0, none⟩) HSZ.out.1 (fun h => h)).trans D0.out
      have d3 := (hT.cell (p := ⟨w.heap.size, 3, none⟩) HSZ.out.1 (fun h => h)).trans D3.out
      go_simp
      (try with_reducible rfl)
    rotate_left
    (try simp only [Act.put, List.setIfInBounds_toArray, List.set_cons_zero, List.set_cons_succ])
    refine wpKeep_takeT (i := 4) (oi := ⟨some 41, _, _, _, _, _⟩) (v := ?_) rfl (by kernel_rfl) (by kernel_rfl) (by kernel_rfl) (by kernel_rfl) (fun _ _ _ h => h) (Or.inl ⟨by rfl, ?_⟩) (Keeps.refl _ _).drew (fun _ => trivial) ?_
    rotate_left
    · intro w' hT
      have c0 := (hT.cell (p := ⟨w.heap.size + 1, 0, none⟩) HSZ.out.2 (fun h => h)).trans C0.out
      have c1 := (hT.cell (p := ⟨w.heap.size + 1, 1, none⟩) HSZ.out.2 (fun h => h)).trans C1.out
      have d0 := (hT.cell (p := ⟨w.heap.size, 0, none⟩) HSZ.out.1 (fun h => h)).trans D0.out
      have d3 := (hT.cell (p := ⟨w.heap.size, 3, none⟩) HSZ.out.1 (fun h => h)).trans D3.out
      go_simp
      (try with_reducible rfl)
    rotate_left
    (try simp only [Act.put, List.setIfInBounds_toArray, List.set_cons_zero, List.set_cons_succ])
    refine wpKeep_takeT (i := 5) (oi := ⟨some 42, _, _, _, _, _⟩) (v := ?_) rfl (by kernel_rfl) (by kernel_rfl) (by kernel_rfl) (by kernel_rfl) (fun _ _ _ h => h) (Or.inl ⟨by rfl, ?_⟩) (Keeps.refl _ _).drew (fun _ => trivial) ?_
    rotate_left
    · intro w' hT
      have c0 := (hT.cell (p := ⟨w.heap.size + 1, 0, none⟩) HSZ.out.2 (fun h => h)).trans C0.out
      have c1 := (hT.cell (p := ⟨w.heap.size + 1, 1, none⟩) HSZ.out.2 (fun h => h)).trans C1.out
      have d0 := (hT.cell (p := ⟨w.heap.size, 0, none⟩) HSZ.out.1 (fun h => h)).trans D0.out
      have d3 := (hT.cell (p := ⟨w.heap.size, 3, none⟩) HSZ.out.1 (fun h => h)).trans D3.out
      go_simp
      (try with_reducible rfl)
    rotate_left
    (try simp only [Act.put, List.setIfInBounds_toArray, List.set_cons_zero, List.set_cons_succ])
    refine wpKeep_takeT (i := 6) (oi := ⟨some 43, _, _, _, _, _⟩) (v := ?_) rfl (by kernel_rfl) (by kernel_rfl) (by kernel_rfl) (by kernel_rfl) (fun _ _ _ h => h) (Or.inl ⟨by rfl, ?_⟩) (Keeps.refl _ _).drew (fun _ => trivial) ?_
    rotate_left
    · intro w' hT
      have c0 := (hT.cell (p := ⟨w.heap.size + 1, 0, none⟩) HSZ.out.2 (fun h => h)).trans C0.out
      have c1 := (hT.cell (p := ⟨w.heap.size + 1, 1, none⟩) HSZ.out.2 (fun h => h)).trans C1.out
      have d0 := (hT.cell (p := ⟨w.heap.size, 0, none⟩) HSZ.out.1 (fun h => h)).trans D0.out
      have d3 := (hT.cell (p := ⟨w.heap.size, 3, none⟩) HSZ.out.1 (fun h => h)).trans D3.out
      go_simp
      (try with_reducible rfl)
    rotate_left
    (try simp only [Act.put, List.setIfInBounds_toArray, List.set_cons_zero, List.set_cons_succ])
    refine wpKeep_takeT (i := 7) (oi := ⟨some 44, _, _, _, _, _⟩) (v := ?_) rfl (by kernel_rfl) (by kernel_rfl) (by kernel_rfl) (by kernel_rfl) (fun _ _ _ h => h) (Or.inl ⟨by rfl, ?_⟩) (Keeps.refl _ _).drew (fun _ => trivial) ?_
    rotate_left
    · intro w' hT
      have c0 := (hT.cell (p := ⟨w.heap.size + 1, 0, none⟩) HSZ.out.2 (fun h => h)).trans C0.out
      have c1 := (hT.cell (p := ⟨w.heap.size + 1, 1, none⟩) HSZ.out.2 (fun h => h)).trans C1.out
      have d0 := (hT.cell (p := ⟨w.heap.size, 0, none⟩) HSZ.out.1 (fun h => h)).trans D0.out
      have d3 := (hT.cell (p := ⟨w.heap.size, 3, none⟩) HSZ.out.1 (fun h => h)).trans D3.out
      go_simp
      (try with_reducible rfl)
    rotate_left
    (try simp only [Act.put, List.setIfInBounds_toArray, List.set_cons_zero, List.set_cons_succ])
    refine wpKeep_takeT (i := 8) (oi := ⟨some 45, _, _, _, _, _⟩) (v := ?_) rfl (by kernel_rfl) (by kernel_rfl) (by kernel_rfl) (by kernel_rfl) (fun _ _ _ h => h) (Or.inl ⟨by rfl, ?_⟩) (Keeps.refl _ _).drew (fun _ => trivial) ?_
    rotate_left
    · intro w' hT
      have c0 := (hT.cell (p := ⟨w.heap.size + 1, 0, none⟩) HSZ.out.2 (fun h => h)).trans C0.out
      have c1 := (hT.cell (p := ⟨w.heap.size + 1, 1, none⟩) HSZ.out.2 (fun h => h)).trans C1.out
      have d0 := (hT.cell (p := ⟨w.heap.size, 0, none⟩) HSZ.out.1 (fun h => h)).trans D0.out
      have d3 := (hT.cell (p := ⟨w.heap.size, 3, none⟩) HSZ.out.1 (fun h => h)).trans D3.out
      go_simp
      (try with_reducible rfl)
    rotate_left
    (try simp only [Act.put, List.setIfInBounds_toArray, List.set_cons_zero, List.set_cons_succ])
    refine wpKeep_takeT (i := 9) (oi := ⟨some 46, _, _, _, _, _⟩) (v := ?_) rfl (by kernel_rfl) (by kernel_rfl) (by kernel_rfl) (by kernel_rfl) (fun _ _ _ h => h) (Or.inl ⟨by rfl, ?_⟩) (Keeps.refl _ _).drew (fun _ => trivial) ?_
    rotate_left
    · intro w' hT
      have c0 := (hT.cell (p := ⟨w.heap.size + 1, 0, none⟩) HSZ.out.2 (fun h => h)).trans C0.out
      have c1 := (hT.cell (p := ⟨w.heap.size + 1, 1, none⟩) HSZ.out.2 (fun h => h)).trans C1.out
      have d0 := (hT.cell (p := ⟨w.heap.size, 0, none⟩) HSZ.out.1 (fun h => h)).trans D0.out
      have d3 := (hT.cell (p := ⟨w.heap.size, 3, none⟩) HSZ.out.1 (fun h => h)).trans D3.out
      go_simp
      (try with_reducible rfl)
    rotate_left
    (try simp only [Act.put, List.setIfInBounds_toArray, List.set_cons_zero, List.set_cons_succ])
    refine wpKeep_takeT (i := 10) (oi := ⟨some 47, _, _, _, _, _⟩) (v := ?_) rfl (by kernel_rfl) (by kernel_rfl) (by kernel_rfl) (by kernel_rfl) (fun _ _ _ h => h) (Or.inl ⟨by rfl, ?_⟩) (Keeps.refl _ _).drew (fun _ => trivial) ?_
    rotate_left
    · intro w' hT
      have c0 := (hT.cell (p := ⟨w.heap.size + 1, 0, none⟩) HSZ.out.2 (fun h => h)).trans C0.out
      have c1 := (hT.cell (p := ⟨w.heap.size + 1, 1, none⟩) HSZ.out.2 (fun h => h)).trans C1.out
      have d0 := (hT.cell (p := ⟨w.heap.size, 0, none⟩) HSZ.out.1 (fun h => h)).trans D0.out
      have d3 := (hT.cell (p := ⟨w.heap.size, 3, none⟩) HSZ.out.1 (fun h => h)).trans D3.out
      go_simp
      (try with_reducible rfl)
    rotate_left
    (try simp only [Act.put, List.setIfInBounds_toArray, List.set_cons_zero, List.set_cons_succ])
    refine wpKeep_takeT (i := 11) (oi := ⟨some 48, _, _, _, _, _⟩) (v := ?_) rfl (by kernel_rfl) (by kernel_rfl) (by kernel_rfl) (by kernel_rfl) (fun _ _ _ h => h) (Or.inl ⟨by rfl, ?_⟩) (Keeps.refl _ _).drew (fun _ => trivial) ?_
    rotate_left
    · intro w' hT
      have c0 := (hT.cell (p := ⟨w.heap.size + 1, 0, none⟩) HSZ.out.2 (fun h => h)).trans C0.out
      have c1 := (hT.cell (p := ⟨w.heap.size + 1, 1, none⟩) HSZ.out.2 (fun h => h)).trans C1.out
      have d0 := (hT.cell (p := ⟨w.heap.size, 0, none⟩) HSZ.out.1 (fun h => h)).trans D0.out
      have d3 := (hT.cell (p := ⟨w.heap.size, 3, none⟩) HSZ.out.1 (fun h => h)).trans D3.out
      go_simp
      (try with_reducible rfl)
    rotate_left
    (try simp only [Act.put, List.setIfInBounds_toArray, List.set_cons_zero, List.set_cons_succ])
    refine wpKeep_takeT (i := 12) (oi := ⟨some 49, _, _, _, _, _⟩) (v := ?_) rfl (by kernel_rfl) (by kernel_rfl) (by kernel_rfl) (by kernel_rfl) (fun _ _ _ h => h) (Or.inl ⟨by rfl, ?_⟩) (Keeps.refl _ _).drew (fun _ => trivial) ?_
    rotate_left
    · intro w' hT
      have c0 := (hT.cell (p := ⟨w.heap.size + 1, 0, none⟩) HSZ.out.2 (fun h => h)).trans C0.out
      have c1 := (hT.cell (p := ⟨w.heap.size + 1, 1, none⟩) HSZ.out.2 (fun h => h)).trans C1.out
      have d0 := (hT.cell (p := ⟨w.heap.size, 0, none⟩) HSZ.out.1 (fun h => h)).trans D0.out
      have d3 := (hT.cell (p := ⟨w.heap.size, 3, none⟩) HSZ.out.1 (fun h => h)).trans D3.out
      go_simp
      (try with_reducible rfl)
    rotate_left
    (try simp only [Act.put, List.setIfInBounds_toArray, List.set_cons_zero, List.set_cons_succ])
    refine wpKeep_takeT (i := 13) (oi := ⟨some 50, _, _, _, _, _⟩) (v := ?_) rfl (by kernel_rfl) (by kernel_rfl) (by kernel_rfl) (by kernel_rfl) (fun _ _ _ h => h) (Or.inl ⟨by rfl, ?_⟩) (Keeps.refl _ _).drew (fun _ => trivial) ?_
    rotate_left
    · intro w' hT
      have c0 := (hT.cell (p := ⟨w.heap.size + 1, 0, none⟩) HSZ.out.2 (fun h => h)).trans C0.out
      have c1 := (hT.cell (p := ⟨w.heap.size + 1, 1, none⟩) HSZ.out.2 (fun h => h)).trans C1.out
      have d0 := (hT.cell (p := ⟨w.heap.size, 0, none⟩) HSZ.out.1 (fun h => h)).trans D0.out
      have d3 := (hT.cell (p := ⟨w.heap.size, 3, none⟩) HSZ.out.1 (fun h => h)).trans D3.out
      go_simp
      (try with_reducible rfl)
    rotate_left
    (try simp only [Act.put, List.setIfInBounds_toArray, List.set_cons_zero, List.set_cons_succ])
    refine wpKeep_takeT (i := 14) (oi := ⟨some 51, _, _, _, _, _⟩) (v := undef) rfl (by kernel_rfl) (by kernel_rfl) (by kernel_rfl) (by kernel_rfl) (fun _ _ _ h => h) (Or.inr ⟨by rfl, rfl⟩) (Keeps.refl _ _).drew (fun _ => trivial) ?_
    (try simp only [Act.put, List.setIfInBounds_toArray, List.set_cons_zero, List.set_cons_succ])
    refine wpKeep_takeT (i := 15) (oi := ⟨some 52, _, _, _, _, _⟩) (v := undef) rfl (by kernel_rfl) (by kernel_rfl) (by kernel_rfl) (by kernel_rfl) (fun _ _ _ h => h) (Or.inr ⟨by rfl, rfl⟩) (Keeps.refl _ _).drew (fun _ => trivial) ?_
    (try simp only [Act.put, List.setIfInBounds_toArray, List.set_cons_zero, List.set_cons_succ])
    refine wpKeep_takeT (i := 16) (oi := ⟨some 53, _, _, _, _, _⟩) (v := undef) rfl (by kernel_rfl) (by kernel_rfl) (by kernel_rfl) (by kernel_rfl) (fun _ _ _ h => h) (Or.inr ⟨by rfl, rfl⟩) (Keeps.refl _ _).drew (fun _ => trivial) ?_
    (try simp only [Act.put, List.setIfInBounds_toArray, List.set_cons_zero, List.set_cons_succ])
    refine wpKeep_takeT (i := 17) (oi := ⟨some 54, _, _, _, _, _⟩) (v := undef) rfl (by kernel_rfl) (by kernel_rfl) (by kernel_rfl) (by kernel_rfl) (fun _ _ _ h => h) (Or.inr ⟨by rfl, rfl⟩) (Keeps.refl _ _).drew (fun _ => trivial) ?_
    (try simp only [Act.put, List.setIfInBounds_toArray, List.set_cons_zero, List.set_cons_succ])
    refine wpKeep_takeT (i := 18) (oi := ⟨some 55, _, _, _, _, _⟩) (v := undef) rfl (by kernel_rfl) (by kernel_rfl) (by kernel_rfl) (by kernel_rfl) (fun _ _ _ h => h) (Or.inr ⟨by rfl, rfl⟩) (Keeps.refl _ _).drew (fun _ => trivial) ?_
    (try simp only [Act.put, List.setIfInBounds_toArray, List.set_cons_zero, List.set_cons_succ])
    refine wpKeep_takeT (i := 19) (oi := ⟨some 56, _, _, _, _, _⟩) (v := undef) rfl (by kernel_rfl) (by kernel_rfl) (by kernel_rfl) (by kernel_rfl) (fun _ _ _ h => h) (Or.inr ⟨by rfl, rfl⟩) (Keeps.refl _ _).drew (fun _ => trivial) ?_
    (try simp only [Act.put, List.setIfInBounds_toArray, List.set_cons_zero, List.set_cons_succ])
    refine wpKeep_takeT (i := 20) (oi := ⟨some 57, _, _, _, _, _⟩) (v := undef) rfl (by kernel_rfl) (by kernel_rfl) (by kernel_rfl) (by kernel_rfl) (fun _ _ _ h => h) (Or.inr ⟨by rfl, rfl⟩) (Keeps.refl _ _).drew (fun _ => trivial) ?_
    (try simp only [Act.put, List.setIfInBounds_toArray, List.set_cons_zero, List.set_cons_succ])
    refine wpKeep_takeT (i := 21) (oi := ⟨some 58, _, _, _, _, _⟩) (v := undef) rfl (by kernel_rfl) (by kernel_rfl) (by kernel_rfl) (by kernel_rfl) (fun _ _ _ h => h) (Or.inr ⟨by rfl, rfl⟩) (Keeps.refl _ _).drew (fun _ => trivial) ?_
    (try simp only [Act.put, List.setIfInBounds_toArray, List.set_cons_zero, List.set_cons_succ])
    refine wpKeep_takeT (i := 22) (oi := ⟨some 59, _, _, _, _, _⟩) (v := undef) rfl (by kernel_rfl) (by kernel_rfl) (by kernel_rfl) (by kernel_rfl) (fun _ _ _ h => h) (Or.inr ⟨by rfl, rfl⟩) (Keeps.refl _ _).drew (fun _ => trivial) ?_
    (try simp only [Act.put, List.setIfInBounds_toArray, List.set_cons_zero, List.set_cons_succ])
    refine wpKeep_takeT (i := 23) (oi := ⟨some 60, _, _, _, _, _⟩) (v := ?_) rfl (by kernel_rfl) (by kernel_rfl) (by kernel_rfl) (by kernel_rfl) (fun _ _ _ h => h) (Or.inl ⟨by rfl, ?_⟩) (Keeps.refl _ _).drew (fun _ => trivial) ?_
    rotate_left
    · intro w' hT
      have c0 := (hT.cell (p := ⟨w.heap.size + 1, 0, none⟩) HSZ.out.2 (fun h => h)).trans C0.out
      have c1 := (hT.cell (p := ⟨w.heap.size + 1, 1, none⟩) HSZ.out.2 (fun h => h)).trans C1.out
      have d0 := (hT.cell (p := ⟨w.heap.size, 0, none⟩) HSZ.out.1 (fun h => h)).trans D0.out
      have d3 := (hT.cell (p := ⟨w.heap.size, 3, none⟩) HSZ.out.1 (fun h => h)).trans D3.out
      go_simp
      (try with_reducible rfl)
    rotate_left
    (try simp only [Act.put, List.setIfInBounds_toArray, List.set_cons_zero, List.set_cons_succ])
    refine wpKeep_takeT (i := 24) (oi := ⟨some 61, _, _, _, _, _⟩) (v := ?_) rfl (by kernel_rfl) (by kernel_rfl) (by kernel_rfl) (by kernel_rfl) (fun _ _ _ h => h) (Or.inl ⟨by rfl, ?_⟩) (Keeps.refl _ _).drew (fun _ => trivial) ?_
    rotate_left
    · intro w' hT
      have c0 := (hT.cell (p := ⟨w.heap.size + 1, 0, none⟩) HSZ.out.2 (fun h => h)).trans C0.out
      have c1 := (hT.cell (p := ⟨w.heap.size + 1, 1, none⟩) HSZ.out.2 (fun h => h)).trans C1.out
      have d0 := (hT.cell (p := ⟨w.heap.size, 0, none⟩) HSZ.out.1 (fun h => h)).trans D0.out
      have d3 := (hT.cell (p := ⟨w.heap.size, 3, none⟩) HSZ.out.1 (fun h => h)).trans D3.out
      go_simp
      (try with_reducible rfl)
    rotate_left
    (try simp only [Act.put, List.setIfInBounds_toArray, List.set_cons_zero, List.set_cons_succ])
    refine wpKeep_takeT (i := 25) (oi := ⟨some 62, _, _, _, _, _⟩) (v := undef) rfl (by kernel_rfl) (by kernel_rfl) (by kernel_rfl) (by kernel_rfl) (fun _ _ _ h => h) (Or.inr ⟨by rfl, rfl⟩) (Keeps.refl _ _).drew (fun _ => trivial) ?_
    (try simp only [Act.put, List.setIfInBounds_toArray, List.set_cons_zero, List.set_cons_succ])
    refine wpKeep_takeT (i := 26) (oi := ⟨some 63, _, _, _, _, _⟩) (v := undef) rfl (by kernel_rfl) (by kernel_rfl) (by kernel_rfl) (by kernel_rfl) (fun _ _ _ h => h) (Or.inr ⟨by rfl, rfl⟩) (Keeps.refl _ _).drew (fun _ => trivial) ?_
    (try simp only [Act.put, List.setIfInBounds_toArray, List.set_cons_zero, List.set_cons_succ])
    refine wpKeep_takeT (i := 27) (oi := ⟨some 64, _, _, _, _, _⟩) (v := ?_) rfl (by kernel_rfl) (by kernel_rfl) (by kernel_rfl) (by kernel_rfl) (fun _ _ _ h => h) (Or.inl ⟨by rfl, ?_⟩) (Keeps.refl _ _).drew (fun _ => trivial) ?_
    rotate_left
    · intro w' hT
      have c0 := (hT.cell (p := ⟨w.heap.size + 1, 0, none⟩) HSZ.out.2 (fun h => h)).trans C0.out
      have c1 := (hT.cell (p := ⟨w.heap.size + 1, 1, none⟩) HSZ.out.2 (fun h => h)).trans C1.out
      have d0 := (hT.cell (p := ⟨w.heap.size, 0, none⟩) HSZ.out.1 (fun h => h)).trans D0.out
      have d3 := (hT.cell (p := ⟨w.heap.size, 3, none⟩) HSZ.out.1 (fun h => h)).trans D3.out
      go_simp
      (try with_reducible rfl)
    rotate_left
    (try simp only [Act.put, List.setIfInBounds_toArray, List.set_cons_zero, List.set_cons_succ])
    refine wpKeep_takeT (i := 28) (oi := ⟨some 65, _, _, _, _, _⟩) (v := ?_) rfl (by kernel_rfl) (by kernel_rfl) (by kernel_rfl) (by kernel_rfl) (fun _ _ _ h => h) (Or.inl ⟨by rfl, ?_⟩) (Keeps.refl _ _).drew (fun _ => trivial) ?_
    rotate_left
    · intro w' hT
      have c0 := (hT.cell (p := ⟨w.heap.size + 1, 0, none⟩) HSZ.out.2 (fun h => h)).trans C0.out
      have c1 := (hT.cell (p := ⟨w.heap.size + 1, 1, none⟩) HSZ.out.2 (fun h => h)).trans C1.out
      have d0 := (hT.cell (p := ⟨w.heap.size, 0, none⟩) HSZ.out.1 (fun h => h)).trans D0.out
      have d3 := (hT.cell (p := ⟨w.heap.size, 3, none⟩) HSZ.out.1 (fun h => h)).trans D3.out
      go_simp
      (try with_reducible rfl)
    rotate_left
    (try simp only [Act.put, List.setIfInBounds_toArray, List.set_cons_zero, List.set_cons_succ])
    refine wpKeep_takeT (i := 29) (oi := ⟨some 66, _, _, _, _, _⟩) (v := undef) rfl (by kernel_rfl) (by kernel_rfl) (by kernel_rfl) (by kernel_rfl) (fun _ _ _ h => h) (Or.inr ⟨by rfl, rfl⟩) (Keeps.refl _ _).drew (fun _ => trivial) ?_
    (try simp only [Act.put, List.setIfInBounds_toArray, List.set_cons_zero, List.set_cons_succ])
    refine wpKeep_takeT (i := 30) (oi := ⟨some 67, _, _, _, _, _⟩) (v := undef) rfl (by kernel_rfl) (by kernel_rfl) (by kernel_rfl) (by kernel_rfl) (fun _ _ _ h => h) (Or.inr ⟨by rfl, rfl⟩) (Keeps.refl _ _).drew (fun _ => trivial) ?_
    (try simp only [Act.put, List.setIfInBounds_toArray, List.set_cons_zero, List.set_cons_succ])
    refine wpKeep_takeT (i := 31) (oi := ⟨some 68, _, _, _, _, _⟩) (v := ?_) rfl (by kernel_rfl) (by kernel_rfl) (by kernel_rfl) (by kernel_rfl) (fun _ _ _ h => h) (Or.inl ⟨by rfl, ?_⟩) (Keeps.refl _ _).drew (fun _ => trivial) ?_
    rotate_left
    · intro w' hT
      have c0 := (hT.cell (p := ⟨w.heap.size + 1, 0, none⟩) HSZ.out.2 (fun h => h)).trans C0.out
      have c1 := (hT.cell (p := ⟨w.heap.size + 1, 1, none⟩) HSZ.out.2 (fun h => h)).trans C1.out
      have d0 := (hT.cell (p := ⟨w.heap.size, 0, none⟩) HSZ.out.1 (fun h => h)).trans D0.out
      have d3 := (hT.cell (p := ⟨w.heap.size, 3, none⟩) HSZ.out.1 (fun h => h)).trans D3.out
      go_simp
      (try with_reducible rfl)
    rotate_left
    (try simp only [Act.put, List.setIfInBounds_toArray, List.set_cons_zero, List.set_cons_succ])
    refine wpKeep_done (by kernel_rfl) ?_ _
    go_wp2_with fail
    go_ret2
    exact ⟨rfl, f4.drew⟩
  have g2 : decide ((4096 : Int) < (L.length : Int)) = false := decide_eq_false (by omega)
  have H2 := hid h2
  clear h2
  by_cases h3 : T.length = H.length
  rotate_left
  · have g3 : ((H.length : Int) != (T.length : Int)) = true := bne_iff_ne.2 (by omega)
    have hbad := HB.out (fun g => h3 g.2.2.1)
    subst hbad
    clear h3
    go_wp2_with fail
    refine wp_region_keep 32 (fun w' => Fresh w3 w') (fun _ => True) (fun _ => true) (by kernel_rfl) (by kernel_rfl) ?_
    (try (change wpKeep _ _ _ _ _ _ _ _ _ _ (World.drew _)))
    refine wpKeep_takeT (i := 0) (oi := ⟨some 37, _, _, _, _, _⟩) (v := ?_) rfl (by kernel_rfl) (by kernel_rfl) (by kernel_rfl) (by kernel_rfl) (fun _ _ _ h => h) (Or.inl ⟨by rfl, ?_⟩) (Keeps.refl _ _).drew (fun _ => trivial) ?_
    rotate_left
    · intro w' hT
      have c0 := (hT.cell (p := ⟨w.heap.size + 1, 0, none⟩) HSZ.out.2 (fun h => h)).trans C0.out
      have c1 := (hT.cell (p := ⟨w.heap.size + 1, 1, none⟩) HSZ.out.2 (fun h => h)).trans C1.out
      have d0 := (hT.cell (p := ⟨w.heap.size, 0, none⟩) HSZ.out.1 (fun h => h)).trans D0.out
      have d3 := (hT.cell (p := ⟨w.heap.size, 3, none⟩) HSZ.out.1 (fun h => h)).trans D3.out
      go_simp
      (try with_reducible rfl)
    rotate_left
    (try simp only [Act.put, List.setIfInBounds_toArray, List.set_cons_zero, List.set_cons_succ])
    refine wpKeep_takeT (i := 1) (oi := ⟨some 38, _, _, _, _, _⟩) (v := ?_) rfl (by kernel_rfl) (by kernel_rfl) (by kernel_rfl) (by kernel_rfl) (fun _ _ _ h => h) (Or.inl ⟨by rfl, ?_⟩) (Keeps.refl _ _).drew (fun _ => trivial) ?_
    rotate_left
    · intro w' hT
      have c0 := (hT.cell (p := ⟨w.heap.size + 1, 0, none⟩) HSZ.out.2 (fun h => h)).trans C0.out
      have c1 := (hT.cell (p := ⟨w.heap.size + 1, 1, none⟩) HSZ.out.2 (fun h => h)).trans C1.out
      have d0 := (hT.cell (p := ⟨w.heap.size, 0, none⟩) HSZ.out.1 (fun h => h)).trans D0.out
      have d3 := (hT.cell (p := ⟨w.heap.size, 3, none⟩) HSZ.out.1 (fun h => h)).trans D3.out
      go_simp
      (try with_reducible rfl)
    rotate_left
    (try simp only [Act.put, List.setIfInBounds_toArray, List.set_cons_zero, List.set_cons_succ])
    refine wpKeep_takeT (i := 2) (oi := ⟨some 39, _, _, _, _, _⟩) (v := ?_) rfl (by kernel_rfl) (by kernel_rfl) (by kernel_rfl) (by kernel_rfl) (fun _ _ _ h => h) (Or.inl ⟨by rfl, ?_⟩) (Keeps.refl _ _).drew (fun _ => trivial) ?_
    rotate_left
    · intro w' hT
      have c0 := (hT.cell (p := ⟨w.heap.size + 1, 0, none⟩) HSZ.out.2 (fun h => h)).trans C0.out
      have c1 := (hT.cell (p := ⟨w.heap.size + 1, 1, none⟩) HSZ.out.2 (fun h => h)).trans C1.out
      have d0 := (hT.cell (p := ⟨w.heap.size, 0, none⟩) HSZ.out.1 (fun h => h)).trans D0.out
      have d3 := (hT.cell (p := ⟨w.heap.size, 3, none⟩) HSZ.out.1 (fun h => h)).trans D3.out
      go_simp
      (try with_reducible rfl)
    rotate_left
    (try simp only [Act.put, List.setIfInBounds_toArray, List.set_cons_zero, List.set_cons_succ])
    refine wpKeep_takeT (i := 3) (oi := ⟨some 40, _, _, _, _, _⟩) (v := ?_) rfl (by kernel_rfl) (by kernel_rfl) (by kernel_rfl) (by kernel_rfl) (fun _ _ _ h => h) (Or.inl ⟨by rfl, ?_⟩) (Keeps.refl _ _).drew (fun _ => trivial) ?_
    rotate_left
    · intro w' hT
      have c0 := (hT.cell (p := ⟨w.heap.size + 1, 0, none⟩) HSZ.out.2 (fun h => h)).trans C0.out
      have c1 := (hT.cell (p := ⟨w.heap.size + 1, 1, none⟩) HSZ.out.2 (fun h => h)).trans C1.out
      have d0 := (hT.cell (p := ⟨w.heap.size, 0, none⟩) HSZ.out.1 (fun h => h)).trans D0.out
      have d3 := (hT.cell (p := ⟨w.heap.size, 3, none⟩) HSZ.out.1 (fun h => h)).trans D3.out
      go_simp
      (try with_reducible rfl)
    rotate_left
    (try simp only [Act.put, List.setIfInBounds_toArray, List.set_cons_zero, List.set_cons_succ])
    refine wpKeep_takeT (i := 4) (oi := ⟨some 41, _, _, _, _, _⟩) (v := ?_) rfl (by kernel_rfl) (by kernel_rfl) (by kernel_rfl) (by kernel_rfl) (fun _ _ _ h => h) (Or.inl ⟨by rfl, ?_⟩) (Keeps.refl _ _).drew (fun _ => trivial) ?_
    rotate_left
    · intro w' hT
      have c0 := (hT.cell (p := ⟨w.heap.size + 1, 0, none⟩) HSZ.out.2 (fun h => h)).trans C0.out
      have c1 := (hT.cell (p := ⟨w.heap.size + 1, 1, none⟩) HSZ.out.2 (fun h => h)).trans C1.out
      have d0 := (hT.cell (p := ⟨w.heap.size, 0, none⟩) HSZ.out.1 (fun h => h)).trans D0.out
      have d3 := (hT.cell (p := ⟨w.heap.size, 3, none⟩) HSZ.out.1 (fun h => h)).trans D3.out
      go_simp
      (try with_reducible rfl)
    rotate_left
    (try simp only [Act.put, List.setIfInBounds_toArray, List.set_cons_zero, List.set_cons_succ])
    refine wpKeep_takeT (i := 5) (oi := ⟨some 42, _, _, _, _, _⟩) (v := ?_) rfl (by kernel_rfl) (by kernel_rfl) (by kernel_rfl) (by kernel_rfl) (fun _ _ _ h => h) (Or.inl ⟨by rfl, ?_⟩) (Keeps.refl _ _).drew (fun _ => trivial) ?_
    rotate_left
    · intro w' hT
      have c0 := (hT.cell (p := ⟨w.heap.size + 1, 0, none⟩) HSZ.out.2 (fun h => h)).trans C0.out
      have c1 := (hT.cell (p := ⟨w.heap.size + 1, 1, none⟩) HSZ.out.2 (fun h => h)).trans C1.out
      have d0 := (hT.cell (p := ⟨w.heap.size, 0, none⟩) HSZ.out.1 (fun h => h)).trans D0.out
      have d3 := (hT.cell (p := ⟨w.heap.size, 3, none⟩) HSZ.out.1 (fun h => h)).trans D3.out
      go_simp
      (try with_reducible rfl)
    rotate_left
    (try simp only [Act.put, List.setIfInBounds_toArray, List.set_cons_zero, List.set_cons_succ])
    refine wpKeep_takeT (i := 6) (oi := ⟨some 43, _, _, _, _, _⟩) (v := ?_) rfl (by kernel_rfl) (by kernel_rfl) (by kernel_rfl) (by kernel_rfl) (fun _ _ _ h => h) (Or.inl ⟨by rfl, ?_⟩) (Keeps.refl _ _).drew (fun _ => trivial) ?_
    rotate_left
    · intro w' hT
      have c0 := (hT.cell (p := ⟨w.heap.size + 1, 0, none⟩) HSZ.out.2 (fun h => h)).trans C0.out
      have c1 := (hT.cell (p := ⟨w.heap.size + 1, 1, none⟩) HSZ.out.2 (fun h => h)).trans C1.out
      have d0 := (hT.cell (p := ⟨w.heap.size, 0, none⟩) HSZ.out.1 (fun h => h)).trans D0.out
      have d3 := (hT.cell (p := ⟨w.heap.size, 3, none⟩) HSZ.out.1 (fun h => h)).trans D3.out
      go_simp
      (try with_reducible rfl)
    rotate_left
    (try simp only [Act.put, List.setIfInBounds_toArray, List.set_cons_zero, List.set_cons_succ])
    refine wpKeep_takeT (i := 7) (oi := ⟨some 44, _, _, _, _, _⟩) (v := ?_) rfl (by kernel_rfl) (by kernel_rfl) (by kernel_rfl) (by kernel_rfl) (fun _ _ _ h => h) (Or.inl ⟨by rfl, ?_⟩) (Keeps.refl _ _).drew (fun _ => trivial) ?_
    rotate_left
    · intro w' hT
      have c0 := (hT.cell (p := ⟨w.heap.size + 1, 0, none⟩) HSZ.out.2 (fun h => h)).trans C0.out
      have c1 := (hT.cell (p := ⟨w.heap.size + 1, 1, none⟩) HSZ.out.2 (fun h => h)).trans C1.out
      have d0 := (hT.cell (p := ⟨w.heap.size, 0, none⟩) HSZ.out.1 (fun h => h)).trans D0.out
      have d3 := (hT.cell (p := ⟨w.heap.size, 3, none⟩) HSZ.out.1 (fun h => h)).trans D3.out
      go_simp
      (try with_reducible rfl)
    rotate_left
    (try simp only [Act.put, List.setIfInBounds_toArray, List.set_cons_zero, List.set_cons_succ])
    refine wpKeep_takeT (i := 8) (oi := ⟨some 45, _, _, _, _, _⟩) (v := ?_) rfl (by kernel_rfl) (by kernel_rfl) (by kernel_rfl) (by kernel_rfl) (fun _ _ _ h => h) (Or.inl ⟨by rfl, ?_⟩) (Keeps.refl _ _).drew (fun _ => trivial) ?_
    rotate_left
    · intro w' hT
      have c0 := (hT.cell (p := ⟨w.heap.size + 1, 0, none⟩) HSZ.out.2 (fun h => h)).trans C0.out
      have c1 := (hT.cell (p := ⟨w.heap.size + 1, 1, none⟩) HSZ.out.2 (fun h => h)).trans C1.out
      have d0 := (hT.cell (p := ⟨w.heap.size, 0, none⟩) HSZ.out.1 (fun h => h)).trans D0.out
      have d3 := (hT.cell (p := ⟨w.heap.size, 3, none⟩) HSZ.out.1 (fun h => h)).trans D3.out
      go_simp
      (try with_reducible rfl)
    rotate_left
    (try simp only [Act.put, List.setIfInBounds_toArray, List.set_cons_zero, List.set_cons_succ])
    refine wpKeep_takeT (i := 9) (oi := ⟨some 46, _, _, _, _, _⟩) (v := ?_) rfl (by kernel_rfl) (by kernel_rfl) (by kernel_rfl) (by kernel_rfl) (fun _ _ _ h => h) (Or.inl ⟨by rfl, ?_⟩) (Keeps.refl _ _).drew (fun _ => trivial) ?_
    rotate_left
    · intro w' hT
      have c0 := (hT.cell (p := ⟨w.heap.size + 1, 0, none⟩) HSZ.out.2 (fun h => h)).trans C0.out
      have c1 := (hT.cell (p := ⟨w.heap.size + 1, 1, none⟩) HSZ.out.2 (fun h => h)).trans C1.out
      have d0 := (hT.cell (p := ⟨w.heap.size, 0, none⟩) HSZ.out.1 (fun h => h)).trans D0.out
      have d3 := (hT.cell (p := ⟨w.heap.size, 3, none⟩) HSZ.out.1 (fun h => h)).trans D3.out
      go_simp
      (try with_reducible rfl)
    rotate_left
    (try simp only [Act.put, List.setIfInBounds_toArray, List.set_cons_zero, List.set_cons_succ])
    refine wpKeep_takeT (i := 10) (oi := ⟨some 47, _, _, _, _, _⟩) (v := ?_) rfl (by kernel_rfl) (by kernel_rfl) (by kernel_rfl) (by kernel_rfl) (fun _ _ _ h => h) (Or.inl ⟨by rfl, ?_⟩) (Keeps.refl _ _).drew (fun _ => trivial) ?_
    rotate_left
    · intro w' hT
      have c0 := (hT.cell (p := ⟨w.heap.size + 1, 0, none⟩) HSZ.out.2 (fun h => h)).trans C0.out
      have c1 := (hT.cell (p := ⟨w.heap.size + 1, 1, none⟩) HSZ.out.2 (fun h => h)).trans C1.out
      have d0 := (hT.cell (p := ⟨w.heap.size, 0, none⟩) HSZ.out.1 (fun h => h)).trans D0.out
      have d3 := (hT.cell (p := ⟨w.heap.size, 3, none⟩) HSZ.out.1 (fun h => h)).trans D3.out
      go_simp
      (try with_reducible rfl)
    rotate_left
    (try simp only [Act.put, List.setIfInBounds_toArray, List.set_cons_zero, List.set_cons_succ])
    refine wpKeep_takeT (i := 11) (oi := ⟨some 48, _, _, _, _, _⟩) (v := ?_) rfl (by kernel_rfl) (by kernel_rfl) (by kernel_rfl) (by kernel_rfl) (fun _ _ _ h => h) (Or.inl ⟨by rfl, ?_⟩) (Keeps.refl _ _).drew (fun _ => trivial) ?_
    rotate_left
    · intro w' hT
      have c0 := (hT.cell (p := ⟨w.heap.size + 1, 0, none⟩) HSZ.out.2 (fun h => h)).trans C0.out
      have c1 := (hT.cell (p := ⟨w.heap.size + 1, 1, none⟩) HSZ.out.2 (fun h => h)).trans C1.out
      have d0 := (hT.cell (p := ⟨w.heap.size, 0, none⟩) HSZ.out.1 (fun h => h)).trans D0.out
      have d3 := (hT.cell (p := ⟨w.heap.size, 3, none⟩) HSZ.out.1 (fun h => h)).trans D3.out
      go_simp
      (try with_reducible rfl)
    rotate_left
    (try simp only [Act.put, List.setIfInBounds_toArray, List.set_cons_zero, List.set_cons_succ])
    refine wpKeep_takeT (i := 12) (oi := ⟨some 49, _, _, _, _, _⟩) (v := ?_) rfl (by kernel_rfl) (by kernel_rfl) (by kernel_rfl) (by kernel_rfl) (fun _ _ _ h => h) (Or.inl ⟨by rfl, ?_⟩) (Keeps.refl _ _).drew (fun _ => trivial) ?_
    rotate_left
    · intro w' hT
      have c0 := (hT.cell (p := ⟨w.heap.size + 1, 0, none⟩) HSZ.out.2 (fun h => h)).trans C0.out
      have c1 := (hT.cell (p := ⟨w.heap.size + 1, 1, none⟩) HSZ.out.2 (fun h => h)).trans C1.out
      have d0 := (hT.cell (p := ⟨w.heap.size, 0, none⟩) HSZ.out.1 (fun h => h)).trans D0.out
      have d3 := (hT.cell (p := ⟨w.heap.size, 3, none⟩) HSZ.out.1 (fun h => h)).trans D3.out
      go_simp
      (try with_reducible rfl)
    rotate_left
    (try simp only [Act.put, List.setIfInBounds_toArray, List.set_cons_zero, List.set_cons_succ])
    refine wpKeep_takeT (i := 13) (oi := ⟨some 50, _, _, _, _, _⟩) (v := ?_) rfl (by kernel_rfl) (by kernel_rfl) (by kernel_rfl) (by kernel_rfl) (fun _ _ _ h => h) (Or.inl ⟨by rfl, ?_⟩) (Keeps.refl _ _).drew (fun _ => trivial) ?_
    rotate_left
    · intro w' hT
      have c0 := (hT.cell (p := ⟨w.heap.size + 1, 0, none⟩) HSZ.out.2 (fun h => h)).trans C0.out
      have c1 := (hT.cell (p := ⟨w.heap.size + 1, 1, none⟩) HSZ.out.2 (fun h => h)).trans C1.out
      have d0 := (hT.cell (p := ⟨w.heap.size, 0, none⟩) HSZ.out.1 (fun h => h)).trans D0.out
      have d3 := (hT.cell (p := ⟨w.heap.size, 3, none⟩) HSZ.out.1 (fun h => h)).trans D3.out
      go_simp
      (try with_reducible rfl)
    rotate_left
    (try simp only [Act.put, List.setIfInBounds_toArray, List.set_cons_zero, List.set_cons_succ])
    refine wpKeep_takeT (i := 14) (oi := ⟨some 51, _, _, _, _, _⟩) (v := ?_) rfl (by kernel_rfl) (by kernel_rfl) (by kernel_rfl) (by kernel_rfl) (fun _ _ _ h => h) (Or.inl ⟨by rfl, ?_⟩) (Keeps.refl _ _).drew (fun _ => trivial) ?_
    rotate_left
    · intro w' hT
      have c0 := (hT.cell (p := ⟨w.heap.size + 1, 0, none⟩) HSZ.out.2 (fun h => h)).trans C0.out
      have c1 := (hT.cell (p := ⟨w.heap.size + 1, 1, none⟩) HSZ.out.2 (fun h => h)).trans C1.out
      have d0 := (hT.cell (p := ⟨w.heap.size, 0, none⟩) HSZ.out.1 (fun h => h)).trans D0.out
      have d3 := (hT.cell (p := ⟨w.heap.size, 3, none⟩) HSZ.out.1 (fun h => h)).trans D3.out
      go_simp
      (try with_reducible rfl)
    rotate_left
    (try simp only [Act.put, List.setIfInBounds_toArray, List.set_cons_zero, List.set_cons_succ])
    refine wpKeep_takeT (i := 15) (oi := ⟨some 52, _, _, _, _, _⟩) (v := ?_) rfl (by kernel_rfl) (by kernel_rfl) (by kernel_rfl) (by kernel_rfl) (fun _ _ _ h => h) (Or.inl ⟨by rfl, ?_⟩) (Keeps.refl _ _).drew (fun _ => trivial) ?_
    rotate_left
    · intro w' hT
      have c0 := (hT.cell (p := ⟨w.heap.size + 1, 0, none⟩) HSZ.out.2 (fun h => h)).trans C0.out
      have c1 := (hT.cell (p := ⟨w.heap.size + 1, 1, none⟩) HSZ.out.2 (fun h => h)).trans C1.out
      have d0 := (hT.cell (p := ⟨w.heap.size, 0, none⟩) HSZ.out.1 (fun h => h)).trans D0.out
      have d3 := (hT.cell (p := ⟨w.heap.size, 3, none⟩) HSZ.out.1 (fun h => h)).trans D3.out
      go_simp
      (try with_reducible rfl)
    rotate_left
    (try simp only [Act.put, List.setIfInBounds_toArray, List.set_cons_zero, List.set_cons_succ])
    refine wpKeep_takeT (i := 16) (oi := ⟨some 53, _, _, _, _, _⟩) (v := ?_) rfl (by kernel_rfl) (by kernel_rfl) (by kernel_rfl) (by kernel_rfl) (fun _ _ _ h => h) (Or.inl ⟨by rfl, ?_⟩) (Keeps.refl _ _).drew (fun _ => trivial) ?_
    rotate_left
    · intro w' hT
      have c0 := (hT.cell (p := ⟨w.heap.size + 1, 0, none⟩) HSZ.out.2 (fun h => h)).trans C0.out
      have c1 := (hT.cell (p := ⟨w.heap.size + 1, 1, none⟩) HSZ.out.2 (fun h => h)).trans C1.out
      have d0 := (hT.cell (p := ⟨w.heap.size, 0, none⟩) HSZ.out.1 (fun h => h)).trans D0.out
      have d3 := (hT.cell (p := ⟨w.heap.size, 3, none⟩) HSZ.out.1 (fun h => h)).trans D3.out
      go_simp
      (try with_reducible rfl)
    rotate_left
    (try simp only [Act.put, List.setIfInBounds_toArray, List.set_cons_zero, List.set_cons_succ])
    refine wpKeep_takeT (i := 17) (oi := ⟨some 54, _, _, _, _, _⟩) (v := ?_) rfl (by kernel_rfl) (by kernel_rfl) (by kernel_rfl) (by kernel_rfl) (fun _ _ _ h => h) (Or.inl ⟨by rfl, ?_⟩) (Keeps.refl _ _).drew (fun _ => trivial) ?_
    rotate_left
    · intro w' hT
      have c0 := (hT.cell (p := ⟨w.heap.size + 1, 0, none⟩) HSZ.out.2 (fun h => h)).trans C0.out
      have c1 := (hT.cell (p := ⟨w.heap.size + 1, 1, none⟩) HSZ.out.2 (fun h => h)).trans C1.out
      have d0 := (hT.cell (p := ⟨w.heap.size, 0, none⟩) HSZ.out.1 (fun h => h)).trans D0.out
      have d3 := (hT.cell (p := ⟨w.heap.size, 3, none⟩) HSZ.out.1 (fun h => h)).trans D3.out
      go_simp
      (try with_reducible rfl)
    rotate_left
    (try simp only [Act.put, List.setIfInBounds_toArray, List.set_cons_zero, List.set_cons_succ])
    refine wpKeep_takeT (i := 18) (oi := ⟨some 55, _, _, _, _, _⟩) (v := ?_) rfl (by kernel_rfl) (by kernel_rfl) (by kernel_rfl) (by kernel_rfl) (fun _ _ _ h => h) (Or.inl ⟨by rfl, ?_⟩) (Keeps.refl _ _).drew (fun _ => trivial) ?_
    rotate_left
    · intro w' hT
      have c0 := (hT.cell (p := ⟨w.heap.size + 1, 0, none⟩) HSZ.out.2 (fun h => h)).trans C0.out
      have c1 := (hT.cell (p := ⟨w.heap.size + 1, 1, none⟩) HSZ.out.2 (fun h => h)).trans C1.out
      have d0 := (hT.cell (p := ⟨w.heap.size, 0, none⟩) HSZ.out.1 (fun h => h)).trans D0.out
      have d3 := (hT.cell (p := ⟨w.heap.size, 3, none⟩) HSZ.out.1 (fun h => h)).trans D3.out
      go_simp
      (try with_reducible rfl)
    rotate_left
    (try simp only [Act.put, List.setIfInBounds_toArray, List.set_cons_zero, List.set_cons_succ])
    refine wpKeep_takeT (i := 19) (oi := ⟨some 56, _, _, _, _, _⟩) (v := ?_) rfl (by kernel_rfl) (by kernel_rfl) (by kernel_rfl) (by kernel_rfl) (fun _ _ _ h => h) (Or.inl ⟨by rfl, ?_⟩) (Keeps.refl _ _).drew (fun _ => trivial) ?_
    rotate_left
    · intro w' hT
      have c0 := (hT.cell (p := ⟨w.heap.size + 1, 0, none⟩) HSZ.out.2 (fun h => h)).trans C0.out
      have c1 := (hT.cell (p := ⟨w.heap.size + 1, 1, none⟩) HSZ.out.2 (fun h => h)).trans C1.out
      have d0 := (hT.cell (p := ⟨w.heap.size, 0, none⟩) HSZ.out.1 (fun h => h)).trans D0.out
      have d3 := (hT.cell (p := ⟨w.heap.size, 3, none⟩) HSZ.out.1 (fun h => h)).trans D3.out
      go_simp
      (try with_reducible rfl)
    rotate_left
    (try simp only [Act.put, List.setIfInBounds_toArray, List.set_cons_zero, List.set_cons_succ])
    refine wpKeep_ready (rs := [20]) (by kernel_rfl) (by simp) ?_
    refine AllKeep.cons (o := ⟨some 57, _, _, _, _, _⟩) rfl (fun K hK => ?_) AllKeep.nil
    go_simp
    go_at_call 44
    refine (HT.out _).mono ?_
    rintro x w7 ⟨v7, rfl, hv7⟩
    obtain ⟨a7, c7, rfl⟩ := ownsRow_slice hv7.1
    have frx : Fresh w3 w7 := (Keeps.refl (fun _ => False) w3).drew.trans hv7.2.2
    dsimp only
    refine hK.out _ _ frx (fun _ => trivial) ?_
    clear hK K
    (try simp only [Act.put, List.setIfInBounds_toArray, List.set_cons_zero, List.set_cons_succ])
    refine wpKeep_takeT (i := 21) (oi := ⟨some 58, _, _, _, _, _⟩) (v := ?_) rfl (by kernel_rfl) (by kernel_rfl) (by kernel_rfl) (by kernel_rfl) (fun _ _ _ h => h) (Or.inl ⟨by rfl, ?_⟩) frx (fun _ => trivial) ?_
    rotate_left
    · intro w' hT
      have c0 := (hT.cell (p := ⟨w.heap.size + 1, 0, none⟩) HSZ.out.2 (fun h => h)).trans C0.out
      have c1 := (hT.cell (p := ⟨w.heap.size + 1, 1, none⟩) HSZ.out.2 (fun h => h)).trans C1.out
      have d0 := (hT.cell (p := ⟨w.heap.size, 0, none⟩) HSZ.out.1 (fun h => h)).trans D0.out
      have d3 := (hT.cell (p := ⟨w.heap.size, 3, none⟩) HSZ.out.1 (fun h => h)).trans D3.out
      go_simp
      (try with_reducible rfl)
    rotate_left
    (try simp only [Act.put, List.setIfInBounds_toArray, List.set_cons_zero, List.set_cons_succ])
    refine wpKeep_takeT (i := 22) (oi := ⟨some 59, _, _, _, _, _⟩) (v := ?_) rfl (by kernel_rfl) (by kernel_rfl) (by kernel_rfl) (by kernel_rfl) (fun _ _ _ h => h) (Or.inl ⟨by rfl, ?_⟩) frx (fun _ => trivial) ?_
    rotate_left
    · intro w' hT
      have c0 := (hT.cell (p := ⟨w.heap.size + 1, 0, none⟩) HSZ.out.2 (fun h => h)).trans C0.out
      have c1 := (hT.cell (p := ⟨w.heap.size + 1, 1, none⟩) HSZ.out.2 (fun h => h)).trans C1.out
      have d0 := (hT.cell (p := ⟨w.heap.size, 0, none⟩) HSZ.out.1 (fun h => h)).trans D0.out
      have d3 := (hT.cell (p := ⟨w.heap.size, 3, none⟩) HSZ.out.1 (fun h => h)).trans D3.out
      go_simp
      (try with_reducible rfl)
    rotate_left
    (try simp only [Act.put, List.setIfInBounds_toArray, List.set_cons_zero, List.set_cons_succ])
    refine wpKeep_takeT (i := 23) (oi := ⟨some 60, _, _, _, _, _⟩) (v := ?_) rfl (by kernel_rfl) (by kernel_rfl) (by kernel_rfl) (by kernel_rfl) (fun _ _ _ h => h) (Or.inl ⟨by rfl, ?_⟩) frx (fun _ => trivial) ?_
    rotate_left
    · intro w' hT
      have c0 := (hT.cell (p := ⟨w.heap.size + 1, 0, none⟩) HSZ.out.2 (fun h => h)).trans C0.out
      have c1 := (hT.cell (p := ⟨w.heap.size + 1, 1, none⟩) HSZ.out.2 (fun h => h)).trans C1.out
      have d0 := (hT.cell (p := ⟨w.heap.size, 0, none⟩) HSZ.out.1 (fun h => h)).trans D0.out
      have d3 := (hT.cell (p := ⟨w.heap.size, 3, none⟩) HSZ.out.1 (fun h => h)).trans D3.out
      go_simp
      (try with_reducible rfl)
    rotate_left
    (try simp only [Act.put, List.setIfInBounds_toArray, List.set_cons_zero, List.set_cons_succ])
    refine wpKeep_takeT (i := 24) (oi := ⟨some 61, _, _, _, _, _⟩) (v := ?_) rfl (by kernel_rfl) (by kernel_rfl) (by kernel_rfl) (by kernel_rfl) (fun _ _ _ h => h) (Or.inl ⟨by rfl, ?_⟩) frx (fun _ => trivial) ?_
    rotate_left
    · intro w' hT
      have c0 := (hT.cell (p := ⟨w.heap.size + 1, 0, none⟩) HSZ.out.2 (fun h => h)).trans C0.out
      have c1 := (hT.cell (p := ⟨w.heap.size + 1, 1, none⟩) HSZ.out.2 (fun h => h)).trans C1.out
      have d0 := (hT.cell (p := ⟨w.heap.size, 0, none⟩) HSZ.out.1 (fun h => h)).trans D0.out
      have d3 := (hT.cell (p := ⟨w.heap.size, 3, none⟩) HSZ.out.1 (fun h => h)).trans D3.out
      go_simp
      (try with_reducible rfl)
    rotate_left
    (try simp only [Act.put, List.setIfInBounds_toArray, List.set_cons_zero, List.set_cons_succ])
    refine wpKeep_takeT (i := 25) (oi := ⟨some 62, _, _, _, _, _⟩) (v := undef) rfl (by kernel_rfl) (by kernel_rfl) (by kernel_rfl) (by kernel_rfl) (fun _ _ _ h => h) (Or.inr ⟨by rfl, rfl⟩) frx (fun _ => trivial) ?_
    (try simp only [Act.put, List.setIfInBounds_toArray, List.set_cons_zero, List.set_cons_succ])
    refine wpKeep_takeT (i := 26) (oi := ⟨some 63, _, _, _, _, _⟩) (v := undef) rfl (by kernel_rfl) (by kernel_rfl) (by kernel_rfl) (by kernel_rfl) (fun _ _ _ h => h) (Or.inr ⟨by rfl, rfl⟩) frx (fun _ => trivial) ?_
    (try simp only [Act.put, List.setIfInBounds_toArray, List.set_cons_zero, List.set_cons_succ])
    refine wpKeep_takeT (i := 27) (oi := ⟨some 64, _, _, _, _, _⟩) (v := ?_) rfl (by kernel_rfl) (by kernel_rfl) (by kernel_rfl) (by kernel_rfl) (fun _ _ _ h => h) (Or.inl ⟨by rfl, ?_⟩) frx (fun _ => trivial) ?_
    rotate_left
    · intro w' hT
      have c0 := (hT.cell (p := ⟨w.heap.size + 1, 0, none⟩) HSZ.out.2 (fun h => h)).trans C0.out
      have c1 := (hT.cell (p := ⟨w.heap.size + 1, 1, none⟩) HSZ.out.2 (fun h => h)).trans C1.out
      have d0 := (hT.cell (p := ⟨w.heap.size, 0, none⟩) HSZ.out.1 (fun h => h)).trans D0.out
      have d3 := (hT.cell (p := ⟨w.heap.size, 3, none⟩) HSZ.out.1 (fun h => h)).trans D3.out
      go_simp
      (try with_reducible rfl)
    rotate_left
    (try simp only [Act.put, List.setIfInBounds_toArray, List.set_cons_zero, List.set_cons_succ])
    refine wpKeep_takeT (i := 28) (oi := ⟨some 65, _, _, _, _, _⟩) (v := ?_) rfl (by kernel_rfl) (by kernel_rfl) (by kernel_rfl) (by kernel_rfl) (fun _ _ _ h => h) (Or.inl ⟨by rfl, ?_⟩) frx (fun _ => trivial) ?_
    rotate_left
    · intro w' hT
      have c0 := (hT.cell (p := ⟨w.heap.size + 1, 0, none⟩) HSZ.out.2 (fun h => h)).trans C0.out
      have c1 := (hT.cell (p := ⟨w.heap.size + 1, 1, none⟩) HSZ.out.2 (fun h => h)).trans C1.out
      have d0 := (hT.cell (p := ⟨w.heap.size, 0, none⟩) HSZ.out.1 (fun h => h)).trans D0.out
      have d3 := (hT.cell (p := ⟨w.heap.size, 3, none⟩) HSZ.out.1 (fun h => h)).trans D3.out
      go_simp
      (try with_reducible rfl)
    rotate_left
    (try simp only [Act.put, List.setIfInBounds_toArray, List.set_cons_zero, List.set_cons_succ])
    refine wpKeep_takeT (i := 29) (oi := ⟨some 66, _, _, _, _, _⟩) (v := undef) rfl (by kernel_rfl) (by kernel_rfl) (by kernel_rfl) (by kernel_rfl) (fun _ _ _ h => h) (Or.inr ⟨by rfl, rfl⟩) frx (fun _ => trivial) ?_
    (try simp only [Act.put, List.setIfInBounds_toArray, List.set_cons_zero, List.set_cons_succ])
    refine wpKeep_takeT (i := 30) (oi := ⟨some 67, _, _, _, _, _⟩) (v := undef) rfl (by kernel_rfl) (by kernel_rfl) (by kernel_rfl) (by kernel_rfl) (fun _ _ _ h => h) (Or.inr ⟨by rfl, rfl⟩) frx (fun _ => trivial) ?_
    (try simp only [Act.put, List.setIfInBounds_toArray, List.set_cons_zero, List.set_cons_succ])
    refine wpKeep_takeT (i := 31) (oi := ⟨some 68, _, _, _, _, _⟩) (v := ?_) rfl (by kernel_rfl) (by kernel_rfl) (by kernel_rfl) (by kernel_rfl) (fun _ _ _ h => h) (Or.inl ⟨by rfl, ?_⟩) frx (fun _ => trivial) ?_
    rotate_left
    · intro w' hT
      have c0 := (hT.cell (p := ⟨w.heap.size + 1, 0, none⟩) HSZ.out.2 (fun h => h)).trans C0.out
      have c1 := (hT.cell (p := ⟨w.heap.size + 1, 1, none⟩) HSZ.out.2 (fun h => h)).trans C1.out
      have d0 := (hT.cell (p := ⟨w.heap.size, 0, none⟩) HSZ.out.1 (fun h => h)).trans D0.out
      have d3 := (hT.cell (p := ⟨w.heap.size, 3, none⟩) HSZ.out.1 (fun h => h)).trans D3.out
      go_simp
      (try with_reducible rfl)
    rotate_left
    (try simp only [Act.put, List.setIfInBounds_toArray, List.set_cons_zero, List.set_cons_succ])
    refine wpKeep_done (by kernel_rfl) ?_ _
    go_wp2_with fail
    go_ret2
    exact ⟨rfl, f4.trans frx⟩
  have g3 : ((H.length : Int) != (T.length : Int)) = false := bne_eq_false_iff_eq.2 (by omega)
  have H3 := hid h3
  clear h3
  cases dH
  · have hbad := HB.out (fun g => absurd g.2.2.2.1 (of_decide_eq_false HDH.out))
    subst hbad
    go_wp2_with fail
    refine wp_region_keep 32 (fun w' => Fresh w3 w') (fun _ => True) (fun _ => true) (by kernel_rfl) (by kernel_rfl) ?_
    (try (change wpKeep _ _ _ _ _ _ _ _ _ _ (World.drew _)))
    refine wpKeep_takeT (i := 0) (oi := ⟨some 37, _, _, _, _, _⟩) (v := ?_) rfl (by kernel_rfl) (by kernel_rfl) (by kernel_rfl) (by kernel_rfl) (fun _ _ _ h => h) (Or.inl ⟨by rfl, ?_⟩) (Keeps.refl _ _).drew (fun _ => trivial) ?_
    rotate_left
    · intro w' hT
      have c0 := (hT.cell (p := ⟨w.heap.size + 1, 0, none⟩) HSZ.out.2 (fun h => h)).trans C0.out
      have c1 := (hT.cell (p := ⟨w.heap.size + 1, 1, none⟩) HSZ.out.2 (fun h => h)).trans C1.out
      have d0 := (hT.cell (p := ⟨w.heap.size, 0, none⟩) HSZ.out.1 (fun h => h)).trans D0.out
      have d3 := (hT.cell (p := ⟨w.heap.size, 3, none⟩) HSZ.out.1 (fun h => h)).trans D3.out
      go_simp
      (try with_reducible rfl)
    rotate_left
    (try simp only [Act.put, List.setIfInBounds_toArray, List.set_cons_zero, List.set_cons_succ])
    refine wpKeep_takeT (i := 1) (oi := ⟨some 38, _, _, _, _, _⟩) (v := ?_) rfl (by kernel_rfl) (by kernel_rfl) (by kernel_rfl) (by kernel_rfl) (fun _ _ _ h => h) (Or.inl ⟨by rfl, ?_⟩) (Keeps.refl _ _).drew (fun _ => trivial) ?_
    rotate_left
    · intro w' hT
      have c0 := (hT.cell (p := ⟨w.heap.size + 1, 0, none⟩) HSZ.out.2 (fun h => h)).trans C0.out
      have c1 := (hT.cell (p := ⟨w.heap.size + 1, 1, none⟩) HSZ.out.2 (fun h => h)).trans C1.out
      have d0 := (hT.cell (p := ⟨w.heap.size, 0, none⟩) HSZ.out.1 (fun h => h)).trans D0.out
      have d3 := (hT.cell (p := ⟨w.heap.size, 3, none⟩) HSZ.out.1 (fun h => h)).trans D3.out
      go_simp
      (try with_reducible rfl)
    rotate_left
    (try simp only [Act.put, List.setIfInBounds_toArray, List.set_cons_zero, List.set_cons_succ])
    refine wpKeep_takeT (i := 2) (oi := ⟨some 39, _, _, _, _, _⟩) (v := ?_) rfl (by kernel_rfl) (by kernel_rfl) (by kernel_rfl) (by kernel_rfl) (fun _ _ _ h => h) (Or.inl ⟨by rfl, ?_⟩) (Keeps.refl _ _).drew (fun _ => trivial) ?_
    rotate_left
    · intro w' hT
      have c0 := (hT.cell (p := ⟨w.heap.size + 1, 0, none⟩) HSZ.out.2 (fun h => h)).trans C0.out
      have c1 := (hT.cell (p := ⟨w.heap.size + 1, 1, none⟩) HSZ.out.2 (fun h => h)).trans C1.out
      have d0 := (hT.cell (p := ⟨w.heap.size, 0, none⟩) HSZ.out.1 (fun h => h)).trans D0.out
      have d3 := (hT.cell (p := ⟨w.heap.size, 3, none⟩) HSZ.out.1 (fun h => h)).trans D3.out
      go_simp
      (try with_reducible rfl)
    rotate_left
    (try simp only [Act.put, List.setIfInBounds_toArray, List.set_cons_zero, List.set_cons_succ])
    refine wpKeep_takeT (i := 3) (oi := ⟨some 40, _, _, _, _, _⟩) (v := ?_) rfl (by kernel_rfl) (by kernel_rfl) (by kernel_rfl) (by kernel_rfl) (fun _ _ _ h => h) (Or.inl ⟨by rfl, ?_⟩) (Keeps.refl _ _).drew (fun _ => trivial) ?_
    rotate_left
    · intro w' hT
      have c0 := (hT.cell (p := ⟨w.heap.size + 1, 0, none⟩) HSZ.out.2 (fun h => h)).trans C0.out
      have c1 := (hT.cell (p := ⟨w.heap.size + 1, 1, none⟩) HSZ.out.2 (fun h => h)).trans C1.out
      have d0 := (hT.cell (p := ⟨w.heap.size, 0, none⟩) HSZ.out.1 (fun h => h)).trans D0.out
      have d3 := (hT.cell (p := ⟨w.heap.size, 3, none⟩) HSZ.out.1 (fun h => h)).trans D3.out
      go_simp
      (try with_reducible rfl)
    rotate_left
    (try simp only [Act.put, List.setIfInBounds_toArray, List.set_cons_zero, List.set_cons_succ])
    refine wpKeep_takeT (i := 4) (oi := ⟨some 41, _, _, _, _, _⟩) (v := ?_) rfl (by kernel_rfl) (by kernel_rfl) (by kernel_rfl) (by kernel_rfl) (fun _ _ _ h => h) (Or.inl ⟨by rfl, ?_⟩) (Keeps.refl _ _).drew (fun _ => trivial) ?_
    rotate_left
    · intro w' hT
      have c0 := (hT.cell (p := ⟨w.heap.size + 1, 0, none⟩) HSZ.out.2 (fun h => h)).trans C0.out
      have c1 := (hT.cell (p := ⟨w.heap.size + 1, 1, none⟩) HSZ.out.2 (fun h => h)).trans C1.out
      have d0 := (hT.cell (p := ⟨w.heap.size, 0, none⟩) HSZ.out.1 (fun h => h)).trans D0.out
      have d3 := (hT.cell (p := ⟨w.heap.size, 3, none⟩) HSZ.out.1 (fun h => h)).trans D3.out
      go_simp
      (try with_reducible rfl)
    rotate_left
    (try simp only [Act.put, List.setIfInBounds_toArray, List.set_cons_zero, List.set_cons_succ])
    refine wpKeep_takeT (i := 5) (oi := ⟨some 42, _, _, _, _, _⟩) (v := ?_) rfl (by kernel_rfl) (by kernel_rfl) (by kernel_rfl) (by kernel_rfl) (fun _ _ _ h => h) (Or.inl ⟨by rfl, ?_⟩) (Keeps.refl _ _).drew (fun _ => trivial) ?_
    rotate_left
    · intro w' hT
      have c0 := (hT.cell (p := ⟨w.heap.size + 1, 0, none⟩) HSZ.out.2 (fun h => h)).trans C0.out
      have c1 := (hT.cell (p := ⟨w.heap.size + 1, 1, none⟩) HSZ.out.2 (fun h => h)).trans C1.out
      have d0 := (hT.cell (p := ⟨w.heap.size, 0, none⟩) HSZ.out.1 (fun h => h)).trans D0.out
      have d3 := (hT.cell (p := ⟨w.heap.size, 3, none⟩) HSZ.out.1 (fun h => h)).trans D3.out
      go_simp
      (try with_reducible rfl)
    rotate_left
    (try simp only [Act.put, List.setIfInBounds_toArray, List.set_cons_zero, List.set_cons_succ])
    refine wpKeep_takeT (i := 6) (oi := ⟨some 43, _, _, _, _, _⟩) (v := ?_) rfl (by kernel_rfl) (by kernel_rfl) (by kernel_rfl) (by kernel_rfl) (fun _ _ _ h => h) (Or.inl ⟨by rfl, ?_⟩) (Keeps.refl _ _).drew (fun _ => trivial) ?_
    rotate_left
    · intro w' hT
      have c0 := (hT.cell (p := ⟨w.heap.size + 1, 0, none⟩) HSZ.out.2 (fun h => h)).trans C0.out
      have c1 := (hT.cell (p := ⟨w.heap.size + 1, 1, none⟩) HSZ.out.2 (fun h => h)).trans C1.out
      have d0 := (hT.cell (p := ⟨w.heap.size, 0, none⟩) HSZ.out.1 (fun h => h)).trans D0.out
      have d3 := (hT.cell (p := ⟨w.heap.size, 3, none⟩) HSZ.out.1 (fun h => h)).trans D3.out
      go_simp
      (try with_reducible rfl)
    rotate_left
    (try simp only [Act.put, List.setIfInBounds_toArray, List.set_cons_zero, List.set_cons_succ])
    refine wpKeep_takeT (i := 7) (oi := ⟨some 44, _, _, _, _, _⟩) (v := ?_) rfl (by kernel_rfl) (by kernel_rfl) (by kernel_rfl) (by kernel_rfl) (fun _ _ _ h => h) (Or.inl ⟨by rfl, ?_⟩) (Keeps.refl _ _).drew (fun _ => trivial) ?_
    rotate_left
    · intro w' hT
      have c0 := (hT.cell (p := ⟨w.heap.size + 1, 0, none⟩) HSZ.out.2 (fun h => h)).trans C0.out
      have c1 := (hT.cell (p := ⟨w.heap.size + 1, 1, none⟩) HSZ.out.2 (fun h => h)).trans C1.out
      have d0 := (hT.cell (p := ⟨w.heap.size, 0, none⟩) HSZ.out.1 (fun h => h)).trans D0.out
      have d3 := (hT.cell (p := ⟨w.heap.size, 3, none⟩) HSZ.out.1 (fun h => h)).trans D3.out
      go_simp
      (try with_reducible rfl)
    rotate_left
    (try simp only [Act.put, List.setIfInBounds_toArray, List.set_cons_zero, List.set_cons_succ])
    refine wpKeep_takeT (i := 8) (oi := ⟨some 45, _, _, _, _, _⟩) (v := ?_) rfl (by kernel_rfl) (by kernel_rfl) (by kernel_rfl) (by kernel_rfl) (fun _ _ _ h => h) (Or.inl ⟨by rfl, ?_⟩) (Keeps.refl _ _).drew (fun _ => trivial) ?_
    rotate_left
    · intro w' hT
      have c0 := (hT.cell (p := ⟨w.heap.size + 1, 0, none⟩) HSZ.out.2 (fun h => h)).trans C0.out
      have c1 := (hT.cell (p := ⟨w.heap.size + 1, 1, none⟩) HSZ.out.2 (fun h => h)).trans C1.out
      have d0 := (hT.cell (p := ⟨w.heap.size, 0, none⟩) HSZ.out.1 (fun h => h)).trans D0.out
      have d3 := (hT.cell (p := ⟨w.heap.size, 3, none⟩) HSZ.out.1 (fun h => h)).trans D3.out
      go_simp
      (try with_reducible rfl)
    rotate_left
    (try simp only [Act.put, List.setIfInBounds_toArray, List.set_cons_zero, List.set_cons_succ])
    refine wpKeep_takeT (i := 9) (oi := ⟨some 46, _, _, _, _, _⟩) (v := ?_) rfl (by kernel_rfl) (by kernel_rfl) (by kernel_rfl) (by kernel_rfl) (fun _ _ _ h => h) (Or.inl ⟨by rfl, ?_⟩) (Keeps.refl _ _).drew (fun _ => trivial) ?_
    rotate_left
    · intro w' hT
      have c0 := (hT.cell (p := ⟨w.heap.size + 1, 0, none⟩) HSZ.out.2 (fun h => h)).trans C0.out
      have c1 := (hT.cell (p := ⟨w.heap.size + 1, 1, none⟩) HSZ.out.2 (fun h => h)).trans C1.out
      have d0 := (hT.cell (p := ⟨w.heap.size, 0, none⟩) HSZ.out.1 (fun h => h)).trans D0.out
      have d3 := (hT.cell (p := ⟨w.heap.size, 3, none⟩) HSZ.out.1 (fun h => h)).trans D3.out
      go_simp
      (try with_reducible rfl)
    rotate_left
    (try simp only [Act.put, List.setIfInBounds_toArray, List.set_cons_zero, List.set_cons_succ])
    refine wpKeep_takeT (i := 10) (oi := ⟨some 47, _, _, _, _, _⟩) (v := ?_) rfl (by kernel_rfl) (by kernel_rfl) (by kernel_rfl) (by kernel_rfl) (fun _ _ _ h => h) (Or.inl ⟨by rfl, ?_⟩) (Keeps.refl _ _).drew (fun _ => trivial) ?_
    rotate_left
    · intro w' hT
      have c0 := (hT.cell (p := ⟨w.heap.size + 1, 0, none⟩) HSZ.out.2 (fun h => h)).trans C0.out
      have c1 := (hT.cell (p := ⟨w.heap.size + 1, 1, none⟩) HSZ.out.2 (fun h => h)).trans C1.out
      have d0 := (hT.cell (p := ⟨w.heap.size, 0, none⟩) HSZ.out.1 (fun h => h)).trans D0.out
      have d3 := (hT.cell (p := ⟨w.heap.size, 3, none⟩) HSZ.out.1 (fun h => h)).trans D3.out
      go_simp
      (try with_reducible rfl)
    rotate_left
    (try simp only [Act.put, List.setIfInBounds_toArray, List.set_cons_zero, List.set_cons_succ])
    refine wpKeep_takeT (i := 11) (oi := ⟨some 48, _, _, _, _, _⟩) (v := ?_) rfl (by kernel_rfl) (by kernel_rfl) (by kernel_rfl) (by kernel_rfl) (fun _ _ _ h => h) (Or.inl ⟨by rfl, ?_⟩) (Keeps.refl _ _).drew (fun _ => trivial) ?_
    rotate_left
    · intro w' hT
      have c0 := (hT.cell (p := ⟨w.heap.size + 1, 0, none⟩) HSZ.out.2 (fun h => h)).trans C0.out
      have c1 := (hT.cell (p := ⟨w.heap.size + 1, 1, none⟩) HSZ.out.2 (fun h => h)).trans C1.out
      have d0 := (hT.cell (p := ⟨w.heap.size, 0, none⟩) HSZ.out.1 (fun h => h)).trans D0.out
      have d3 := (hT.cell (p := ⟨w.heap.size, 3, none⟩) HSZ.out.1 (fun h => h)).trans D3.out
      go_simp
      (try with_reducible rfl)
    rotate_left
    (try simp only [Act.put, List.setIfInBounds_toArray, List.set_cons_zero, List.set_cons_succ])
    refine wpKeep_takeT (i := 12) (oi := ⟨some 49, _, _, _, _, _⟩) (v := ?_) rfl (by kernel_rfl) (by kernel_rfl) (by kernel_rfl) (by kernel_rfl) (fun _ _ _ h => h) (Or.inl ⟨by rfl, ?_⟩) (Keeps.refl _ _).drew (fun _ => trivial) ?_
    rotate_left
    · intro w' hT
      have c0 := (hT.cell (p := ⟨w.heap.size + 1, 0, none⟩) HSZ.out.2 (fun h => h)).trans C0.out
      have c1 := (hT.cell (p := ⟨w.heap.size + 1, 1, none⟩) HSZ.out.2 (fun h => h)).trans C1.out
      have d0 := (hT.cell (p := ⟨w.heap.size, 0, none⟩) HSZ.out.1 (fun h => h)).trans D0.out
      have d3 := (hT.cell (p := ⟨w.heap.size, 3, none⟩) HSZ.out.1 (fun h => h)).trans D3.out
      go_simp
      (try with_reducible rfl)
    rotate_left
    (try simp only [Act.put, List.setIfInBounds_toArray, List.set_cons_zero, List.set_cons_succ])
    refine wpKeep_takeT (i := 13) (oi := ⟨some 50, _, _, _, _, _⟩) (v := ?_) rfl (by kernel_rfl) (by kernel_rfl) (by kernel_rfl) (by kernel_rfl) (fun _ _ _ h => h) (Or.inl ⟨by rfl, ?_⟩) (Keeps.refl _ _).drew (fun _ => trivial) ?_
    rotate_left
    · intro w' hT
      have c0 := (hT.cell (p := ⟨w.heap.size + 1, 0, none⟩) HSZ.out.2 (fun h => h)).trans C0.out
      have c1 := (hT.cell (p := ⟨w.heap.size + 1, 1, none⟩) HSZ.out.2 (fun h => h)).trans C1.out
      have d0 := (hT.cell (p := ⟨w.heap.size, 0, none⟩) HSZ.out.1 (fun h => h)).trans D0.out
      have d3 := (hT.cell (p := ⟨w.heap.size, 3, none⟩) HSZ.out.1 (fun h => h)).trans D3.out
      go_simp
      (try with_reducible rfl)
    rotate_left
    (try simp only [Act.put, List.setIfInBounds_toArray, List.set_cons_zero, List.set_cons_succ])
    refine wpKeep_takeT (i := 14) (oi := ⟨some 51, _, _, _, _, _⟩) (v := ?_) rfl (by kernel_rfl) (by kernel_rfl) (by kernel_rfl) (by kernel_rfl) (fun _ _ _ h => h) (Or.inl ⟨by rfl, ?_⟩) (Keeps.refl _ _).drew (fun _ => trivial) ?_
    rotate_left
    · intro w' hT
      have c0 := (hT.cell (p := ⟨w.heap.size + 1, 0, none⟩) HSZ.out.2 (fun h => h)).trans C0.out
      have c1 := (hT.cell (p := ⟨w.heap.size + 1, 1, none⟩) HSZ.out.2 (fun h => h)).trans C1.out
      have d0 := (hT.cell (p := ⟨w.heap.size, 0, none⟩) HSZ.out.1 (fun h => h)).trans D0.out
      have d3 := (hT.cell (p := ⟨w.heap.size, 3, none⟩) HSZ.out.1 (fun h => h)).trans D3.out
      go_simp
      (try with_reducible rfl)
    rotate_left
    (try simp only [Act.put, List.setIfInBounds_toArray, List.set_cons_zero, List.set_cons_succ])
    refine wpKeep_takeT (i := 15) (oi := ⟨some 52, _, _, _, _, _⟩) (v := ?_) rfl (by kernel_rfl) (by kernel_rfl) (by kernel_rfl) (by kernel_rfl) (fun _ _ _ h => h) (Or.inl ⟨by rfl, ?_⟩) (Keeps.refl _ _).drew (fun _ => trivial) ?_
    rotate_left
    · intro w' hT
      have c0 := (hT.cell (p := ⟨w.heap.size + 1, 0, none⟩) HSZ.out.2 (fun h => h)).trans C0.out
      have c1 := (hT.cell (p := ⟨w.heap.size + 1, 1, none⟩) HSZ.out.2 (fun h => h)).trans C1.out
      have d0 := (hT.cell (p := ⟨w.heap.size, 0, none⟩) HSZ.out.1 (fun h => h)).trans D0.out
      have d3 := (hT.cell (p := ⟨w.heap.size, 3, none⟩) HSZ.out.1 (fun h => h)).trans D3.out
      go_simp
      (try with_reducible rfl)
    rotate_left
    (try simp only [Act.put, List.setIfInBounds_toArray, List.set_cons_zero, List.set_cons_succ])
    refine wpKeep_takeT (i := 16) (oi := ⟨some 53, _, _, _, _, _⟩) (v := ?_) rfl (by kernel_rfl) (by kernel_rfl) (by kernel_rfl) (by kernel_rfl) (fun _ _ _ h => h) (Or.inl ⟨by rfl, ?_⟩) (Keeps.refl _ _).drew (fun _ => trivial) ?_
    rotate_left
    · intro w' hT
      have c0 := (hT.cell (p := ⟨w.heap.size + 1, 0, none⟩) HSZ.out.2 (fun h => h)).trans C0.out
      have c1 := (hT.cell (p := ⟨w.heap.size + 1, 1, none⟩) HSZ.out.2 (fun h => h)).trans C1.out
      have d0 := (hT.cell (p := ⟨w.heap.size, 0, none⟩) HSZ.out.1 (fun h => h)).trans D0.out
      have d3 := (hT.cell (p := ⟨w.heap.size, 3, none⟩) HSZ.out.1 (fun h => h)).trans D3.out
      go_simp
      (try with_reducible rfl)
    rotate_left
    (try simp only [Act.put, List.setIfInBounds_toArray, List.set_cons_zero, List.set_cons_succ])
    refine wpKeep_takeT (i := 17) (oi := ⟨some 54, _, _, _, _, _⟩) (v := ?_) rfl (by kernel_rfl) (by kernel_rfl) (by kernel_rfl) (by kernel_rfl) (fun _ _ _ h => h) (Or.inl ⟨by rfl, ?_⟩) (Keeps.refl _ _).drew (fun _ => trivial) ?_
    rotate_left
    · intro w' hT
      have c0 := (hT.cell (p := ⟨w.heap.size + 1, 0, none⟩) HSZ.out.2 (fun h => h)).trans C0.out
      have c1 := (hT.cell (p := ⟨w.heap.size + 1, 1, none⟩) HSZ.out.2 (fun h => h)).trans C1.out
      have d0 := (hT.cell (p := ⟨w.heap.size, 0, none⟩) HSZ.out.1 (fun h => h)).trans D0.out
      have d3 := (hT.cell (p := ⟨w.heap.size, 3, none⟩) HSZ.out.1 (fun h => h)).trans D3.out
      go_simp
      (try with_reducible rfl)
    rotate_left
    (try simp only [Act.put, List.setIfInBounds_toArray, List.set_cons_zero, List.set_cons_succ])
    refine wpKeep_takeT (i := 18) (oi := ⟨some 55, _, _, _, _, _⟩) (v := ?_) rfl (by kernel_rfl) (by kernel_rfl) (by kernel_rfl) (by kernel_rfl) (fun _ _ _ h => h) (Or.inl ⟨by rfl, ?_⟩) (Keeps.refl _ _).drew (fun _ => trivial) ?_
    rotate_left
    · intro w' hT
      have c0 := (hT.cell (p := ⟨w.heap.size + 1, 0, none⟩) HSZ.out.2 (fun h => h)).trans C0.out
      have c1 := (hT.cell (p := ⟨w.heap.size + 1, 1, none⟩) HSZ.out.2 (fun h => h)).trans C1.out
      have d0 := (hT.cell (p := ⟨w.heap.size, 0, none⟩) HSZ.out.1 (fun h => h)).trans D0.out
      have d3 := (hT.cell (p := ⟨w.heap.size, 3, none⟩) HSZ.out.1 (fun h => h)).trans D3.out
      go_simp
      (try with_reducible rfl)
    rotate_left
    (try simp only [Act.put, List.setIfInBounds_toArray, List.set_cons_zero, List.set_cons_succ])
    refine wpKeep_takeT (i := 19) (oi := ⟨some 56, _, _, _, _, _⟩) (v := ?_) rfl (by kernel_rfl) (by kernel_rfl) (by kernel_rfl) (by kernel_rfl) (fun _ _ _ h => h) (Or.inl ⟨by rfl, ?_⟩) (Keeps.refl _ _).drew (fun _ => trivial) ?_
    rotate_left
    · intro w' hT
      have c0 := (hT.cell (p := ⟨w.heap.size + 1, 0, none⟩) HSZ.out.2 (fun h => h)).trans C0.out
      have c1 := (hT.cell (p := ⟨w.heap.size + 1, 1, none⟩) HSZ.out.2 (fun h => h)).trans C1.out
      have d0 := (hT.cell (p := ⟨w.heap.size, 0, none⟩) HSZ.out.1 (fun h => h)).trans D0.out
      have d3 := (hT.cell (p := ⟨w.heap.size, 3, none⟩) HSZ.out.1 (fun h => h)).trans D3.out
      go_simp
      (try with_reducible rfl)
    rotate_left
    (try simp only [Act.put, List.setIfInBounds_toArray, List.set_cons_zero, List.set_cons_succ])
    refine wpKeep_ready (rs := [20]) (by kernel_rfl) (by simp) ?_
    refine AllKeep.cons (o := ⟨some 57, _, _, _, _, _⟩) rfl (fun K hK => ?_) AllKeep.nil
    go_simp
    go_at_call 44
    refine (HT.out _).mono ?_
    rintro x w7 ⟨v7, rfl, hv7⟩
    obtain ⟨a7, c7, rfl⟩ := ownsRow_slice hv7.1
    have frx : Fresh w3 w7 := (Keeps.refl (fun _ => False) w3).drew.trans hv7.2.2
    dsimp only
    refine hK.out _ _ frx (fun _ => trivial) ?_
    clear hK K
    (try simp only [Act.put, List.setIfInBounds_toArray, List.set_cons_zero, List.set_cons_succ])
    refine wpKeep_takeT (i := 21) (oi := ⟨some 58, _, _, _, _, _⟩) (v := ?_) rfl (by kernel_rfl) (by kernel_rfl) (by kernel_rfl) (by kernel_rfl) (fun _ _ _ h => h) (Or.inl ⟨by rfl, ?_⟩) frx (fun _ => trivial) ?_
    rotate_left
    · intro w' hT
      have c0 := (hT.cell (p := ⟨w.heap.size + 1, 0, none⟩) HSZ.out.2 (fun h => h)).trans C0.out
      have c1 := (hT.cell (p := ⟨w.heap.size + 1, 1, none⟩) HSZ.out.2 (fun h => h)).trans C1.out
      have d0 := (hT.cell (p := ⟨w.heap.size, 0, none⟩) HSZ.out.1 (fun h => h)).trans D0.out
      have d3 := (hT.cell (p := ⟨w.heap.size, 3, none⟩) HSZ.out.1 (fun h => h)).trans D3.out
      go_simp
      (try with_reducible rfl)
    rotate_left
    (try simp only [Act.put, List.setIfInBounds_toArray, List.set_cons_zero, List.set_cons_succ])
    refine wpKeep_takeT (i := 22) (oi := ⟨some 59, _, _, _, _, _⟩) (v := ?_) rfl (by kernel_rfl) (by kernel_rfl) (by kernel_rfl) (by kernel_rfl) (fun _ _ _ h => h) (Or.inl ⟨by rfl, ?_⟩) frx (fun _ => trivial) ?_
    rotate_left
    · intro w' hT
      have c0 := (hT.cell (p := ⟨w.heap.size + 1, 0, none⟩) HSZ.out.2 (fun h => h)).trans C0.out
      have c1 := (hT.cell (p := ⟨w.heap.size + 1, 1, none⟩) HSZ.out.2 (fun h => h)).trans C1.out
      have d0 := (hT.cell (p := ⟨w.heap.size, 0, none⟩) HSZ.out.1 (fun h => h)).trans D0.out
      have d3 := (hT.cell (p := ⟨w.heap.size, 3, none⟩) HSZ.out.1 (fun h => h)).trans D3.out
      go_simp
      (try with_reducible rfl)
    rotate_left
    (try simp only [Act.put, List.setIfInBounds_toArray, List.set_cons_zero, List.set_cons_succ])
    refine wpKeep_takeT (i := 23) (oi := ⟨some 60, _, _, _, _, _⟩) (v := ?_) rfl (by kernel_rfl) (by kernel_rfl) (by kernel_rfl) (by kernel_rfl) (fun _ _ _ h => h) (Or.inl ⟨by rfl, ?_⟩) frx (fun _ => trivial) ?_
    rotate_left
    · intro w' hT
      have c0 := (hT.cell (p := ⟨w.heap.size + 1, 0, none⟩) HSZ.out.2 (fun h => h)).trans C0.out
      have c1 := (hT.cell (p := ⟨w.heap.size + 1, 1, none⟩) HSZ.out.2 (fun h => h)).trans C1.out
      have d0 := (hT.cell (p := ⟨w.heap.size, 0, none⟩) HSZ.out.1 (fun h => h)).trans D0.out
      have d3 := (hT.cell (p := ⟨w.heap.size, 3, none⟩) HSZ.out.1 (fun h => h)).trans D3.out
      go_simp
      (try with_reducible rfl)
    rotate_left
    (try simp only [Act.put, List.setIfInBounds_toArray, List.set_cons_zero, List.set_cons_succ])
    refine wpKeep_takeT (i := 24) (oi := ⟨some 61, _, _, _, _, _⟩) (v := ?_) rfl (by kernel_rfl) (by kernel_rfl) (by kernel_rfl) (by kernel_rfl) (fun _ _ _ h => h) (Or.inl ⟨by rfl, ?_⟩) frx (fun _ => trivial) ?_
    rotate_left
    · intro w' hT
      have c0 := (hT.cell (p := ⟨w.heap.size + 1, 0, none⟩) HSZ.out.2 (fun h => h)).trans C0.out
      have c1 := (hT.cell (p := ⟨w.heap.size + 1, 1, none⟩) HSZ.out.2 (fun h => h)).trans C1.out
      have d0 := (hT.cell (p := ⟨w.heap.size, 0, none⟩) HSZ.out.1 (fun h => h)).trans D0.out
      have d3 := (hT.cell (p := ⟨w.heap.size, 3, none⟩) HSZ.out.1 (fun h => h)).trans D3.out
      go_simp
      (try with_reducible rfl)
    rotate_left
    (try simp only [Act.put, List.setIfInBounds_toArray, List.set_cons_zero, List.set_cons_succ])
    refine wpKeep_takeT (i := 25) (oi := ⟨some 62, _, _, _, _, _⟩) (v := ?_) rfl (by kernel_rfl) (by kernel_rfl) (by kernel_rfl) (by kernel_rfl) (fun _ _ _ h => h) (Or.inl ⟨by rfl, ?_⟩) frx (fun _ => trivial) ?_
    rotate_left
    · intro w' hT
      have c0 := (hT.cell (p := ⟨w.heap.size + 1, 0, none⟩) HSZ.out.2 (fun h => h)).trans C0.out
      have c1 := (hT.cell (p := ⟨w.heap.size + 1, 1, none⟩) HSZ.out.2 (fun h => h)).trans C1.out
      have d0 := (hT.cell (p := ⟨w.heap.size, 0, none⟩) HSZ.out.1 (fun h => h)).trans D0.out
      have d3 := (hT.cell (p := ⟨w.heap.size, 3, none⟩) HSZ.out.1 (fun h => h)).trans D3.out
      go_simp
      (try with_reducible rfl)
    rotate_left
    (try simp only [Act.put, List.setIfInBounds_toArray, List.set_cons_zero, List.set_cons_succ])
    refine wpKeep_takeT (i := 26) (oi := ⟨some 63, _, _, _, _, _⟩) (v := ?_) rfl (by kernel_rfl) (by kernel_rfl) (by kernel_rfl) (by kernel_rfl) (fun _ _ _ h => h) (Or.inl ⟨by rfl, ?_⟩) frx (fun _ => trivial) ?_
    rotate_left
    · intro w' hT
      have c0 := (hT.cell (p := ⟨w.heap.size + 1, 0, none⟩) HSZ.out.2 (fun h => h)).trans C0.out
      have c1 := (hT.cell (p := ⟨w.heap.size + 1, 1, none⟩) HSZ.out.2 (fun h => h)).trans C1.out
      have d0 := (hT.cell (p := ⟨w.heap.size, 0, none⟩) HSZ.out.1 (fun h => h)).trans D0.out
      have d3 := (hT.cell (p := ⟨w.heap.size, 3, none⟩) HSZ.out.1 (fun h => h)).trans D3.out
      go_simp
      (try with_reducible rfl)
    rotate_left
    (try simp only [Act.put, List.setIfInBounds_toArray, List.set_cons_zero, List.set_cons_succ])
    refine wpKeep_takeT (i := 27) (oi := ⟨some 64, _, _, _, _, _⟩) (v := ?_) rfl (by kernel_rfl) (by kernel_rfl) (by kernel_rfl) (by kernel_rfl) (fun _ _ _ h => h) (Or.inl ⟨by rfl, ?_⟩) frx (fun _ => trivial) ?_
    rotate_left
    · intro w' hT
      have c0 := (hT.cell (p := ⟨w.heap.size + 1, 0, none⟩) HSZ.out.2 (fun h => h)).trans C0.out
      have c1 := (hT.cell (p := ⟨w.heap.size + 1, 1, none⟩) HSZ.out.2 (fun h => h)).trans C1.out
      have d0 := (hT.cell (p := ⟨w.heap.size, 0, none⟩) HSZ.out.1 (fun h => h)).trans D0.out
      have d3 := (hT.cell (p := ⟨w.heap.size, 3, none⟩) HSZ.out.1 (fun h => h)).trans D3.out
      go_simp
      (try with_reducible rfl)
    rotate_left
    (try simp only [Act.put, List.setIfInBounds_toArray, List.set_cons_zero, List.set_cons_succ])
    refine wpKeep_takeT (i := 28) (oi := ⟨some 65, _, _, _, _, _⟩) (v := ?_) rfl (by kernel_rfl) (by kernel_rfl) (by kernel_rfl) (by kernel_rfl) (fun _ _ _ h => h) (Or.inl ⟨by rfl, ?_⟩) frx (fun _ => trivial) ?_
    rotate_left
    · intro w' hT
      have c0 := (hT.cell (p := ⟨w.heap.size + 1, 0, none⟩) HSZ.out.2 (fun h => h)).trans C0.out
      have c1 := (hT.cell (p := ⟨w.heap.size + 1, 1, none⟩) HSZ.out.2 (fun h => h)).trans C1.out
      have d0 := (hT.cell (p := ⟨w.heap.size, 0, none⟩) HSZ.out.1 (fun h => h)).trans D0.out
      have d3 := (hT.cell (p := ⟨w.heap.size, 3, none⟩) HSZ.out.1 (fun h => h)).trans D3.out
      go_simp
      (try with_reducible rfl)
    rotate_left
    (try simp only [Act.put, List.setIfInBounds_toArray, List.set_cons_zero, List.set_cons_succ])
    refine wpKeep_takeT (i := 29) (oi := ⟨some 66, _, _, _, _, _⟩) (v := undef) rfl (by kernel_rfl) (by kernel_rfl) (by kernel_rfl) (by kernel_rfl) (fun _ _ _ h => h) (Or.inr ⟨by rfl, rfl⟩) frx (fun _ => trivial) ?_
    (try simp only [Act.put, List.setIfInBounds_toArray, List.set_cons_zero, List.set_cons_succ])
    refine wpKeep_takeT (i := 30) (oi := ⟨some 67, _, _, _, _, _⟩) (v := undef) rfl (by kernel_rfl) (by kernel_rfl) (by kernel_rfl) (by kernel_rfl) (fun _ _ _ h => h) (Or.inr ⟨by rfl, rfl⟩) frx (fun _ => trivial) ?_
    (try simp only [Act.put, List.setIfInBounds_toArray, List.set_cons_zero, List.set_cons_succ])
    refine wpKeep_takeT (i := 31) (oi := ⟨some 68, _, _, _, _, _⟩) (v := ?_) rfl (by kernel_rfl) (by kernel_rfl) (by kernel_rfl) (by kernel_rfl) (fun _ _ _ h => h) (Or.inl ⟨by rfl, ?_⟩) frx (fun _ => trivial) ?_
    rotate_left
    · intro w' hT
      have c0 := (hT.cell (p := ⟨w.heap.size + 1, 0, none⟩) HSZ.out.2 (fun h => h)).trans C0.out
      have c1 := (hT.cell (p := ⟨w.heap.size + 1, 1, none⟩) HSZ.out.2 (fun h => h)).trans C1.out
      have d0 := (hT.cell (p := ⟨w.heap.size, 0, none⟩) HSZ.out.1 (fun h => h)).trans D0.out
      have d3 := (hT.cell (p := ⟨w.heap.size, 3, none⟩) HSZ.out.1 (fun h => h)).trans D3.out
      go_simp
      (try with_reducible rfl)
    rotate_left
    (try simp only [Act.put, List.setIfInBounds_toArray, List.set_cons_zero, List.set_cons_succ])
    refine wpKeep_done (by kernel_rfl) ?_ _
    go_wp2_with fail
    go_ret2
    exact ⟨rfl, f4.trans frx⟩
  cases dL
  · have hbad := HB.out (fun g => absurd g.2.2.2.2 (of_decide_eq_false HDL.out))
    subst hbad
    go_wp2_with fail
    refine wp_region_keep 32 (fun w' => Fresh w3 w') (fun _ => True) (fun _ => true) (by kernel_rfl) (by kernel_rfl) ?_
    (try (change wpKeep _ _ _ _ _ _ _ _ _ _ (World.drew _)))
    refine wpKeep_takeT (i := 0) (oi := ⟨some 37, _, _, _, _, _⟩) (v := ?_) rfl (by kernel_rfl) (by kernel_rfl) (by kernel_rfl) (by kernel_rfl) (fun _ _ _ h => h) (Or.inl ⟨by rfl, ?_⟩) (Keeps.refl _ _).drew (fun _ => trivial) ?_
    rotate_left
    · intro w' hT
      have c0 := (hT.cell (p := ⟨w.heap.size + 1, 0, none⟩) HSZ.out.2 (fun h => h)).trans C0.out
      have c1 := (hT.cell (p := ⟨w.heap.size + 1, 1, none⟩) HSZ.out.2 (fun h => h)).trans C1.out
      have d0 := (hT.cell (p := ⟨w.heap.size, 0, none⟩) HSZ.out.1 (fun h => h)).trans D0.out
      have d3 := (hT.cell (p := ⟨w.heap.size, 3, none⟩) HSZ.out.1 (fun h => h)).trans D3.out
      go_simp
      (try with_reducible rfl)
    rotate_left
    (try simp only [Act.put, List.setIfInBounds_toArray, List.set_cons_zero, List.set_cons_succ])
    refine wpKeep_takeT (i := 1) (oi := ⟨some 38, _, _, _, _, _⟩) (v := ?_) rfl (by kernel_rfl) (by kernel_rfl) (by kernel_rfl) (by kernel_rfl) (fun _ _ _ h => h) (Or.inl ⟨by rfl, ?_⟩) (Keeps.refl _ _).drew (fun _ => trivial) ?_
    rotate_left
    · intro w' hT
      have c0 := (hT.cell (p := ⟨w.heap.size + 1, 0, none⟩) HSZ.out.2 (fun h => h)).trans C0.out
      have c1 := (hT.cell (p := ⟨w.heap.size + 1, 1, none⟩) HSZ.out.2 (fun h => h)).trans C1.out
      have d0 := (hT.cell (p := ⟨w.heap.size, 0, none⟩) HSZ.out.1 (fun h => h)).trans D0.out
      have d3 := (hT.cell (p := ⟨w.heap.size, 3, none⟩) HSZ.out.1 (fun h => h)).trans D3.out
      go_simp
      (try with_reducible rfl)
    rotate_left
    (try simp only [Act.put, List.setIfInBounds_toArray, List.set_cons_zero, List.set_cons_succ])
    refine wpKeep_takeT (i := 2) (oi := ⟨some 39, _, _, _, _, _⟩) (v := ?_) rfl (by kernel_rfl) (by kernel_rfl) (by kernel_rfl) (by kernel_rfl) (fun _ _ _ h => h) (Or.inl ⟨by rfl, ?_⟩) (Keeps.refl _ _).drew (fun _ => trivial) ?_
    rotate_left
    · intro w' hT
      have c0 := (hT.cell (p := ⟨w.heap.size + 1, 0, none⟩) HSZ.out.2 (fun h => h)).trans C0.out
      have c1 := (hT.cell (p := ⟨w.heap.size + 1, 1, none⟩) HSZ.out.2 (fun h => h)).trans C1.out
      have d0 := (hT.cell (p := ⟨w.heap.size, 0, none⟩) HSZ.out.1 (fun h => h)).trans D0.out
      have d3 := (hT.cell (p := ⟨w.heap.size, 3, none⟩) HSZ.out.1 (fun h => h)).trans D3.out
      go_simp
      (try with_reducible rfl)
    rotate_left
    (try simp only [Act.put, List.setIfInBounds_toArray, List.set_cons_zero, List.set_cons_succ])
    refine wpKeep_takeT (i := 3) (oi := ⟨some 40, _, _, _, _, _⟩) (v := ?_) rfl (by kernel_rfl) (by kernel_rfl) (by kernel_rfl) (by kernel_rfl) (fun _ _ _ h => h) (Or.inl ⟨by rfl, ?_⟩) (Keeps.refl _ _).drew (fun _ => trivial) ?_
    rotate_left
    · intro w' hT
      have c0 := (hT.cell (p := ⟨w.heap.size + 1, 0, none⟩) HSZ.out.2 (fun h => h)).trans C0.out
      have c1 := (hT.cell (p := ⟨w.heap.size + 1, 1, none⟩) HSZ.out.2 (fun h => h)).trans C1.out
      have d0 := (hT.cell (p := ⟨w.heap.size, 0, none⟩) HSZ.out.1 (fun h => h)).trans D0.out
      have d3 := (hT.cell (p := ⟨w.heap.size, 3, none⟩) HSZ.out.1 (fun h => h)).trans D3.out
      go_simp
      (try with_reducible rfl)
    rotate_left
    (try simp only [Act.put, List.setIfInBounds_toArray, List.set_cons_zero, List.set_cons_succ])
    refine wpKeep_takeT (i := 4) (oi := ⟨some 41, _, _, _, _, _⟩) (v := ?_) rfl (by kernel_rfl) (by kernel_rfl) (by kernel_rfl) (by kernel_rfl) (fun _ _ _ h => h) (Or.inl ⟨by rfl, ?_⟩) (Keeps.refl _ _).drew (fun _ => trivial) ?_
    rotate_left
    · intro w' hT
      have c0 := (hT.cell (p := ⟨w.heap.size + 1, 0, none⟩) HSZ.out.2 (fun h => h)).trans C0.out
      have c1 := (hT.cell (p := ⟨w.heap.size + 1, 1, none⟩) HSZ.out.2 (fun h => h)).trans C1.out
      have d0 := (hT.cell (p := ⟨w.heap.size, 0, none⟩) HSZ.out.1 (fun h => h)).trans D0.out
      have d3 := (hT.cell (p := ⟨w.heap.size, 3, none⟩) HSZ.out.1 (fun h => h)).trans D3.out
      go_simp
      (try with_reducible rfl)
    rotate_left
    (try simp only [Act.put, List.setIfInBounds_toArray, List.set_cons_zero, List.set_cons_succ])
    refine wpKeep_takeT (i := 5) (oi := ⟨some 42, _, _, _, _, _⟩) (v := ?_) rfl (by kernel_rfl) (by kernel_rfl) (by kernel_rfl) (by kernel_rfl) (fun _ _ _ h => h) (Or.inl ⟨by rfl, ?_⟩) (Keeps.refl _ _).drew (fun _ => trivial) ?_
    rotate_left
    · intro w' hT
      have c0 := (hT.cell (p := ⟨w.heap.size + 1, 0, none⟩) HSZ.out.2 (fun h => h)).trans C0.out
      have c1 := (hT.cell (p := ⟨w.heap.size + 1, 1, none⟩) HSZ.out.2 (fun h => h)).trans C1.out
      have d0 := (hT.cell (p := ⟨w.heap.size, 0, none⟩) HSZ.out.1 (fun h => h)).trans D0.out
      have d3 := (hT.cell (p := ⟨w.heap.size, 3, none⟩) HSZ.out.1 (fun h => h)).trans D3.out
      go_simp
      (try with_reducible rfl)
    rotate_left
    (try simp only [Act.put, List.setIfInBounds_toArray, List.set_cons_zero, List.set_cons_succ])
    refine wpKeep_takeT (i := 6) (oi := ⟨some 43, _, _, _, _, _⟩) (v := ?_) rfl (by kernel_rfl) (by kernel_rfl) (by kernel_rfl) (by kernel_rfl) (fun _ _ _ h => h) (Or.inl ⟨by rfl, ?_⟩) (Keeps.refl _ _).drew (fun _ => trivial) ?_
    rotate_left
    · intro w' hT
      have c0 := (hT.cell (p := ⟨w.heap.size + 1, 0, none⟩) HSZ.out.2 (fun h => h)).trans C0.out
      have c1 := (hT.cell (p := ⟨w.heap.size + 1, 1, none⟩) HSZ.out.2 (fun h => h)).trans C1.out
      have d0 := (hT.cell (p := ⟨w.heap.size, 0, none⟩) HSZ.out.1 (fun h => h)).trans D0.out
      have d3 := (hT.cell (p := ⟨w.heap.size, 3, none⟩) HSZ.out.1 (fun h => h)).trans D3.out
      go_simp
      (try with_reducible rfl)
    rotate_left
    (try simp only [Act.put, List.setIfInBounds_toArray, List.set_cons_zero, List.set_cons_succ])
    refine wpKeep_takeT (i := 7) (oi := ⟨some 44, _, _, _, _, _⟩) (v := ?_) rfl (by kernel_rfl) (by kernel_rfl) (by kernel_rfl) (by kernel_rfl) (fun _ _ _ h => h) (Or.inl ⟨by rfl, ?_⟩) (Keeps.refl _ _).drew (fun _ => trivial) ?_
    rotate_left
    · intro w' hT
      have c0 := (hT.cell (p := ⟨w.heap.size + 1, 0, none⟩) HSZ.out.2 (fun h => h)).trans C0.out
      have c1 := (hT.cell (p := ⟨w.heap.size + 1, 1, none⟩) HSZ.out.2 (fun h => h)).trans C1.out
      have d0 := (hT.cell (p := ⟨w.heap.size, 0, none⟩) HSZ.out.1 (fun h => h)).trans D0.out
      have d3 := (hT.cell (p := ⟨w.heap.size, 3, none⟩) HSZ.out.1 (fun h => h)).trans D3.out
      go_simp
      (try with_reducible rfl)
    rotate_left
    (try simp only [Act.put, List.setIfInBounds_toArray, List.set_cons_zero, List.set_cons_succ])
    refine wpKeep_takeT (i := 8) (oi := ⟨some 45, _, _, _, _, _⟩) (v := ?_) rfl (by kernel_rfl) (by kernel_rfl) (by kernel_rfl) (by kernel_rfl) (fun _ _ _ h => h) (Or.inl ⟨by rfl, ?_⟩) (Keeps.refl _ _).drew (fun _ => trivial) ?_
    rotate_left
    · intro w' hT
      have c0 := (hT.cell (p := ⟨w.heap.size + 1, 0, none⟩) HSZ.out.2 (fun h => h)).trans C0.out
      have c1 := (hT.cell (p := ⟨w.heap.size + 1, 1, none⟩) HSZ.out.2 (fun h => h)).trans C1.out
      have d0 := (hT.cell (p := ⟨w.heap.size, 0, none⟩) HSZ.out.1 (fun h => h)).trans D0.out
      have d3 := (hT.cell (p := ⟨w.heap.size, 3, none⟩) HSZ.out.1 (fun h => h)).trans D3.out
      go_simp
      (try with_reducible rfl)
    rotate_left
    (try simp only [Act.put, List.setIfInBounds_toArray, List.set_cons_zero, List.set_cons_succ])
    refine wpKeep_takeT (i := 9) (oi := ⟨some 46, _, _, _, _, _⟩) (v := ?_) rfl (by kernel_rfl) (by kernel_rfl) (by kernel_rfl) (by kernel_rfl) (fun _ _ _ h => h) (Or.inl ⟨by rfl, ?_⟩) (Keeps.refl _ _).drew (fun _ => trivial) ?_
    rotate_left
    · intro w' hT
      have c0 := (hT.cell (p := ⟨w.heap.size + 1, 0, none⟩) HSZ.out.2 (fun h => h)).trans C0.out
      have c1 := (hT.cell (p := ⟨w.heap.size + 1, 1, none⟩) HSZ.out.2 (fun h => h)).trans C1.out
      have d0 := (hT.cell (p := ⟨w.heap.size, 0, none⟩) HSZ.out.1 (fun h => h)).trans D0.out
      have d3 := (hT.cell (p := ⟨w.heap.size, 3, none⟩) HSZ.out.1 (fun h => h)).trans D3.out
      go_simp
      (try with_reducible rfl)
    rotate_left
    (try simp only [Act.put, List.setIfInBounds_toArray, List.set_cons_zero, List.set_cons_succ])
    refine wpKeep_takeT (i := 10) (oi := ⟨some 47, _, _, _, _, _⟩) (v := ?_) rfl (by kernel_rfl) (by kernel_rfl) (by kernel_rfl) (by kernel_rfl) (fun _ _ _ h => h) (Or.inl ⟨by rfl, ?_⟩) (Keeps.refl _ _).drew (fun _ => trivial) ?_
    rotate_left
    · intro w' hT
      have c0 := (hT.cell (p := ⟨w.heap.size + 1, 0, none⟩) HSZ.out.2 (fun h => h)).trans C0.out
      have c1 := (hT.cell (p := ⟨w.heap.size + 1, 1, none⟩) HSZ.out.2 (fun h => h)).trans C1.out
      have d0 := (hT.cell (p := ⟨w.heap.size, 0, none⟩) HSZ.out.1 (fun h => h)).trans D0.out
      have d3 := (hT.cell (p := ⟨w.heap.size, 3, none⟩) HSZ.out.1 (fun h => h)).trans D3.out
      go_simp
      (try with_reducible rfl)
    rotate_left
    (try simp only [Act.put, List.setIfInBounds_toArray, List.set_cons_zero, List.set_cons_succ])
    refine wpKeep_takeT (i := 11) (oi := ⟨some 48, _, _, _, _, _⟩) (v := ?_) rfl (by kernel_rfl) (by kernel_rfl) (by kernel_rfl) (by kernel_rfl) (fun _ _ _ h => h) (Or.inl ⟨by rfl, ?_⟩) (Keeps.refl _ _).drew (fun _ => trivial) ?_
    rotate_left
    · intro w' hT
      have c0 := (hT.cell (p := ⟨w.heap.size + 1, 0, none⟩) HSZ.out.2 (fun h => h)).trans C0.out
      have c1 := (hT.cell (p := ⟨w.heap.size + 1, 1, none⟩) HSZ.out.2 (fun h => h)).trans C1.out
      have d0 := (hT.cell (p := ⟨w.heap.size, 0, none⟩) HSZ.out.1 (fun h => h)).trans D0.out
      have d3 := (hT.cell (p := ⟨w.heap.size, 3, none⟩) HSZ.out.1 (fun h => h)).trans D3.out
      go_simp
      (try with_reducible rfl)
    rotate_left
    (try simp only [Act.put, List.setIfInBounds_toArray, List.set_cons_zero, List.set_cons_succ])
    refine wpKeep_takeT (i := 12) (oi := ⟨some 49, _, _, _, _, _⟩) (v := ?_) rfl (by kernel_rfl) (by kernel_rfl) (by kernel_rfl) (by kernel_rfl) (fun _ _ _ h => h) (Or.inl ⟨by rfl, ?_⟩) (Keeps.refl _ _).drew (fun _ => trivial) ?_
    rotate_left
    · intro w' hT
      have c0 := (hT.cell (p := ⟨w.heap.size + 1, 0, none⟩) HSZ.out.2 (fun h => h)).trans C0.out
      have c1 := (hT.cell (p := ⟨w.heap.size + 1, 1, none⟩) HSZ.out.2 (fun h => h)).trans C1.out
      have d0 := (hT.cell (p := ⟨w.heap.size, 0, none⟩) HSZ.out.1 (fun h => h)).trans D0.out
      have d3 := (hT.cell (p := ⟨w.heap.size, 3, none⟩) HSZ.out.1 (fun h => h)).trans D3.out
      go_simp
      (try with_reducible rfl)
    rotate_left
    (try simp only [Act.put, List.setIfInBounds_toArray, List.set_cons_zero, List.set_cons_succ])
    refine wpKeep_takeT (i := 13) (oi := ⟨some 50, _, _, _, _, _⟩) (v := ?_) rfl (by kernel_rfl) (by kernel_rfl) (by kernel_rfl) (by kernel_rfl) (fun _ _ _ h => h) (Or.inl ⟨by rfl, ?_⟩) (Keeps.refl _ _).drew (fun _ => trivial) ?_
    rotate_left
    · intro w' hT
      have c0 := (hT.cell (p := ⟨w.heap.size + 1, 0, none⟩) HSZ.out.2 (fun h => h)).trans C0.out
      have c1 := (hT.cell (p := ⟨w.heap.size + 1, 1, none⟩) HSZ.out.2 (fun h => h)).trans C1.out
      have d0 := (hT.cell (p := ⟨w.heap.size, 0, none⟩) HSZ.out.1 (fun h => h)).trans D0.out
      have d3 := (hT.cell (p := ⟨w.heap.size, 3, none⟩) HSZ.out.1 (fun h => h)).trans D3.out
      go_simp
      (try with_reducible rfl)
    rotate_left
    (try simp only [Act.put, List.setIfInBounds_toArray, List.set_cons_zero, List.set_cons_succ])
    refine wpKeep_takeT (i := 14) (oi := ⟨some 51, _, _, _, _, _⟩) (v := ?_) rfl (by kernel_rfl) (by kernel_rfl) (by kernel_rfl) (by kernel_rfl) (fun _ _ _ h => h) (Or.inl ⟨by rfl, ?_⟩) (Keeps.refl _ _).drew (fun _ => trivial) ?_
    rotate_left
    · intro w' hT
      have c0 := (hT.cell (p := ⟨w.heap.size + 1, 0, none⟩) HSZ.out.2 (fun h => h)).trans C0.out
      have c1 := (hT.cell (p := ⟨w.heap.size + 1, 1, none⟩) HSZ.out.2 (fun h => h)).trans C1.out
      have d0 := (hT.cell (p := ⟨w.heap.size, 0, none⟩) HSZ.out.1 (fun h => h)).trans D0.out
      have d3 := (hT.cell (p := ⟨w.heap.size, 3, none⟩) HSZ.out.1 (fun h => h)).trans D3.out
      go_simp
      (try with_reducible rfl)
    rotate_left
    (try simp only [Act.put, List.setIfInBounds_toArray, List.set_cons_zero, List.set_cons_succ])
    refine wpKeep_takeT (i := 15) (oi := ⟨some 52, _, _, _, _, _⟩) (v := ?_) rfl (by kernel_rfl) (by kernel_rfl) (by kernel_rfl) (by kernel_rfl) (fun _ _ _ h => h) (Or.inl ⟨by rfl, ?_⟩) (Keeps.refl _ _).drew (fun _ => trivial) ?_
    rotate_left
    · intro w' hT
      have c0 := (hT.cell (p := ⟨w.heap.size + 1, 0, none⟩) HSZ.out.2 (fun h => h)).trans C0.out
      have c1 := (hT.cell (p := ⟨w.heap.size + 1, 1, none⟩) HSZ.out.2 (fun h => h)).trans C1.out
      have d0 := (hT.cell (p := ⟨w.heap.size, 0, none⟩) HSZ.out.1 (fun h => h)).trans D0.out
      have d3 := (hT.cell (p := ⟨w.heap.size, 3, none⟩) HSZ.out.1 (fun h => h)).trans D3.out
      go_simp
      (try with_reducible rfl)
    rotate_left
    (try simp only [Act.put, List.setIfInBounds_toArray, List.set_cons_zero, List.set_cons_succ])
    refine wpKeep_takeT (i := 16) (oi := ⟨some 53, _, _, _, _, _⟩) (v := ?_) rfl (by kernel_rfl) (by kernel_rfl) (by kernel_rfl) (by kernel_rfl) (fun _ _ _ h => h) (Or.inl ⟨by rfl, ?_⟩) (Keeps.refl _ _).drew (fun _ => trivial) ?_
    rotate_left
    · intro w' hT
      have c0 := (hT.cell (p := ⟨w.heap.size + 1, 0, none⟩) HSZ.out.2 (fun h => h)).trans C0.out
      have c1 := (hT.cell (p := ⟨w.heap.size + 1, 1, none⟩) HSZ.out.2 (fun h => h)).trans C1.out
      have d0 := (hT.cell (p := ⟨w.heap.size, 0, none⟩) HSZ.out.1 (fun h => h)).trans D0.out
      have d3 := (hT.cell (p := ⟨w.heap.size, 3, none⟩) HSZ.out.1 (fun h => h)).trans D3.out
      go_simp
      (try with_reducible rfl)
    rotate_left
    (try simp only [Act.put, List.setIfInBounds_toArray, List.set_cons_zero, List.set_cons_succ])
    refine wpKeep_takeT (i := 17) (oi := ⟨some 54, _, _, _, _, _⟩) (v := ?_) rfl (by kernel_rfl) (by kernel_rfl) (by kernel_rfl) (by kernel_rfl) (fun _ _ _ h => h) (Or.inl ⟨by rfl, ?_⟩) (Keeps.refl _ _).drew (fun _ => trivial) ?_
    rotate_left
    · intro w' hT
      have c0 := (hT.cell (p := ⟨w.heap.size + 1, 0, none⟩) HSZ.out.2 (fun h => h)).trans C0.out
      have c1 := (hT.cell (p := ⟨w.heap.size + 1, 1, none⟩) HSZ.out.2 (fun h => h)).trans C1.out
      have d0 := (hT.cell (p := ⟨w.heap.size, 0, none⟩) HSZ.out.1 (fun h => h)).trans D0.out
      have d3 := (hT.cell (p := ⟨w.heap.size, 3, none⟩) HSZ.out.1 (fun h => h)).trans D3.out
      go_simp
      (try with_reducible rfl)
    rotate_left
    (try simp only [Act.put, List.setIfInBounds_toArray, List.set_cons_zero, List.set_cons_succ])
    refine wpKeep_takeT (i := 18) (oi := ⟨some 55, _, _, _, _, _⟩) (v := ?_) rfl (by kernel_rfl) (by kernel_rfl) (by kernel_rfl) (by kernel_rfl) (fun _ _ _ h => h) (Or.inl ⟨by rfl, ?_⟩) (Keeps.refl _ _).drew (fun _ => trivial) ?_
    rotate_left
    · intro w' hT
      have c0 := (hT.cell (p := ⟨w.heap.size + 1, 0, none⟩) HSZ.out.2 (fun h => h)).trans C0.out
      have c1 := (hT.cell (p := ⟨w.heap.size + 1, 1, none⟩) HSZ.out.2 (fun h => h)).trans C1.out
      have d0 := (hT.cell (p := ⟨w.heap.size, 0, none⟩) HSZ.out.1 (fun h => h)).trans D0.out
      have d3 := (hT.cell (p := ⟨w.heap.size, 3, none⟩) HSZ.out.1 (fun h => h)).trans D3.out
      go_simp
      (try with_reducible rfl)
    rotate_left
    (try simp only [Act.put, List.setIfInBounds_toArray, List.set_cons_zero, List.set_cons_succ])
    refine wpKeep_takeT (i := 19) (oi := ⟨some 56, _, _, _, _, _⟩) (v := ?_) rfl (by kernel_rfl) (by kernel_rfl) (by kernel_rfl) (by kernel_rfl) (fun _ _ _ h => h) (Or.inl ⟨by rfl, ?_⟩) (Keeps.refl _ _).drew (fun _ => trivial) ?_
    rotate_left
    · intro w' hT
      have c0 := (hT.cell (p := ⟨w.heap.size + 1, 0, none⟩) HSZ.out.2 (fun h => h)).trans C0.out
      have c1 := (hT.cell (p := ⟨w.heap.size + 1, 1, none⟩) HSZ.out.2 (fun h => h)).trans C1.out
      have d0 := (hT.cell (p := ⟨w.heap.size, 0, none⟩) HSZ.out.1 (fun h => h)).trans D0.out
      have d3 := (hT.cell (p := ⟨w.heap.size, 3, none⟩) HSZ.out.1 (fun h => h)).trans D3.out
      go_simp
      (try with_reducible rfl)
    rotate_left
    (try simp only [Act.put, List.setIfInBounds_toArray, List.set_cons_zero, List.set_cons_succ])
    refine wpKeep_ready (rs := [20]) (by kernel_rfl) (by simp) ?_
    refine AllKeep.cons (o := ⟨some 57, _, _, _, _, _⟩) rfl (fun K hK => ?_) AllKeep.nil
    go_simp
    go_at_call 44
    refine (HT.out _).mono ?_
    rintro x w7 ⟨v7, rfl, hv7⟩
    obtain ⟨a7, c7, rfl⟩ := ownsRow_slice hv7.1
    have frx : Fresh w3 w7 := (Keeps.refl (fun _ => False) w3).drew.trans hv7.2.2
    dsimp only
    refine hK.out _ _ frx (fun _ => trivial) ?_
    clear hK K
    (try simp only [Act.put, List.setIfInBounds_toArray, List.set_cons_zero, List.set_cons_succ])
    refine wpKeep_takeT (i := 21) (oi := ⟨some 58, _, _, _, _, _⟩) (v := ?_) rfl (by kernel_rfl) (by kernel_rfl) (by kernel_rfl) (by kernel_rfl) (fun _ _ _ h => h) (Or.inl ⟨by rfl, ?_⟩) frx (fun _ => trivial) ?_
    rotate_left
    · intro w' hT
      have c0 := (hT.cell (p := ⟨w.heap.size + 1, 0, none⟩) HSZ.out.2 (fun h => h)).trans C0.out
      have c1 := (hT.cell (p := ⟨w.heap.size + 1, 1, none⟩) HSZ.out.2 (fun h => h)).trans C1.out
      have d0 := (hT.cell (p := ⟨w.heap.size, 0, none⟩) HSZ.out.1 (fun h => h)).trans D0.out
      have d3 := (hT.cell (p := ⟨w.heap.size, 3, none⟩) HSZ.out.1 (fun h => h)).trans D3.out
      go_simp
      (try with_reducible rfl)
    rotate_left
    (try simp only [Act.put, List.setIfInBounds_toArray, List.set_cons_zero, List.set_cons_succ])
    refine wpKeep_takeT (i := 22) (oi := ⟨some 59, _, _, _, _, _⟩) (v := ?_) rfl (by kernel_rfl) (by kernel_rfl) (by kernel_rfl) (by kernel_rfl) (fun _ _ _ h => h) (Or.inl ⟨by rfl, ?_⟩) frx (fun _ => trivial) ?_
    rotate_left
    · intro w' hT
      have c0 := (hT.cell (p := ⟨w.heap.size + 1, 0, none⟩) HSZ.out.2 (fun h => h)).trans C0.out
      have c1 := (hT.cell (p := ⟨w.heap.size + 1, 1, none⟩) HSZ.out.2 (fun h => h)).trans C1.out
      have d0 := (hT.cell (p := ⟨w.heap.size, 0, none⟩) HSZ.out.1 (fun h => h)).trans D0.out
      have d3 := (hT.cell (p := ⟨w.heap.size, 3, none⟩) HSZ.out.1 (fun h => h)).trans D3.out
      go_simp
      (try with_reducible rfl)
    rotate_left
    (try simp only [Act.put, List.setIfInBounds_toArray, List.set_cons_zero, List.set_cons_succ])
    refine wpKeep_takeT (i := 23) (oi := ⟨some 60, _, _, _, _, _⟩) (v := ?_) rfl (by kernel_rfl) (by kernel_rfl) (by kernel_rfl) (by kernel_rfl) (fun _ _ _ h => h) (Or.inl ⟨by rfl, ?_⟩) frx (fun _ => trivial) ?_
    rotate_left
    · intro w' hT
      have c0 := (hT.cell (p := ⟨w.heap.size + 1, 0, none⟩) HSZ.out.2 (fun h => h)).trans C0.out
      have c1 := (hT.cell (p := ⟨w.heap.size + 1, 1, none⟩) HSZ.out.2 (fun h => h)).trans C1.out
      have d0 := (hT.cell (p := ⟨w.heap.size, 0, none⟩) HSZ.out.1 (fun h => h)).trans D0.out
      have d3 := (hT.cell (p := ⟨w.heap.size, 3, none⟩) HSZ.out.1 (fun h => h)).trans D3.out
      go_simp
      (try with_reducible rfl)
    rotate_left
    (try simp only [Act.put, List.setIfInBounds_toArray, List.set_cons_zero, List.set_cons_succ])
    refine wpKeep_takeT (i := 24) (oi := ⟨some 61, _, _, _, _, _⟩) (v := ?_) rfl (by kernel_rfl) (by kernel_rfl) (by kernel_rfl) (by kernel_rfl) (fun _ _ _ h => h) (Or.inl ⟨by rfl, ?_⟩) frx (fun _ => trivial) ?_
    rotate_left
    · intro w' hT
      have c0 := (hT.cell (p := ⟨w.heap.size + 1, 0, none⟩) HSZ.out.2 (fun h => h)).trans C0.out
      have c1 := (hT.cell (p := ⟨w.heap.size + 1, 1, none⟩) HSZ.out.2 (fun h => h)).trans C1.out
      have d0 := (hT.cell (p := ⟨w.heap.size, 0, none⟩) HSZ.out.1 (fun h => h)).trans D0.out
      have d3 := (hT.cell (p := ⟨w.heap.size, 3, none⟩) HSZ.out.1 (fun h => h)).trans D3.out
      go_simp
      (try with_reducible rfl)
    rotate_left
    (try simp only [Act.put, List.setIfInBounds_toArray, List.set_cons_zero, List.set_cons_succ])
    refine wpKeep_takeT (i := 25) (oi := ⟨some 62, _, _, _, _, _⟩) (v := ?_) rfl (by kernel_rfl) (by kernel_rfl) (by kernel_rfl) (by kernel_rfl) (fun _ _ _ h => h) (Or.inl ⟨by rfl, ?_⟩) frx (fun _ => trivial) ?_
    rotate_left
    · intro w' hT
      have c0 := (hT.cell (p := ⟨w.heap.size + 1, 0, none⟩) HSZ.out.2 (fun h => h)).trans C0.out
      have c1 := (hT.cell (p := ⟨w.heap.size + 1, 1, none⟩) HSZ.out.2 (fun h => h)).trans C1.out
      have d0 := (hT.cell (p := ⟨w.heap.size, 0, none⟩) HSZ.out.1 (fun h => h)).trans D0.out
      have d3 := (hT.cell (p := ⟨w.heap.size, 3, none⟩) HSZ.out.1 (fun h => h)).trans D3.out
      go_simp
      (try with_reducible rfl)
    rotate_left
    (try simp only [Act.put, List.setIfInBounds_toArray, List.set_cons_zero, List.set_cons_succ])
    refine wpKeep_takeT (i := 26) (oi := ⟨some 63, _, _, _, _, _⟩) (v := ?_) rfl (by kernel_rfl) (by kernel_rfl) (by kernel_rfl) (by kernel_rfl) (fun _ _ _ h => h) (Or.inl ⟨by rfl, ?_⟩) frx (fun _ => trivial) ?_
    rotate_left
    · intro w' hT
      have c0 := (hT.cell (p := ⟨w.heap.size + 1, 0, none⟩) HSZ.out.2 (fun h => h)).trans C0.out
      have c1 := (hT.cell (p := ⟨w.heap.size + 1, 1, none⟩) HSZ.out.2 (fun h => h)).trans C1.out
      have d0 := (hT.cell (p := ⟨w.heap.size, 0, none⟩) HSZ.out.1 (fun h => h)).trans D0.out
      have d3 := (hT.cell (p := ⟨w.heap.size, 3, none⟩) HSZ.out.1 (fun h => h)).trans D3.out
      go_simp
      (try with_reducible rfl)
    rotate_left
    (try simp only [Act.put, List.setIfInBounds_toArray, List.set_cons_zero, List.set_cons_succ])
    refine wpKeep_takeT (i := 27) (oi := ⟨some 64, _, _, _, _, _⟩) (v := ?_) rfl (by kernel_rfl) (by kernel_rfl) (by kernel_rfl) (by kernel_rfl) (fun _ _ _ h => h) (Or.inl ⟨by rfl, ?_⟩) frx (fun _ => trivial) ?_
    rotate_left
    · intro w' hT
      have c0 := (hT.cell (p := ⟨w.heap.size + 1, 0, none⟩) HSZ.out.2 (fun h => h)).trans C0.out
      have c1 := (hT.cell (p := ⟨w.heap.size + 1, 1, none⟩) HSZ.out.2 (fun h => h)).trans C1.out
      have d0 := (hT.cell (p := ⟨w.heap.size, 0, none⟩) HSZ.out.1 (fun h => h)).trans D0.out
      have d3 := (hT.cell (p := ⟨w.heap.size, 3, none⟩) HSZ.out.1 (fun h => h)).trans D3.out
      go_simp
      (try with_reducible rfl)
    rotate_left
    (try simp only [Act.put, List.setIfInBounds_toArray, List.set_cons_zero, List.set_cons_succ])
    refine wpKeep_takeT (i := 28) (oi := ⟨some 65, _, _, _, _, _⟩) (v := ?_) rfl (by kernel_rfl) (by kernel_rfl) (by kernel_rfl) (by kernel_rfl) (fun _ _ _ h => h) (Or.inl ⟨by rfl, ?_⟩) frx (fun _ => trivial) ?_
    rotate_left
    · intro w' hT
      have c0 := (hT.cell (p := ⟨w.heap.size + 1, 0, none⟩) HSZ.out.2 (fun h => h)).trans C0.out
      have c1 := (hT.cell (p := ⟨w.heap.size + 1, 1, none⟩) HSZ.out.2 (fun h => h)).trans C1.out
      have d0 := (hT.cell (p := ⟨w.heap.size, 0, none⟩) HSZ.out.1 (fun h => h)).trans D0.out
      have d3 := (hT.cell (p := ⟨w.heap.size, 3, none⟩) HSZ.out.1 (fun h => h)).trans D3.out
      go_simp
      (try with_reducible rfl)
    rotate_left
    (try simp only [Act.put, List.setIfInBounds_toArray, List.set_cons_zero, List.set_cons_succ])
    refine wpKeep_takeT (i := 29) (oi := ⟨some 66, _, _, _, _, _⟩) (v := ?_) rfl (by kernel_rfl) (by kernel_rfl) (by kernel_rfl) (by kernel_rfl) (fun _ _ _ h => h) (Or.inl ⟨by rfl, ?_⟩) frx (fun _ => trivial) ?_
    rotate_left
    · intro w' hT
      have c0 := (hT.cell (p := ⟨w.heap.size + 1, 0, none⟩) HSZ.out.2 (fun h => h)).trans C0.out
      have c1 := (hT.cell (p := ⟨w.heap.size + 1, 1, none⟩) HSZ.out.2 (fun h => h)).trans C1.out
      have d0 := (hT.cell (p := ⟨w.heap.size, 0, none⟩) HSZ.out.1 (fun h => h)).trans D0.out
      have d3 := (hT.cell (p := ⟨w.heap.size, 3, none⟩) HSZ.out.1 (fun h => h)).trans D3.out
      go_simp
      (try with_reducible rfl)
    rotate_left
    (try simp only [Act.put, List.setIfInBounds_toArray, List.set_cons_zero, List.set_cons_succ])
    refine wpKeep_takeT (i := 30) (oi := ⟨some 67, _, _, _, _, _⟩) (v := ?_) rfl (by kernel_rfl) (by kernel_rfl) (by kernel_rfl) (by kernel_rfl) (fun _ _ _ h => h) (Or.inl ⟨by rfl, ?_⟩) frx (fun _ => trivial) ?_
    rotate_left
    · intro w' hT
      have c0 := (hT.cell (p := ⟨w.heap.size + 1, 0, none⟩) HSZ.out.2 (fun h => h)).trans C0.out
      have c1 := (hT.cell (p := ⟨w.heap.size + 1, 1, none⟩) HSZ.out.2 (fun h => h)).trans C1.out
      have d0 := (hT.cell (p := ⟨w.heap.size, 0, none⟩) HSZ.out.1 (fun h => h)).trans D0.out
      have d3 := (hT.cell (p := ⟨w.heap.size, 3, none⟩) HSZ.out.1 (fun h => h)).trans D3.out
      go_simp
      (try with_reducible rfl)
    rotate_left
    (try simp only [Act.put, List.setIfInBounds_toArray, List.set_cons_zero, List.set_cons_succ])
    refine wpKeep_takeT (i := 31) (oi := ⟨some 68, _, _, _, _, _⟩) (v := ?_) rfl (by kernel_rfl) (by kernel_rfl) (by kernel_rfl) (by kernel_rfl) (fun _ _ _ h => h) (Or.inl ⟨by rfl, ?_⟩) frx (fun _ => trivial) ?_
    rotate_left
    · intro w' hT
      have c0 := (hT.cell (p := ⟨w.heap.size + 1, 0, none⟩) HSZ.out.2 (fun h => h)).trans C0.out
      have c1 := (hT.cell (p := ⟨w.heap.size + 1, 1, none⟩) HSZ.out.2 (fun h => h)).trans C1.out
      have d0 := (hT.cell (p := ⟨w.heap.size, 0, none⟩) HSZ.out.1 (fun h => h)).trans D0.out
      have d3 := (hT.cell (p := ⟨w.heap.size, 3, none⟩) HSZ.out.1 (fun h => h)).trans D3.out
      go_simp
      (try with_reducible rfl)
    rotate_left
    (try simp only [Act.put, List.setIfInBounds_toArray, List.set_cons_zero, List.set_cons_succ])
    refine wpKeep_done (by kernel_rfl) ?_ _
    go_wp2_with fail
    go_ret2
    exact ⟨rfl, f4.trans frx⟩
  · have h4 := of_decide_eq_true HDH.out
    have h5 := of_decide_eq_true HDL.out
    have hgood := HG.out ⟨H1.out, H2.out, H3.out, h4, h5⟩
    subst hgood
    have H4 := hid h4
    have H5 := hid h5
    clear h4 h5
    go_wp2_with fail
    refine wp_region_keep 32 (fun w' => Fresh w3 w') (fun _ => True) (fun _ => true) (by kernel_rfl) (by kernel_rfl) ?_
    (try (change wpKeep _ _ _ _ _ _ _ _ _ _ (World.drew _)))
    refine wpKeep_takeT (i := 0) (oi := ⟨some 37, _, _, _, _, _⟩) (v := ?_) rfl (by kernel_rfl) (by kernel_rfl) (by kernel_rfl) (by kernel_rfl) (fun _ _ _ h => h) (Or.inl ⟨by rfl, ?_⟩) (Keeps.refl _ _).drew (fun _ => trivial) ?_
    rotate_left
    · intro w' hT
      have c0 := (hT.cell (p := ⟨w.heap.size + 1, 0, none⟩) HSZ.out.2 (fun h => h)).trans C0.out
      have c1 := (hT.cell (p := ⟨w.heap.size + 1, 1, none⟩) HSZ.out.2 (fun h => h)).trans C1.out
      have d0 := (hT.cell (p := ⟨w.heap.size, 0, none⟩) HSZ.out.1 (fun h => h)).trans D0.out
      have d3 := (hT.cell (p := ⟨w.heap.size, 3, none⟩) HSZ.out.1 (fun h => h)).trans D3.out
      go_simp
      (try with_reducible rfl)
    rotate_left
    (try simp only [Act.put, List.setIfInBounds_toArray, List.set_cons_zero, List.set_cons_succ])
    refine wpKeep_takeT (i := 1) (oi := ⟨some 38, _, _, _, _, _⟩) (v := ?_) rfl (by kernel_rfl) (by kernel_rfl) (by kernel_rfl) (by kernel_rfl) (fun _ _ _ h => h) (Or.inl ⟨by rfl, ?_⟩) (Keeps.refl _ _).drew (fun _ => trivial) ?_
    rotate_left
    · intro w' hT
      have c0 := (hT.cell (p := ⟨w.heap.size + 1, 0, none⟩) HSZ.out.2 (fun h => h)).trans C0.out
      have c1 := (hT.cell (p := ⟨w.heap.size + 1, 1, none⟩) HSZ.out.2 (fun h => h)).trans C1.out
      have d0 := (hT.cell (p := ⟨w.heap.size, 0, none⟩) HSZ.out.1 (fun h => h)).trans D0.out
      have d3 := (hT.cell (p := ⟨w.heap.size, 3, none⟩) HSZ.out.1 (fun h => h)).trans D3.out
      go_simp
      (try with_reducible rfl)
    rotate_left
    (try simp only [Act.put, List.setIfInBounds_toArray, List.set_cons_zero, List.set_cons_succ])
    refine wpKeep_takeT (i := 2) (oi := ⟨some 39, _, _, _, _, _⟩) (v := ?_) rfl (by kernel_rfl) (by kernel_rfl) (by kernel_rfl) (by kernel_rfl) (fun _ _ _ h => h) (Or.inl ⟨by rfl, ?_⟩) (Keeps.refl _ _).drew (fun _ => trivial) ?_
    rotate_left
    · intro w' hT
      have c0 := (hT.cell (p := ⟨w.heap.size + 1, 0, none⟩) HSZ.out.2 (fun h => h)).trans C0.out
      have c1 := (hT.cell (p := ⟨w.heap.size + 1, 1, none⟩) HSZ.out.2 (fun h => h)).trans C1.out
      have d0 := (hT.cell (p := ⟨w.heap.size, 0, none⟩) HSZ.out.1 (fun h => h)).trans D0.out
      have d3 := (hT.cell (p := ⟨w.heap.size, 3, none⟩) HSZ.out.1 (fun h => h)).trans D3.out
      go_simp
      (try with_reducible rfl)
    rotate_left
    (try simp only [Act.put, List.setIfInBounds_toArray, List.set_cons_zero, List.set_cons_succ])
    refine wpKeep_takeT (i := 3) (oi := ⟨some 40, _, _, _, _, _⟩) (v := ?_) rfl (by kernel_rfl) (by kernel_rfl) (by kernel_rfl) (by kernel_rfl) (fun _ _ _ h => h) (Or.inl ⟨by rfl, ?_⟩) (Keeps.refl _ _).drew (fun _ => trivial) ?_
    rotate_left
    · intro w' hT
      have c0 := (hT.cell (p := ⟨w.heap.size + 1, 0, none⟩) HSZ.out.2 (fun h => h)).trans C0.out
      have c1 := (hT.cell (p := ⟨w.heap.size + 1, 1, none⟩) HSZ.out.2 (fun h => h)).trans C1.out
      have d0 := (hT.cell (p := ⟨w.heap.size, 0, none⟩) HSZ.out.1 (fun h => h)).trans D0.out
      have d3 := (hT.cell (p := ⟨w.heap.size, 3, none⟩) HSZ.out.1 (fun h => h)).trans D3.out
      go_simp
      (try with_reducible rfl)
    rotate_left
    (try simp only [Act.put, List.setIfInBounds_toArray, List.set_cons_zero, List.set_cons_succ])
    refine wpKeep_takeT (i := 4) (oi := ⟨some 41, _, _, _, _, _⟩) (v := ?_) rfl (by kernel_rfl) (by kernel_rfl) (by kernel_rfl) (by kernel_rfl) (fun _ _ _ h => h) (Or.inl ⟨by rfl, ?_⟩) (Keeps.refl _ _).drew (fun _ => trivial) ?_
    rotate_left
    · intro w' hT
      have c0 := (hT.cell (p := ⟨w.heap.size + 1, 0, none⟩) HSZ.out.2 (fun h => h)).trans C0.out
      have c1 := (hT.cell (p := ⟨w.heap.size + 1, 1, none⟩) HSZ.out.2 (fun h => h)).trans C1.out
      have d0 := (hT.cell (p := ⟨w.heap.size, 0, none⟩) HSZ.out.1 (fun h => h)).trans D0.out
      have d3 := (hT.cell (p := ⟨w.heap.size, 3, none⟩) HSZ.out.1 (fun h => h)).trans D3.out
      go_simp
      (try with_reducible rfl)
    rotate_left
    (try simp only [Act.put, List.setIfInBounds_toArray, List.set_cons_zero, List.set_cons_succ])
    refine wpKeep_takeT (i := 5) (oi := ⟨some 42, _, _, _, _, _⟩) (v := ?_) rfl (by kernel_rfl) (by kernel_rfl) (by kernel_rfl) (by kernel_rfl) (fun _ _ _ h => h) (Or.inl ⟨by rfl, ?_⟩) (Keeps.refl _ _).drew (fun _ => trivial) ?_
    rotate_left
    · intro w' hT
      have c0 := (hT.cell (p := ⟨w.heap.size + 1, 0, none⟩) HSZ.out.2 (fun h => h)).trans C0.out
      have c1 := (hT.cell (p := ⟨w.heap.size + 1, 1, none⟩) HSZ.out.2 (fun h => h)).trans C1.out
      have d0 := (hT.cell (p := ⟨w.heap.size, 0, none⟩) HSZ.out.1 (fun h => h)).trans D0.out
      have d3 := (hT.cell (p := ⟨w.heap.size, 3, none⟩) HSZ.out.1 (fun h => h)).trans D3.out
      go_simp
      (try with_reducible rfl)
    rotate_left
    (try simp only [Act.put, List.setIfInBounds_toArray, List.set_cons_zero, List.set_cons_succ])
    refine wpKeep_takeT (i := 6) (oi := ⟨some 43, _, _, _, _, _⟩) (v := ?_) rfl (by kernel_rfl) (by kernel_rfl) (by kernel_rfl) (by kernel_rfl) (fun _ _ _ h => h) (Or.inl ⟨by rfl, ?_⟩) (Keeps.refl _ _).drew (fun _ => trivial) ?_
    rotate_left
    · intro w' hT
      have c0 := (hT.cell (p := ⟨w.heap.size + 1, 0, none⟩) HSZ.out.2 (fun h => h)).trans C0.out
      have c1 := (hT.cell (p := ⟨w.heap.size + 1, 1, none⟩) HSZ.out.2 (fun h => h)).trans C1.out
      have d0 := (hT.cell (p := ⟨w.heap.size, 0, none⟩) HSZ.out.1 (fun h => h)).trans D0.out
      have d3 := (hT.cell (p := ⟨w.heap.size, 3, none⟩) HSZ.out.1 (fun h => h)).trans D3.out
      go_simp
      (try with_reducible rfl)
    rotate_left
    (try simp only [Act.put, List.setIfInBounds_toArray, List.set_cons_zero, List.set_cons_succ])
    refine wpKeep_takeT (i := 7) (oi := ⟨some 44, _, _, _, _, _⟩) (v := ?_) rfl (by kernel_rfl) (by kernel_rfl) (by kernel_rfl) (by kernel_rfl) (fun _ _ _ h => h) (Or.inl ⟨by rfl, ?_⟩) (Keeps.refl _ _).drew (fun _ => trivial) ?_
    rotate_left
    · intro w' hT
      have c0 := (hT.cell (p := ⟨w.heap.size + 1, 0, none⟩) HSZ.out.2 (fun h => h)).trans C0.out
      have c1 := (hT.cell (p := ⟨w.heap.size + 1, 1, none⟩) HSZ.out.2 (fun h => h)).trans C1.out
      have d0 := (hT.cell (p := ⟨w.heap.size, 0, none⟩) HSZ.out.1 (fun h => h)).trans D0.out
      have d3 := (hT.cell (p := ⟨w.heap.size, 3, none⟩) HSZ.out.1 (fun h => h)).trans D3.out
      go_simp
      (try with_reducible rfl)
    rotate_left
    (try simp only [Act.put, List.setIfInBounds_toArray, List.set_cons_zero, List.set_cons_succ])
    refine wpKeep_takeT (i := 8) (oi := ⟨some 45, _, _, _, _, _⟩) (v := ?_) rfl (by kernel_rfl) (by kernel_rfl) (by kernel_rfl) (by kernel_rfl) (fun _ _ _ h => h) (Or.inl ⟨by rfl, ?_⟩) (Keeps.refl _ _).drew (fun _ => trivial) ?_
    rotate_left
    · intro w' hT
      have c0 := (hT.cell (p := ⟨w.heap.size + 1, 0, none⟩) HSZ.out.2 (fun h => h)).trans C0.out
      have c1 := (hT.cell (p := ⟨w.heap.size + 1, 1, none⟩) HSZ.out.2 (fun h => h)).trans C1.out
      have d0 := (hT.cell (p := ⟨w.heap.size, 0, none⟩) HSZ.out.1 (fun h => h)).trans D0.out
      have d3 := (hT.cell (p := ⟨w.heap.size, 3, none⟩) HSZ.out.1 (fun h => h)).trans D3.out
      go_simp
      (try with_reducible rfl)
    rotate_left
    (try simp only [Act.put, List.setIfInBounds_toArray, List.set_cons_zero, List.set_cons_succ])
    refine wpKeep_takeT (i := 9) (oi := ⟨some 46, _, _, _, _, _⟩) (v := ?_) rfl (by kernel_rfl) (by kernel_rfl) (by kernel_rfl) (by kernel_rfl) (fun _ _ _ h => h) (Or.inl ⟨by rfl, ?_⟩) (Keeps.refl _ _).drew (fun _ => trivial) ?_
    rotate_left
    · intro w' hT
      have c0 := (hT.cell (p := ⟨w.heap.size + 1, 0, none⟩) HSZ.out.2 (fun h => h)).trans C0.out
      have c1 := (hT.cell (p := ⟨w.heap.size + 1, 1, none⟩) HSZ.out.2 (fun h => h)).trans C1.out
      have d0 := (hT.cell (p := ⟨w.heap.size, 0, none⟩) HSZ.out.1 (fun h => h)).trans D0.out
      have d3 := (hT.cell (p := ⟨w.heap.size, 3, none⟩) HSZ.out.1 (fun h => h)).trans D3.out
      go_simp
      (try with_reducible rfl)
    rotate_left
    (try simp only [Act.put, List.setIfInBounds_toArray, List.set_cons_zero, List.set_cons_succ])
    refine wpKeep_takeT (i := 10) (oi := ⟨some 47, _, _, _, _, _⟩) (v := ?_) rfl (by kernel_rfl) (by kernel_rfl) (by kernel_rfl) (by kernel_rfl) (fun _ _ _ h => h) (Or.inl ⟨by rfl, ?_⟩) (Keeps.refl _ _).drew (fun _ => trivial) ?_
    rotate_left
    · intro w' hT
      have c0 := (hT.cell (p := ⟨w.heap.size + 1, 0, none⟩) HSZ.out.2 (fun h => h)).trans C0.out
      have c1 := (hT.cell (p := ⟨w.heap.size + 1, 1, none⟩) HSZ.out.2 (fun h => h)).trans C1.out
      have d0 := (hT.cell (p := ⟨w.heap.size, 0, none⟩) HSZ.out.1 (fun h => h)).trans D0.out
      have d3 := (hT.cell (p := ⟨w.heap.size, 3, none⟩) HSZ.out.1 (fun h => h)).trans D3.out
      go_simp
      (try with_reducible rfl)
    rotate_left
    (try simp only [Act.put, List.setIfInBounds_toArray, List.set_cons_zero, List.set_cons_succ])
    refine wpKeep_takeT (i := 11) (oi := ⟨some 48, _, _, _, _, _⟩) (v := ?_) rfl (by kernel_rfl) (by kernel_rfl) (by kernel_rfl) (by kernel_rfl) (fun _ _ _ h => h) (Or.inl ⟨by rfl, ?_⟩) (Keeps.refl _ _).drew (fun _ => trivial) ?_
    rotate_left
    · intro w' hT
      have c0 := (hT.cell (p := ⟨w.heap.size + 1, 0, none⟩) HSZ.out.2 (fun h => h)).trans C0.out
      have c1 := (hT.cell (p := ⟨w.heap.size + 1, 1, none⟩) HSZ.out.2 (fun h => h)).trans C1.out
      have d0 := (hT.cell (p := ⟨w.heap.size, 0, none⟩) HSZ.out.1 (fun h => h)).trans D0.out
      have d3 := (hT.cell (p := ⟨w.heap.size, 3, none⟩) HSZ.out.1 (fun h => h)).trans D3.out
      go_simp
      (try with_reducible rfl)
    rotate_left
    (try simp only [Act.put, List.setIfInBounds_toArray, List.set_cons_zero, List.set_cons_succ])
    refine wpKeep_takeT (i := 12) (oi := ⟨some 49, _, _, _, _, _⟩) (v := ?_) rfl (by kernel_rfl) (by kernel_rfl) (by kernel_rfl) (by kernel_rfl) (fun _ _ _ h => h) (Or.inl ⟨by rfl, ?_⟩) (Keeps.refl _ _).drew (fun _ => trivial) ?_
    rotate_left
    · intro w' hT
      have c0 := (hT.cell (p := ⟨w.heap.size + 1, 0, none⟩) HSZ.out.2 (fun h => h)).trans C0.out
      have c1 := (hT.cell (p := ⟨w.heap.size + 1, 1, none⟩) HSZ.out.2 (fun h => h)).trans C1.out
      have d0 := (hT.cell (p := ⟨w.heap.size, 0, none⟩) HSZ.out.1 (fun h => h)).trans D0.out
      have d3 := (hT.cell (p := ⟨w.heap.size, 3, none⟩) HSZ.out.1 (fun h => h)).trans D3.out
      go_simp
      (try with_reducible rfl)
    rotate_left
    (try simp only [Act.put, List.setIfInBounds_toArray, List.set_cons_zero, List.set_cons_succ])
    refine wpKeep_takeT (i := 13) (oi := ⟨some 50, _, _, _, _, _⟩) (v := ?_) rfl (by kernel_rfl) (by kernel_rfl) (by kernel_rfl) (by kernel_rfl) (fun _ _ _ h => h) (Or.inl ⟨by rfl, ?_⟩) (Keeps.refl _ _).drew (fun _ => trivial) ?_
    rotate_left
    · intro w' hT
      have c0 := (hT.cell (p := ⟨w.heap.size + 1, 0, none⟩) HSZ.out.2 (fun h => h)).trans C0.out
      have c1 := (hT.cell (p := ⟨w.heap.size + 1, 1, none⟩) HSZ.out.2 (fun h => h)).trans C1.out
      have d0 := (hT.cell (p := ⟨w.heap.size, 0, none⟩) HSZ.out.1 (fun h => h)).trans D0.out
      have d3 := (hT.cell (p := ⟨w.heap.size, 3, none⟩) HSZ.out.1 (fun h => h)).trans D3.out
      go_simp
      (try with_reducible rfl)
    rotate_left
    (try simp only [Act.put, List.setIfInBounds_toArray, List.set_cons_zero, List.set_cons_succ])
    refine wpKeep_takeT (i := 14) (oi := ⟨some 51, _, _, _, _, _⟩) (v := ?_) rfl (by kernel_rfl) (by kernel_rfl) (by kernel_rfl) (by kernel_rfl) (fun _ _ _ h => h) (Or.inl ⟨by rfl, ?_⟩) (Keeps.refl _ _).drew (fun _ => trivial) ?_
    rotate_left
    · intro w' hT
      have c0 := (hT.cell (p := ⟨w.heap.size + 1, 0, none⟩) HSZ.out.2 (fun h => h)).trans C0.out
      have c1 := (hT.cell (p := ⟨w.heap.size + 1, 1, none⟩) HSZ.out.2 (fun h => h)).trans C1.out
      have d0 := (hT.cell (p := ⟨w.heap.size, 0, none⟩) HSZ.out.1 (fun h => h)).trans D0.out
      have d3 := (hT.cell (p := ⟨w.heap.size, 3, none⟩) HSZ.out.1 (fun h => h)).trans D3.out
      go_simp
      (try with_reducible rfl)
    rotate_left
    (try simp only [Act.put, List.setIfInBounds_toArray, List.set_cons_zero, List.set_cons_succ])
    refine wpKeep_takeT (i := 15) (oi := ⟨some 52, _, _, _, _, _⟩) (v := ?_) rfl (by kernel_rfl) (by kernel_rfl) (by kernel_rfl) (by kernel_rfl) (fun _ _ _ h => h) (Or.inl ⟨by rfl, ?_⟩) (Keeps.refl _ _).drew (fun _ => trivial) ?_
    rotate_left
    · intro w' hT
      have c0 := (hT.cell (p := ⟨w.heap.size + 1, 0, none⟩) HSZ.out.2 (fun h => h)).trans C0.out
      have c1 := (hT.cell (p := ⟨w.heap.size + 1, 1, none⟩) HSZ.out.2 (fun h => h)).trans C1.out
      have d0 := (hT.cell (p := ⟨w.heap.size, 0, none⟩) HSZ.out.1 (fun h => h)).trans D0.out
      have d3 := (hT.cell (p := ⟨w.heap.size, 3, none⟩) HSZ.out.1 (fun h => h)).trans D3.out
      go_simp
      (try with_reducible rfl)
    rotate_left
    (try simp only [Act.put, List.setIfInBounds_toArray, List.set_cons_zero, List.set_cons_succ])
    refine wpKeep_takeT (i := 16) (oi := ⟨some 53, _, _, _, _, _⟩) (v := ?_) rfl (by kernel_rfl) (by kernel_rfl) (by kernel_rfl) (by kernel_rfl) (fun _ _ _ h => h) (Or.inl ⟨by rfl, ?_⟩) (Keeps.refl _ _).drew (fun _ => trivial) ?_
    rotate_left
    · intro w' hT
      have c0 := (hT.cell (p := ⟨w.heap.size + 1, 0, none⟩) HSZ.out.2 (fun h => h)).trans C0.out
      have c1 := (hT.cell (p := ⟨w.heap.size + 1, 1, none⟩) HSZ.out.2 (fun h => h)).trans C1.out
      have d0 := (hT.cell (p := ⟨w.heap.size, 0, none⟩) HSZ.out.1 (fun h => h)).trans D0.out
      have d3 := (hT.cell (p := ⟨w.heap.size, 3, none⟩) HSZ.out.1 (fun h => h)).trans D3.out
      go_simp
      (try with_reducible rfl)
    rotate_left
    (try simp only [Act.put, List.setIfInBounds_toArray, List.set_cons_zero, List.set_cons_succ])
    refine wpKeep_takeT (i := 17) (oi := ⟨some 54, _, _, _, _, _⟩) (v := ?_) rfl (by kernel_rfl) (by kernel_rfl) (by kernel_rfl) (by kernel_rfl) (fun _ _ _ h => h) (Or.inl ⟨by rfl, ?_⟩) (Keeps.refl _ _).drew (fun _ => trivial) ?_
    rotate_left
    · intro w' hT
      have c0 := (hT.cell (p := ⟨w.heap.size + 1, 0, none⟩) HSZ.out.2 (fun h => h)).trans C0.out
      have c1 := (hT.cell (p := ⟨w.heap.size + 1, 1, none⟩) HSZ.out.2 (fun h => h)).trans C1.out
      have d0 := (hT.cell (p := ⟨w.heap.size, 0, none⟩) HSZ.out.1 (fun h => h)).trans D0.out
      have d3 := (hT.cell (p := ⟨w.heap.size, 3, none⟩) HSZ.out.1 (fun h => h)).trans D3.out
      go_simp
      (try with_reducible rfl)
    rotate_left
    (try simp only [Act.put, List.setIfInBounds_toArray, List.set_cons_zero, List.set_cons_succ])
    refine wpKeep_takeT (i := 18) (oi := ⟨some 55, _, _, _, _, _⟩) (v := ?_) rfl (by kernel_rfl) (by kernel_rfl) (by kernel_rfl) (by kernel_rfl) (fun _ _ _ h => h) (Or.inl ⟨by rfl, ?_⟩) (Keeps.refl _ _).drew (fun _ => trivial) ?_
    rotate_left
    · intro w' hT
      have c0 := (hT.cell (p := ⟨w.heap.size + 1, 0, none⟩) HSZ.out.2 (fun h => h)).trans C0.out
      have c1 := (hT.cell (p := ⟨w.heap.size + 1, 1, none⟩) HSZ.out.2 (fun h => h)).trans C1.out
      have d0 := (hT.cell (p := ⟨w.heap.size, 0, none⟩) HSZ.out.1 (fun h => h)).trans D0.out
      have d3 := (hT.cell (p := ⟨w.heap.size, 3, none⟩) HSZ.out.1 (fun h => h)).trans D3.out
      go_simp
      (try with_reducible rfl)
    rotate_left
    (try simp only [Act.put, List.setIfInBounds_toArray, List.set_cons_zero, List.set_cons_succ])
    refine wpKeep_takeT (i := 19) (oi := ⟨some 56, _, _, _, _, _⟩) (v := ?_) rfl (by kernel_rfl) (by kernel_rfl) (by kernel_rfl) (by kernel_rfl) (fun _ _ _ h => h) (Or.inl ⟨by rfl, ?_⟩) (Keeps.refl _ _).drew (fun _ => trivial) ?_
    rotate_left
    · intro w' hT
      have c0 := (hT.cell (p := ⟨w.heap.size + 1, 0, none⟩) HSZ.out.2 (fun h => h)).trans C0.out
      have c1 := (hT.cell (p := ⟨w.heap.size + 1, 1, none⟩) HSZ.out.2 (fun h => h)).trans C1.out
      have d0 := (hT.cell (p := ⟨w.heap.size, 0, none⟩) HSZ.out.1 (fun h => h)).trans D0.out
      have d3 := (hT.cell (p := ⟨w.heap.size, 3, none⟩) HSZ.out.1 (fun h => h)).trans D3.out
      go_simp
      (try with_reducible rfl)
    rotate_left
    (try simp only [Act.put, List.setIfInBounds_toArray, List.set_cons_zero, List.set_cons_succ])
    refine wpKeep_ready (rs := [20]) (by kernel_rfl) (by simp) ?_
    refine AllKeep.cons (o := ⟨some 57, _, _, _, _, _⟩) rfl (fun K hK => ?_) AllKeep.nil
    go_simp
    go_at_call 44
    refine (HT.out _).mono ?_
    rintro x w7 ⟨v7, rfl, hv7⟩
    obtain ⟨a7, c7, rfl⟩ := ownsRow_slice hv7.1
    have frx : Fresh w3 w7 := (Keeps.refl (fun _ => False) w3).drew.trans hv7.2.2
    dsimp only
    refine hK.out _ _ frx (fun _ => trivial) ?_
    clear hK K
    (try simp only [Act.put, List.setIfInBounds_toArray, List.set_cons_zero, List.set_cons_succ])
    refine wpKeep_takeT (i := 21) (oi := ⟨some 58, _, _, _, _, _⟩) (v := ?_) rfl (by kernel_rfl) (by kernel_rfl) (by kernel_rfl) (by kernel_rfl) (fun _ _ _ h => h) (Or.inl ⟨by rfl, ?_⟩) frx (fun _ => trivial) ?_
    rotate_left
    · intro w' hT
      have c0 := (hT.cell (p := ⟨w.heap.size + 1, 0, none⟩) HSZ.out.2 (fun h => h)).trans C0.out
      have c1 := (hT.cell (p := ⟨w.heap.size + 1, 1, none⟩) HSZ.out.2 (fun h => h)).trans C1.out
      have d0 := (hT.cell (p := ⟨w.heap.size, 0, none⟩) HSZ.out.1 (fun h => h)).trans D0.out
      have d3 := (hT.cell (p := ⟨w.heap.size, 3, none⟩) HSZ.out.1 (fun h => h)).trans D3.out
      go_simp
      (try with_reducible rfl)
    rotate_left
    (try simp only [Act.put, List.setIfInBounds_toArray, List.set_cons_zero, List.set_cons_succ])
    refine wpKeep_takeT (i := 22) (oi := ⟨some 59, _, _, _, _, _⟩) (v := ?_) rfl (by kernel_rfl) (by kernel_rfl) (by kernel_rfl) (by kernel_rfl) (fun _ _ _ h => h) (Or.inl ⟨by rfl, ?_⟩) frx (fun _ => trivial) ?_
    rotate_left
    · intro w' hT
      have c0 := (hT.cell (p := ⟨w.heap.size + 1, 0, none⟩) HSZ.out.2 (fun h => h)).trans C0.out
      have c1 := (hT.cell (p := ⟨w.heap.size + 1, 1, none⟩) HSZ.out.2 (fun h => h)).trans C1.out
      have d0 := (hT.cell (p := ⟨w.heap.size, 0, none⟩) HSZ.out.1 (fun h => h)).trans D0.out
      have d3 := (hT.cell (p := ⟨w.heap.size, 3, none⟩) HSZ.out.1 (fun h => h)).trans D3.out
      go_simp
      (try with_reducible rfl)
    rotate_left
    (try simp only [Act.put, List.setIfInBounds_toArray, List.set_cons_zero, List.set_cons_succ])
    refine wpKeep_takeT (i := 23) (oi := ⟨some 60, _, _, _, _, _⟩) (v := ?_) rfl (by kernel_rfl) (by kernel_rfl) (by kernel_rfl) (by kernel_rfl) (fun _ _ _ h => h) (Or.inl ⟨by rfl, ?_⟩) frx (fun _ => trivial) ?_
    rotate_left
    · intro w' hT
      have c0 := (hT.cell (p := ⟨w.heap.size + 1, 0, none⟩) HSZ.out.2 (fun h => h)).trans C0.out
      have c1 := (hT.cell (p := ⟨w.heap.size + 1, 1, none⟩) HSZ.out.2 (fun h => h)).trans C1.out
      have d0 := (hT.cell (p := ⟨w.heap.size, 0, none⟩) HSZ.out.1 (fun h => h)).trans D0.out
      have d3 := (hT.cell (p := ⟨w.heap.size, 3, none⟩) HSZ.out.1 (fun h => h)).trans D3.out
      go_simp
      (try with_reducible rfl)
    rotate_left
    (try simp only [Act.put, List.setIfInBounds_toArray, List.set_cons_zero, List.set_cons_succ])
    refine wpKeep_takeT (i := 24) (oi := ⟨some 61, _, _, _, _, _⟩) (v := ?_) rfl (by kernel_rfl) (by kernel_rfl) (by kernel_rfl) (by kernel_rfl) (fun _ _ _ h => h) (Or.inl ⟨by rfl, ?_⟩) frx (fun _ => trivial) ?_
    rotate_left
    · intro w' hT
      have c0 := (hT.cell (p := ⟨w.heap.size + 1, 0, none⟩) HSZ.out.2 (fun h => h)).trans C0.out
      have c1 := (hT.cell (p := ⟨w.heap.size + 1, 1, none⟩) HSZ.out.2 (fun h => h)).trans C1.out
      have d0 := (hT.cell (p := ⟨w.heap.size, 0, none⟩) HSZ.out.1 (fun h => h)).trans D0.out
      have d3 := (hT.cell (p := ⟨w.heap.size, 3, none⟩) HSZ.out.1 (fun h => h)).trans D3.out
      go_simp
      (try with_reducible rfl)
    rotate_left
    (try simp only [Act.put, List.setIfInBounds_toArray, List.set_cons_zero, List.set_cons_succ])
    refine wpKeep_takeT (i := 25) (oi := ⟨some 62, _, _, _, _, _⟩) (v := ?_) rfl (by kernel_rfl) (by kernel_rfl) (by kernel_rfl) (by kernel_rfl) (fun _ _ _ h => h) (Or.inl ⟨by rfl, ?_⟩) frx (fun _ => trivial) ?_
    rotate_left
    · intro w' hT
      have c0 := (hT.cell (p := ⟨w.heap.size + 1, 0, none⟩) HSZ.out.2 (fun h => h)).trans C0.out
      have c1 := (hT.cell (p := ⟨w.heap.size + 1, 1, none⟩) HSZ.out.2 (fun h => h)).trans C1.out
      have d0 := (hT.cell (p := ⟨w.heap.size, 0, none⟩) HSZ.out.1 (fun h => h)).trans D0.out
      have d3 := (hT.cell (p := ⟨w.heap.size, 3, none⟩) HSZ.out.1 (fun h => h)).trans D3.out
      go_simp
      (try with_reducible rfl)
    rotate_left
    (try simp only [Act.put, List.setIfInBounds_toArray, List.set_cons_zero, List.set_cons_succ])
    refine wpKeep_takeT (i := 26) (oi := ⟨some 63, _, _, _, _, _⟩) (v := ?_) rfl (by kernel_rfl) (by kernel_rfl) (by kernel_rfl) (by kernel_rfl) (fun _ _ _ h => h) (Or.inl ⟨by rfl, ?_⟩) frx (fun _ => trivial) ?_
    rotate_left
    · intro w' hT
      have c0 := (hT.cell (p := ⟨w.heap.size + 1, 0, none⟩) HSZ.out.2 (fun h => h)).trans C0.out
      have c1 := (hT.cell (p := ⟨w.heap.size + 1, 1, none⟩) HSZ.out.2 (fun h => h)).trans C1.out
      have d0 := (hT.cell (p := ⟨w.heap.size, 0, none⟩) HSZ.out.1 (fun h => h)).trans D0.out
      have d3 := (hT.cell (p := ⟨w.heap.size, 3, none⟩) HSZ.out.1 (fun h => h)).trans D3.out
      go_simp
      (try with_reducible rfl)
    rotate_left
    (try simp only [Act.put, List.setIfInBounds_toArray, List.set_cons_zero, List.set_cons_succ])
    refine wpKeep_takeT (i := 27) (oi := ⟨some 64, _, _, _, _, _⟩) (v := ?_) rfl (by kernel_rfl) (by kernel_rfl) (by kernel_rfl) (by kernel_rfl) (fun _ _ _ h => h) (Or.inl ⟨by rfl, ?_⟩) frx (fun _ => trivial) ?_
    rotate_left
    · intro w' hT
      have c0 := (hT.cell (p := ⟨w.heap.size + 1, 0, none⟩) HSZ.out.2 (fun h => h)).trans C0.out
      have c1 := (hT.cell (p := ⟨w.heap.size + 1, 1, none⟩) HSZ.out.2 (fun h => h)).trans C1.out
      have d0 := (hT.cell (p := ⟨w.heap.size, 0, none⟩) HSZ.out.1 (fun h => h)).trans D0.out
      have d3 := (hT.cell (p := ⟨w.heap.size, 3, none⟩) HSZ.out.1 (fun h => h)).trans D3.out
      go_simp
      (try with_reducible rfl)
    rotate_left
    (try simp only [Act.put, List.setIfInBounds_toArray, List.set_cons_zero, List.set_cons_succ])
    refine wpKeep_takeT (i := 28) (oi := ⟨some 65, _, _, _, _, _⟩) (v := ?_) rfl (by kernel_rfl) (by kernel_rfl) (by kernel_rfl) (by kernel_rfl) (fun _ _ _ h => h) (Or.inl ⟨by rfl, ?_⟩) frx (fun _ => trivial) ?_
    rotate_left
    · intro w' hT
      have c0 := (hT.cell (p := ⟨w.heap.size + 1, 0, none⟩) HSZ.out.2 (fun h => h)).trans C0.out
      have c1 := (hT.cell (p := ⟨w.heap.size + 1, 1, none⟩) HSZ.out.2 (fun h => h)).trans C1.out
      have d0 := (hT.cell (p := ⟨w.heap.size, 0, none⟩) HSZ.out.1 (fun h => h)).trans D0.out
      have d3 := (hT.cell (p := ⟨w.heap.size, 3, none⟩) HSZ.out.1 (fun h => h)).trans D3.out
      go_simp
      (try with_reducible rfl)
    rotate_left
    (try simp only [Act.put, List.setIfInBounds_toArray, List.set_cons_zero, List.set_cons_succ])
    refine wpKeep_takeT (i := 29) (oi := ⟨some 66, _, _, _, _, _⟩) (v := ?_) rfl (by kernel_rfl) (by kernel_rfl) (by kernel_rfl) (by kernel_rfl) (fun _ _ _ h => h) (Or.inl ⟨by rfl, ?_⟩) frx (fun _ => trivial) ?_
    rotate_left
    · intro w' hT
      have c0 := (hT.cell (p := ⟨w.heap.size + 1, 0, none⟩) HSZ.out.2 (fun h => h)).trans C0.out
      have c1 := (hT.cell (p := ⟨w.heap.size + 1, 1, none⟩) HSZ.out.2 (fun h => h)).trans C1.out
      have d0 := (hT.cell (p := ⟨w.heap.size, 0, none⟩) HSZ.out.1 (fun h => h)).trans D0.out
      have d3 := (hT.cell (p := ⟨w.heap.size, 3, none⟩) HSZ.out.1 (fun h => h)).trans D3.out
      go_simp
      (try with_reducible rfl)
    rotate_left
    (try simp only [Act.put, List.setIfInBounds_toArray, List.set_cons_zero, List.set_cons_succ])
    refine wpKeep_takeT (i := 30) (oi := ⟨some 67, _, _, _, _, _⟩) (v := ?_) rfl (by kernel_rfl) (by kernel_rfl) (by kernel_rfl) (by kernel_rfl) (fun _ _ _ h => h) (Or.inl ⟨by rfl, ?_⟩) frx (fun _ => trivial) ?_
    rotate_left
    · intro w' hT
      have c0 := (hT.cell (p := ⟨w.heap.size + 1, 0, none⟩) HSZ.out.2 (fun h => h)).trans C0.out
      have c1 := (hT.cell (p := ⟨w.heap.size + 1, 1, none⟩) HSZ.out.2 (fun h => h)).trans C1.out
      have d0 := (hT.cell (p := ⟨w.heap.size, 0, none⟩) HSZ.out.1 (fun h => h)).trans D0.out
      have d3 := (hT.cell (p := ⟨w.heap.size, 3, none⟩) HSZ.out.1 (fun h => h)).trans D3.out
      go_simp
      (try with_reducible rfl)
    rotate_left
    (try simp only [Act.put, List.setIfInBounds_toArray, List.set_cons_zero, List.set_cons_succ])
    refine wpKeep_takeT (i := 31) (oi := ⟨some 68, _, _, _, _, _⟩) (v := ?_) rfl (by kernel_rfl) (by kernel_rfl) (by kernel_rfl) (by kernel_rfl) (fun _ _ _ h => h) (Or.inl ⟨by rfl, ?_⟩) frx (fun _ => trivial) ?_
    rotate_left
    · intro w' hT
      have c0 := (hT.cell (p := ⟨w.heap.size + 1, 0, none⟩) HSZ.out.2 (fun h => h)).trans C0.out
      have c1 := (hT.cell (p := ⟨w.heap.size + 1, 1, none⟩) HSZ.out.2 (fun h => h)).trans C1.out
      have d0 := (hT.cell (p := ⟨w.heap.size, 0, none⟩) HSZ.out.1 (fun h => h)).trans D0.out
      have d3 := (hT.cell (p := ⟨w.heap.size, 3, none⟩) HSZ.out.1 (fun h => h)).trans D3.out
      go_simp
      (try with_reducible rfl)
    rotate_left
    (try simp only [Act.put, List.setIfInBounds_toArray, List.set_cons_zero, List.set_cons_succ])
    refine wpKeep_done (by kernel_rfl) ?_ _
    have hr7 := frx.at_ hr3 (fun h => h)
    have c3 := cell_at hr7 3
    have c0 := cell_at hr7 0
    have b7 := frx.at_ hb3 (fun h => h)
    have e0 := cell_at b7 0
    have e1 := cell_at b7 1
    simp at c3 c0 e0 e1
    have f7 := f4.trans frx
    have hsz := f7.size
    have fW := f7.alloc (refC (.slice ao H.length cap) (.slice al L.length cal))
    have hWA : RefAt (w7.alloc (refC (.slice ao H.length cap) (.slice al L.length cal))) w7.heap.size H L :=
      ⟨⟨_, _, heap_alloc_new _ _, (hHB _ hsz).keeps (fW.mono (fun _ _ h => h.elim)), (hLB _ hsz).keeps (fW.mono (fun _ _ h => h.elim))⟩⟩
    have hph := rhash_any b e w7.heap.size hbe 40 0 n H L _ (by omega) (by omega) (by omega) hWA (by rw [HTE.out, H3.out]; exact Nat.le_refl _) (by have := H1.out; unfold inRun; omega) H4.out H5.out
    have HPH := hid hph
    clear hph hWA
    have b8 := ((Keeps.refl (fun _ => False) w7).alloc (refC (.slice ao H.length cap) (.slice al L.length cal))).at_ b7 (fun h => h)
    have r8 := ((Keeps.refl (fun _ => False) w7).alloc (refC (.slice ao H.length cap) (.slice al L.length cal))).at_ hr7 (fun h => h)
    unfold refC at HPH fW b8 r8
    have i0 := (cell_at b8 0).trans (show _ = some (Value.int .i64 (b : Int)) from rfl)
    have i1 := (cell_at b8 1).trans (show _ = some (Value.int .i64 (e : Int)) from rfl)
    have i2 := (cell_at r8 0).trans (show _ = some (Value.int .i64 (n : Int)) from rfl)
    unfold spanV at HPH
    go_wp2_with fail
    refine HPH.out.mono ?_
    rintro x w8 ⟨rfl, k8, -⟩
    go_wp2_with fail
    go_ret2
    exact ⟨rfl, fW.trans' k8 (fun q hq h => by omega)⟩
end Go.Proofs.YtgikabafaocemaaDoor
