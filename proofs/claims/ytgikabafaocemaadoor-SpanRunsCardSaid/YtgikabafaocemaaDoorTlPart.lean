/-
  The tree of tiles: Part.
-/
import Derived.Test.YtgikabafaocemaaDoorTlNew
import Derived.Test.YtgikabafaocemaaDoorMSpB
import Derived.Test.YtgikabafaocemaaDoorMSpA
namespace Go.Proofs.YtgikabafaocemaaDoor
open Go.RowKit Go.Maps

set_option maxRecDepth 100000 in
set_option maxHeartbeats 2000000 in
theorem there_any (S : Nat → Prop) (tb h : Nat) (L : List (List UInt8)) (b e : Nat) (w : World) (ht : TileTree S w tb h L) (hbe : b ≤ e) (he : e ≤ L.length) :
    Calls Tryd.prog 86 #[.pointer (some ⟨tb, 0, none⟩), spanV (b, e)] w fun x w' => x = .returned (.bool true) ∧ Fresh w w' := by
  obtain ⟨mb, hc⟩ := ht.at_.cell
  have f0 : Fresh w (w.alloc (spanC b e)) := (Keeps.refl _ _).alloc _
  have hb := heap_alloc_new w (spanC b e)
  have hc0 := f0.at_ hc (fun h => h)
  unfold spanC at hb hc0 f0
  have c0 := (cell_at hb 0).trans (show _ = some (Value.int .i64 (b : Int)) from rfl)
  have c1 := (cell_at hb 1).trans (show _ = some (Value.int .i64 (e : Int)) from rfl)
  have d1 := (cell_at hc0 1).trans (show _ = some (Value.int .i64 (L.length : Int)) from rfl)
  have n0 := lt_of_block hb
  have n1 := lt_of_block hc0
  have q1 : decide (b ≤ e) = true := decide_eq_true hbe
  have q2 : decide (e ≤ L.length) = true := decide_eq_true he
  have q0 : decide ((0 : Int) ≤ (b : Int)) = true := decide_eq_true (by omega)
  have C0 := hid c0
  have C1 := hid c1
  have D1 := hid d1
  clear c0 c1 d1 hc hbe he ht
  unfold spanV
  go_enter Tryd.func86, Tryd.ntmps86
  go_wp2_with fail
  generalize w.alloc (.cells #[.int .i64 (b : Int), .int .i64 (e : Int)] 24) = w1 at *
  refine wp_region_keep 20 (fun w' => Fresh w1 w') (fun _ => True) (fun _ => true) (by kernel_rfl) (by kernel_rfl) ?_
  (try (change wpKeep _ _ _ _ _ _ _ _ _ _ (World.drew _)))
  refine wpKeep_takeT (i := 0) (oi := ⟨some 5, _, _, _, _, _⟩) (v := ?_) rfl (by kernel_rfl) (by kernel_rfl) (by kernel_rfl) (by kernel_rfl) (fun _ _ _ h => h) (Or.inl ⟨by rfl, ?_⟩) (Keeps.refl _ _).drew (fun _ => trivial) ?_
  rotate_left
  · intro w' hT
    have c0 := (hT.cell (p := ⟨w.heap.size, 0, none⟩) n0 (fun h => h)).trans C0.out
    have c1 := (hT.cell (p := ⟨w.heap.size, 1, none⟩) n0 (fun h => h)).trans C1.out
    have d1 := (hT.cell (p := ⟨tb, 1, none⟩) n1 (fun h => h)).trans D1.out
    go_simp
    (try with_reducible rfl)
  rotate_left
  (try simp only [Act.put, List.setIfInBounds_toArray, List.set_cons_zero, List.set_cons_succ])
  refine wpKeep_takeT (i := 1) (oi := ⟨some 6, _, _, _, _, _⟩) (v := ?_) rfl (by kernel_rfl) (by kernel_rfl) (by kernel_rfl) (by kernel_rfl) (fun _ _ _ h => h) (Or.inl ⟨by rfl, ?_⟩) (Keeps.refl _ _).drew (fun _ => trivial) ?_
  rotate_left
  · intro w' hT
    have c0 := (hT.cell (p := ⟨w.heap.size, 0, none⟩) n0 (fun h => h)).trans C0.out
    have c1 := (hT.cell (p := ⟨w.heap.size, 1, none⟩) n0 (fun h => h)).trans C1.out
    have d1 := (hT.cell (p := ⟨tb, 1, none⟩) n1 (fun h => h)).trans D1.out
    go_simp
    (try with_reducible rfl)
  rotate_left
  (try simp only [Act.put, List.setIfInBounds_toArray, List.set_cons_zero, List.set_cons_succ])
  refine wpKeep_takeT (i := 2) (oi := ⟨some 7, _, _, _, _, _⟩) (v := ?_) rfl (by kernel_rfl) (by kernel_rfl) (by kernel_rfl) (by kernel_rfl) (fun _ _ _ h => h) (Or.inl ⟨by rfl, ?_⟩) (Keeps.refl _ _).drew (fun _ => trivial) ?_
  rotate_left
  · intro w' hT
    have c0 := (hT.cell (p := ⟨w.heap.size, 0, none⟩) n0 (fun h => h)).trans C0.out
    have c1 := (hT.cell (p := ⟨w.heap.size, 1, none⟩) n0 (fun h => h)).trans C1.out
    have d1 := (hT.cell (p := ⟨tb, 1, none⟩) n1 (fun h => h)).trans D1.out
    go_simp
    (try with_reducible rfl)
  rotate_left
  (try simp only [Act.put, List.setIfInBounds_toArray, List.set_cons_zero, List.set_cons_succ])
  refine wpKeep_takeT (i := 3) (oi := ⟨some 8, _, _, _, _, _⟩) (v := ?_) rfl (by kernel_rfl) (by kernel_rfl) (by kernel_rfl) (by kernel_rfl) (fun _ _ _ h => h) (Or.inl ⟨by rfl, ?_⟩) (Keeps.refl _ _).drew (fun _ => trivial) ?_
  rotate_left
  · intro w' hT
    have c0 := (hT.cell (p := ⟨w.heap.size, 0, none⟩) n0 (fun h => h)).trans C0.out
    have c1 := (hT.cell (p := ⟨w.heap.size, 1, none⟩) n0 (fun h => h)).trans C1.out
    have d1 := (hT.cell (p := ⟨tb, 1, none⟩) n1 (fun h => h)).trans D1.out
    go_simp
    (try with_reducible rfl)
  rotate_left
  (try simp only [Act.put, List.setIfInBounds_toArray, List.set_cons_zero, List.set_cons_succ])
  refine wpKeep_takeT (i := 4) (oi := ⟨some 9, _, _, _, _, _⟩) (v := ?_) rfl (by kernel_rfl) (by kernel_rfl) (by kernel_rfl) (by kernel_rfl) (fun _ _ _ h => h) (Or.inl ⟨by rfl, ?_⟩) (Keeps.refl _ _).drew (fun _ => trivial) ?_
  rotate_left
  · intro w' hT
    have c0 := (hT.cell (p := ⟨w.heap.size, 0, none⟩) n0 (fun h => h)).trans C0.out
    have c1 := (hT.cell (p := ⟨w.heap.size, 1, none⟩) n0 (fun h => h)).trans C1.out
    have d1 := (hT.cell (p := ⟨tb, 1, none⟩) n1 (fun h => h)).trans D1.out
    go_simp
    (try with_reducible rfl)
  rotate_left
  (try simp only [Act.put, List.setIfInBounds_toArray, List.set_cons_zero, List.set_cons_succ])
  refine wpKeep_takeT (i := 5) (oi := ⟨some 10, _, _, _, _, _⟩) (v := ?_) rfl (by kernel_rfl) (by kernel_rfl) (by kernel_rfl) (by kernel_rfl) (fun _ _ _ h => h) (Or.inl ⟨by rfl, ?_⟩) (Keeps.refl _ _).drew (fun _ => trivial) ?_
  rotate_left
  · intro w' hT
    have c0 := (hT.cell (p := ⟨w.heap.size, 0, none⟩) n0 (fun h => h)).trans C0.out
    have c1 := (hT.cell (p := ⟨w.heap.size, 1, none⟩) n0 (fun h => h)).trans C1.out
    have d1 := (hT.cell (p := ⟨tb, 1, none⟩) n1 (fun h => h)).trans D1.out
    go_simp
    (try with_reducible rfl)
  rotate_left
  (try simp only [Act.put, List.setIfInBounds_toArray, List.set_cons_zero, List.set_cons_succ])
  refine wpKeep_takeT (i := 6) (oi := ⟨some 11, _, _, _, _, _⟩) (v := ?_) rfl (by kernel_rfl) (by kernel_rfl) (by kernel_rfl) (by kernel_rfl) (fun _ _ _ h => h) (Or.inl ⟨by rfl, ?_⟩) (Keeps.refl _ _).drew (fun _ => trivial) ?_
  rotate_left
  · intro w' hT
    have c0 := (hT.cell (p := ⟨w.heap.size, 0, none⟩) n0 (fun h => h)).trans C0.out
    have c1 := (hT.cell (p := ⟨w.heap.size, 1, none⟩) n0 (fun h => h)).trans C1.out
    have d1 := (hT.cell (p := ⟨tb, 1, none⟩) n1 (fun h => h)).trans D1.out
    go_simp
    (try with_reducible rfl)
  rotate_left
  (try simp only [Act.put, List.setIfInBounds_toArray, List.set_cons_zero, List.set_cons_succ])
  refine wpKeep_takeT (i := 7) (oi := ⟨some 12, _, _, _, _, _⟩) (v := ?_) rfl (by kernel_rfl) (by kernel_rfl) (by kernel_rfl) (by kernel_rfl) (fun _ _ _ h => h) (Or.inl ⟨by rfl, ?_⟩) (Keeps.refl _ _).drew (fun _ => trivial) ?_
  rotate_left
  · intro w' hT
    have c0 := (hT.cell (p := ⟨w.heap.size, 0, none⟩) n0 (fun h => h)).trans C0.out
    have c1 := (hT.cell (p := ⟨w.heap.size, 1, none⟩) n0 (fun h => h)).trans C1.out
    have d1 := (hT.cell (p := ⟨tb, 1, none⟩) n1 (fun h => h)).trans D1.out
    go_simp
    (try with_reducible rfl)
  rotate_left
  (try simp only [Act.put, List.setIfInBounds_toArray, List.set_cons_zero, List.set_cons_succ])
  refine wpKeep_takeT (i := 8) (oi := ⟨some 13, _, _, _, _, _⟩) (v := ?_) rfl (by kernel_rfl) (by kernel_rfl) (by kernel_rfl) (by kernel_rfl) (fun _ _ _ h => h) (Or.inl ⟨by rfl, ?_⟩) (Keeps.refl _ _).drew (fun _ => trivial) ?_
  rotate_left
  · intro w' hT
    have c0 := (hT.cell (p := ⟨w.heap.size, 0, none⟩) n0 (fun h => h)).trans C0.out
    have c1 := (hT.cell (p := ⟨w.heap.size, 1, none⟩) n0 (fun h => h)).trans C1.out
    have d1 := (hT.cell (p := ⟨tb, 1, none⟩) n1 (fun h => h)).trans D1.out
    go_simp
    (try with_reducible rfl)
  rotate_left
  (try simp only [Act.put, List.setIfInBounds_toArray, List.set_cons_zero, List.set_cons_succ])
  refine wpKeep_takeT (i := 9) (oi := ⟨some 14, _, _, _, _, _⟩) (v := ?_) rfl (by kernel_rfl) (by kernel_rfl) (by kernel_rfl) (by kernel_rfl) (fun _ _ _ h => h) (Or.inl ⟨by rfl, ?_⟩) (Keeps.refl _ _).drew (fun _ => trivial) ?_
  rotate_left
  · intro w' hT
    have c0 := (hT.cell (p := ⟨w.heap.size, 0, none⟩) n0 (fun h => h)).trans C0.out
    have c1 := (hT.cell (p := ⟨w.heap.size, 1, none⟩) n0 (fun h => h)).trans C1.out
    have d1 := (hT.cell (p := ⟨tb, 1, none⟩) n1 (fun h => h)).trans D1.out
    go_simp
    (try with_reducible rfl)
  rotate_left
  (try simp only [Act.put, List.setIfInBounds_toArray, List.set_cons_zero, List.set_cons_succ])
  refine wpKeep_takeT (i := 10) (oi := ⟨some 15, _, _, _, _, _⟩) (v := ?_) rfl (by kernel_rfl) (by kernel_rfl) (by kernel_rfl) (by kernel_rfl) (fun _ _ _ h => h) (Or.inl ⟨by rfl, ?_⟩) (Keeps.refl _ _).drew (fun _ => trivial) ?_
  rotate_left
  · intro w' hT
    have c0 := (hT.cell (p := ⟨w.heap.size, 0, none⟩) n0 (fun h => h)).trans C0.out
    have c1 := (hT.cell (p := ⟨w.heap.size, 1, none⟩) n0 (fun h => h)).trans C1.out
    have d1 := (hT.cell (p := ⟨tb, 1, none⟩) n1 (fun h => h)).trans D1.out
    go_simp
    (try with_reducible rfl)
  rotate_left
  (try simp only [Act.put, List.setIfInBounds_toArray, List.set_cons_zero, List.set_cons_succ])
  refine wpKeep_takeT (i := 11) (oi := ⟨some 16, _, _, _, _, _⟩) (v := ?_) rfl (by kernel_rfl) (by kernel_rfl) (by kernel_rfl) (by kernel_rfl) (fun _ _ _ h => h) (Or.inl ⟨by rfl, ?_⟩) (Keeps.refl _ _).drew (fun _ => trivial) ?_
  rotate_left
  · intro w' hT
    have c0 := (hT.cell (p := ⟨w.heap.size, 0, none⟩) n0 (fun h => h)).trans C0.out
    have c1 := (hT.cell (p := ⟨w.heap.size, 1, none⟩) n0 (fun h => h)).trans C1.out
    have d1 := (hT.cell (p := ⟨tb, 1, none⟩) n1 (fun h => h)).trans D1.out
    go_simp
    (try with_reducible rfl)
  rotate_left
  (try simp only [Act.put, List.setIfInBounds_toArray, List.set_cons_zero, List.set_cons_succ])
  refine wpKeep_takeT (i := 12) (oi := ⟨some 17, _, _, _, _, _⟩) (v := ?_) rfl (by kernel_rfl) (by kernel_rfl) (by kernel_rfl) (by kernel_rfl) (fun _ _ _ h => h) (Or.inl ⟨by rfl, ?_⟩) (Keeps.refl _ _).drew (fun _ => trivial) ?_
  rotate_left
  · intro w' hT
    have c0 := (hT.cell (p := ⟨w.heap.size, 0, none⟩) n0 (fun h => h)).trans C0.out
    have c1 := (hT.cell (p := ⟨w.heap.size, 1, none⟩) n0 (fun h => h)).trans C1.out
    have d1 := (hT.cell (p := ⟨tb, 1, none⟩) n1 (fun h => h)).trans D1.out
    go_simp
    (try with_reducible rfl)
  rotate_left
  (try simp only [Act.put, List.setIfInBounds_toArray, List.set_cons_zero, List.set_cons_succ])
  refine wpKeep_takeT (i := 13) (oi := ⟨some 18, _, _, _, _, _⟩) (v := ?_) rfl (by kernel_rfl) (by kernel_rfl) (by kernel_rfl) (by kernel_rfl) (fun _ _ _ h => h) (Or.inl ⟨by rfl, ?_⟩) (Keeps.refl _ _).drew (fun _ => trivial) ?_
  rotate_left
  · intro w' hT
    have c0 := (hT.cell (p := ⟨w.heap.size, 0, none⟩) n0 (fun h => h)).trans C0.out
    have c1 := (hT.cell (p := ⟨w.heap.size, 1, none⟩) n0 (fun h => h)).trans C1.out
    have d1 := (hT.cell (p := ⟨tb, 1, none⟩) n1 (fun h => h)).trans D1.out
    go_simp
    (try with_reducible rfl)
  rotate_left
  (try simp only [Act.put, List.setIfInBounds_toArray, List.set_cons_zero, List.set_cons_succ])
  refine wpKeep_takeT (i := 14) (oi := ⟨some 19, _, _, _, _, _⟩) (v := ?_) rfl (by kernel_rfl) (by kernel_rfl) (by kernel_rfl) (by kernel_rfl) (fun _ _ _ h => h) (Or.inl ⟨by rfl, ?_⟩) (Keeps.refl _ _).drew (fun _ => trivial) ?_
  rotate_left
  · intro w' hT
    have c0 := (hT.cell (p := ⟨w.heap.size, 0, none⟩) n0 (fun h => h)).trans C0.out
    have c1 := (hT.cell (p := ⟨w.heap.size, 1, none⟩) n0 (fun h => h)).trans C1.out
    have d1 := (hT.cell (p := ⟨tb, 1, none⟩) n1 (fun h => h)).trans D1.out
    go_simp
    (try with_reducible rfl)
  rotate_left
  (try simp only [Act.put, List.setIfInBounds_toArray, List.set_cons_zero, List.set_cons_succ])
  refine wpKeep_takeT (i := 15) (oi := ⟨some 20, _, _, _, _, _⟩) (v := ?_) rfl (by kernel_rfl) (by kernel_rfl) (by kernel_rfl) (by kernel_rfl) (fun _ _ _ h => h) (Or.inl ⟨by rfl, ?_⟩) (Keeps.refl _ _).drew (fun _ => trivial) ?_
  rotate_left
  · intro w' hT
    have c0 := (hT.cell (p := ⟨w.heap.size, 0, none⟩) n0 (fun h => h)).trans C0.out
    have c1 := (hT.cell (p := ⟨w.heap.size, 1, none⟩) n0 (fun h => h)).trans C1.out
    have d1 := (hT.cell (p := ⟨tb, 1, none⟩) n1 (fun h => h)).trans D1.out
    go_simp
    (try with_reducible rfl)
  rotate_left
  (try simp only [Act.put, List.setIfInBounds_toArray, List.set_cons_zero, List.set_cons_succ])
  refine wpKeep_takeT (i := 16) (oi := ⟨some 21, _, _, _, _, _⟩) (v := ?_) rfl (by kernel_rfl) (by kernel_rfl) (by kernel_rfl) (by kernel_rfl) (fun _ _ _ h => h) (Or.inl ⟨by rfl, ?_⟩) (Keeps.refl _ _).drew (fun _ => trivial) ?_
  rotate_left
  · intro w' hT
    have c0 := (hT.cell (p := ⟨w.heap.size, 0, none⟩) n0 (fun h => h)).trans C0.out
    have c1 := (hT.cell (p := ⟨w.heap.size, 1, none⟩) n0 (fun h => h)).trans C1.out
    have d1 := (hT.cell (p := ⟨tb, 1, none⟩) n1 (fun h => h)).trans D1.out
    go_simp
    (try with_reducible rfl)
  rotate_left
  (try simp only [Act.put, List.setIfInBounds_toArray, List.set_cons_zero, List.set_cons_succ])
  refine wpKeep_takeT (i := 17) (oi := ⟨some 22, _, _, _, _, _⟩) (v := ?_) rfl (by kernel_rfl) (by kernel_rfl) (by kernel_rfl) (by kernel_rfl) (fun _ _ _ h => h) (Or.inl ⟨by rfl, ?_⟩) (Keeps.refl _ _).drew (fun _ => trivial) ?_
  rotate_left
  · intro w' hT
    have c0 := (hT.cell (p := ⟨w.heap.size, 0, none⟩) n0 (fun h => h)).trans C0.out
    have c1 := (hT.cell (p := ⟨w.heap.size, 1, none⟩) n0 (fun h => h)).trans C1.out
    have d1 := (hT.cell (p := ⟨tb, 1, none⟩) n1 (fun h => h)).trans D1.out
    go_simp
    (try with_reducible rfl)
  rotate_left
  (try simp only [Act.put, List.setIfInBounds_toArray, List.set_cons_zero, List.set_cons_succ])
  refine wpKeep_takeT (i := 18) (oi := ⟨some 23, _, _, _, _, _⟩) (v := ?_) rfl (by kernel_rfl) (by kernel_rfl) (by kernel_rfl) (by kernel_rfl) (fun _ _ _ h => h) (Or.inl ⟨by rfl, ?_⟩) (Keeps.refl _ _).drew (fun _ => trivial) ?_
  rotate_left
  · intro w' hT
    have c0 := (hT.cell (p := ⟨w.heap.size, 0, none⟩) n0 (fun h => h)).trans C0.out
    have c1 := (hT.cell (p := ⟨w.heap.size, 1, none⟩) n0 (fun h => h)).trans C1.out
    have d1 := (hT.cell (p := ⟨tb, 1, none⟩) n1 (fun h => h)).trans D1.out
    go_simp
    (try with_reducible rfl)
  rotate_left
  (try simp only [Act.put, List.setIfInBounds_toArray, List.set_cons_zero, List.set_cons_succ])
  refine wpKeep_takeT (i := 19) (oi := ⟨some 4, _, _, _, _, _⟩) (v := ?_) rfl (by kernel_rfl) (by kernel_rfl) (by kernel_rfl) (by kernel_rfl) (fun _ _ _ h => h) (Or.inl ⟨by rfl, ?_⟩) (Keeps.refl _ _).drew (fun _ => trivial) ?_
  rotate_left
  · intro w' hT
    have c0 := (hT.cell (p := ⟨w.heap.size, 0, none⟩) n0 (fun h => h)).trans C0.out
    have c1 := (hT.cell (p := ⟨w.heap.size, 1, none⟩) n0 (fun h => h)).trans C1.out
    have d1 := (hT.cell (p := ⟨tb, 1, none⟩) n1 (fun h => h)).trans D1.out
    go_simp
    (try with_reducible rfl)
  rotate_left
  (try simp only [Act.put, List.setIfInBounds_toArray, List.set_cons_zero, List.set_cons_succ])
  refine wpKeep_done (by kernel_rfl) ?_ _
  go_wp2_with fail
  go_ret
  exact ⟨rfl, f0.drew⟩

theorem nodeOf_sl (L : List (List UInt8)) (lv i b e : Nat) (hb : i * 2 ^ lv = b) (he : e = b + 2 ^ lv) : nodeOf L lv i = hashL (sl L b e) := by
  unfold nodeOf sl
  rw [hb, he, Nat.add_sub_cancel_left]
theorem lenN_pos {n : Nat} (h : 1 ≤ n) : lenN n = Nat.log2 n + 1 := by unfold lenN; rw [if_neg (by omega)]

set_option maxRecDepth 100000 in
set_option maxHeartbeats 4000000 in
theorem part_step (S : Nat → Prop) (tb h : Nat) (L : List (List UInt8)) (b e : Nat) (w : World) (ht : TileTree S w tb h L) (hd : Dig w) (hbe : b < e) (he : e ≤ L.length)
    (ih : ∀ b' e' W, b' < e' → e' - b' < e - b → e' ≤ L.length → TileTree S W tb h L → Dig W → Calls Tryd.prog 87 #[.pointer (some ⟨tb, 0, none⟩), spanV (b', e')] W fun x w' => x = .returned (.string (str (hashL (sl L b' e')))) ∧ Fresh W w') :
    Calls Tryd.prog 87 #[.pointer (some ⟨tb, 0, none⟩), spanV (b, e)] w fun x w' => x = .returned (.string (str (hashL (sl L b e)))) ∧ Fresh w w' := by
  have hlen := ht.len
  have hlg := Nat.log2_self_le (n := e - b) (by omega)
  have hlg2 := Nat.lt_log2_self (n := e - b)
  have hl20 : Nat.log2 (e - b) ≤ 20 := by
    have : Nat.log2 (e - b) < 21 := (Nat.log2_lt (by omega)).2 (by omega)
    omega
  have hlv := fun W => len_any (e - b) W (by omega)
  rw [lenN_pos (by omega)] at hlv
  obtain ⟨lv, hlvE⟩ : ∃ lv, Nat.log2 (e - b) = lv := ⟨_, rfl⟩
  rw [hlvE] at hlg hlg2 hl20 hlv
  rw [show ((lv + 1 : Nat) : Int) = (lv : Int) + 1 from rfl, show ((e - b : Nat) : Int) = (e : Int) - (b : Int) from by omega] at hlv
  have f0 : Fresh w (w.alloc (spanC b e)) := (Keeps.refl _ _).alloc _
  have hb := heap_alloc_new w (spanC b e)
  unfold spanC at hb f0
  have hP : (2 : Int) ^ lv = ((2 ^ lv : Nat) : Int) := by simp
  have hP1 : 2 ^ lv ≤ 1048576 := by omega
  have hW : wrap64 ((2 : Int) ^ lv) = ((2 ^ lv : Nat) : Int) := by rw [hP, wrap_small (by omega) (by omega)]
  have hbl : (b : Int) ≤ 1048576 := by omega
  have hel : (e : Int) ≤ 1048576 := by omega
  have hbe' : (b : Int) < (e : Int) := by omega
  have HLV := hid hlv
  have HLG := hid hlg
  have HLG2 := hid hlg2
  have HL20 := hid hl20
  have HBE := hid hbe
  have HE := hid he
  have hz : (lv : Int) ≤ 20 := by omega
  clear hlv hlg hlg2 hl20 hlvE
  unfold spanV at *
  by_cases h2 : e - b = 2 ^ lv
  · have h2i : (e : Int) - (b : Int) = (2 : Int) ^ lv := by rw [hP]; omega
    have hPi : (2 : Int) ^ lv ≤ 1048576 := by rw [hP]; omega
    have hPp : (1 : Int) ≤ (2 : Int) ^ lv := by rw [hP]; omega
    have g2 : bits BinOp.and IntKind.i64 (b : Int) ((2 : Int) ^ lv - 1) = ((b % 2 ^ lv : Nat) : Int) := by
      rw [hP, show ((2 ^ lv : Nat) : Int) - 1 = ((2 ^ lv - 1 : Nat) : Int) by omega, and_nat (by omega) (by omega), Nat.and_two_pow_sub_one_eq_mod]
    have H2 := hid h2
    have HP := hid hP
    clear hP h2
    by_cases h3 : b % 2 ^ lv = 0
    · rw [h3] at g2
      rw [show (((0 : Nat) : Int)) = 0 from rfl] at g2
      have hi : b / 2 ^ lv * 2 ^ lv = b := Nat.div_mul_cancel (Nat.dvd_of_mod_eq_zero h3)
      have hnl : b / 2 ^ lv < L.length / 2 ^ lv := by
        have h0 : 0 < 2 ^ lv := Nat.pow_pos (by omega)
        have h5 : b / 2 ^ lv + 1 ≤ L.length / 2 ^ lv := by
          rw [Nat.le_div_iff_mul_le h0, Nat.add_mul, Nat.one_mul, hi]
          have := H2.out; have := HE.out; omega
        omega
      have hnode := fun W (q : TileTree S W tb h L) => tlnode_any S tb h lv (b / 2 ^ lv) _ _ _ _ W q.at_ (by have := HL20.out; omega) (by have := Nat.div_le_self b (2 ^ lv); have := HE.out; omega) hnl
      rw [nodeOf_sl L lv (b / 2 ^ lv) b e hi (by have := H2.out; have := HBE.out; omega)] at hnode
      have hsh : (b : Int) / 2 ^ lv = ((b / 2 ^ lv : Nat) : Int) := by simp
      rw [← hsh] at hnode
      have HNODE := hid hnode
      obtain ⟨R, hR⟩ : ∃ R, hashL (sl L b e) = R := ⟨_, rfl⟩
      rw [hR] at HNODE ⊢
      clear hnode hsh hnl hi h3 hR ih hW
      go_enter Tryd.func87, Tryd.ntmps87
      go_wp2_with fail
      refine (by first | exact HLV.out _ | (rw [← h2i]; exact HLV.out _) : Calls _ _ _ _ _).mono ?_
      rintro x w1 ⟨rfl, f1⟩
      have hb1 := f1.at_ hb (fun h => h)
      have c0 := (cell_at hb1 0).trans (show _ = some (Value.int .i64 (b : Int)) from rfl)
      have c1 := (cell_at hb1 1).trans (show _ = some (Value.int .i64 (e : Int)) from rfl)
      clear hb hb1
      go_wp2_with fail
      refine (HNODE.out w1 (ht.fresh (f0.trans f1))).mono ?_
      rintro x w2 ⟨rfl, f2⟩
      go_wp2_with fail
      go_ret
      exact ⟨rfl, (f0.trans f1).trans f2⟩
    · obtain ⟨r, hr⟩ : ∃ r, b % 2 ^ lv = r := ⟨_, rfl⟩
      rw [hr] at g2 h3
      have h3' : ((r : Int) == 0) = false := by simpa using h3
      have h4 : 2 ≤ e - b := by
        have h2 := H2.out
        apply Classical.byContradiction
        intro hc
        have : 2 ^ lv = 1 := by omega
        rw [this, Nat.mod_one] at hr
        omega
      obtain ⟨s1, s2, s3⟩ := splitN_facts (n := e - b) (by omega)
      have hhs := hashL_sl (L := L) (b := b) (e := e) (by omega) HE.out
      have hsplE : splitN (e - b) = 2 ^ Nat.log2 (e - b - 1) := rfl
      have hlk2 := fun W => len_any (e - b - 1) W (by omega)
      rw [lenN_pos (by omega)] at hlk2
      obtain ⟨lk, hlkE⟩ : ∃ lk, Nat.log2 (e - b - 1) = lk := ⟨_, rfl⟩
      obtain ⟨sp, hspE⟩ : ∃ sp, splitN (e - b) = sp := ⟨_, rfl⟩
      rw [hlkE] at hlk2 hsplE
      rw [hspE] at s1 s2 s3 hsplE hhs
      have hlk20 : lk ≤ 20 := by
        rw [← hlkE]
        have : Nat.log2 (e - b - 1) < 21 := (Nat.log2_lt (by omega)).2 (by omega)
        omega
      rw [show ((lk + 1 : Nat) : Int) = (lk : Int) + 1 from rfl, show ((e - b - 1 : Nat) : Int) = (e : Int) - (b : Int) - 1 from by omega] at hlk2
      have hspi : (2 : Int) ^ lk = (sp : Int) := by rw [hsplE]; simp
      have hspl : (sp : Int) ≤ 1048576 := by omega
      have hsp1 : (1 : Int) ≤ (sp : Int) := by omega
      have hlki : (lk : Int) ≤ 20 := by omega
      have hwr : IntKind.i64.wrap ((b : Int) + (sp : Int)) = (b : Int) + (sp : Int) := by rw [IntKind.wrap_i64]; omega
      have ih1 := fun W q1 q2 => ih b (b + sp) W (by omega) (by omega) (by have := HE.out; omega) q1 q2
      have ih2 := fun W q1 q2 => ih (b + sp) e W (by omega) (by omega) HE.out q1 q2
      rw [show ((b + sp : Nat) : Int) = (b : Int) + (sp : Int) from rfl] at ih1 ih2
      have hl1 : (hashL (sl L b (b + sp))).length = 32 := hashL_len (fun x hx => ht.all x (List.mem_of_mem_drop (List.mem_of_mem_take hx)))
      have hl2 : (hashL (sl L (b + sp) e)).length = 32 := hashL_len (fun x hx => ht.all x (List.mem_of_mem_drop (List.mem_of_mem_take hx)))
      rw [hhs]
      obtain ⟨RA, hRA⟩ : ∃ R, hashL (sl L b (b + sp)) = R := ⟨_, rfl⟩
      obtain ⟨RB, hRB⟩ : ∃ R, hashL (sl L (b + sp) e) = R := ⟨_, rfl⟩
      rw [hRA] at hl1 ih1 ⊢
      rw [hRB] at hl2 ih2 ⊢
      have HL2 := hid hlk2
      have IH1 := hid ih1
      have IH2 := hid ih2
      have HA := hid hl1
      have HB := hid hl2
      clear hlk2 ih1 ih2 ih hRA hRB hl1 hl2 hhs hsplE hspE hlkE s1 s2 s3 hlk20
      clear h3 hr h4 hW
      go_enter Tryd.func87, Tryd.ntmps87
      go_wp2_with fail
      refine (by first | exact HLV.out _ | (rw [← h2i]; exact HLV.out _) : Calls _ _ _ _ _).mono ?_
      rintro x w1 ⟨rfl, f1⟩
      have hb1 := f1.at_ hb (fun h => h)
      have c0 := (cell_at hb1 0).trans (show _ = some (Value.int .i64 (b : Int)) from rfl)
      have c1 := (cell_at hb1 1).trans (show _ = some (Value.int .i64 (e : Int)) from rfl)
      go_wp2_with fail
      refine (by first | exact HL2.out _ | (rw [← h2i]; exact HL2.out _) : Calls _ _ _ _ _).mono ?_
      rintro x w2 ⟨rfl, f2⟩
      have f12 := (f0.trans f1).trans f2
      have hb2 := f2.at_ hb1 (fun h => h)
      clear c0 c1
      have C0 := hid ((cell_at hb2 0).trans (show _ = some (Value.int .i64 (b : Int)) from rfl))
      have C1 := hid ((cell_at hb2 1).trans (show _ = some (Value.int .i64 (e : Int)) from rfl))
      have n0 := lt_of_block hb2
      clear hb hb1 hb2
      go_wp2_with fail
      refine wp_region_keep 20 (fun w' => Fresh w2 w') (fun _ => True) (fun _ => true) (by kernel_rfl) (by kernel_rfl) ?_
      (try (change wpKeep _ _ _ _ _ _ _ _ _ _ (World.drew _)))
      refine wpKeep_takeT (i := 0) (oi := ⟨some 46, _, _, _, _, _⟩) (v := ?_) rfl (by kernel_rfl) (by kernel_rfl) (by kernel_rfl) (by kernel_rfl) (fun _ _ _ h => h) (Or.inl ⟨by rfl, ?_⟩) (Keeps.refl _ _).drew (fun _ => trivial) ?_
      rotate_left
      · intro w' hT
        have c0 := (hT.cell (p := ⟨w.heap.size, 0, none⟩) n0 (fun h => h)).trans C0.out
        have c1 := (hT.cell (p := ⟨w.heap.size, 1, none⟩) n0 (fun h => h)).trans C1.out
        go_simp
        (try with_reducible rfl)
      rotate_left
      (try simp only [Act.put, List.setIfInBounds_toArray, List.set_cons_zero, List.set_cons_succ])
      refine wpKeep_takeT (i := 1) (oi := ⟨some 47, _, _, _, _, _⟩) (v := ?_) rfl (by kernel_rfl) (by kernel_rfl) (by kernel_rfl) (by kernel_rfl) (fun _ _ _ h => h) (Or.inl ⟨by rfl, ?_⟩) (Keeps.refl _ _).drew (fun _ => trivial) ?_
      rotate_left
      · intro w' hT
        have c0 := (hT.cell (p := ⟨w.heap.size, 0, none⟩) n0 (fun h => h)).trans C0.out
        have c1 := (hT.cell (p := ⟨w.heap.size, 1, none⟩) n0 (fun h => h)).trans C1.out
        go_simp
        (try with_reducible rfl)
      rotate_left
      (try simp only [Act.put, List.setIfInBounds_toArray, List.set_cons_zero, List.set_cons_succ])
      refine wpKeep_takeT (i := 2) (oi := ⟨some 48, _, _, _, _, _⟩) (v := ?_) rfl (by kernel_rfl) (by kernel_rfl) (by kernel_rfl) (by kernel_rfl) (fun _ _ _ h => h) (Or.inl ⟨by rfl, ?_⟩) (Keeps.refl _ _).drew (fun _ => trivial) ?_
      rotate_left
      · intro w' hT
        have c0 := (hT.cell (p := ⟨w.heap.size, 0, none⟩) n0 (fun h => h)).trans C0.out
        have c1 := (hT.cell (p := ⟨w.heap.size, 1, none⟩) n0 (fun h => h)).trans C1.out
        go_simp
        (try with_reducible rfl)
      rotate_left
      (try simp only [Act.put, List.setIfInBounds_toArray, List.set_cons_zero, List.set_cons_succ])
      refine wpKeep_takeT (i := 3) (oi := ⟨some 49, _, _, _, _, _⟩) (v := ?_) rfl (by kernel_rfl) (by kernel_rfl) (by kernel_rfl) (by kernel_rfl) (fun _ _ _ h => h) (Or.inl ⟨by rfl, ?_⟩) (Keeps.refl _ _).drew (fun _ => trivial) ?_
      rotate_left
      · intro w' hT
        have c0 := (hT.cell (p := ⟨w.heap.size, 0, none⟩) n0 (fun h => h)).trans C0.out
        have c1 := (hT.cell (p := ⟨w.heap.size, 1, none⟩) n0 (fun h => h)).trans C1.out
        go_simp
        (try with_reducible rfl)
      rotate_left
      (try simp only [Act.put, List.setIfInBounds_toArray, List.set_cons_zero, List.set_cons_succ])
      refine wpKeep_takeT (i := 4) (oi := ⟨some 50, _, _, _, _, _⟩) (v := ?_) rfl (by kernel_rfl) (by kernel_rfl) (by kernel_rfl) (by kernel_rfl) (fun _ _ _ h => h) (Or.inl ⟨by rfl, ?_⟩) (Keeps.refl _ _).drew (fun _ => trivial) ?_
      rotate_left
      · intro w' hT
        have c0 := (hT.cell (p := ⟨w.heap.size, 0, none⟩) n0 (fun h => h)).trans C0.out
        have c1 := (hT.cell (p := ⟨w.heap.size, 1, none⟩) n0 (fun h => h)).trans C1.out
        go_simp
        (try with_reducible rfl)
      rotate_left
      (try simp only [Act.put, List.setIfInBounds_toArray, List.set_cons_zero, List.set_cons_succ])
      refine wpKeep_takeT (i := 5) (oi := ⟨some 51, _, _, _, _, _⟩) (v := ?_) rfl (by kernel_rfl) (by kernel_rfl) (by kernel_rfl) (by kernel_rfl) (fun _ _ _ h => h) (Or.inl ⟨by rfl, ?_⟩) (Keeps.refl _ _).drew (fun _ => trivial) ?_
      rotate_left
      · intro w' hT
        have c0 := (hT.cell (p := ⟨w.heap.size, 0, none⟩) n0 (fun h => h)).trans C0.out
        have c1 := (hT.cell (p := ⟨w.heap.size, 1, none⟩) n0 (fun h => h)).trans C1.out
        go_simp
        (try with_reducible rfl)
      rotate_left
      (try simp only [Act.put, List.setIfInBounds_toArray, List.set_cons_zero, List.set_cons_succ])
      refine wpKeep_takeT (i := 6) (oi := ⟨some 52, _, _, _, _, _⟩) (v := ?_) rfl (by kernel_rfl) (by kernel_rfl) (by kernel_rfl) (by kernel_rfl) (fun _ _ _ h => h) (Or.inl ⟨by rfl, ?_⟩) (Keeps.refl _ _).drew (fun _ => trivial) ?_
      rotate_left
      · intro w' hT
        have c0 := (hT.cell (p := ⟨w.heap.size, 0, none⟩) n0 (fun h => h)).trans C0.out
        have c1 := (hT.cell (p := ⟨w.heap.size, 1, none⟩) n0 (fun h => h)).trans C1.out
        go_simp
        (try with_reducible rfl)
      rotate_left
      (try simp only [Act.put, List.setIfInBounds_toArray, List.set_cons_zero, List.set_cons_succ])
      refine wpKeep_takeT (i := 7) (oi := ⟨some 53, _, _, _, _, _⟩) (v := ?_) rfl (by kernel_rfl) (by kernel_rfl) (by kernel_rfl) (by kernel_rfl) (fun _ _ _ h => h) (Or.inl ⟨by rfl, ?_⟩) (Keeps.refl _ _).drew (fun _ => trivial) ?_
      rotate_left
      · intro w' hT
        have c0 := (hT.cell (p := ⟨w.heap.size, 0, none⟩) n0 (fun h => h)).trans C0.out
        have c1 := (hT.cell (p := ⟨w.heap.size, 1, none⟩) n0 (fun h => h)).trans C1.out
        go_simp
        (try with_reducible rfl)
      rotate_left
      (try simp only [Act.put, List.setIfInBounds_toArray, List.set_cons_zero, List.set_cons_succ])
      refine wpKeep_takeT (i := 9) (oi := ⟨some 55, _, _, _, _, _⟩) (v := ?_) rfl (by kernel_rfl) (by kernel_rfl) (by kernel_rfl) (by kernel_rfl) (fun _ _ _ h => h) (Or.inl ⟨by rfl, ?_⟩) (Keeps.refl _ _).drew (fun _ => trivial) ?_
      rotate_left
      · intro w' hT
        have c0 := (hT.cell (p := ⟨w.heap.size, 0, none⟩) n0 (fun h => h)).trans C0.out
        have c1 := (hT.cell (p := ⟨w.heap.size, 1, none⟩) n0 (fun h => h)).trans C1.out
        go_simp
        (try with_reducible rfl)
      rotate_left
      (try simp only [Act.put, List.setIfInBounds_toArray, List.set_cons_zero, List.set_cons_succ])
      refine wpKeep_takeT (i := 10) (oi := ⟨some 56, _, _, _, _, _⟩) (v := ?_) rfl (by kernel_rfl) (by kernel_rfl) (by kernel_rfl) (by kernel_rfl) (fun _ _ _ h => h) (Or.inl ⟨by rfl, ?_⟩) (Keeps.refl _ _).drew (fun _ => trivial) ?_
      rotate_left
      · intro w' hT
        have c0 := (hT.cell (p := ⟨w.heap.size, 0, none⟩) n0 (fun h => h)).trans C0.out
        have c1 := (hT.cell (p := ⟨w.heap.size, 1, none⟩) n0 (fun h => h)).trans C1.out
        go_simp
        (try with_reducible rfl)
      rotate_left
      (try simp only [Act.put, List.setIfInBounds_toArray, List.set_cons_zero, List.set_cons_succ])
      refine wpKeep_takeT (i := 11) (oi := ⟨some 57, _, _, _, _, _⟩) (v := ?_) rfl (by kernel_rfl) (by kernel_rfl) (by kernel_rfl) (by kernel_rfl) (fun _ _ _ h => h) (Or.inl ⟨by rfl, ?_⟩) (Keeps.refl _ _).drew (fun _ => trivial) ?_
      rotate_left
      · intro w' hT
        have c0 := (hT.cell (p := ⟨w.heap.size, 0, none⟩) n0 (fun h => h)).trans C0.out
        have c1 := (hT.cell (p := ⟨w.heap.size, 1, none⟩) n0 (fun h => h)).trans C1.out
        go_simp
        (try with_reducible rfl)
      rotate_left
      (try simp only [Act.put, List.setIfInBounds_toArray, List.set_cons_zero, List.set_cons_succ])
      refine wpKeep_takeT (i := 12) (oi := ⟨some 58, _, _, _, _, _⟩) (v := ?_) rfl (by kernel_rfl) (by kernel_rfl) (by kernel_rfl) (by kernel_rfl) (fun _ _ _ h => h) (Or.inl ⟨by rfl, ?_⟩) (Keeps.refl _ _).drew (fun _ => trivial) ?_
      rotate_left
      · intro w' hT
        have c0 := (hT.cell (p := ⟨w.heap.size, 0, none⟩) n0 (fun h => h)).trans C0.out
        have c1 := (hT.cell (p := ⟨w.heap.size, 1, none⟩) n0 (fun h => h)).trans C1.out
        go_simp
        (try with_reducible rfl)
      rotate_left
      (try simp only [Act.put, List.setIfInBounds_toArray, List.set_cons_zero, List.set_cons_succ])
      refine wpKeep_takeT (i := 13) (oi := ⟨some 59, _, _, _, _, _⟩) (v := ?_) rfl (by kernel_rfl) (by kernel_rfl) (by kernel_rfl) (by kernel_rfl) (fun _ _ _ h => h) (Or.inl ⟨by rfl, ?_⟩) (Keeps.refl _ _).drew (fun _ => trivial) ?_
      rotate_left
      · intro w' hT
        have c0 := (hT.cell (p := ⟨w.heap.size, 0, none⟩) n0 (fun h => h)).trans C0.out
        have c1 := (hT.cell (p := ⟨w.heap.size, 1, none⟩) n0 (fun h => h)).trans C1.out
        go_simp
        (try with_reducible rfl)
      rotate_left
      (try simp only [Act.put, List.setIfInBounds_toArray, List.set_cons_zero, List.set_cons_succ])
      refine wpKeep_takeT (i := 14) (oi := ⟨some 60, _, _, _, _, _⟩) (v := ?_) rfl (by kernel_rfl) (by kernel_rfl) (by kernel_rfl) (by kernel_rfl) (fun _ _ _ h => h) (Or.inl ⟨by rfl, ?_⟩) (Keeps.refl _ _).drew (fun _ => trivial) ?_
      rotate_left
      · intro w' hT
        have c0 := (hT.cell (p := ⟨w.heap.size, 0, none⟩) n0 (fun h => h)).trans C0.out
        have c1 := (hT.cell (p := ⟨w.heap.size, 1, none⟩) n0 (fun h => h)).trans C1.out
        go_simp
        (try with_reducible rfl)
      rotate_left
      (try simp only [Act.put, List.setIfInBounds_toArray, List.set_cons_zero, List.set_cons_succ])
      refine wpKeep_takeT (i := 15) (oi := ⟨some 61, _, _, _, _, _⟩) (v := ?_) rfl (by kernel_rfl) (by kernel_rfl) (by kernel_rfl) (by kernel_rfl) (fun _ _ _ h => h) (Or.inl ⟨by rfl, ?_⟩) (Keeps.refl _ _).drew (fun _ => trivial) ?_
      rotate_left
      · intro w' hT
        have c0 := (hT.cell (p := ⟨w.heap.size, 0, none⟩) n0 (fun h => h)).trans C0.out
        have c1 := (hT.cell (p := ⟨w.heap.size, 1, none⟩) n0 (fun h => h)).trans C1.out
        go_simp
        (try with_reducible rfl)
      rotate_left
      (try simp only [Act.put, List.setIfInBounds_toArray, List.set_cons_zero, List.set_cons_succ])
      refine wpKeep_takeT (i := 16) (oi := ⟨some 62, _, _, _, _, _⟩) (v := ?_) rfl (by kernel_rfl) (by kernel_rfl) (by kernel_rfl) (by kernel_rfl) (fun _ _ _ h => h) (Or.inl ⟨by rfl, ?_⟩) (Keeps.refl _ _).drew (fun _ => trivial) ?_
      rotate_left
      · intro w' hT
        have c0 := (hT.cell (p := ⟨w.heap.size, 0, none⟩) n0 (fun h => h)).trans C0.out
        have c1 := (hT.cell (p := ⟨w.heap.size, 1, none⟩) n0 (fun h => h)).trans C1.out
        go_simp
        (try with_reducible rfl)
      rotate_left
      (try simp only [Act.put, List.setIfInBounds_toArray, List.set_cons_zero, List.set_cons_succ])
      refine wpKeep_ready (rs := [8]) (by kernel_rfl) (by simp) ?_
      refine AllKeep.cons (o := ⟨some 54, _, _, _, _, _⟩) rfl (fun K hK => ?_) AllKeep.nil
      go_simp
      go_at_call 87
      with_reducible refine (IH1.out _ (ht.fresh (f12.trans (Keeps.refl (fun _ => False) w2).drew)) (hd.fresh (f12.trans (Keeps.refl (fun _ => False) w2).drew))).mono ?_
      rintro x w3 ⟨rfl, f3⟩
      have f3 := (Keeps.refl (fun _ => False) w2).drew.trans f3
      dsimp only
      refine hK.out _ _ f3 (fun _ => trivial) ?_
      clear hK K
      (try simp only [Act.put, List.setIfInBounds_toArray, List.set_cons_zero, List.set_cons_succ])
      refine wpKeep_ready (rs := [17]) (by kernel_rfl) (by simp) ?_
      refine AllKeep.cons (o := ⟨some 63, _, _, _, _, _⟩) rfl (fun K hK => ?_) AllKeep.nil
      go_simp
      go_at_call 87
      with_reducible refine (IH2.out _ (ht.fresh (f12.trans f3)) (hd.fresh (f12.trans f3))).mono ?_
      rintro x w4 ⟨rfl, f4⟩
      have f4 := f3.trans f4
      dsimp only
      refine hK.out _ _ f4 (fun _ => trivial) ?_
      clear hK K
      (try simp only [Act.put, List.setIfInBounds_toArray, List.set_cons_zero, List.set_cons_succ])
      refine wpKeep_ready (rs := [18]) (by kernel_rfl) (by simp) ?_
      refine AllKeep.cons (o := ⟨some 64, _, _, _, _, _⟩) rfl (fun K hK => ?_) AllKeep.nil
      go_simp
      go_at_call 80
      with_reducible refine (pair_any RA RB HA.out HB.out _ (hd.fresh (f12.trans f4))).mono ?_
      rintro x w5 ⟨rfl, f5⟩
      have f5 := f4.trans f5
      dsimp only
      refine hK.out _ _ f5 (fun _ => trivial) ?_
      clear hK K
      (try simp only [Act.put, List.setIfInBounds_toArray, List.set_cons_zero, List.set_cons_succ])
      refine wpKeep_takeT (i := 19) (oi := ⟨some 4, _, _, _, _, _⟩) (v := ?_) rfl (by kernel_rfl) (by kernel_rfl) (by kernel_rfl) (by kernel_rfl) (fun _ _ _ h => h) (Or.inl ⟨by rfl, ?_⟩) f5 (fun _ => trivial) ?_
      rotate_left
      · intro w' hT
        have c0 := (hT.cell (p := ⟨w.heap.size, 0, none⟩) n0 (fun h => h)).trans C0.out
        have c1 := (hT.cell (p := ⟨w.heap.size, 1, none⟩) n0 (fun h => h)).trans C1.out
        go_simp
        (try with_reducible rfl)
      rotate_left
      (try simp only [Act.put, List.setIfInBounds_toArray, List.set_cons_zero, List.set_cons_succ])
      refine wpKeep_done (by kernel_rfl) ?_ _
      go_wp2_with fail
      go_ret
      exact ⟨rfl, f12.trans f5⟩
  · have h4 : 2 ≤ e - b := by
      apply Classical.byContradiction
      intro hc
      have h5 : e - b = 1 := by omega
      rw [h5] at HLG
      have := HLG.out
      have h6 : 0 < 2 ^ lv := Nat.pow_pos (by omega)
      omega
    have h2i : ¬ (e : Int) - (b : Int) = (2 : Int) ^ lv := by rw [hP]; omega
    have h2j : ((e : Int) - (b : Int) == (2 : Int) ^ lv) = false := by simpa using h2i
    have hPi : (2 : Int) ^ lv ≤ 1048576 := by rw [hP]; omega
    have hPp : (1 : Int) ≤ (2 : Int) ^ lv := by
      have h6 : 0 < 2 ^ lv := Nat.pow_pos (by omega)
      rw [hP]; omega
    obtain ⟨s1, s2, s3⟩ := splitN_facts (n := e - b) (by omega)
    have hhs := hashL_sl (L := L) (b := b) (e := e) (by omega) HE.out
    have hsplE : splitN (e - b) = 2 ^ Nat.log2 (e - b - 1) := rfl
    have hlk2 := fun W => len_any (e - b - 1) W (by omega)
    rw [lenN_pos (by omega)] at hlk2
    obtain ⟨lk, hlkE⟩ : ∃ lk, Nat.log2 (e - b - 1) = lk := ⟨_, rfl⟩
    obtain ⟨sp, hspE⟩ : ∃ sp, splitN (e - b) = sp := ⟨_, rfl⟩
    rw [hlkE] at hlk2 hsplE
    rw [hspE] at s1 s2 s3 hsplE hhs
    have hlk20 : lk ≤ 20 := by
      rw [← hlkE]
      have : Nat.log2 (e - b - 1) < 21 := (Nat.log2_lt (by omega)).2 (by omega)
      omega
    rw [show ((lk + 1 : Nat) : Int) = (lk : Int) + 1 from rfl, show ((e - b - 1 : Nat) : Int) = (e : Int) - (b : Int) - 1 from by omega] at hlk2
    have hspi : (2 : Int) ^ lk = (sp : Int) := by rw [hsplE]; simp
    have hspl : (sp : Int) ≤ 1048576 := by omega
    have hsp1 : (1 : Int) ≤ (sp : Int) := by omega
    have hlki : (lk : Int) ≤ 20 := by omega
    have hwr : IntKind.i64.wrap ((b : Int) + (sp : Int)) = (b : Int) + (sp : Int) := by rw [IntKind.wrap_i64]; omega
    have ih1 := fun W q1 q2 => ih b (b + sp) W (by omega) (by omega) (by have := HE.out; omega) q1 q2
    have ih2 := fun W q1 q2 => ih (b + sp) e W (by omega) (by omega) HE.out q1 q2
    rw [show ((b + sp : Nat) : Int) = (b : Int) + (sp : Int) from rfl] at ih1 ih2
    have hl1 : (hashL (sl L b (b + sp))).length = 32 := hashL_len (fun x hx => ht.all x (List.mem_of_mem_drop (List.mem_of_mem_take hx)))
    have hl2 : (hashL (sl L (b + sp) e)).length = 32 := hashL_len (fun x hx => ht.all x (List.mem_of_mem_drop (List.mem_of_mem_take hx)))
    rw [hhs]
    obtain ⟨RA, hRA⟩ : ∃ R, hashL (sl L b (b + sp)) = R := ⟨_, rfl⟩
    obtain ⟨RB, hRB⟩ : ∃ R, hashL (sl L (b + sp) e) = R := ⟨_, rfl⟩
    rw [hRA] at hl1 ih1 ⊢
    rw [hRB] at hl2 ih2 ⊢
    have HL2 := hid hlk2
    have IH1 := hid ih1
    have IH2 := hid ih2
    have HA := hid hl1
    have HB := hid hl2
    clear hlk2 ih1 ih2 ih hRA hRB hl1 hl2 hhs hsplE hspE hlkE s1 s2 s3 hlk20
    clear h2 h4 hW hP
    go_enter Tryd.func87, Tryd.ntmps87
    go_wp2_with fail
    refine (by first | exact HLV.out _ | (rw [← h2i]; exact HLV.out _) : Calls _ _ _ _ _).mono ?_
    rintro x w1 ⟨rfl, f1⟩
    have hb1 := f1.at_ hb (fun h => h)
    have c0 := (cell_at hb1 0).trans (show _ = some (Value.int .i64 (b : Int)) from rfl)
    have c1 := (cell_at hb1 1).trans (show _ = some (Value.int .i64 (e : Int)) from rfl)
    go_wp2_with fail
    refine (by first | exact HL2.out _ | (rw [← h2i]; exact HL2.out _) : Calls _ _ _ _ _).mono ?_
    rintro x w2 ⟨rfl, f2⟩
    have f12 := (f0.trans f1).trans f2
    have hb2 := f2.at_ hb1 (fun h => h)
    clear c0 c1
    have C0 := hid ((cell_at hb2 0).trans (show _ = some (Value.int .i64 (b : Int)) from rfl))
    have C1 := hid ((cell_at hb2 1).trans (show _ = some (Value.int .i64 (e : Int)) from rfl))
    have n0 := lt_of_block hb2
    clear hb hb1 hb2
    go_wp2_with fail
    refine wp_region_keep 20 (fun w' => Fresh w2 w') (fun _ => True) (fun _ => true) (by kernel_rfl) (by kernel_rfl) ?_
    (try (change wpKeep _ _ _ _ _ _ _ _ _ _ (World.drew _)))
    refine wpKeep_takeT (i := 0) (oi := ⟨some 46, _, _, _, _, _⟩) (v := ?_) rfl (by kernel_rfl) (by kernel_rfl) (by kernel_rfl) (by kernel_rfl) (fun _ _ _ h => h) (Or.inl ⟨by rfl, ?_⟩) (Keeps.refl _ _).drew (fun _ => trivial) ?_
    rotate_left
    · intro w' hT
      have c0 := (hT.cell (p := ⟨w.heap.size, 0, none⟩) n0 (fun h => h)).trans C0.out
      have c1 := (hT.cell (p := ⟨w.heap.size, 1, none⟩) n0 (fun h => h)).trans C1.out
      go_simp
      (try with_reducible rfl)
    rotate_left
    (try simp only [Act.put, List.setIfInBounds_toArray, List.set_cons_zero, List.set_cons_succ])
    refine wpKeep_takeT (i := 1) (oi := ⟨some 47, _, _, _, _, _⟩) (v := ?_) rfl (by kernel_rfl) (by kernel_rfl) (by kernel_rfl) (by kernel_rfl) (fun _ _ _ h => h) (Or.inl ⟨by rfl, ?_⟩) (Keeps.refl _ _).drew (fun _ => trivial) ?_
    rotate_left
    · intro w' hT
      have c0 := (hT.cell (p := ⟨w.heap.size, 0, none⟩) n0 (fun h => h)).trans C0.out
      have c1 := (hT.cell (p := ⟨w.heap.size, 1, none⟩) n0 (fun h => h)).trans C1.out
      go_simp
      (try with_reducible rfl)
    rotate_left
    (try simp only [Act.put, List.setIfInBounds_toArray, List.set_cons_zero, List.set_cons_succ])
    refine wpKeep_takeT (i := 2) (oi := ⟨some 48, _, _, _, _, _⟩) (v := ?_) rfl (by kernel_rfl) (by kernel_rfl) (by kernel_rfl) (by kernel_rfl) (fun _ _ _ h => h) (Or.inl ⟨by rfl, ?_⟩) (Keeps.refl _ _).drew (fun _ => trivial) ?_
    rotate_left
    · intro w' hT
      have c0 := (hT.cell (p := ⟨w.heap.size, 0, none⟩) n0 (fun h => h)).trans C0.out
      have c1 := (hT.cell (p := ⟨w.heap.size, 1, none⟩) n0 (fun h => h)).trans C1.out
      go_simp
      (try with_reducible rfl)
    rotate_left
    (try simp only [Act.put, List.setIfInBounds_toArray, List.set_cons_zero, List.set_cons_succ])
    refine wpKeep_takeT (i := 3) (oi := ⟨some 49, _, _, _, _, _⟩) (v := ?_) rfl (by kernel_rfl) (by kernel_rfl) (by kernel_rfl) (by kernel_rfl) (fun _ _ _ h => h) (Or.inl ⟨by rfl, ?_⟩) (Keeps.refl _ _).drew (fun _ => trivial) ?_
    rotate_left
    · intro w' hT
      have c0 := (hT.cell (p := ⟨w.heap.size, 0, none⟩) n0 (fun h => h)).trans C0.out
      have c1 := (hT.cell (p := ⟨w.heap.size, 1, none⟩) n0 (fun h => h)).trans C1.out
      go_simp
      (try with_reducible rfl)
    rotate_left
    (try simp only [Act.put, List.setIfInBounds_toArray, List.set_cons_zero, List.set_cons_succ])
    refine wpKeep_takeT (i := 4) (oi := ⟨some 50, _, _, _, _, _⟩) (v := ?_) rfl (by kernel_rfl) (by kernel_rfl) (by kernel_rfl) (by kernel_rfl) (fun _ _ _ h => h) (Or.inl ⟨by rfl, ?_⟩) (Keeps.refl _ _).drew (fun _ => trivial) ?_
    rotate_left
    · intro w' hT
      have c0 := (hT.cell (p := ⟨w.heap.size, 0, none⟩) n0 (fun h => h)).trans C0.out
      have c1 := (hT.cell (p := ⟨w.heap.size, 1, none⟩) n0 (fun h => h)).trans C1.out
      go_simp
      (try with_reducible rfl)
    rotate_left
    (try simp only [Act.put, List.setIfInBounds_toArray, List.set_cons_zero, List.set_cons_succ])
    refine wpKeep_takeT (i := 5) (oi := ⟨some 51, _, _, _, _, _⟩) (v := ?_) rfl (by kernel_rfl) (by kernel_rfl) (by kernel_rfl) (by kernel_rfl) (fun _ _ _ h => h) (Or.inl ⟨by rfl, ?_⟩) (Keeps.refl _ _).drew (fun _ => trivial) ?_
    rotate_left
    · intro w' hT
      have c0 := (hT.cell (p := ⟨w.heap.size, 0, none⟩) n0 (fun h => h)).trans C0.out
      have c1 := (hT.cell (p := ⟨w.heap.size, 1, none⟩) n0 (fun h => h)).trans C1.out
      go_simp
      (try with_reducible rfl)
    rotate_left
    (try simp only [Act.put, List.setIfInBounds_toArray, List.set_cons_zero, List.set_cons_succ])
    refine wpKeep_takeT (i := 6) (oi := ⟨some 52, _, _, _, _, _⟩) (v := ?_) rfl (by kernel_rfl) (by kernel_rfl) (by kernel_rfl) (by kernel_rfl) (fun _ _ _ h => h) (Or.inl ⟨by rfl, ?_⟩) (Keeps.refl _ _).drew (fun _ => trivial) ?_
    rotate_left
    · intro w' hT
      have c0 := (hT.cell (p := ⟨w.heap.size, 0, none⟩) n0 (fun h => h)).trans C0.out
      have c1 := (hT.cell (p := ⟨w.heap.size, 1, none⟩) n0 (fun h => h)).trans C1.out
      go_simp
      (try with_reducible rfl)
    rotate_left
    (try simp only [Act.put, List.setIfInBounds_toArray, List.set_cons_zero, List.set_cons_succ])
    refine wpKeep_takeT (i := 7) (oi := ⟨some 53, _, _, _, _, _⟩) (v := ?_) rfl (by kernel_rfl) (by kernel_rfl) (by kernel_rfl) (by kernel_rfl) (fun _ _ _ h => h) (Or.inl ⟨by rfl, ?_⟩) (Keeps.refl _ _).drew (fun _ => trivial) ?_
    rotate_left
    · intro w' hT
      have c0 := (hT.cell (p := ⟨w.heap.size, 0, none⟩) n0 (fun h => h)).trans C0.out
      have c1 := (hT.cell (p := ⟨w.heap.size, 1, none⟩) n0 (fun h => h)).trans C1.out
      go_simp
      (try with_reducible rfl)
    rotate_left
    (try simp only [Act.put, List.setIfInBounds_toArray, List.set_cons_zero, List.set_cons_succ])
    refine wpKeep_takeT (i := 9) (oi := ⟨some 55, _, _, _, _, _⟩) (v := ?_) rfl (by kernel_rfl) (by kernel_rfl) (by kernel_rfl) (by kernel_rfl) (fun _ _ _ h => h) (Or.inl ⟨by rfl, ?_⟩) (Keeps.refl _ _).drew (fun _ => trivial) ?_
    rotate_left
    · intro w' hT
      have c0 := (hT.cell (p := ⟨w.heap.size, 0, none⟩) n0 (fun h => h)).trans C0.out
      have c1 := (hT.cell (p := ⟨w.heap.size, 1, none⟩) n0 (fun h => h)).trans C1.out
      go_simp
      (try with_reducible rfl)
    rotate_left
    (try simp only [Act.put, List.setIfInBounds_toArray, List.set_cons_zero, List.set_cons_succ])
    refine wpKeep_takeT (i := 10) (oi := ⟨some 56, _, _, _, _, _⟩) (v := ?_) rfl (by kernel_rfl) (by kernel_rfl) (by kernel_rfl) (by kernel_rfl) (fun _ _ _ h => h) (Or.inl ⟨by rfl, ?_⟩) (Keeps.refl _ _).drew (fun _ => trivial) ?_
    rotate_left
    · intro w' hT
      have c0 := (hT.cell (p := ⟨w.heap.size, 0, none⟩) n0 (fun h => h)).trans C0.out
      have c1 := (hT.cell (p := ⟨w.heap.size, 1, none⟩) n0 (fun h => h)).trans C1.out
      go_simp
      (try with_reducible rfl)
    rotate_left
    (try simp only [Act.put, List.setIfInBounds_toArray, List.set_cons_zero, List.set_cons_succ])
    refine wpKeep_takeT (i := 11) (oi := ⟨some 57, _, _, _, _, _⟩) (v := ?_) rfl (by kernel_rfl) (by kernel_rfl) (by kernel_rfl) (by kernel_rfl) (fun _ _ _ h => h) (Or.inl ⟨by rfl, ?_⟩) (Keeps.refl _ _).drew (fun _ => trivial) ?_
    rotate_left
    · intro w' hT
      have c0 := (hT.cell (p := ⟨w.heap.size, 0, none⟩) n0 (fun h => h)).trans C0.out
      have c1 := (hT.cell (p := ⟨w.heap.size, 1, none⟩) n0 (fun h => h)).trans C1.out
      go_simp
      (try with_reducible rfl)
    rotate_left
    (try simp only [Act.put, List.setIfInBounds_toArray, List.set_cons_zero, List.set_cons_succ])
    refine wpKeep_takeT (i := 12) (oi := ⟨some 58, _, _, _, _, _⟩) (v := ?_) rfl (by kernel_rfl) (by kernel_rfl) (by kernel_rfl) (by kernel_rfl) (fun _ _ _ h => h) (Or.inl ⟨by rfl, ?_⟩) (Keeps.refl _ _).drew (fun _ => trivial) ?_
    rotate_left
    · intro w' hT
      have c0 := (hT.cell (p := ⟨w.heap.size, 0, none⟩) n0 (fun h => h)).trans C0.out
      have c1 := (hT.cell (p := ⟨w.heap.size, 1, none⟩) n0 (fun h => h)).trans C1.out
      go_simp
      (try with_reducible rfl)
    rotate_left
    (try simp only [Act.put, List.setIfInBounds_toArray, List.set_cons_zero, List.set_cons_succ])
    refine wpKeep_takeT (i := 13) (oi := ⟨some 59, _, _, _, _, _⟩) (v := ?_) rfl (by kernel_rfl) (by kernel_rfl) (by kernel_rfl) (by kernel_rfl) (fun _ _ _ h => h) (Or.inl ⟨by rfl, ?_⟩) (Keeps.refl _ _).drew (fun _ => trivial) ?_
    rotate_left
    · intro w' hT
      have c0 := (hT.cell (p := ⟨w.heap.size, 0, none⟩) n0 (fun h => h)).trans C0.out
      have c1 := (hT.cell (p := ⟨w.heap.size, 1, none⟩) n0 (fun h => h)).trans C1.out
      go_simp
      (try with_reducible rfl)
    rotate_left
    (try simp only [Act.put, List.setIfInBounds_toArray, List.set_cons_zero, List.set_cons_succ])
    refine wpKeep_takeT (i := 14) (oi := ⟨some 60, _, _, _, _, _⟩) (v := ?_) rfl (by kernel_rfl) (by kernel_rfl) (by kernel_rfl) (by kernel_rfl) (fun _ _ _ h => h) (Or.inl ⟨by rfl, ?_⟩) (Keeps.refl _ _).drew (fun _ => trivial) ?_
    rotate_left
    · intro w' hT
      have c0 := (hT.cell (p := ⟨w.heap.size, 0, none⟩) n0 (fun h => h)).trans C0.out
      have c1 := (hT.cell (p := ⟨w.heap.size, 1, none⟩) n0 (fun h => h)).trans C1.out
      go_simp
      (try with_reducible rfl)
    rotate_left
    (try simp only [Act.put, List.setIfInBounds_toArray, List.set_cons_zero, List.set_cons_succ])
    refine wpKeep_takeT (i := 15) (oi := ⟨some 61, _, _, _, _, _⟩) (v := ?_) rfl (by kernel_rfl) (by kernel_rfl) (by kernel_rfl) (by kernel_rfl) (fun _ _ _ h => h) (Or.inl ⟨by rfl, ?_⟩) (Keeps.refl _ _).drew (fun _ => trivial) ?_
    rotate_left
    · intro w' hT
      have c0 := (hT.cell (p := ⟨w.heap.size, 0, none⟩) n0 (fun h => h)).trans C0.out
      have c1 := (hT.cell (p := ⟨w.heap.size, 1, none⟩) n0 (fun h => h)).trans C1.out
      go_simp
      (try with_reducible rfl)
    rotate_left
    (try simp only [Act.put, List.setIfInBounds_toArray, List.set_cons_zero, List.set_cons_succ])
    refine wpKeep_takeT (i := 16) (oi := ⟨some 62, _, _, _, _, _⟩) (v := ?_) rfl (by kernel_rfl) (by kernel_rfl) (by kernel_rfl) (by kernel_rfl) (fun _ _ _ h => h) (Or.inl ⟨by rfl, ?_⟩) (Keeps.refl _ _).drew (fun _ => trivial) ?_
    rotate_left
    · intro w' hT
      have c0 := (hT.cell (p := ⟨w.heap.size, 0, none⟩) n0 (fun h => h)).trans C0.out
      have c1 := (hT.cell (p := ⟨w.heap.size, 1, none⟩) n0 (fun h => h)).trans C1.out
      go_simp
      (try with_reducible rfl)
    rotate_left
    (try simp only [Act.put, List.setIfInBounds_toArray, List.set_cons_zero, List.set_cons_succ])
    refine wpKeep_ready (rs := [8]) (by kernel_rfl) (by simp) ?_
    refine AllKeep.cons (o := ⟨some 54, _, _, _, _, _⟩) rfl (fun K hK => ?_) AllKeep.nil
    go_simp
    go_at_call 87
    with_reducible refine (IH1.out _ (ht.fresh (f12.trans (Keeps.refl (fun _ => False) w2).drew)) (hd.fresh (f12.trans (Keeps.refl (fun _ => False) w2).drew))).mono ?_
    rintro x w3 ⟨rfl, f3⟩
    have f3 := (Keeps.refl (fun _ => False) w2).drew.trans f3
    dsimp only
    refine hK.out _ _ f3 (fun _ => trivial) ?_
    clear hK K
    (try simp only [Act.put, List.setIfInBounds_toArray, List.set_cons_zero, List.set_cons_succ])
    refine wpKeep_ready (rs := [17]) (by kernel_rfl) (by simp) ?_
    refine AllKeep.cons (o := ⟨some 63, _, _, _, _, _⟩) rfl (fun K hK => ?_) AllKeep.nil
    go_simp
    go_at_call 87
    with_reducible refine (IH2.out _ (ht.fresh (f12.trans f3)) (hd.fresh (f12.trans f3))).mono ?_
    rintro x w4 ⟨rfl, f4⟩
    have f4 := f3.trans f4
    dsimp only
    refine hK.out _ _ f4 (fun _ => trivial) ?_
    clear hK K
    (try simp only [Act.put, List.setIfInBounds_toArray, List.set_cons_zero, List.set_cons_succ])
    refine wpKeep_ready (rs := [18]) (by kernel_rfl) (by simp) ?_
    refine AllKeep.cons (o := ⟨some 64, _, _, _, _, _⟩) rfl (fun K hK => ?_) AllKeep.nil
    go_simp
    go_at_call 80
    with_reducible refine (pair_any RA RB HA.out HB.out _ (hd.fresh (f12.trans f4))).mono ?_
    rintro x w5 ⟨rfl, f5⟩
    have f5 := f4.trans f5
    dsimp only
    refine hK.out _ _ f5 (fun _ => trivial) ?_
    clear hK K
    (try simp only [Act.put, List.setIfInBounds_toArray, List.set_cons_zero, List.set_cons_succ])
    refine wpKeep_takeT (i := 19) (oi := ⟨some 4, _, _, _, _, _⟩) (v := ?_) rfl (by kernel_rfl) (by kernel_rfl) (by kernel_rfl) (by kernel_rfl) (fun _ _ _ h => h) (Or.inl ⟨by rfl, ?_⟩) f5 (fun _ => trivial) ?_
    rotate_left
    · intro w' hT
      have c0 := (hT.cell (p := ⟨w.heap.size, 0, none⟩) n0 (fun h => h)).trans C0.out
      have c1 := (hT.cell (p := ⟨w.heap.size, 1, none⟩) n0 (fun h => h)).trans C1.out
      go_simp
      (try with_reducible rfl)
    rotate_left
    (try simp only [Act.put, List.setIfInBounds_toArray, List.set_cons_zero, List.set_cons_succ])
    refine wpKeep_done (by kernel_rfl) ?_ _
    go_wp2_with fail
    go_ret
    exact ⟨rfl, f12.trans f5⟩
end Go.Proofs.YtgikabafaocemaaDoor
