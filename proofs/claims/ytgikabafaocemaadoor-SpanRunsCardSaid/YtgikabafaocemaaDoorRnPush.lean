/-
  Package frontier: a row of complete subtrees; a subtree is put behind.
-/
import Derived.Test.YtgikabafaocemaaDoorRnPlain
import Derived.Test.YtgikabafaocemaaDoorSpHerd
import Derived.Test.YtgikabafaocemaaDoorMShaA
import Derived.Test.YtgikabafaocemaaDoorSpRun
import Derived.Test.YtgikabafaocemaaDoorMSpB
import Derived.Test.YtgikabafaocemaaDoorMMsF
namespace Go.Proofs.YtgikabafaocemaaDoor
open Go.RowKit

theorem Tryd.infoPiece : (Tryd.prog.info? 126).map (fun i => (i.zero, i.size, i.bytes)) = some (some (.agg #[.int .i64 0, .int .i64 0, .string ⟨#[]⟩]), 3, 32) := by kernel_rfl
/-- the cells of some subtrees, with their hashes -/
def pcells (V : Nat × Nat → List UInt8) (l : List (Nat × Nat)) : List Value := l.flatMap fun x => [.int .i64 (x.1 : Int), .int .i64 (x.2 : Int), .string (str (V x))]
theorem pcells_append (V : Nat × Nat → List UInt8) (l m : List (Nat × Nat)) : pcells V (l ++ m) = pcells V l ++ pcells V m := by simp [pcells]
theorem pcells_one (V : Nat × Nat → List UInt8) (x : Nat × Nat) : pcells V [x] = [.int .i64 (x.1 : Int), .int .i64 (x.2 : Int), .string (str (V x))] := rfl
theorem pcells_len (V : Nat × Nat → List UInt8) (l : List (Nat × Nat)) : (pcells V l).length = l.length * 3 := by
  induction l with
  | nil => rfl
  | cons x l ih => rw [show pcells V (x :: l) = pcells V [x] ++ pcells V l by rw [← pcells_append]; rfl, List.length_append, ih, pcells_one]; simp; omega
theorem pcells_at (V : Nat × Nat → List UInt8) : ∀ (l : List (Nat × Nat)) (k : Nat) (x : Nat × Nat), l[k]? = some x → (pcells V l)[k * 3]? = some (.int .i64 (x.1 : Int)) ∧ (pcells V l)[k * 3 + 1]? = some (.int .i64 (x.2 : Int)) ∧ (pcells V l)[k * 3 + 2]? = some (.string (str (V x)))
  | [], k, x, h => by simp at h
  | y :: l, 0, x, h => by simp at h; subst h; simp [pcells]
  | y :: l, k + 1, x, h => by
    have := pcells_at V l k x (by simpa using h)
    rw [show pcells V (y :: l) = pcells V [y] ++ pcells V l by rw [← pcells_append]; rfl, pcells_one]
    rw [List.getElem?_append_right (by simp; omega), List.getElem?_append_right (by simp; omega), List.getElem?_append_right (by simp; omega)]
    simp only [List.length_cons, List.length_nil]
    rw [show (k + 1) * 3 - (0 + 1 + 1 + 1) = k * 3 by omega, show (k + 1) * 3 + 1 - (0 + 1 + 1 + 1) = k * 3 + 1 by omega, show (k + 1) * 3 + 2 - (0 + 1 + 1 + 1) = k * 3 + 2 by omega]
    exact this
theorem pcells_cell (V : Nat × Nat → List UInt8) (l : List (Nat × Nat)) : ∀ u ∈ pcells V l, u.oneCell' = true := by
  intro u hu
  obtain ⟨x, -, hx⟩ := List.mem_flatMap.1 hu
  simp only [List.mem_cons, List.not_mem_nil, or_false] at hx
  rcases hx with rfl | rfl | rfl <;> rfl

/-- a row in its box -/
structure RowBox (V : Nat × Nat → List UInt8) (w : World) (rb : Nat) (l : List (Nat × Nat)) (v : Value) : Prop where
  box : w.heap[rb]? = some (.cells #[v] 123 (0, 0))
  row : w.ownsRow 0 126 3 v l.length (pcells V l)
  ne : v.ownBlock ≠ some rb
theorem RowBox.fresh {V : Nat × Nat → List UInt8} {w w' : World} {rb : Nat} {l : List (Nat × Nat)} {v : Value} (h : RowBox V w rb l v) (f : Fresh w w') : RowBox V w' rb l v := ⟨f.at_ h.box (fun h => h), ownsRow_keeps h.row f (fun _ _ h => h), h.ne⟩
theorem ownsRow_shrink {w : World} {e : TypeId} {size n m cap : Nat} {ao : Option Addr} {xs : List Value} (h : w.ownsRow 0 e size (.slice ao n cap) n xs) (hm : m ≤ n) (hn : 0 < n) : w.ownsRow 0 e size (.slice ao m cap) m (xs.take (m * size)) := by
  obtain ⟨h1, ⟨e, h0⟩ | ⟨g, cap', cur, e, hb, hg, hnc, hcm, hcs, ht⟩⟩ := h
  · omega
  · simp only [Value.slice.injEq] at e
    obtain ⟨rfl, -, rfl⟩ := e
    have hmn : m * size ≤ n * size := Nat.mul_le_mul_right _ hm
    refine ⟨by rw [List.length_take, h1]; omega, .inr ⟨g, cap, cur, rfl, hb, hg, by omega, hcm, hcs, ?_⟩⟩
    rw [← ht, List.take_take, Nat.min_eq_left hmn]

set_option maxRecDepth 100000 in
set_option maxHeartbeats 1000000 in
theorem fnode_any (a b : List UInt8) (ha : a.length = 32) (hb : b.length = 32) (w : World) (hd : Dig w) :
    Calls Tryd.prog 106 #[.string (str a), .string (str b)] w fun e w' => e = .returned (.string (str (nodeH a b))) ∧ Fresh w w' := by
  have hP := hid (node_any a b ha hb w hd)
  clear ha hb
  go_enter Tryd.func106, Tryd.ntmps106
  go_wp2_with fail
  refine hP.out.mono ?_
  rintro e w1 ⟨rfl, f1⟩
  go_wp2_with fail
  go_ret
  exact ⟨rfl, f1⟩

theorem pow_le_of40 {j : Nat} (h : 2 ^ j ≤ 1099511627776) : j ≤ 40 := (Nat.pow_le_pow_iff_right (a := 2) (by omega)).1 (show 2 ^ j ≤ 2 ^ 40 from h)
theorem Dig.keepsHigh {T : Nat → Prop} {w w' : World} (h : Dig w) (f : Keeps T w w') (hT : ∀ g, T g → 4 ≤ g) : Dig w' :=
  ⟨h.tab.keeps f (fun q => absurd (hT _ q) (by omega)), h.first.keeps f (fun q => absurd (hT _ q) (by omega)), Nat.le_trans h.room f.size⟩
/-- what push leaves -/
def Pushed (V : Nat × Nat → List UInt8) (p x rb N : Nat) (v : Value) (w w' : World) : Prop :=
  ∃ l v', Row p x l ∧ Red l ∧ RowBox V w' rb l v' ∧ (∀ y ∈ l, (V y).length = 32) ∧ l.length ≤ N ∧ (∀ g, v'.ownBlock = some g → v.ownBlock = some g ∨ w.heap.size ≤ g) ∧ Keeps (fun g => g = rb ∨ v.ownBlock = some g) w w'

set_option maxRecDepth 100000 in
set_option maxHeartbeats 8000000 in
theorem push_any (V : Nat × Nat → List UInt8) (p q k rb : Nat) (l : List (Nat × Nat)) (v : Value) (w : World) (hbx : RowBox V w rb l v) (hrow : Row p q l) (hred : Red l) (hk : q % 2 ^ k = 0) (hx : q + 2 ^ k ≤ 1099511627776) (hl : l.length ≤ 1000000)
    (hV : ∀ y ∈ l, (V y).length = 32) (hVq : (V (q, k)).length = 32) (hm : ∀ a j, p ≤ a → a % 2 ^ (j + 1) = 0 → a + 2 ^ (j + 1) = q + 2 ^ k → V (a, j + 1) = nodeH (V (a, j)) (V (a + 2 ^ j, j))) (hd : Dig w) (hg : 4 ≤ rb) (hgv : ∀ g, v.ownBlock = some g → 4 ≤ g) :
    Calls Tryd.prog 71 #[.pointer (some ⟨rb, 0, none⟩), .agg #[.int .i64 (q : Int), .int .i64 (k : Int), .string (str (V (q, k)))]] w fun x w' => x = .returned (.tuple #[]) ∧ Pushed V p (q + 2 ^ k) rb (l.length + 1) v w w' := by
  obtain ⟨i0, hi, hz0, hz1, hz2⟩ := info_parts Tryd.infoPiece
  have fbx : Fresh w (w.alloc (.cells #[.int .i64 (q : Int), .int .i64 (k : Int), .string (str (V (q, k)))] 126)) := (Keeps.refl _ _).alloc _
  have hpb := heap_alloc_new w (.cells #[.int .i64 (q : Int), .int .i64 (k : Int), .string (str (V (q, k)))] 126)
  obtain ⟨ao, cap, rfl⟩ := ownsRow_slice hbx.row
  have HB := hid hbx
  have hb1 := fbx.at_ hbx.box (fun h => h)
  have hr1 := ownsRow_keeps hbx.row fbx (fun _ _ h => h)
  obtain ⟨w1, hw1⟩ : ∃ w1, w.alloc (.cells #[.int .i64 (q : Int), .int .i64 (k : Int), .string (str (V (q, k)))] 126) = w1 := ⟨_, rfl⟩
  rw [hw1] at fbx hpb hb1 hr1
  obtain ⟨pb, hpbe⟩ : ∃ pb, w.heap.size = pb := ⟨_, rfl⟩
  rw [hpbe] at hpb
  have c0 := (cell_at hb1 0).trans (show _ = some (Value.slice ao l.length cap) from rfl)
  have c1 := free_at hb1 0
  have cl := lt_of_block hb1
  have p0 := (cell_at hpb 0).trans (show _ = some (Value.int .i64 (q : Int)) from rfl)
  have p1 := (cell_at hpb 1).trans (show _ = some (Value.int .i64 (k : Int)) from rfl)
  have p2 := (cell_at hpb 2).trans (show _ = some (Value.string (str (V (q, k)))) from rfl)
  have pl := lt_of_block hpb
  have HB1 := hid hb1
  have HROW := hid hrow
  have HRED := hid hred
  have HK := hid hk
  have HX := hid hx
  have HL := hid hl
  have HV := hid hV
  have HVQ := hid hVq
  have HM := hid hm
  have HD := hid hd
  have HG := hid (show ∀ g, g = rb ∨ (Value.slice ao l.length cap).ownBlock = some g → 4 ≤ g from fun g h => h.elim (fun e => by omega) (fun e => hgv g e))
  have HPB := hid hpbe
  have HW1 := hid hw1
  have hnp : (Value.slice ao l.length cap).ownBlock ≠ some pb := fun e => by have := (hbx.row.lt pb e).2; omega
  clear hg hgv hrow hred hk hx hl hV hVq hm hd hpbe hpb hb1 hbx hw1
  go_enter Tryd.func71, Tryd.ntmps71
  go_wp2_with fail
  rw [HW1.out, HPB.out]
  refine wp_region_keep 11 (fun w' => Keeps (fun g => g = rb ∨ (Value.slice ao l.length cap).ownBlock = some g) w1 w') (fun w' => w'.cell? ⟨rb, 0, none⟩ = some (.slice ao l.length cap) ∧ w'.frozen? ⟨rb, 0, none⟩ = false ∧ w'.cell? ⟨pb, 0, none⟩ = some (.int .i64 (q : Int)) ∧ w'.cell? ⟨pb, 1, none⟩ = some (.int .i64 (k : Int)) ∧ w'.cell? ⟨pb, 2, none⟩ = some (.string (str (V (q, k))))) (fun j => !(j == 10)) (by kernel_rfl) (by kernel_rfl) ?_
  (try (change wpKeep _ _ _ _ _ _ _ _ _ _ (World.drew _)))
  refine wpKeep_takeT (i := 0) (oi := ⟨some 7, _, _, _, _, _⟩) (v := ?_) rfl (by kernel_rfl) (by kernel_rfl) (by kernel_rfl) (by kernel_rfl) (fun _ _ _ h => h) (Or.inl ⟨by rfl, ?_⟩) (Keeps.refl _ _).drew (fun _ => ⟨c0, c1, p0, p1, p2⟩) ?_
  rotate_left
  · intro w' hT
    go_simp
    (try rw [if_pos (by omega)])
    (try with_reducible rfl)
  rotate_left
  (try simp only [Act.put, List.setIfInBounds_toArray, List.set_cons_zero, List.set_cons_succ])
  refine wpKeep_takeT (i := 1) (oi := ⟨some 8, _, _, _, _, _⟩) (v := ?_) rfl (by kernel_rfl) (by kernel_rfl) (by kernel_rfl) (by kernel_rfl) (fun _ _ _ h => h) (Or.inl ⟨by rfl, ?_⟩) (Keeps.refl _ _).drew (fun _ => ⟨c0, c1, p0, p1, p2⟩) ?_
  rotate_left
  · intro w' hT
    go_simp
    (try rw [if_pos (by omega)])
    (try with_reducible rfl)
  rotate_left
  (try simp only [Act.put, List.setIfInBounds_toArray, List.set_cons_zero, List.set_cons_succ])
  refine wpKeep_takeT (i := 2) (oi := ⟨some 9, _, _, _, _, _⟩) (v := ?_) rfl (by kernel_rfl) (by kernel_rfl) (by kernel_rfl) (by kernel_rfl) (fun _ _ _ h => h) (Or.inl ⟨by rfl, ?_⟩) (Keeps.refl _ _).drew (fun _ => ⟨c0, c1, p0, p1, p2⟩) ?_
  rotate_left
  · intro w' hT
    go_simp
    (try rw [if_pos (by omega)])
    (try with_reducible rfl)
  rotate_left
  (try simp only [Act.put, List.setIfInBounds_toArray, List.set_cons_zero, List.set_cons_succ])
  refine wpKeep_takeT (i := 3) (oi := ⟨some 10, _, _, _, _, _⟩) (v := ?_) rfl (by kernel_rfl) (by kernel_rfl) (by kernel_rfl) (by kernel_rfl) (fun _ _ _ h => h) (Or.inl ⟨by rfl, ?_⟩) (Keeps.refl _ _).drew (fun _ => ⟨c0, c1, p0, p1, p2⟩) ?_
  rotate_left
  · intro w' hT
    go_simp
    (try rw [if_pos (by omega)])
    (try with_reducible rfl)
  rotate_left
  (try simp only [Act.put, List.setIfInBounds_toArray, List.set_cons_zero, List.set_cons_succ])
  refine wpKeep_take (i := 4) (oi := ⟨some 11, _, _, _, _, _⟩) (v := ?_) rfl (by kernel_rfl) (by kernel_rfl) (by kernel_rfl) (by kernel_rfl) (fun _ _ _ h => h) (Or.inl ⟨by rfl, ?_⟩) ⟨(Keeps.refl _ _).drew, ⟨c0, c1, p0, p1, p2⟩⟩ ?_
  rotate_left
  · intro w' hT
    have hS0 := hT.2
    replace hT := hT.1
    go_simp
    (try rw [if_pos (by omega)])
    (try with_reducible rfl)
  rotate_left
  (try simp only [Act.put, List.setIfInBounds_toArray, List.set_cons_zero, List.set_cons_succ])
  refine wpKeep_take (i := 5) (oi := ⟨some 12, _, _, _, _, _⟩) (v := ?_) rfl (by kernel_rfl) (by kernel_rfl) (by kernel_rfl) (by kernel_rfl) (fun _ _ _ h => h) (Or.inl ⟨by rfl, ?_⟩) ⟨(Keeps.refl _ _).drew, ⟨c0, c1, p0, p1, p2⟩⟩ ?_
  rotate_left
  · intro w' hT
    have hS0 := hT.2
    replace hT := hT.1
    go_simp
    (try rw [if_pos (by omega)])
    (try with_reducible rfl)
  rotate_left
  (try simp only [Act.put, List.setIfInBounds_toArray, List.set_cons_zero, List.set_cons_succ])
  refine wpKeep_ready (rs := [6]) (by kernel_rfl) (by simp) ?_
  refine AllKeep.cons (o := ⟨some 13, _, _, _, _, _⟩) rfl (fun K hK => ?_) AllKeep.nil
  go_simp
  have f2 : Fresh w1 (w1.drew.alloc (.cells #[.int .i64 (q : Int), .int .i64 (k : Int), .string (str (V (q, k)))] 126)) := ((Keeps.refl (fun _ => False) w1).drew).alloc _
  have T2 : Keeps (fun g => g = rb ∨ (Value.slice ao l.length cap).ownBlock = some g) w1 (w1.drew.alloc (.cells #[.int .i64 (q : Int), .int .i64 (k : Int), .string (str (V (q, k)))] 126)) := f2.mono (fun _ _ h => h.elim)
  have s0 := (f2.cell (p := ⟨rb, 0, none⟩) cl (fun h => h)).trans c0
  have s1 := (f2.frozen (p := ⟨rb, 0, none⟩) cl (fun h => h)).trans c1
  have t0 := (f2.cell (p := ⟨pb, 0, none⟩) pl (fun h => h)).trans p0
  have t1 := (f2.cell (p := ⟨pb, 1, none⟩) pl (fun h => h)).trans p1
  have hnew := heap_alloc_new w1.drew (.cells #[.int .i64 (q : Int), .int .i64 (k : Int), .string (str (V (q, k)))] 126)
  have hrow2 := ownsRow_keeps hr1 f2 (fun _ _ h => h)
  have t2 := (f2.cell (p := ⟨pb, 2, none⟩) pl (fun h => h)).trans p2
  refine hK.out _ _ T2 (fun _ => ⟨s0, s1, t0, t1, t2⟩) ?_
  clear hK K
  (try simp only [Act.put, List.setIfInBounds_toArray, List.set_cons_zero, List.set_cons_succ])
  refine wpKeep_ready (rs := [7]) (by kernel_rfl) (by simp) ?_
  refine AllKeep.cons (o := ⟨some 14, _, _, _, _, _⟩) rfl (fun K hK => ?_) AllKeep.nil
  refine step_push_at rfl (.tmp 11) (.tmp 13) 121 rfl 126 i0 (.agg #[.int .i64 0, .int .i64 0, .string ⟨#[]⟩]) 3 32 Tryd.underlying121 hi hz0 hz1 hz2 rfl (by decide) (w1.drew.alloc (.cells #[.int .i64 (q : Int), .int .i64 (k : Int), .string (str (V (q, k)))] 126)) hrow2 w1.drew.heap.size (pcells V [(q, k)]) rfl hnew (pcells_cell V _) (by rfl) (by rfl) (by have := HL.out; omega) (by have := HL.out; unfold maxLen; omega) ?_
  intro v3 w3 ha
  have cl2 : rb < (w1.drew.alloc (.cells #[.int .i64 (q : Int), .int .i64 (k : Int), .string (str (V (q, k)))] 126)).heap.size := Nat.lt_of_lt_of_le cl f2.size
  have pl2 : pb < (w1.drew.alloc (.cells #[.int .i64 (q : Int), .int .i64 (k : Int), .string (str (V (q, k)))] 126)).heap.size := Nat.lt_of_lt_of_le pl f2.size
  have s30 := (ha.keeps.cell (p := ⟨rb, 0, none⟩) cl2 HB.out.ne).trans s0
  have s31 := (ha.keeps.frozen (p := ⟨rb, 0, none⟩) cl2 HB.out.ne).trans s1
  have t30 := (ha.keeps.cell (p := ⟨pb, 0, none⟩) pl2 hnp).trans t0
  have t31 := (ha.keeps.cell (p := ⟨pb, 1, none⟩) pl2 hnp).trans t1
  have t32 := (ha.keeps.cell (p := ⟨pb, 2, none⟩) pl2 hnp).trans t2
  have T3 : Keeps (fun g => g = rb ∨ (Value.slice ao l.length cap).ownBlock = some g) w1 w3 := T2.trans (ha.keeps.mono (fun _ _ h => .inr h))
  refine hK.out _ _ T3 (fun _ => ⟨s30, s31, t30, t31, t32⟩) ?_
  clear hK K
  (try simp only [Act.put, List.setIfInBounds_toArray, List.set_cons_zero, List.set_cons_succ])
  refine wpKeep_takeT (i := 8) (oi := ⟨some 15, _, _, _, _, _⟩) (v := ?_) rfl (by kernel_rfl) (by kernel_rfl) (by kernel_rfl) (by kernel_rfl) (fun _ _ _ h => h) (Or.inl ⟨by rfl, ?_⟩) T3 (fun _ => ⟨s30, s31, t30, t31, t32⟩) ?_
  rotate_left
  · intro w' hT
    go_simp
    (try rw [if_pos (by omega)])
    (try with_reducible rfl)
  rotate_left
  (try simp only [Act.put, List.setIfInBounds_toArray, List.set_cons_zero, List.set_cons_succ])
  refine wpKeep_takeT (i := 9) (oi := ⟨some 16, _, _, _, _, _⟩) (v := ?_) rfl (by kernel_rfl) (by kernel_rfl) (by kernel_rfl) (by kernel_rfl) (fun _ _ _ h => h) (Or.inl ⟨by rfl, ?_⟩) T3 (fun _ => ⟨s30, s31, t30, t31, t32⟩) ?_
  rotate_left
  · intro w' hT
    go_simp
    (try rw [if_pos (by omega)])
    (try with_reducible rfl)
  rotate_left
  (try simp only [Act.put, List.setIfInBounds_toArray, List.set_cons_zero, List.set_cons_succ])
  refine wpKeep_ready (rs := [10]) (by kernel_rfl) (by simp) ?_
  refine AllKeep.cons (o := ⟨none, _, _, _, _, _⟩) rfl (fun K hK => ?_) AllKeep.nil
  obtain ⟨ao3, cp3, e3⟩ := ownsRow_slice ha.row
  subst e3
  have n33 : rb < w3.heap.size := Nat.lt_of_lt_of_le cl2 ha.keeps.size
  go_simp
  refine hK.out _ _ (T3.setCell (p := ⟨rb, 0, none⟩) (fun _ => .inl rfl) _) (not_early (by kernel_rfl)) ?_
  clear hK K
  (try simp only [Act.put, List.setIfInBounds_toArray, List.set_cons_zero, List.set_cons_succ])
  refine wpKeep_done (by kernel_rfl) ?_ _
  have hb3 := ha.keeps.at_ (f2.at_ HB1.out (fun h => h)) HB.out.ne
  have hW := heap_setCell_at hb3 0 (.slice ao3 (l.length + 1) cp3)
  have hne3 : (Value.slice ao3 (l.length + 1) cp3).ownBlock ≠ some rb := fun e => by
    rcases ha.own rb e with z | z
    · exact HB.out.ne z
    · have := z.1; omega
  have hRW : RowBox V (w3.setCell ⟨rb, 0, none⟩ (.slice ao3 (l.length + 1) cp3)) rb (l ++ [(q, k)]) (.slice ao3 (l.length + 1) cp3) := ⟨hW, by
    rw [List.length_append, pcells_append]
    exact ownsRow_setCell_ne ha.row hne3 _, hne3⟩
  have hOW : ∀ g, (Value.slice ao3 (l.length + 1) cp3).ownBlock = some g → (Value.slice ao l.length cap).ownBlock = some g ∨ w.heap.size ≤ g := fun g hg => by
    rcases ha.own g hg with z | z
    · exact .inl z
    · have := z.1; have := f2.size; have := fbx.size; exact .inr (by omega)
  have hKW : Keeps (fun g => g = rb ∨ (Value.slice ao l.length cap).ownBlock = some g) w (w3.setCell ⟨rb, 0, none⟩ (.slice ao3 (l.length + 1) cp3)) := (fbx.mono (fun _ _ h => h.elim)).trans (T3.setCell (p := ⟨rb, 0, none⟩) (fun _ => .inl rfl) _)
  generalize w3.setCell ⟨rb, 0, none⟩ (.slice ao3 (l.length + 1) cp3) = W at hW hRW hKW ⊢
  have d0 := (cell_at hW 0).trans (show _ = some (Value.slice ao3 (l.length + 1) cp3) from rfl)
  have dl := lt_of_block hW
  clear ha s30 s31 t30 t31 t32 T3 s0 s1 t0 t1 t2 hnew hrow2 T2 f2 hb3 hW c0 c1 cl p0 p1 p2 pl hr1 fbx cl2 pl2 n33 hnp hne3
  go_wp2_with fail
  have HRW := hid hRW
  have HOW := hid hOW
  have HKW := hid hKW
  clear d0 dl hRW hOW hKW
  go_loopw [4] (fun i wr => ∃ (l' : List (Nat × Nat)) (c : Nat × Nat) (v' : Value), i = .int .i64 ((l'.length + 1 : Nat) : Int) ∧ Row p c.1 l' ∧ Red l' ∧ c.1 % 2 ^ c.2 = 0 ∧ c.1 + 2 ^ c.2 = q + 2 ^ k ∧ RowBox V wr rb (l' ++ [c]) v' ∧ (∀ y ∈ l' ++ [c], (V y).length = 32) ∧ l'.length ≤ l.length ∧ (∀ g, v'.ownBlock = some g → (Value.slice ao l.length cap).ownBlock = some g ∨ w.heap.size ≤ g) ∧ Keeps (fun g => g = rb ∨ (Value.slice ao l.length cap).ownBlock = some g) w wr) (fun i _ => (intOf i).toNat)
  case atStart => exact ⟨l, (q, k), _, by simp, HROW.out, HRED.out, HK.out, rfl, HRW.out, (fun y hy => by
      rcases List.mem_append.1 hy with hy | hy
      · exact HV.out y hy
      · rw [List.mem_singleton.1 hy]; exact HVQ.out), Nat.le_refl _, HOW.out, HKW.out⟩
  case round =>
    obtain ⟨l', c, v', hi', hr', hd', hc', he', hb', hv', hl', ho', hk'⟩ := hrel
    have HR' := hid hr'
    have HD' := hid hd'
    have HC' := hid hc'
    have HE' := hid he'
    have HB' := hid hb'
    have HV' := hid hv'
    have HL' := hid hl'
    have HO' := hid ho'
    have HK' := hid hk'
    rcases List.eq_nil_or_concat l' with hnil | ⟨l2, a, hl2⟩
    · subst hnil
      simp only [List.length_nil, Nat.zero_add] at hi'
      subst hi'
      clear hr' hd' hc' he' hb' hv' hl' ho' hk'
      go_wp2_with fail
      first | go_end0 | refine bodyPost_ret (results_none rfl _ _ _) rfl ?_
      have hP : Pushed V p (q + 2 ^ k) rb (l.length + 1) (.slice ao l.length cap) w wr := ⟨[] ++ [c], v', by rw [← HE'.out]; exact HR'.out.snoc HC'.out, by simp [Red], HB'.out, HV'.out, by simp, HO'.out, HK'.out⟩
      exact ⟨rfl, hP⟩
    · rw [List.concat_eq_append] at hl2
      subst hl2
      obtain ⟨ao', cp', rfl⟩ := ownsRow_slice hb'.row
      have hlen : (l2 ++ [a] ++ [c]).length = l2.length + 2 := by simp
      have hlen1 : (l2 ++ [a]).length + 1 = l2.length + 2 := by simp
      have hrw := hb'.row
      rw [hlen1] at hi'
      have hbx' := hb'.box
      rw [hlen] at hrw hbx'
      obtain ⟨g, rfl, hcells⟩ := rowCellsB hrw (by omega)
      have ha2 := pcells_at V (l2 ++ [a] ++ [c]) l2.length a (by simp)
      have hc2 := pcells_at V (l2 ++ [a] ++ [c]) (l2.length + 1) c (by simp)
      obtain ⟨gl, x0⟩ := hcells _ _ ha2.1
      have x1 := (hcells _ _ ha2.2.1).2
      have x2 := (hcells _ _ ha2.2.2).2
      have y0 := (hcells _ _ hc2.1).2
      have y1 := (hcells _ _ hc2.2.1).2
      have y2 := (hcells _ _ hc2.2.2).2
      have c0 := (cell_at hbx' 0).trans (show _ = some (Value.slice (some ⟨g, 0, none⟩) (l2.length + 2) cp') from rfl)
      have cl := lt_of_block hbx'
      have hjb : l2.length ≤ 1000000 := by have h1 := HL'.out; have h2 := HL.out; rw [List.length_append] at h1; omega
      obtain ⟨j, hj⟩ : ∃ j, l2.length = j := ⟨_, rfl⟩
      obtain ⟨jj, hjj⟩ : ∃ jj, j + 1 = jj := ⟨_, rfl⟩
      obtain ⟨nn, hnn⟩ : ∃ nn, j + 2 = nn := ⟨_, rfl⟩
      rw [hj] at x0 x1 x2 y0 y1 y2 c0 hi' hjb
      rw [hjj] at y0 y1 y2
      rw [hnn] at c0 hi'
      subst hi'
      have HJ := hid hj
      have HJJ := hid hjj
      have HNN := hid hnn
      have hn1 : (1 : Int) < (nn : Int) := by omega
      have hnb : (nn : Int) ≤ 1000002 := by omega
      have z1 : IntKind.i64.wrap ((nn : Int) - 2) = (j : Int) := by rw [IntWalk.i64_in _ (by omega)]; omega
      have z2 : IntKind.i64.wrap ((nn : Int) - 1) = (jj : Int) := by rw [IntWalk.i64_in _ (by omega)]; omega
      have z3 : (0 : Int) ≤ (j : Int) := by omega
      have z4 : (j : Int) < (nn : Int) := by omega
      have z5 : (0 : Int) ≤ (jj : Int) := by omega
      have z6 : (jj : Int) < (nn : Int) := by omega
      have z7 : jj < nn := by omega
      have z8 : j < nn := by omega
      clear hr' hd' hc' he' hb' hv' hl' ho' hk' hlen hlen1 hrw hbx' hcells ha2 hc2 hj hjj hnn
      go_wp2_with fail
      go_cut [5, 6] from 26 to 41 (fun s5 s6 wx => ∃ pa pc, s5 = .pointer (some ⟨pa, 0, none⟩) ∧ s6 = .pointer (some ⟨pc, 0, none⟩) ∧ wx.heap[pa]? = some (.cells #[.int .i64 (a.1 : Int), .int .i64 (a.2 : Int), .string (str (V a))] 126 (0, 0)) ∧ wx.heap[pc]? = some (.cells #[.int .i64 (c.1 : Int), .int .i64 (c.2 : Int), .string (str (V c))] 126 (0, 0)) ∧ (wr.heap.size ≤ pa ∧ wr.heap.size ≤ pc) ∧ Fresh wr wx)
      case first =>
        refine wp_region_keep 20 (fun w' => Fresh wr w') (fun _ => True) (fun _ => true) (by kernel_rfl) (by kernel_rfl) ?_
        (try (change wpKeep _ _ _ _ _ _ _ _ _ _ (World.drew _)))
        refine wpKeep_takeT (i := 0) (oi := ⟨some 26, _, _, _, _, _⟩) (v := ?_) rfl (by kernel_rfl) (by kernel_rfl) (by kernel_rfl) (by kernel_rfl) (fun _ _ _ h => h) (Or.inl ⟨by rfl, ?_⟩) (Keeps.refl _ _).drew (fun _ => trivial) ?_
        rotate_left
        · intro w' hT
          have k0 := (hT.cell (p := ⟨rb, 0, none⟩) cl (fun h => h)).trans c0
          have k1 := (hT.cell (p := ⟨g, j * 3, none⟩) gl (fun h => h)).trans x0
          have k2 := (hT.cell (p := ⟨g, j * 3 + 1, none⟩) gl (fun h => h)).trans x1
          have k3 := (hT.cell (p := ⟨g, j * 3 + 2, none⟩) gl (fun h => h)).trans x2
          have k4 := (hT.cell (p := ⟨g, jj * 3, none⟩) gl (fun h => h)).trans y0
          have k5 := (hT.cell (p := ⟨g, jj * 3 + 1, none⟩) gl (fun h => h)).trans y1
          have k6 := (hT.cell (p := ⟨g, jj * 3 + 2, none⟩) gl (fun h => h)).trans y2
          go_simp
          (try rw [if_pos (by omega)])
          (try with_reducible rfl)
        rotate_left
        (try simp only [Act.put, List.setIfInBounds_toArray, List.set_cons_zero, List.set_cons_succ])
        refine wpKeep_takeT (i := 1) (oi := ⟨some 27, _, _, _, _, _⟩) (v := ?_) rfl (by kernel_rfl) (by kernel_rfl) (by kernel_rfl) (by kernel_rfl) (fun _ _ _ h => h) (Or.inl ⟨by rfl, ?_⟩) (Keeps.refl _ _).drew (fun _ => trivial) ?_
        rotate_left
        · intro w' hT
          have k0 := (hT.cell (p := ⟨rb, 0, none⟩) cl (fun h => h)).trans c0
          have k1 := (hT.cell (p := ⟨g, j * 3, none⟩) gl (fun h => h)).trans x0
          have k2 := (hT.cell (p := ⟨g, j * 3 + 1, none⟩) gl (fun h => h)).trans x1
          have k3 := (hT.cell (p := ⟨g, j * 3 + 2, none⟩) gl (fun h => h)).trans x2
          have k4 := (hT.cell (p := ⟨g, jj * 3, none⟩) gl (fun h => h)).trans y0
          have k5 := (hT.cell (p := ⟨g, jj * 3 + 1, none⟩) gl (fun h => h)).trans y1
          have k6 := (hT.cell (p := ⟨g, jj * 3 + 2, none⟩) gl (fun h => h)).trans y2
          go_simp
          (try rw [if_pos (by omega)])
          (try with_reducible rfl)
        rotate_left
        (try simp only [Act.put, List.setIfInBounds_toArray, List.set_cons_zero, List.set_cons_succ])
        refine wpKeep_takeT (i := 2) (oi := ⟨some 28, _, _, _, _, _⟩) (v := ?_) rfl (by kernel_rfl) (by kernel_rfl) (by kernel_rfl) (by kernel_rfl) (fun _ _ _ h => h) (Or.inl ⟨by rfl, ?_⟩) (Keeps.refl _ _).drew (fun _ => trivial) ?_
        rotate_left
        · intro w' hT
          have k0 := (hT.cell (p := ⟨rb, 0, none⟩) cl (fun h => h)).trans c0
          have k1 := (hT.cell (p := ⟨g, j * 3, none⟩) gl (fun h => h)).trans x0
          have k2 := (hT.cell (p := ⟨g, j * 3 + 1, none⟩) gl (fun h => h)).trans x1
          have k3 := (hT.cell (p := ⟨g, j * 3 + 2, none⟩) gl (fun h => h)).trans x2
          have k4 := (hT.cell (p := ⟨g, jj * 3, none⟩) gl (fun h => h)).trans y0
          have k5 := (hT.cell (p := ⟨g, jj * 3 + 1, none⟩) gl (fun h => h)).trans y1
          have k6 := (hT.cell (p := ⟨g, jj * 3 + 2, none⟩) gl (fun h => h)).trans y2
          go_simp
          (try rw [if_pos (by omega)])
          (try with_reducible rfl)
        rotate_left
        (try simp only [Act.put, List.setIfInBounds_toArray, List.set_cons_zero, List.set_cons_succ])
        refine wpKeep_takeT (i := 3) (oi := ⟨some 29, _, _, _, _, _⟩) (v := ?_) rfl (by kernel_rfl) (by kernel_rfl) (by kernel_rfl) (by kernel_rfl) (fun _ _ _ h => h) (Or.inl ⟨by rfl, ?_⟩) (Keeps.refl _ _).drew (fun _ => trivial) ?_
        rotate_left
        · intro w' hT
          have k0 := (hT.cell (p := ⟨rb, 0, none⟩) cl (fun h => h)).trans c0
          have k1 := (hT.cell (p := ⟨g, j * 3, none⟩) gl (fun h => h)).trans x0
          have k2 := (hT.cell (p := ⟨g, j * 3 + 1, none⟩) gl (fun h => h)).trans x1
          have k3 := (hT.cell (p := ⟨g, j * 3 + 2, none⟩) gl (fun h => h)).trans x2
          have k4 := (hT.cell (p := ⟨g, jj * 3, none⟩) gl (fun h => h)).trans y0
          have k5 := (hT.cell (p := ⟨g, jj * 3 + 1, none⟩) gl (fun h => h)).trans y1
          have k6 := (hT.cell (p := ⟨g, jj * 3 + 2, none⟩) gl (fun h => h)).trans y2
          go_simp
          (try rw [if_pos (by omega)])
          (try with_reducible rfl)
        rotate_left
        (try simp only [Act.put, List.setIfInBounds_toArray, List.set_cons_zero, List.set_cons_succ])
        refine wpKeep_takeT (i := 4) (oi := ⟨some 30, _, _, _, _, _⟩) (v := ?_) rfl (by kernel_rfl) (by kernel_rfl) (by kernel_rfl) (by kernel_rfl) (fun _ _ _ h => h) (Or.inl ⟨by rfl, ?_⟩) (Keeps.refl _ _).drew (fun _ => trivial) ?_
        rotate_left
        · intro w' hT
          have k0 := (hT.cell (p := ⟨rb, 0, none⟩) cl (fun h => h)).trans c0
          have k1 := (hT.cell (p := ⟨g, j * 3, none⟩) gl (fun h => h)).trans x0
          have k2 := (hT.cell (p := ⟨g, j * 3 + 1, none⟩) gl (fun h => h)).trans x1
          have k3 := (hT.cell (p := ⟨g, j * 3 + 2, none⟩) gl (fun h => h)).trans x2
          have k4 := (hT.cell (p := ⟨g, jj * 3, none⟩) gl (fun h => h)).trans y0
          have k5 := (hT.cell (p := ⟨g, jj * 3 + 1, none⟩) gl (fun h => h)).trans y1
          have k6 := (hT.cell (p := ⟨g, jj * 3 + 2, none⟩) gl (fun h => h)).trans y2
          go_simp
          (try rw [if_pos (by omega)])
          (try with_reducible rfl)
        rotate_left
        (try simp only [Act.put, List.setIfInBounds_toArray, List.set_cons_zero, List.set_cons_succ])
        refine wpKeep_takeT (i := 5) (oi := ⟨some 31, _, _, _, _, _⟩) (v := ?_) rfl (by kernel_rfl) (by kernel_rfl) (by kernel_rfl) (by kernel_rfl) (fun _ _ _ h => h) (Or.inl ⟨by rfl, ?_⟩) (Keeps.refl _ _).drew (fun _ => trivial) ?_
        rotate_left
        · intro w' hT
          have k0 := (hT.cell (p := ⟨rb, 0, none⟩) cl (fun h => h)).trans c0
          have k1 := (hT.cell (p := ⟨g, j * 3, none⟩) gl (fun h => h)).trans x0
          have k2 := (hT.cell (p := ⟨g, j * 3 + 1, none⟩) gl (fun h => h)).trans x1
          have k3 := (hT.cell (p := ⟨g, j * 3 + 2, none⟩) gl (fun h => h)).trans x2
          have k4 := (hT.cell (p := ⟨g, jj * 3, none⟩) gl (fun h => h)).trans y0
          have k5 := (hT.cell (p := ⟨g, jj * 3 + 1, none⟩) gl (fun h => h)).trans y1
          have k6 := (hT.cell (p := ⟨g, jj * 3 + 2, none⟩) gl (fun h => h)).trans y2
          go_simp
          (try rw [if_pos (by omega)])
          (try with_reducible rfl)
        rotate_left
        (try simp only [Act.put, List.setIfInBounds_toArray, List.set_cons_zero, List.set_cons_succ])
        refine wpKeep_takeT (i := 6) (oi := ⟨some 32, _, _, _, _, _⟩) (v := ?_) rfl (by kernel_rfl) (by kernel_rfl) (by kernel_rfl) (by kernel_rfl) (fun _ _ _ h => h) (Or.inl ⟨by rfl, ?_⟩) (Keeps.refl _ _).drew (fun _ => trivial) ?_
        rotate_left
        · intro w' hT
          have k0 := (hT.cell (p := ⟨rb, 0, none⟩) cl (fun h => h)).trans c0
          have k1 := (hT.cell (p := ⟨g, j * 3, none⟩) gl (fun h => h)).trans x0
          have k2 := (hT.cell (p := ⟨g, j * 3 + 1, none⟩) gl (fun h => h)).trans x1
          have k3 := (hT.cell (p := ⟨g, j * 3 + 2, none⟩) gl (fun h => h)).trans x2
          have k4 := (hT.cell (p := ⟨g, jj * 3, none⟩) gl (fun h => h)).trans y0
          have k5 := (hT.cell (p := ⟨g, jj * 3 + 1, none⟩) gl (fun h => h)).trans y1
          have k6 := (hT.cell (p := ⟨g, jj * 3 + 2, none⟩) gl (fun h => h)).trans y2
          go_simp
          (try rw [if_pos (by omega)])
          (try with_reducible rfl)
        rotate_left
        (try simp only [Act.put, List.setIfInBounds_toArray, List.set_cons_zero, List.set_cons_succ])
        refine wpKeep_takeT (i := 7) (oi := ⟨some 33, _, _, _, _, _⟩) (v := ?_) rfl (by kernel_rfl) (by kernel_rfl) (by kernel_rfl) (by kernel_rfl) (fun _ _ _ h => h) (Or.inl ⟨by rfl, ?_⟩) (Keeps.refl _ _).drew (fun _ => trivial) ?_
        rotate_left
        · intro w' hT
          have k0 := (hT.cell (p := ⟨rb, 0, none⟩) cl (fun h => h)).trans c0
          have k1 := (hT.cell (p := ⟨g, j * 3, none⟩) gl (fun h => h)).trans x0
          have k2 := (hT.cell (p := ⟨g, j * 3 + 1, none⟩) gl (fun h => h)).trans x1
          have k3 := (hT.cell (p := ⟨g, j * 3 + 2, none⟩) gl (fun h => h)).trans x2
          have k4 := (hT.cell (p := ⟨g, jj * 3, none⟩) gl (fun h => h)).trans y0
          have k5 := (hT.cell (p := ⟨g, jj * 3 + 1, none⟩) gl (fun h => h)).trans y1
          have k6 := (hT.cell (p := ⟨g, jj * 3 + 2, none⟩) gl (fun h => h)).trans y2
          go_simp
          (try rw [if_pos (by omega)])
          (try with_reducible rfl)
        rotate_left
        (try simp only [Act.put, List.setIfInBounds_toArray, List.set_cons_zero, List.set_cons_succ])
        refine wpKeep_takeT (i := 8) (oi := ⟨some 34, _, _, _, _, _⟩) (v := ?_) rfl (by kernel_rfl) (by kernel_rfl) (by kernel_rfl) (by kernel_rfl) (fun _ _ _ h => h) (Or.inl ⟨by rfl, ?_⟩) (Keeps.refl _ _).drew (fun _ => trivial) ?_
        rotate_left
        · intro w' hT
          have k0 := (hT.cell (p := ⟨rb, 0, none⟩) cl (fun h => h)).trans c0
          have k1 := (hT.cell (p := ⟨g, j * 3, none⟩) gl (fun h => h)).trans x0
          have k2 := (hT.cell (p := ⟨g, j * 3 + 1, none⟩) gl (fun h => h)).trans x1
          have k3 := (hT.cell (p := ⟨g, j * 3 + 2, none⟩) gl (fun h => h)).trans x2
          have k4 := (hT.cell (p := ⟨g, jj * 3, none⟩) gl (fun h => h)).trans y0
          have k5 := (hT.cell (p := ⟨g, jj * 3 + 1, none⟩) gl (fun h => h)).trans y1
          have k6 := (hT.cell (p := ⟨g, jj * 3 + 2, none⟩) gl (fun h => h)).trans y2
          go_simp
          (try rw [if_pos (by omega)])
          (try with_reducible rfl)
        rotate_left
        (try simp only [Act.put, List.setIfInBounds_toArray, List.set_cons_zero, List.set_cons_succ])
        refine wpKeep_takeT (i := 9) (oi := ⟨some 35, _, _, _, _, _⟩) (v := ?_) rfl (by kernel_rfl) (by kernel_rfl) (by kernel_rfl) (by kernel_rfl) (fun _ _ _ h => h) (Or.inl ⟨by rfl, ?_⟩) (Keeps.refl _ _).drew (fun _ => trivial) ?_
        rotate_left
        · intro w' hT
          have k0 := (hT.cell (p := ⟨rb, 0, none⟩) cl (fun h => h)).trans c0
          have k1 := (hT.cell (p := ⟨g, j * 3, none⟩) gl (fun h => h)).trans x0
          have k2 := (hT.cell (p := ⟨g, j * 3 + 1, none⟩) gl (fun h => h)).trans x1
          have k3 := (hT.cell (p := ⟨g, j * 3 + 2, none⟩) gl (fun h => h)).trans x2
          have k4 := (hT.cell (p := ⟨g, jj * 3, none⟩) gl (fun h => h)).trans y0
          have k5 := (hT.cell (p := ⟨g, jj * 3 + 1, none⟩) gl (fun h => h)).trans y1
          have k6 := (hT.cell (p := ⟨g, jj * 3 + 2, none⟩) gl (fun h => h)).trans y2
          go_simp
          (try rw [if_pos (by omega)])
          (try with_reducible rfl)
        rotate_left
        (try simp only [Act.put, List.setIfInBounds_toArray, List.set_cons_zero, List.set_cons_succ])
        refine wpKeep_takeT (i := 10) (oi := ⟨some 36, _, _, _, _, _⟩) (v := ?_) rfl (by kernel_rfl) (by kernel_rfl) (by kernel_rfl) (by kernel_rfl) (fun _ _ _ h => h) (Or.inl ⟨by rfl, ?_⟩) (Keeps.refl _ _).drew (fun _ => trivial) ?_
        rotate_left
        · intro w' hT
          have k0 := (hT.cell (p := ⟨rb, 0, none⟩) cl (fun h => h)).trans c0
          have k1 := (hT.cell (p := ⟨g, j * 3, none⟩) gl (fun h => h)).trans x0
          have k2 := (hT.cell (p := ⟨g, j * 3 + 1, none⟩) gl (fun h => h)).trans x1
          have k3 := (hT.cell (p := ⟨g, j * 3 + 2, none⟩) gl (fun h => h)).trans x2
          have k4 := (hT.cell (p := ⟨g, jj * 3, none⟩) gl (fun h => h)).trans y0
          have k5 := (hT.cell (p := ⟨g, jj * 3 + 1, none⟩) gl (fun h => h)).trans y1
          have k6 := (hT.cell (p := ⟨g, jj * 3 + 2, none⟩) gl (fun h => h)).trans y2
          go_simp
          (try rw [if_pos (by omega)])
          (try with_reducible rfl)
        rotate_left
        (try simp only [Act.put, List.setIfInBounds_toArray, List.set_cons_zero, List.set_cons_succ])
        refine wpKeep_takeT (i := 11) (oi := ⟨some 37, _, _, _, _, _⟩) (v := ?_) rfl (by kernel_rfl) (by kernel_rfl) (by kernel_rfl) (by kernel_rfl) (fun _ _ _ h => h) (Or.inl ⟨by rfl, ?_⟩) (Keeps.refl _ _).drew (fun _ => trivial) ?_
        rotate_left
        · intro w' hT
          have k0 := (hT.cell (p := ⟨rb, 0, none⟩) cl (fun h => h)).trans c0
          have k1 := (hT.cell (p := ⟨g, j * 3, none⟩) gl (fun h => h)).trans x0
          have k2 := (hT.cell (p := ⟨g, j * 3 + 1, none⟩) gl (fun h => h)).trans x1
          have k3 := (hT.cell (p := ⟨g, j * 3 + 2, none⟩) gl (fun h => h)).trans x2
          have k4 := (hT.cell (p := ⟨g, jj * 3, none⟩) gl (fun h => h)).trans y0
          have k5 := (hT.cell (p := ⟨g, jj * 3 + 1, none⟩) gl (fun h => h)).trans y1
          have k6 := (hT.cell (p := ⟨g, jj * 3 + 2, none⟩) gl (fun h => h)).trans y2
          go_simp
          (try rw [if_pos (by omega)])
          (try with_reducible rfl)
        rotate_left
        (try simp only [Act.put, List.setIfInBounds_toArray, List.set_cons_zero, List.set_cons_succ])
        refine wpKeep_takeT (i := 12) (oi := ⟨some 38, _, _, _, _, _⟩) (v := ?_) rfl (by kernel_rfl) (by kernel_rfl) (by kernel_rfl) (by kernel_rfl) (fun _ _ _ h => h) (Or.inl ⟨by rfl, ?_⟩) (Keeps.refl _ _).drew (fun _ => trivial) ?_
        rotate_left
        · intro w' hT
          have k0 := (hT.cell (p := ⟨rb, 0, none⟩) cl (fun h => h)).trans c0
          have k1 := (hT.cell (p := ⟨g, j * 3, none⟩) gl (fun h => h)).trans x0
          have k2 := (hT.cell (p := ⟨g, j * 3 + 1, none⟩) gl (fun h => h)).trans x1
          have k3 := (hT.cell (p := ⟨g, j * 3 + 2, none⟩) gl (fun h => h)).trans x2
          have k4 := (hT.cell (p := ⟨g, jj * 3, none⟩) gl (fun h => h)).trans y0
          have k5 := (hT.cell (p := ⟨g, jj * 3 + 1, none⟩) gl (fun h => h)).trans y1
          have k6 := (hT.cell (p := ⟨g, jj * 3 + 2, none⟩) gl (fun h => h)).trans y2
          go_simp
          (try rw [if_pos (by omega)])
          (try with_reducible rfl)
        rotate_left
        (try simp only [Act.put, List.setIfInBounds_toArray, List.set_cons_zero, List.set_cons_succ])
        refine wpKeep_takeT (i := 13) (oi := ⟨some 39, _, _, _, _, _⟩) (v := ?_) rfl (by kernel_rfl) (by kernel_rfl) (by kernel_rfl) (by kernel_rfl) (fun _ _ _ h => h) (Or.inl ⟨by rfl, ?_⟩) (Keeps.refl _ _).drew (fun _ => trivial) ?_
        rotate_left
        · intro w' hT
          have k0 := (hT.cell (p := ⟨rb, 0, none⟩) cl (fun h => h)).trans c0
          have k1 := (hT.cell (p := ⟨g, j * 3, none⟩) gl (fun h => h)).trans x0
          have k2 := (hT.cell (p := ⟨g, j * 3 + 1, none⟩) gl (fun h => h)).trans x1
          have k3 := (hT.cell (p := ⟨g, j * 3 + 2, none⟩) gl (fun h => h)).trans x2
          have k4 := (hT.cell (p := ⟨g, jj * 3, none⟩) gl (fun h => h)).trans y0
          have k5 := (hT.cell (p := ⟨g, jj * 3 + 1, none⟩) gl (fun h => h)).trans y1
          have k6 := (hT.cell (p := ⟨g, jj * 3 + 2, none⟩) gl (fun h => h)).trans y2
          go_simp
          (try rw [if_pos (by omega)])
          (try with_reducible rfl)
        rotate_left
        (try simp only [Act.put, List.setIfInBounds_toArray, List.set_cons_zero, List.set_cons_succ])
        refine wpKeep_takeT (i := 14) (oi := ⟨some 40, _, _, _, _, _⟩) (v := ?_) rfl (by kernel_rfl) (by kernel_rfl) (by kernel_rfl) (by kernel_rfl) (fun _ _ _ h => h) (Or.inl ⟨by rfl, ?_⟩) (Keeps.refl _ _).drew (fun _ => trivial) ?_
        rotate_left
        · intro w' hT
          have k0 := (hT.cell (p := ⟨rb, 0, none⟩) cl (fun h => h)).trans c0
          have k1 := (hT.cell (p := ⟨g, j * 3, none⟩) gl (fun h => h)).trans x0
          have k2 := (hT.cell (p := ⟨g, j * 3 + 1, none⟩) gl (fun h => h)).trans x1
          have k3 := (hT.cell (p := ⟨g, j * 3 + 2, none⟩) gl (fun h => h)).trans x2
          have k4 := (hT.cell (p := ⟨g, jj * 3, none⟩) gl (fun h => h)).trans y0
          have k5 := (hT.cell (p := ⟨g, jj * 3 + 1, none⟩) gl (fun h => h)).trans y1
          have k6 := (hT.cell (p := ⟨g, jj * 3 + 2, none⟩) gl (fun h => h)).trans y2
          go_simp
          (try rw [if_pos (by omega)])
          (try with_reducible rfl)
        rotate_left
        (try simp only [Act.put, List.setIfInBounds_toArray, List.set_cons_zero, List.set_cons_succ])
        refine wpKeep_takeT (i := 15) (oi := ⟨some 41, _, _, _, _, _⟩) (v := ?_) rfl (by kernel_rfl) (by kernel_rfl) (by kernel_rfl) (by kernel_rfl) (fun _ _ _ h => h) (Or.inl ⟨by rfl, ?_⟩) (Keeps.refl _ _).drew (fun _ => trivial) ?_
        rotate_left
        · intro w' hT
          have k0 := (hT.cell (p := ⟨rb, 0, none⟩) cl (fun h => h)).trans c0
          have k1 := (hT.cell (p := ⟨g, j * 3, none⟩) gl (fun h => h)).trans x0
          have k2 := (hT.cell (p := ⟨g, j * 3 + 1, none⟩) gl (fun h => h)).trans x1
          have k3 := (hT.cell (p := ⟨g, j * 3 + 2, none⟩) gl (fun h => h)).trans x2
          have k4 := (hT.cell (p := ⟨g, jj * 3, none⟩) gl (fun h => h)).trans y0
          have k5 := (hT.cell (p := ⟨g, jj * 3 + 1, none⟩) gl (fun h => h)).trans y1
          have k6 := (hT.cell (p := ⟨g, jj * 3 + 2, none⟩) gl (fun h => h)).trans y2
          go_simp
          (try rw [if_pos (by omega)])
          (try with_reducible rfl)
        rotate_left
        (try simp only [Act.put, List.setIfInBounds_toArray, List.set_cons_zero, List.set_cons_succ])
        refine wpKeep_ready (rs := [16, 17]) (by kernel_rfl) (by simp) ?_
        refine AllKeep.cons (o := ⟨some 5, _, _, _, _, _⟩) rfl (fun K hK => ?_) (AllKeep.cons (o := ⟨some 6, _, _, _, _, _⟩) rfl (fun K hK => ?_) AllKeep.nil)
        · go_simp
          refine hK.out _ _ (((Keeps.refl (fun _ => False) wr).alloc _).drew) (fun _ => trivial) ?_
          clear hK K
          (try simp only [Act.put, List.setIfInBounds_toArray, List.set_cons_zero, List.set_cons_succ])
          refine wpKeep_ready (rs := [17]) (by kernel_rfl) (by simp) ?_
          refine AllKeep.cons (o := ⟨some 6, _, _, _, _, _⟩) rfl (fun K hK => ?_) AllKeep.nil
          go_simp
          refine hK.out _ _ ((((Keeps.refl (fun _ => False) wr).alloc _).alloc _).drew) (fun _ => trivial) ?_
          clear hK K
          (try simp only [Act.put, List.setIfInBounds_toArray, List.set_cons_zero, List.set_cons_succ])
          refine wpKeep_ready (rs := [18]) (by kernel_rfl) (by simp) ?_
          refine AllKeep.cons (o := ⟨none, _, _, _, _, _⟩) rfl (fun K hK => ?_) AllKeep.nil
          go_simp
          refine hK.out _ _ ((((Keeps.refl (fun _ => False) wr).alloc _).alloc _).drew) (fun _ => trivial) ?_
          clear hK K
          (try simp only [Act.put, List.setIfInBounds_toArray, List.set_cons_zero, List.set_cons_succ])
          refine wpKeep_ready (rs := [19]) (by kernel_rfl) (by simp) ?_
          refine AllKeep.cons (o := ⟨none, _, _, _, _, _⟩) rfl (fun K hK => ?_) AllKeep.nil
          go_simp
          refine hK.out _ _ ((((Keeps.refl (fun _ => False) wr).alloc _).alloc _).drew) (fun _ => trivial) ?_
          clear hK K
          (try simp only [Act.put, List.setIfInBounds_toArray, List.set_cons_zero, List.set_cons_succ])
          refine wpKeep_done (by kernel_rfl) ?_ _
          have g0 := heap_alloc_new wr (.cells #[.int .i64 (a.1 : Int), .int .i64 (a.2 : Int), .string (str (V a))] 126)
          have g1 := heap_alloc_new (wr.alloc (.cells #[.int .i64 (a.1 : Int), .int .i64 (a.2 : Int), .string (str (V a))] 126)) (.cells #[.int .i64 (c.1 : Int), .int .i64 (c.2 : Int), .string (str (V c))] 126)
          have g2 := (((Keeps.refl (fun _ => False) (wr.alloc (.cells #[.int .i64 (a.1 : Int), .int .i64 (a.2 : Int), .string (str (V a))] 126))).alloc (.cells #[.int .i64 (c.1 : Int), .int .i64 (c.2 : Int), .string (str (V c))] 126)).drew).at_ g0 (fun h => h)
          rw [World.size_alloc] at g1
          go_wp2_with fail
          go_meet
          case rel => exact ⟨_, _, rfl, rfl, g2, g1, ⟨by omega, by omega⟩, ((Keeps.refl (fun _ => False) wr).alloc (.cells #[.int .i64 (a.1 : Int), .int .i64 (a.2 : Int), .string (str (V a))] 126) |>.alloc (.cells #[.int .i64 (c.1 : Int), .int .i64 (c.2 : Int), .string (str (V c))] 126)).drew⟩
        · go_simp
          refine hK.out _ _ (((Keeps.refl (fun _ => False) wr).alloc _).drew) (fun _ => trivial) ?_
          clear hK K
          (try simp only [Act.put, List.setIfInBounds_toArray, List.set_cons_zero, List.set_cons_succ])
          refine wpKeep_ready (rs := [16]) (by kernel_rfl) (by simp) ?_
          refine AllKeep.cons (o := ⟨some 5, _, _, _, _, _⟩) rfl (fun K hK => ?_) AllKeep.nil
          go_simp
          refine hK.out _ _ ((((Keeps.refl (fun _ => False) wr).alloc _).alloc _).drew) (fun _ => trivial) ?_
          clear hK K
          (try simp only [Act.put, List.setIfInBounds_toArray, List.set_cons_zero, List.set_cons_succ])
          refine wpKeep_ready (rs := [18]) (by kernel_rfl) (by simp) ?_
          refine AllKeep.cons (o := ⟨none, _, _, _, _, _⟩) rfl (fun K hK => ?_) AllKeep.nil
          go_simp
          refine hK.out _ _ ((((Keeps.refl (fun _ => False) wr).alloc _).alloc _).drew) (fun _ => trivial) ?_
          clear hK K
          (try simp only [Act.put, List.setIfInBounds_toArray, List.set_cons_zero, List.set_cons_succ])
          refine wpKeep_ready (rs := [19]) (by kernel_rfl) (by simp) ?_
          refine AllKeep.cons (o := ⟨none, _, _, _, _, _⟩) rfl (fun K hK => ?_) AllKeep.nil
          go_simp
          refine hK.out _ _ ((((Keeps.refl (fun _ => False) wr).alloc _).alloc _).drew) (fun _ => trivial) ?_
          clear hK K
          (try simp only [Act.put, List.setIfInBounds_toArray, List.set_cons_zero, List.set_cons_succ])
          refine wpKeep_done (by kernel_rfl) ?_ _
          have g0 := heap_alloc_new wr (.cells #[.int .i64 (c.1 : Int), .int .i64 (c.2 : Int), .string (str (V c))] 126)
          have g1 := heap_alloc_new (wr.alloc (.cells #[.int .i64 (c.1 : Int), .int .i64 (c.2 : Int), .string (str (V c))] 126)) (.cells #[.int .i64 (a.1 : Int), .int .i64 (a.2 : Int), .string (str (V a))] 126)
          have g2 := (((Keeps.refl (fun _ => False) (wr.alloc (.cells #[.int .i64 (c.1 : Int), .int .i64 (c.2 : Int), .string (str (V c))] 126))).alloc (.cells #[.int .i64 (a.1 : Int), .int .i64 (a.2 : Int), .string (str (V a))] 126)).drew).at_ g0 (fun h => h)
          rw [World.size_alloc] at g1
          go_wp2_with fail
          go_meet
          case rel => exact ⟨_, _, rfl, rfl, g1, g2, ⟨by omega, by omega⟩, ((Keeps.refl (fun _ => False) wr).alloc (.cells #[.int .i64 (c.1 : Int), .int .i64 (c.2 : Int), .string (str (V c))] 126) |>.alloc (.cells #[.int .i64 (a.1 : Int), .int .i64 (a.2 : Int), .string (str (V a))] 126)).drew⟩
      case rest =>
        obtain ⟨pa, pc, rfl, rfl, hpa, hpc, hwp, fc⟩ := hcut
        obtain ⟨a1, a2⟩ := a
        obtain ⟨c1, c2⟩ := c
        obtain ⟨hra, haa, hca⟩ := HR'.out.unsnoc
        have hce := HE'.out
        have hxb := HX.out
        simp only at haa hca hce hpa hpc
        have hp2 := pow_pos2 a2
        have hp3 := pow_pos2 c2
        have hc40 : c2 ≤ 40 := pow_le_of40 (by show 2 ^ c2 ≤ 1099511627776; omega)
        have ha40 : a2 ≤ 40 := pow_le_of40 (by show 2 ^ a2 ≤ 1099511627776; omega)
        have hBc := HB'.out.fresh fc
        have hboxc := hBc.box
        have hlen : (l2 ++ [(a1, a2)] ++ [(c1, c2)]).length = nn := by simp; have := HJ.out; have := HNN.out; omega
        rw [hlen] at hboxc
        have hno : ∀ L, L = l2 ++ [(a1, a2)] ++ [(c1, c2)] → ¬ Merges (a1, a2) (c1, c2) → Pushed V p (q + 2 ^ k) rb (l.length + 1) (.slice ao l.length cap) w wc := fun L hL hnm => ⟨L, _, by rw [hL, ← HE'.out]; exact HR'.out.snoc HC'.out, by rw [hL, List.append_assoc]; exact HD'.out.snoc hnm, by rw [hL]; exact hBc, by rw [hL]; exact HV'.out, by rw [hL, List.length_append]; have := HL'.out; simp only [List.length_singleton]; omega, HO'.out, HK'.out.trans (fc.mono (fun _ _ h => h.elim))⟩
        have HNO := hid hno
        have k0 := (cell_at hboxc 0).trans (show _ = some (Value.slice (some ⟨g, 0, none⟩) nn cp') from rfl)
        have k1 := free_at hboxc 0
        have kl := lt_of_block hboxc
        have u0 := (cell_at hpa 0).trans (show _ = some (Value.int .i64 (a1 : Int)) from rfl)
        have u1 := (cell_at hpa 1).trans (show _ = some (Value.int .i64 (a2 : Int)) from rfl)
        have u2' := (cell_at hpa 2).trans (show _ = some (Value.string (str (V (a1, a2)))) from rfl)
        have ul := lt_of_block hpa
        have v1 := (cell_at hpc 1).trans (show _ = some (Value.int .i64 (c2 : Int)) from rfl)
        have v2 := (cell_at hpc 2).trans (show _ = some (Value.string (str (V (c1, c2)))) from rfl)
        have vl := lt_of_block hpc
        have HBC := hid hBc
        have HRA := hid hra
        have HAA := hid haa
        have HCA := hid hca
        have HCE := hid hce
        have HPA := hid hpa
        have HPC := hid hpc
        have hi40 : (a2 : Int) ≤ 40 := by omega
        have hj40 : (c2 : Int) ≤ 40 := by omega
        have ha140 : a1 ≤ 1099511627776 := by omega
        clear hra haa hca hce hxb hBc hboxc hno hpa hpc hlen hc40 ha40 hp2 hp3 x0 x1 x2 y0 y1 y2 c0 cl gl
        by_cases heq : a2 = c2
        · subst heq
          have hQle := Nat.div_le_self a1 (2 ^ a2)
          have hQi : (a1 : Int) / 2 ^ a2 = ((a1 / 2 ^ a2 : Nat) : Int) := by simp
          have hand := and_nat (a := a1 / 2 ^ a2) (b := 1) (by omega) (by omega)
          rw [Nat.and_one_is_mod, show ((1 : Nat) : Int) = 1 from rfl] at hand
          have hmg : a1 / 2 ^ a2 % 2 = 0 ↔ Merges (a1, a2) (c1, a2) := ⟨fun z => ⟨rfl, z⟩, fun z => z.2⟩
          obtain ⟨Q, hQ⟩ : ∃ Q, a1 / 2 ^ a2 = Q := ⟨_, rfl⟩
          rw [hQ] at hQi hand hQle hmg
          have hQb : (Q : Int) ≤ 1099511627776 := by omega
          have HQ := hid hQ
          have HMG := hid hmg
          have ha1b : (a1 : Int) ≤ 1099511627776 := by omega
          clear hQ hmg hQle
          by_cases hbt : Q % 2 = 0
          · rw [hbt, show ((0 : Nat) : Int) = 0 from rfl] at hand
            have hev := even_mod HAA.out (by rw [HQ.out]; exact hbt)
            have hsum : a1 + 2 ^ (a2 + 1) = q + 2 ^ k := by have := HCA.out; have := HCE.out; rw [pow_succ2]; omega
            have hval := HM.out a1 a2 HRA.out.le hev hsum
            have hc1e : c1 = a1 + 2 ^ a2 := HCA.out
            rw [← hc1e] at hval
            have hVa := HV'.out (a1, a2) (by simp)
            have hVc := HV'.out (c1, a2) (by simp)
            have hfn := fun W (f : Dig W) => fnode_any (V (a1, a2)) (V (c1, a2)) hVa hVc W f
            rw [← hval] at hfn
            have hV3 : (V (a1, a2 + 1)).length = 32 := by rw [hval]; exact nodeH_len _ _
            obtain ⟨a3, ha3⟩ : ∃ a3, a2 + 1 = a3 := ⟨_, rfl⟩
            rw [ha3] at hev hsum hfn hV3
            have HEV := hid hev
            have HSUM := hid hsum
            have HFN := hid hfn
            have HV3 := hid hV3
            have HA3 := hid ha3
            have z9 : IntKind.i64.wrap ((a2 : Int) + 1) = (a3 : Int) := by rw [IntWalk.i64_in _ (by omega)]; omega
            have hjc : (j : Int) ≤ (cp' : Int) := by
              have h1 := HBC.out.row
              obtain ⟨_, ⟨e, h0⟩ | ⟨g', cap', cur, e, _, _, hn, _⟩⟩ := h1
              · simp at e
              · simp only [Value.slice.injEq] at e
                simp at hn
                have := HJ.out
                omega
            have hrwc : wc.ownsRow 0 126 3 (.slice (some ⟨g, 0, none⟩) j cp') j (pcells V l2) := by
              have h1 := HBC.out.row
              have hlen : (l2 ++ [(a1, a2)] ++ [(c1, a2)]).length = nn := by simp; have := HJ.out; have := HNN.out; omega
              rw [hlen] at h1
              have h2 := ownsRow_shrink (m := j) h1 (by omega) (by omega)
              rw [List.append_assoc, pcells_append, List.take_left' (by rw [pcells_len]; have := HJ.out; omega)] at h2
              have e : (Value.slice (some ⟨g, 0, none⟩) (l2 ++ [(a1, a2)] ++ [(c1, a2)]).length cp') = .slice (some ⟨g, 0, none⟩) nn cp' := by rw [hlen]
              exact h2
            have hgn : g ≠ rb := fun e => HBC.out.ne (by rw [e]; rfl)
            have hgl : g < wr.heap.size := by
              have h1 := (HB'.out.row.lt g rfl).2
              exact h1
            have hpg : g ≠ pa := fun e => by have := hwp.1; omega
            have hcg : g ≠ pc := fun e => by have := hwp.2; omega
            clear hbt hev hsum hval hc1e hVa hVc hfn hV3 ha3 ha140
            go_wp2_with fail
            clear hand hQi hQb
            refine wp_region_keep 24 (fun w' => Keeps (fun x => x = rb ∨ x = g) wc w') (fun w' => w'.cell? ⟨rb, 0, none⟩ = some (.slice (some ⟨g, 0, none⟩) nn cp') ∧ w'.frozen? ⟨rb, 0, none⟩ = false ∧ w'.cell? ⟨pa, 0, none⟩ = some (.int .i64 (a1 : Int)) ∧ w'.cell? ⟨pa, 1, none⟩ = some (.int .i64 (a2 : Int)) ∧ w'.cell? ⟨pa, 2, none⟩ = some (.string (str (V (a1, a2)))) ∧ w'.cell? ⟨pc, 2, none⟩ = some (.string (str (V (c1, a2))))) (fun j => !(j == 23)) (by kernel_rfl) (by kernel_rfl) ?_
            (try (change wpKeep _ _ _ _ _ _ _ _ _ _ (World.drew _)))
            refine wpKeep_takeT (i := 0) (oi := ⟨some 56, _, _, _, _, _⟩) (v := ?_) rfl (by kernel_rfl) (by kernel_rfl) (by kernel_rfl) (by kernel_rfl) (fun _ _ _ h => h) (Or.inl ⟨by rfl, ?_⟩) (Keeps.refl _ _).drew (fun _ => ⟨k0, k1, u0, u1, u2', v2⟩) ?_
            rotate_left
            · intro w' hT
              go_simp
              (try rw [if_pos (by omega)])
              (try with_reducible rfl)
            rotate_left
            (try simp only [Act.put, List.setIfInBounds_toArray, List.set_cons_zero, List.set_cons_succ])
            refine wpKeep_takeT (i := 1) (oi := ⟨some 57, _, _, _, _, _⟩) (v := ?_) rfl (by kernel_rfl) (by kernel_rfl) (by kernel_rfl) (by kernel_rfl) (fun _ _ _ h => h) (Or.inl ⟨by rfl, ?_⟩) (Keeps.refl _ _).drew (fun _ => ⟨k0, k1, u0, u1, u2', v2⟩) ?_
            rotate_left
            · intro w' hT
              go_simp
              (try rw [if_pos (by omega)])
              (try with_reducible rfl)
            rotate_left
            (try simp only [Act.put, List.setIfInBounds_toArray, List.set_cons_zero, List.set_cons_succ])
            refine wpKeep_takeT (i := 2) (oi := ⟨some 58, _, _, _, _, _⟩) (v := ?_) rfl (by kernel_rfl) (by kernel_rfl) (by kernel_rfl) (by kernel_rfl) (fun _ _ _ h => h) (Or.inl ⟨by rfl, ?_⟩) (Keeps.refl _ _).drew (fun _ => ⟨k0, k1, u0, u1, u2', v2⟩) ?_
            rotate_left
            · intro w' hT
              go_simp
              (try rw [if_pos (by omega)])
              (try with_reducible rfl)
            rotate_left
            (try simp only [Act.put, List.setIfInBounds_toArray, List.set_cons_zero, List.set_cons_succ])
            refine wpKeep_takeT (i := 3) (oi := ⟨some 59, _, _, _, _, _⟩) (v := ?_) rfl (by kernel_rfl) (by kernel_rfl) (by kernel_rfl) (by kernel_rfl) (fun _ _ _ h => h) (Or.inl ⟨by rfl, ?_⟩) (Keeps.refl _ _).drew (fun _ => ⟨k0, k1, u0, u1, u2', v2⟩) ?_
            rotate_left
            · intro w' hT
              go_simp
              (try rw [if_pos (by omega)])
              (try with_reducible rfl)
            rotate_left
            (try simp only [Act.put, List.setIfInBounds_toArray, List.set_cons_zero, List.set_cons_succ])
            refine wpKeep_take (i := 4) (oi := ⟨some 60, _, _, _, _, _⟩) (v := ?_) rfl (by kernel_rfl) (by kernel_rfl) (by kernel_rfl) (by kernel_rfl) (fun _ _ _ h => h) (Or.inl ⟨by rfl, ?_⟩) ⟨(Keeps.refl _ _).drew, ⟨k0, k1, u0, u1, u2', v2⟩⟩ ?_
            rotate_left
            · intro w' hT
              have hS0 := hT.2
              replace hT := hT.1
              go_simp
              (try rw [if_pos (by omega)])
              (try with_reducible rfl)
            rotate_left
            (try simp only [Act.put, List.setIfInBounds_toArray, List.set_cons_zero, List.set_cons_succ])
            refine wpKeep_takeT (i := 5) (oi := ⟨some 61, _, _, _, _, _⟩) (v := ?_) rfl (by kernel_rfl) (by kernel_rfl) (by kernel_rfl) (by kernel_rfl) (fun _ _ _ h => h) (Or.inl ⟨by rfl, ?_⟩) (Keeps.refl _ _).drew (fun _ => ⟨k0, k1, u0, u1, u2', v2⟩) ?_
            rotate_left
            · intro w' hT
              go_simp
              (try rw [if_pos (by omega)])
              (try with_reducible rfl)
            rotate_left
            (try simp only [Act.put, List.setIfInBounds_toArray, List.set_cons_zero, List.set_cons_succ])
            refine wpKeep_takeT (i := 6) (oi := ⟨some 62, _, _, _, _, _⟩) (v := ?_) rfl (by kernel_rfl) (by kernel_rfl) (by kernel_rfl) (by kernel_rfl) (fun _ _ _ h => h) (Or.inl ⟨by rfl, ?_⟩) (Keeps.refl _ _).drew (fun _ => ⟨k0, k1, u0, u1, u2', v2⟩) ?_
            rotate_left
            · intro w' hT
              go_simp
              (try rw [if_pos (by omega)])
              (try with_reducible rfl)
            rotate_left
            (try simp only [Act.put, List.setIfInBounds_toArray, List.set_cons_zero, List.set_cons_succ])
            refine wpKeep_takeT (i := 7) (oi := ⟨some 63, _, _, _, _, _⟩) (v := ?_) rfl (by kernel_rfl) (by kernel_rfl) (by kernel_rfl) (by kernel_rfl) (fun _ _ _ h => h) (Or.inl ⟨by rfl, ?_⟩) (Keeps.refl _ _).drew (fun _ => ⟨k0, k1, u0, u1, u2', v2⟩) ?_
            rotate_left
            · intro w' hT
              go_simp
              (try rw [if_pos (by omega)])
              (try with_reducible rfl)
            rotate_left
            (try simp only [Act.put, List.setIfInBounds_toArray, List.set_cons_zero, List.set_cons_succ])
            refine wpKeep_takeT (i := 8) (oi := ⟨some 64, _, _, _, _, _⟩) (v := ?_) rfl (by kernel_rfl) (by kernel_rfl) (by kernel_rfl) (by kernel_rfl) (fun _ _ _ h => h) (Or.inl ⟨by rfl, ?_⟩) (Keeps.refl _ _).drew (fun _ => ⟨k0, k1, u0, u1, u2', v2⟩) ?_
            rotate_left
            · intro w' hT
              go_simp
              (try rw [if_pos (by omega)])
              (try with_reducible rfl)
            rotate_left
            (try simp only [Act.put, List.setIfInBounds_toArray, List.set_cons_zero, List.set_cons_succ])
            refine wpKeep_take (i := 9) (oi := ⟨some 65, _, _, _, _, _⟩) (v := ?_) rfl (by kernel_rfl) (by kernel_rfl) (by kernel_rfl) (by kernel_rfl) (fun _ _ _ h => h) (Or.inl ⟨by rfl, ?_⟩) ⟨(Keeps.refl _ _).drew, ⟨k0, k1, u0, u1, u2', v2⟩⟩ ?_
            rotate_left
            · intro w' hT
              have hS0 := hT.2
              replace hT := hT.1
              go_simp
              (try rw [if_pos (by omega)])
              (try with_reducible rfl)
            rotate_left
            (try simp only [Act.put, List.setIfInBounds_toArray, List.set_cons_zero, List.set_cons_succ])
            refine wpKeep_takeT (i := 10) (oi := ⟨some 66, _, _, _, _, _⟩) (v := ?_) rfl (by kernel_rfl) (by kernel_rfl) (by kernel_rfl) (by kernel_rfl) (fun _ _ _ h => h) (Or.inl ⟨by rfl, ?_⟩) (Keeps.refl _ _).drew (fun _ => ⟨k0, k1, u0, u1, u2', v2⟩) ?_
            rotate_left
            · intro w' hT
              go_simp
              (try rw [if_pos (by omega)])
              (try with_reducible rfl)
            rotate_left
            (try simp only [Act.put, List.setIfInBounds_toArray, List.set_cons_zero, List.set_cons_succ])
            refine wpKeep_take (i := 11) (oi := ⟨some 67, _, _, _, _, _⟩) (v := ?_) rfl (by kernel_rfl) (by kernel_rfl) (by kernel_rfl) (by kernel_rfl) (fun _ _ _ h => h) (Or.inl ⟨by rfl, ?_⟩) ⟨(Keeps.refl _ _).drew, ⟨k0, k1, u0, u1, u2', v2⟩⟩ ?_
            rotate_left
            · intro w' hT
              have hS0 := hT.2
              replace hT := hT.1
              go_simp
              (try rw [if_pos (by omega)])
              (try with_reducible rfl)
            rotate_left
            (try simp only [Act.put, List.setIfInBounds_toArray, List.set_cons_zero, List.set_cons_succ])
            refine wpKeep_takeT (i := 12) (oi := ⟨some 68, _, _, _, _, _⟩) (v := ?_) rfl (by kernel_rfl) (by kernel_rfl) (by kernel_rfl) (by kernel_rfl) (fun _ _ _ h => h) (Or.inl ⟨by rfl, ?_⟩) (Keeps.refl _ _).drew (fun _ => ⟨k0, k1, u0, u1, u2', v2⟩) ?_
            rotate_left
            · intro w' hT
              go_simp
              (try rw [if_pos (by omega)])
              (try with_reducible rfl)
            rotate_left
            (try simp only [Act.put, List.setIfInBounds_toArray, List.set_cons_zero, List.set_cons_succ])
            refine wpKeep_takeT (i := 13) (oi := ⟨some 69, _, _, _, _, _⟩) (v := ?_) rfl (by kernel_rfl) (by kernel_rfl) (by kernel_rfl) (by kernel_rfl) (fun _ _ _ h => h) (Or.inl ⟨by rfl, ?_⟩) (Keeps.refl _ _).drew (fun _ => ⟨k0, k1, u0, u1, u2', v2⟩) ?_
            rotate_left
            · intro w' hT
              go_simp
              (try rw [if_pos (by omega)])
              (try with_reducible rfl)
            rotate_left
            (try simp only [Act.put, List.setIfInBounds_toArray, List.set_cons_zero, List.set_cons_succ])
            refine wpKeep_take (i := 14) (oi := ⟨some 70, _, _, _, _, _⟩) (v := ?_) rfl (by kernel_rfl) (by kernel_rfl) (by kernel_rfl) (by kernel_rfl) (fun _ _ _ h => h) (Or.inl ⟨by rfl, ?_⟩) ⟨(Keeps.refl _ _).drew, ⟨k0, k1, u0, u1, u2', v2⟩⟩ ?_
            rotate_left
            · intro w' hT
              have hS0 := hT.2
              replace hT := hT.1
              go_simp
              (try rw [if_pos (by omega)])
              (try with_reducible rfl)
            rotate_left
            (try simp only [Act.put, List.setIfInBounds_toArray, List.set_cons_zero, List.set_cons_succ])
            refine wpKeep_takeT (i := 15) (oi := ⟨some 71, _, _, _, _, _⟩) (v := ?_) rfl (by kernel_rfl) (by kernel_rfl) (by kernel_rfl) (by kernel_rfl) (fun _ _ _ h => h) (Or.inl ⟨by rfl, ?_⟩) (Keeps.refl _ _).drew (fun _ => ⟨k0, k1, u0, u1, u2', v2⟩) ?_
            rotate_left
            · intro w' hT
              go_simp
              (try rw [if_pos (by omega)])
              (try with_reducible rfl)
            rotate_left
            (try simp only [Act.put, List.setIfInBounds_toArray, List.set_cons_zero, List.set_cons_succ])
            refine wpKeep_take (i := 16) (oi := ⟨some 72, _, _, _, _, _⟩) (v := ?_) rfl (by kernel_rfl) (by kernel_rfl) (by kernel_rfl) (by kernel_rfl) (fun _ _ _ h => h) (Or.inl ⟨by rfl, ?_⟩) ⟨(Keeps.refl _ _).drew, ⟨k0, k1, u0, u1, u2', v2⟩⟩ ?_
            rotate_left
            · intro w' hT
              have hS0 := hT.2
              replace hT := hT.1
              go_simp
              (try rw [if_pos (by omega)])
              (try with_reducible rfl)
            rotate_left
            (try simp only [Act.put, List.setIfInBounds_toArray, List.set_cons_zero, List.set_cons_succ])
            refine wpKeep_ready (rs := [17]) (by kernel_rfl) (by simp) ?_
            refine AllKeep.cons (o := ⟨some 73, _, _, _, _, _⟩) rfl (fun K hK => ?_) AllKeep.nil
            go_simp
            go_at_call 106
            with_reducible refine (HFN.out _ ((HD.out.keepsHigh HK'.out HG.out).fresh (fc.trans (Keeps.refl (fun _ => False) wc).drew))).mono ?_
            rintro x w5 ⟨rfl, f5⟩
            have f5 : Fresh wc w5 := (Keeps.refl (fun _ => False) wc).drew.trans f5
            have T5 : Keeps (fun x => x = rb ∨ x = g) wc w5 := f5.mono (fun _ _ h => h.elim)
            have m0 := (f5.cell (p := ⟨rb, 0, none⟩) kl (fun h => h)).trans k0
            have m1 := (f5.frozen (p := ⟨rb, 0, none⟩) kl (fun h => h)).trans k1
            have m2 := (f5.cell (p := ⟨pa, 0, none⟩) ul (fun h => h)).trans u0
            have m3 := (f5.cell (p := ⟨pa, 1, none⟩) ul (fun h => h)).trans u1
            have m4 := (f5.cell (p := ⟨pa, 2, none⟩) ul (fun h => h)).trans u2'
            have m5 := (f5.cell (p := ⟨pc, 2, none⟩) vl (fun h => h)).trans v2
            dsimp only
            refine hK.out _ _ T5 (fun _ => ⟨m0, m1, m2, m3, m4, m5⟩) ?_
            clear hK K
            (try simp only [Act.put, List.setIfInBounds_toArray, List.set_cons_zero, List.set_cons_succ])
            refine wpKeep_takeT (i := 18) (oi := ⟨some 74, _, _, _, _, _⟩) (v := ?_) rfl (by kernel_rfl) (by kernel_rfl) (by kernel_rfl) (by kernel_rfl) (fun _ _ _ h => h) (Or.inl ⟨by rfl, ?_⟩) T5 (fun _ => ⟨m0, m1, m2, m3, m4, m5⟩) ?_
            rotate_left
            · intro w' hT
              go_simp
              (try rw [if_pos (by omega)])
              (try with_reducible rfl)
            rotate_left
            (try simp only [Act.put, List.setIfInBounds_toArray, List.set_cons_zero, List.set_cons_succ])
            refine wpKeep_ready (rs := [19]) (by kernel_rfl) (by simp) ?_
            refine AllKeep.cons (o := ⟨some 75, _, _, _, _, _⟩) rfl (fun K hK => ?_) AllKeep.nil
            go_simp
            have f6 := f5.alloc (.cells #[.int .i64 (a1 : Int), .int .i64 (a3 : Int), .string (str (V (a1, a3)))] 126)
            have hnew := heap_alloc_new w5 (.cells #[.int .i64 (a1 : Int), .int .i64 (a3 : Int), .string (str (V (a1, a3)))] 126)
            have kl5 : rb < w5.heap.size := Nat.lt_of_lt_of_le kl f5.size
            have ul5 : pa < w5.heap.size := Nat.lt_of_lt_of_le ul f5.size
            have vl5 : pc < w5.heap.size := Nat.lt_of_lt_of_le vl f5.size
            have f56 := (Keeps.refl (fun _ => False) w5).alloc (.cells #[.int .i64 (a1 : Int), .int .i64 (a3 : Int), .string (str (V (a1, a3)))] 126)
            have hrw6 := ownsRow_keeps hrwc f6 (fun _ _ h => h)
            have n0 := (f56.cell (p := ⟨rb, 0, none⟩) kl5 (fun h => h)).trans m0
            have n1 := (f56.frozen (p := ⟨rb, 0, none⟩) kl5 (fun h => h)).trans m1
            have n2 := (f56.cell (p := ⟨pa, 0, none⟩) ul5 (fun h => h)).trans m2
            have n3 := (f56.cell (p := ⟨pa, 1, none⟩) ul5 (fun h => h)).trans m3
            have n4 := (f56.cell (p := ⟨pa, 2, none⟩) ul5 (fun h => h)).trans m4
            have n5 := (f56.cell (p := ⟨pc, 2, none⟩) vl5 (fun h => h)).trans m5
            refine hK.out _ _ (T5.alloc _) (fun _ => ⟨n0, n1, n2, n3, n4, n5⟩) ?_
            clear hK K
            (try simp only [Act.put, List.setIfInBounds_toArray, List.set_cons_zero, List.set_cons_succ])
            refine wpKeep_ready (rs := [20]) (by kernel_rfl) (by simp) ?_
            refine AllKeep.cons (o := ⟨some 76, _, _, _, _, _⟩) rfl (fun K hK => ?_) AllKeep.nil
            refine step_push_at rfl (.tmp 63) (.tmp 75) 121 rfl 126 i0 (.agg #[.int .i64 0, .int .i64 0, .string ⟨#[]⟩]) 3 32 Tryd.underlying121 hi hz0 hz1 hz2 rfl (by decide) (w5.alloc (.cells #[.int .i64 (a1 : Int), .int .i64 (a3 : Int), .string (str (V (a1, a3)))] 126)) hrw6 w5.heap.size (pcells V [(a1, a3)]) rfl hnew (pcells_cell V _) (by rfl) (by rfl) (by omega) (by unfold maxLen; omega) ?_
            intro v7 w7 ha7
            have kl6 : rb < (w5.alloc (.cells #[.int .i64 (a1 : Int), .int .i64 (a3 : Int), .string (str (V (a1, a3)))] 126)).heap.size := Nat.lt_of_lt_of_le kl5 f56.size
            have ul6 : pa < (w5.alloc (.cells #[.int .i64 (a1 : Int), .int .i64 (a3 : Int), .string (str (V (a1, a3)))] 126)).heap.size := Nat.lt_of_lt_of_le ul5 f56.size
            have vl6 : pc < (w5.alloc (.cells #[.int .i64 (a1 : Int), .int .i64 (a3 : Int), .string (str (V (a1, a3)))] 126)).heap.size := Nat.lt_of_lt_of_le vl5 f56.size
            have eg : ∀ x, (Value.slice (some ⟨g, 0, none⟩) j cp').ownBlock = some x ↔ g = x := fun x => by simp [Value.ownBlock]
            have o0 := (ha7.keeps.cell (p := ⟨rb, 0, none⟩) kl6 (fun e => hgn ((eg _).1 e))).trans n0
            have o1 := (ha7.keeps.frozen (p := ⟨rb, 0, none⟩) kl6 (fun e => hgn ((eg _).1 e))).trans n1
            have o2 := (ha7.keeps.cell (p := ⟨pa, 0, none⟩) ul6 (fun e => hpg ((eg _).1 e))).trans n2
            have o3 := (ha7.keeps.cell (p := ⟨pa, 1, none⟩) ul6 (fun e => hpg ((eg _).1 e))).trans n3
            have o4 := (ha7.keeps.cell (p := ⟨pa, 2, none⟩) ul6 (fun e => hpg ((eg _).1 e))).trans n4
            have o5 := (ha7.keeps.cell (p := ⟨pc, 2, none⟩) vl6 (fun e => hcg ((eg _).1 e))).trans n5
            have T7 : Keeps (fun x => x = rb ∨ x = g) wc w7 := (T5.alloc (.cells #[.int .i64 (a1 : Int), .int .i64 (a3 : Int), .string (str (V (a1, a3)))] 126)).trans (ha7.keeps.mono (fun x _ e => .inr ((eg x).1 e).symm))
            refine hK.out _ _ T7 (fun _ => ⟨o0, o1, o2, o3, o4, o5⟩) ?_
            clear hK K
            (try simp only [Act.put, List.setIfInBounds_toArray, List.set_cons_zero, List.set_cons_succ])
            refine wpKeep_takeT (i := 21) (oi := ⟨some 77, _, _, _, _, _⟩) (v := ?_) rfl (by kernel_rfl) (by kernel_rfl) (by kernel_rfl) (by kernel_rfl) (fun _ _ _ h => h) (Or.inl ⟨by rfl, ?_⟩) T7 (fun _ => ⟨o0, o1, o2, o3, o4, o5⟩) ?_
            rotate_left
            · intro w' hT
              go_simp
              (try rw [if_pos (by omega)])
              (try with_reducible rfl)
            rotate_left
            (try simp only [Act.put, List.setIfInBounds_toArray, List.set_cons_zero, List.set_cons_succ])
            refine wpKeep_takeT (i := 22) (oi := ⟨some 78, _, _, _, _, _⟩) (v := ?_) rfl (by kernel_rfl) (by kernel_rfl) (by kernel_rfl) (by kernel_rfl) (fun _ _ _ h => h) (Or.inl ⟨by rfl, ?_⟩) T7 (fun _ => ⟨o0, o1, o2, o3, o4, o5⟩) ?_
            rotate_left
            · intro w' hT
              go_simp
              (try rw [if_pos (by omega)])
              (try with_reducible rfl)
            rotate_left
            (try simp only [Act.put, List.setIfInBounds_toArray, List.set_cons_zero, List.set_cons_succ])
            refine wpKeep_ready (rs := [23]) (by kernel_rfl) (by simp) ?_
            refine AllKeep.cons (o := ⟨none, _, _, _, _, _⟩) rfl (fun K hK => ?_) AllKeep.nil
            obtain ⟨ao7, cp7, e7⟩ := ownsRow_slice ha7.row
            subst e7
            have n77 : rb < w7.heap.size := Nat.lt_of_lt_of_le kl6 ha7.keeps.size
            go_simp
            refine hK.out _ _ (T7.setCell (p := ⟨rb, 0, none⟩) (fun _ => .inl rfl) _) (not_early (by kernel_rfl)) ?_
            clear hK K
            (try simp only [Act.put, List.setIfInBounds_toArray, List.set_cons_zero, List.set_cons_succ])
            refine wpKeep_done (by kernel_rfl) ?_ _
            have hb7 := ha7.keeps.at_ ((f5.alloc (.cells #[.int .i64 (a1 : Int), .int .i64 (a3 : Int), .string (str (V (a1, a3)))] 126)).at_ HBC.out.box (fun h => h)) (fun e => hgn ((eg _).1 e))
            have hb8 := heap_setCell_at hb7 0 (.slice ao7 (j + 1) cp7)
            have hor : ∀ x, (Value.slice ao7 (j + 1) cp7).ownBlock = some x → x = g ∨ wc.heap.size ≤ x := fun x hx => by
              rcases ha7.own x hx with z | z
              · exact .inl ((eg x).1 z).symm
              · have := z.1; have := f6.size; exact .inr (by omega)
            have hne7 : (Value.slice ao7 (j + 1) cp7).ownBlock ≠ some rb := fun e => by
              rcases hor rb e with z | z
              · exact hgn z.symm
              · omega
            have hlen7 : (l2 ++ [(a1, a3)]).length = j + 1 := by rw [List.length_append, HJ.out]; rfl
            have hRB7 : RowBox V (w7.setCell ⟨rb, 0, none⟩ (.slice ao7 (j + 1) cp7)) rb (l2 ++ [(a1, a3)]) (.slice ao7 (j + 1) cp7) := ⟨hb8, by
              rw [hlen7, pcells_append]
              exact ownsRow_setCell_ne ha7.row hne7 _, hne7⟩
            have hK7 : Keeps (fun g => g = rb ∨ (Value.slice ao l.length cap).ownBlock = some g) w (w7.setCell ⟨rb, 0, none⟩ (.slice ao7 (j + 1) cp7)) := (HK'.out.trans (fc.mono (fun _ _ h => h.elim))).trans' (T7.setCell (p := ⟨rb, 0, none⟩) (fun _ => .inl rfl) (.slice ao7 (j + 1) cp7)) (fun x hx e => by
              rcases e with e | e
              · exact .inl e
              · subst e
                rcases HO'.out x rfl with z | z
                · exact .inr z
                · omega)
            have hO7 : ∀ x, (Value.slice ao7 (j + 1) cp7).ownBlock = some x → (Value.slice ao l.length cap).ownBlock = some x ∨ w.heap.size ≤ x := fun x hx => by
              rcases hor x hx with z | z
              · subst z
                exact HO'.out x rfl
              · have h1 := HK'.out.size
                have h2 := fc.size
                exact .inr (by omega)
            generalize w7.setCell ⟨rb, 0, none⟩ (.slice ao7 (j + 1) cp7) = W8 at hRB7 hK7 ⊢
            have HRB7 := hid hRB7
            have HK7 := hid hK7
            have HO7 := hid hO7
            clear hRB7 hK7 hO7 hb7 hb8 hor hne7 hlen7 ha7 T7 T5 f5 f6 f56 hnew hrw6 hrwc o0 o1 o2 o3 o4 o5 n0 n1 n2 n3 n4 n5 m0 m1 m2 m3 m4 m5 k0 k1 u0 u1 u2' v1 v2 z1 z2 z9 eg
            go_wp2_with fail
            go_roundw
            case rel => exact ⟨l2, (a1, a3), _, by have := HJ.out; have := HNN.out; congr 1; omega, HRA.out, HD'.out.init, HEV.out, HSUM.out, HRB7.out, (fun y hy => by
              rcases List.mem_append.1 hy with hy | hy
              · exact HV'.out y (by simp [hy])
              · rw [List.mem_singleton.1 hy]; exact HV3.out), by have := HL'.out; rw [List.length_append] at this; omega, HO7.out, HK7.out⟩
            case measure => have := HJ.out; have := HNN.out; simp [intOf]; omega
          · have hb1 : Q % 2 = 1 := by omega
            rw [hb1, show ((1 : Nat) : Int) = 1 from rfl] at hand
            have hP := hid (HNO.out _ rfl (fun z => absurd (HMG.out.2 z) hbt))
            clear hb1 hbt
            go_wp2_with fail
            first | go_end0 | refine bodyPost_ret (results_none rfl _ _ _) rfl ?_
            exact ⟨rfl, hP.out⟩
        · have hP := hid (HNO.out _ rfl (fun z => heq z.1))
          have hne : ((a2 : Int) != (c2 : Int)) = true := by rw [bne_iff_ne]; omega
          clear heq
          go_wp2_with fail
          first | go_end0 | refine bodyPost_ret (results_none rfl _ _ _) rfl ?_
          exact ⟨rfl, hP.out⟩
end Go.Proofs.YtgikabafaocemaaDoor
