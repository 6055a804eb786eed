/-
  Package frontier: the hashes of a row, told as a range.
-/
import Derived.Test.YtgikabafaocemaaDoorRnPush
import Derived.Test.YtgikabafaocemaaDoorRowT
namespace Go.Proofs.YtgikabafaocemaaDoor
open Go.RowKit

set_option maxRecDepth 100000 in
set_option maxHeartbeats 4000000 in
theorem nodes_any (V : Nat × Nat → List UInt8) (rb : Nat) (l : List (Nat × Nat)) (v : Value) (w : World) (hbx : RowBox V w rb l v) (hl : l.length ≤ 1000000) :
    Calls Tryd.prog 107 #[.pointer (some ⟨rb, 0, none⟩)] w fun x w' => ∃ u, x = .returned u ∧ OwnTexts w.heap.size w' u (l.map V) ∧ Fresh w w' := by
  obtain ⟨i0, hi, hz0, hz1, hz2⟩ := info_parts Tryd.infoText
  obtain ⟨ao, cap, rfl⟩ := ownsRow_slice hbx.row
  have c0 := (cell_at hbx.box 0).trans (show _ = some (Value.slice ao l.length cap) from rfl)
  have cl := lt_of_block hbx.box
  have HB := hid hbx
  have HL := hid hl
  have hlb : (l.length : Int) ≤ 1000000 := by omega
  clear hbx hl
  go_enter Tryd.func107, Tryd.ntmps107
  go_wp2_with fail
  clear c0 cl
  go_loopw [3, 11] (fun u i wr => ∃ (k : Nat) (Y : List (List UInt8)), i = .int .i64 (k : Int) ∧ k ≤ l.length ∧ Hid (Y = (l.take k).map V) ∧ wr.ownsRow 0 9 1 u k (texts Y) ∧ (∀ g, u.ownBlock = some g → w.heap.size ≤ g) ∧ Fresh w wr) (fun _ i _ => l.length - (intOf i).toNat)
  case atStart => exact ⟨0, [], rfl, Nat.zero_le _, rfl, World.ownsRow_nil _ _ _ _, (fun g hg => by simp [Value.ownBlock] at hg), Keeps.refl _ _⟩
  case round =>
    obtain ⟨k, Y, rfl, hk, HY, hrow, hown, f⟩ := hrel
    have HK := hid hk
    have HO := hid hown
    by_cases hlt : k < l.length
    · obtain ⟨y, hy⟩ : ∃ y, l[k]? = some y := ⟨l[k], by simp⟩
      obtain ⟨g, rfl, hcells⟩ := rowCellsB (HB.out.fresh f).row (by omega)
      have hc := pcells_at V l k y hy
      obtain ⟨gl, x0⟩ := hcells _ _ hc.1
      have x1 := (hcells _ _ hc.2.1).2
      have x2 := (hcells _ _ hc.2.2).2
      have hki : (k : Int) < (l.length : Int) := by omega
      have hk0 : (0 : Int) ≤ (k : Int) := by omega
      have htk : Y ++ [V y] = (l.take (k + 1)).map V := by
        rw [List.take_add_one, hy, List.map_append, HY.out]
        rfl
      have fb := (Keeps.refl (fun _ => False) wr).alloc (.cells #[.int .i64 (y.1 : Int), .int .i64 (y.2 : Int), .string (str (V y))] 126)
      obtain ⟨aou, cpu, rfl⟩ := ownsRow_slice hrow
      have hrow1 := ownsRow_keeps hrow fb (fun _ _ h => h)
      have HTK := hid htk
      have HLT := hid hlt
      clear hc hcells hy htk hlt hrow hown hk
      go_wp2_with (at_builtin; refine wpList_push rfl (.tmp 15) (.tmp 18) 26 rfl 9 i0 (.string ⟨#[]⟩) 16 Tryd.underlying26 hi hz0 hz1 hz2 rfl (wr.alloc (.cells #[.int .i64 (y.1 : Int), .int .i64 (y.2 : Int), .string (str (V y))] 126)) hrow1 _ (by rfl) (by simp only [World.size_alloc]; rfl) rfl (by have := HL.out; have := HK.out; omega) (by have := HL.out; have := HK.out; unfold maxLen; omega) ?_)
      intro v5 w5 ha
      obtain ⟨ao5, cp5, rfl⟩ := ownsRow_slice ha.row
      have hrow5 := ha.row
      rw [← texts_snoc] at hrow5
      have f5 : Fresh w w5 := (f.trans fb).trans' ha.keeps (fun q hq e => by have := HO.out q e; omega)
      have o5 : ∀ g, (Value.slice ao5 (k + 1) cp5).ownBlock = some g → w.heap.size ≤ g := fun g hg => by
        rcases ha.own g hg with z | z
        · exact HO.out g z
        · have := z.1; have := (f.trans fb).size; omega
      clear ha hrow1 fb x0 x1 x2
      go_wp2_with fail
      go_roundw
      case rel => exact ⟨k + 1, Y ++ [V y], by go_num, by have := HLT.out; omega, HTK, hrow5, o5, f5⟩
      case measure => have := HLT.out; simp [intOf]; omega
    · obtain rfl : k = l.length := by omega
      obtain ⟨aou, cpu, rfl⟩ := ownsRow_slice hrow
      have hYe := HY.out
      rw [List.take_length] at hYe
      subst hYe
      have HR := hid hrow
      clear hrow hown hk
      go_wp2_with fail
      go_ret
      exact ⟨_, rfl, ⟨by rw [List.length_map]; exact HR.out, HO.out⟩, f⟩

set_option maxRecDepth 100000 in
set_option maxHeartbeats 2000000 in
theorem ftold_any (V : Nat × Nat → List UInt8) (rb : Nat) (l : List (Nat × Nat)) (v : Value) (b e : Int) (w : World) (hbx : RowBox V w rb l v) (hl : l.length ≤ 1000000) :
    Calls Tryd.prog 72 #[.pointer (some ⟨rb, 0, none⟩), .int .i64 b, .int .i64 e] w fun x w' => ∃ u, x = .returned (.agg #[.int .i64 b, .int .i64 e, u]) ∧ OwnTexts w.heap.size w' u (l.map V) ∧ Fresh w w' := by
  have f0 : Fresh w (w.alloc (.cells #[.int .i64 0, .int .i64 0, .slice none 0 0] 67)) := (Keeps.refl _ _).alloc _
  have hb0 := heap_alloc_new w (.cells #[.int .i64 0, .int .i64 0, .slice none 0 0] 67)
  have HN := hid (nodes_any V rb l v _ (hbx.fresh f0) hl)
  have HB0 := hid hb0
  obtain ⟨rr, hrr⟩ : ∃ rr, w.heap.size = rr := ⟨_, rfl⟩
  rw [hrr] at HB0
  have HRR := hid hrr
  clear hb0 hbx hl
  go_enter Tryd.func72, Tryd.ntmps72
  go_wp2_with fail
  (try rw [hrr])
  refine HN.out.mono ?_
  rintro x w1 ⟨u, rfl, hu, f1⟩
  have hb1 := f1.at_ HB0.out (fun h => h)
  have d0 := (cell_at hb1 0).trans (show _ = some (Value.int .i64 0) from rfl)
  have d1 := (cell_at hb1 1).trans (show _ = some (Value.int .i64 0) from rfl)
  have d2 := (cell_at hb1 2).trans (show _ = some (Value.slice none 0 0) from rfl)
  have y0 := free_at hb1 0
  have y1 := free_at hb1 1
  have y2 := free_at hb1 2
  have hpl := lt_of_block hb1
  have HB1 := hid hb1
  have HU := hid hu
  obtain ⟨au, cu, eu⟩ := ownsRow_slice hu.1
  rw [List.length_map] at eu
  subst eu
  clear hb1 hu hrr
  go_wp2_with fail
  have kS := (((Keeps.refl (fun q => q = rr) w1).setCell (p := ⟨rr, 0, none⟩) (fun _ => rfl) (.int .i64 b)).setCell (p := ⟨rr, 1, none⟩) (fun _ => rfl) (.int .i64 e)).setCell (p := ⟨rr, 2, none⟩) (fun _ => rfl) (.slice au l.length cu)
  have r2 := heap_setCell_at (heap_setCell_at (heap_setCell_at HB1.out 0 (.int .i64 b)) 1 (.int .i64 e)) 2 (.slice au l.length cu)
  have hs0 := f0.size
  have hs1 : (w.alloc (.cells #[.int .i64 0, .int .i64 0, .slice none 0 0] 67)).heap.size = w.heap.size + 1 := World.size_alloc _ _
  refine bodyPost_ret (results_cell_row rfl _ _ rr 67 _ (0, 0) _ rfl (by exact r2) Tryd.underlying67 rfl (by kernel_rfl)) rfl ?_
  refine ⟨_, rfl, ⟨ownsRow_keeps HU.out.1 kS (fun q hq e => by have := HU.out.2 q hq; have := HRR.out; omega), fun g hg => by have := HU.out.2 g hg; omega⟩, (f0.trans f1).trans' kS (fun q hq e => by have := HRR.out; omega)⟩
end Go.Proofs.YtgikabafaocemaaDoor
