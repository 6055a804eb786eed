/-
  Package frontier: a range's subtrees with their hashes.
-/
import Derived.Test.YtgikabafaocemaaDoorRnFill
namespace Go.Proofs.YtgikabafaocemaaDoor
open Go.RowKit

theorem pcells_put (V : Nat × Nat → List UInt8) (l : List (Nat × Nat)) (k : Nat) (y : Nat × Nat) (h : l[k]? = some y) :
    (pcells V (l.take k) ++ pcells bare (l.drop k)).set (k * 3 + 2) (.string (str (V y))) = pcells V (l.take (k + 1)) ++ pcells bare (l.drop (k + 1)) := by
  have hk := (List.getElem?_eq_some_iff.1 h).1
  have hlen : (pcells V (l.take k)).length = k * 3 := by rw [pcells_len, List.length_take, Nat.min_eq_left (by omega)]
  rw [drop_cons h, show pcells bare (y :: l.drop (k + 1)) = pcells bare [y] ++ pcells bare (l.drop (k + 1)) by rw [← pcells_append]; rfl]
  rw [List.set_append_right _ _ (by omega), hlen, show k * 3 + 2 - k * 3 = 2 by omega]
  rw [List.set_append_left _ _ (by rw [pcells_one]; simp), List.take_add_one, h, pcells_append]
  rw [List.append_assoc]
  rfl

set_option maxRecDepth 100000 in
set_option maxHeartbeats 4000000 in
theorem ffilled_any (V : Nat × Nat → List UInt8) (s x : Nat) (l : List (Nat × Nat)) (vh : Value) (w : World) (hcut : Cut s x l) (hx : x ≤ 1099511627776) (hvh : TextsAt w vh (l.map V)) (h32 : ∀ y ∈ l, (V y).length = 32) (hdb : DbLaid w) :
    Calls Tryd.prog 108 #[.int .i64 (s : Int), .int .i64 (x : Int), vh] w fun e w' => ∃ v, e = .returned (.tuple #[v, .int .i64 0]) ∧ OwnPieces w.heap.size V w' v l ∧ Fresh w w' := by
  have hle := hcut.le
  have hcc := fun W (f : Fresh w W) => fcut_any s x W (by omega) hx (hdb.fresh f)
  have hlb : (l.length : Int) ≤ 1099511627776 := by omega
  obtain ⟨ah, ch, eh, hks⟩ := hvh
  rw [List.length_map] at eh
  subst eh
  have HCC := hid hcc
  have HCUT := hid hcut
  have HKS := hid hks
  have H32 := hid h32
  clear hcc hcut hks h32 hdb hle
  go_enter Tryd.func108, Tryd.ntmps108
  go_wp2_with fail
  refine (HCC.out _ (Keeps.refl _ _)).mono ?_
  rintro e w1 ⟨v, l2, rfl, hc2, ho2, f1⟩
  have := hc2.unique HCUT.out
  subst this
  obtain ⟨av, cv, rfl⟩ := ownsRow_slice ho2.1
  have HO := hid ho2
  clear hc2 ho2
  go_wp2_with fail
  go_loopw [21] (fun i wr => ∃ (k : Nat), i = .int .i64 (k : Int) ∧ k ≤ l2.length ∧ wr.ownsRow 0 126 3 (.slice av l2.length cv) l2.length (pcells V (l2.take k) ++ pcells bare (l2.drop k)) ∧ Fresh w wr) (fun i _ => l2.length - (intOf i).toNat)
  case atStart => exact ⟨0, rfl, Nat.zero_le _, HO.out.1, f1⟩
  case round =>
    obtain ⟨k, rfl, hk, hrow, f⟩ := hrel
    have HROW := hid hrow
    by_cases hlt : k < l2.length
    · obtain ⟨y, hy⟩ : ∃ y, l2[k]? = some y := ⟨l2[k], by simp⟩
      obtain ⟨bb, off, rfl, hbb, hcell⟩ := HKS.out k (V y) (by rw [List.getElem?_map, hy]; rfl)
      have hcell' := (f.cell (p := ⟨bb, off + k, none⟩) hbb (fun h => h)).trans hcell
      have hbb' : bb < wr.heap.size := Nat.lt_of_lt_of_le hbb f.size
      obtain ⟨g, rfl, hcells⟩ := rowCellsB hrow (by omega)
      have h3 := H32.out y (List.mem_of_getElem? hy)
      have hsz := str_size (V y)
      rw [h3] at hsz
      have hki : (k : Int) < (l2.length : Int) := by omega
      have hk0 : (0 : Int) ≤ (k : Int) := by omega
      obtain ⟨u, hu⟩ : ∃ u, (pcells V (l2.take k) ++ pcells bare (l2.drop k))[k * 3 + 2]? = some u := ⟨_, List.getElem?_eq_getElem (by rw [hrow.1]; omega)⟩
      obtain ⟨gl, hcx⟩ := hcells _ _ hu
      have hfz : wr.frozen? ⟨g, k * 3 + 2, none⟩ = false := hrow.frozenAt _
      have hput := pcells_put V l2 k y hy
      have hrow2 := ownsRow_put hrow (k * 3 + 2) (.string (str (V y))) (by rw [hrow.1]; omega)
      rw [hput] at hrow2
      have HR2 := hid hrow2
      have HLT := hid hlt
      clear hrow hcells hu hy hcell hput hrow2 h3 hlt
      go_wp2_with fail
      go_roundw
      case rel => exact ⟨k + 1, by go_num, HLT.out, HR2.out, f.setCell (p := ⟨g, k * 3 + 2, none⟩) (fun h => by have := HO.out.2 g rfl; simp only at h; omega) _⟩
      case measure => have := HLT.out; simp [intOf]; omega
    · obtain rfl : k = l2.length := by omega
      rw [List.take_length, List.drop_length, show pcells bare [] = [] from rfl, List.append_nil] at hrow
      have HR := hid hrow
      clear hrow
      go_wp2_with fail
      go_ret2
      exact ⟨_, rfl, ⟨HR.out, HO.out.2⟩, f⟩

set_option maxRecDepth 100000 in
set_option maxHeartbeats 2000000 in
theorem fright_any (V : Nat × Nat → List UInt8) (s x : Nat) (l : List (Nat × Nat)) (vh : Value) (w : World) (hcut : Cut s x l) (hx : x ≤ 1099511627776) (hvh : TextsAt w vh (l.map V)) (h32 : ∀ y ∈ l, (V y).length = 32) (hdb : DbLaid w) :
    Calls Tryd.prog 73 #[.agg #[.int .i64 (s : Int), .int .i64 (x : Int), vh]] w fun e w' => ∃ v, e = .returned (.tuple #[v, .int .i64 0]) ∧ OwnPieces w.heap.size V w' v l ∧ Fresh w w' := by
  have hle := hcut.le
  have f0 : Fresh w (w.alloc (.cells #[.int .i64 (s : Int), .int .i64 (x : Int), vh] 67)) := (Keeps.refl _ _).alloc _
  have HF := hid (ffilled_any V s x l vh _ hcut hx (hvh.fresh f0) h32 (hdb.fresh f0))
  have hxi : (x : Int) ≤ 1099511627776 := by omega
  have hsx : (s : Int) ≤ (x : Int) := by omega
  have hsx2 : ¬ x < s := by omega
  obtain ⟨ah, ch, eh, -⟩ := hvh
  rw [List.length_map] at eh
  subst eh
  have hlb : (l.length : Int) ≤ 1099511627776 := by omega
  clear hcut hx h32 hdb hle
  go_enter Tryd.func73, Tryd.ntmps73
  go_wp2_with fail
  refine HF.out.mono ?_
  rintro e w1 ⟨v, rfl, ho, f1⟩
  have HO := hid ho
  obtain ⟨av, cv, rfl⟩ := ownsRow_slice ho.1
  have hs := f0.size
  clear ho
  go_wp2_with fail
  go_ret2
  exact ⟨_, rfl, ⟨HO.out.1, fun g hg => by have := HO.out.2 g hg; omega⟩, f0.trans f1⟩
end Go.Proofs.YtgikabafaocemaaDoor
