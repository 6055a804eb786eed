/-
  The document's 'big': a number by so many bytes, the highest first.
-/
import Derived.Test.YtmflbchiapdhbaaDoorShaRot
import Derived.Test.YtmflbchiapdhbaaDoorAppend
namespace Go.Proofs.YtmflbchiapdhbaaDoor
open Go.RowKit

theorem zeros_cells' (n : Nat) : (madeCells #[Value.int .u8 0] n).toList = u8s (List.replicate n 0) := by
  simp only [madeCells, u8s]
  apply List.ext_getElem?
  intro j
  simp only [Array.toList_map, Array.toList_range, List.getElem?_map, List.getElem?_replicate]
  by_cases hj : j < n
  · simp [hj, Nat.mod_one]
  · simp [hj]
theorem Tryd.infoByte : (Tryd.prog.info? 5).map (fun i => (i.zero, i.size, i.bytes)) = some (some (.int .u8 0), 1, 1) := by kernel_rfl

/-- the number of which a raw one is the word -/
def low64 (c : Int) : Nat := (c % 18446744073709551616).toNat
theorem byte_at (c : Int) (i : Nat) (hi : i < 8) : IntKind.u8.wrap (c / 2 ^ (8 * i)) = ((UInt8.ofNat (low64 c / 256 ^ i)).toNat : Int) := by
  rw [IntKind.wrap_u8]
  simp only [UInt8.toNat_ofNat', low64]
  rcases (by omega : i = 0 ∨ i = 1 ∨ i = 2 ∨ i = 3 ∨ i = 4 ∨ i = 5 ∨ i = 6 ∨ i = 7) with rfl | rfl | rfl | rfl | rfl | rfl | rfl | rfl
  all_goals
    simp
    omega
theorem fill_step (N k i : Nat) (h : i < k) : (u8s (List.replicate (k - i) 0 ++ bigEnd N i)).set (k - 1 - i) (.int .u8 ((UInt8.ofNat (N / 256 ^ i)).toNat : Int)) = u8s (List.replicate (k - (i + 1)) 0 ++ bigEnd N (i + 1)) := by
  obtain ⟨j, rfl⟩ : ∃ j, k = i + 1 + j := ⟨k - (i + 1), by omega⟩
  have e1 : i + 1 + j - i = j + 1 := by omega
  have e2 : i + 1 + j - 1 - i = j := by omega
  have e3 : i + 1 + j - (i + 1) = j := by omega
  rw [e1, e2, e3]
  simp only [u8s, List.map_append, List.map_replicate, bigEnd, List.map_cons]
  rw [List.replicate_succ', List.append_assoc, List.set_append_right _ _ (by simp)]
  simp

set_option maxRecDepth 100000 in
set_option maxHeartbeats 1000000 in
theorem big_any (c : Int) (k : Nat) (w : World) (hk : k ≤ 8) (_h1 : -9223372036854775808 ≤ c) (_h2 : c ≤ 9223372036854775807) :
    Calls Tryd.prog 50 #[.int .i64 c, .int .i64 (k : Int)] w fun e w' => e = .returned (.string (str (bigEnd (low64 c) k))) ∧ Fresh w w' := by
  obtain ⟨i0, hi, hz0, hz1, hz2⟩ := info_parts Tryd.infoByte
  go_enter Tryd.func50, Tryd.ntmps50
  go_wp2_with (at_make; refine wpList_make_full _ rfl (.tmp 7) (.tmp 7) 53 rfl 0 5 i0 (.int .u8 0) 1 Tryd.underlying53 hi hz0 hz1 .i64 .i64 (k : Int) (k : Int) k rfl rfl (by omega) (by omega) (by rw [hz2]; omega) (by unfold maxLen; omega) (Nat.zero_le _) ?_)
  intro w3 hrow hgr
  have f3 : Fresh w w3 := (Keeps.refl _ w).grown hgr (fun k h => by cases h)
  have hrow2 : w3.ownsRow 0 5 1 (.slice (some ⟨w.heap.size, 0, none⟩) k k) k (u8s (List.replicate (k - 0) 0 ++ bigEnd (low64 c) 0)) := by
    rw [zeros_cells'] at hrow; simpa [bigEnd] using hrow
  clear hrow hgr hi hz0 hz1 hz2
  go_wp2
  go_loopw [6] (fun i wr => ∃ (j : Nat), i = .int .i64 (j : Int) ∧ j ≤ k ∧ wr.ownsRow 0 5 1 (.slice (some ⟨w.heap.size, 0, none⟩) k k) k (u8s (List.replicate (k - j) 0 ++ bigEnd (low64 c) j)) ∧ Fresh w wr) (fun i _ => k - (intOf i).toNat)
  case atStart => exact ⟨0, rfl, by omega, hrow2, f3⟩
  case round =>
    obtain ⟨j, rfl, hj, hrow, fr⟩ := hrel
    by_cases hlt : j < k
    · have hst := hrow.stored (k - 1 - j) (.int .u8 ((UInt8.ofNat (low64 c / 256 ^ j)).toNat : Int))
      rw [fill_step _ _ _ hlt] at hst
      have hb := byte_at c j (by omega)
      obtain ⟨u, hu⟩ : ∃ u, (u8s (List.replicate (k - j) 0 ++ bigEnd (low64 c) j))[k - 1 - j]? = some u := by
        have hlen : k - 1 - j < (u8s (List.replicate (k - j) 0 ++ bigEnd (low64 c) j)).length := by simp [u8s, bigEnd_len]; omega
        exact ⟨_, List.getElem?_eq_getElem hlen⟩
      have hcell := (hrow.cellAt (k - 1 - j) (by omega)).trans hu
      have hfz := hrow.frozenAt (k - 1 - j)
      generalize UInt8.ofNat (low64 c / 256 ^ j) = y at *
      have HST := hid hst
      have he1 : IntKind.i64.wrap (8 * (j : Int)) = 8 * (j : Int) := by rw [IntKind.wrap_i64]; omega
      clear hst hrow hu
      go_wp2
      go_roundw
      case rel => exact ⟨j + 1, by go_num, by omega, HST.out.1, fr.grown HST.out.2 (fun b hb hlt => by cases hb; omega)⟩
      case measure => simp [intOf]; omega
    · obtain rfl : j = k := by omega
      have hcv : (convert 53 9 (.slice (some ⟨w.heap.size, 0, none⟩) j j)).run Tryd.prog wr = .ok (.string (str (bigEnd (low64 c) j))) wr := by
        have h0 : List.replicate (j - j) (0 : UInt8) ++ bigEnd (low64 c) j = bigEnd (low64 c) j := by simp
        rw [h0] at hrow
        have hl := bigEnd_len (low64 c) j
        have := run_text_of_row 53 9 Tryd.underlying53 Tryd.underlying5 Tryd.underlying9 (bs := bigEnd (low64 c) j) (by rw [hl]; exact hrow)
        exact this
      clear hrow
      go_wp2
      go_ret
      exact ⟨rfl, fr⟩
end Go.Proofs.YtmflbchiapdhbaaDoor
