/-
  The law's page of a raw number.
-/
import Derived.Test.YtbhienlalpbflaaDvPlain
namespace Go.Proofs.Ytbhienlalpbflaa
open Go.RowKit

theorem Try.infoByte : (Try.prog.info? 5).map (fun i => (i.zero, i.size, i.bytes)) = some (some (.int .u8 0), 1, 1) := by kernel_rfl
theorem zeros_made (n : Nat) : (madeCells #[Value.int .u8 0] n).toList = List.replicate n (Value.int .u8 0) := by
  simp only [madeCells]
  apply List.ext_getElem?
  intro j
  simp only [Array.toList_map, Array.toList_range, List.getElem?_map, List.getElem?_replicate]
  by_cases hj : j < n
  · simp [hj, Nat.mod_one]
  · simp [hj]
theorem u8s_length (l : List UInt8) : (u8s l).length = l.length := by simp [u8s]

set_option maxRecDepth 100000 in
set_option maxHeartbeats 2000000 in
theorem page_any (c : Int) (w : World) :
    Calls Try.prog 10 #[.int .i64 c] w fun e w' => e = .returned (.string (str (pageOf c))) ∧ Fresh w w' := by
  obtain ⟨i0, hi, hz0, hz1, hz2⟩ := info_parts Try.infoByte
  go_enter Try.func10, Try.ntmps10
  go_wp2_with (at_make; refine wpList_make_full _ rfl (.const (.int .i64 256)) (.const (.int .i64 256)) 63 rfl 0 5 i0 (.int .u8 0) 1 Try.underlying63 hi hz0 hz1 .i64 .i64 256 256 256 rfl rfl rfl rfl (by rw [hz2]; omega) (by unfold maxLen; omega) (Nat.zero_le _) ?_)
  intro w1 hrow hgr
  have f1 : Fresh w w1 := (Keeps.refl _ w).grown hgr (fun k h => by cases h)
  have hblk : w1.heap[w.heap.size]? = some (.cells (pageCells c 0) 5 (0, 0)) := by
    rcases hrow.2 with ⟨h0, _⟩ | ⟨g', cap, cur, he, _, hb, h1, h2, h3, h4⟩
    · cases h0
    · simp only [Value.slice.injEq, Option.some.injEq, Addr.mk.injEq, and_true] at he
      obtain ⟨rfl, -, rfl⟩ := he
      have : cur = pageCells c 0 := by
        rw [pageCells_zero]
        have h5 : cur.toList.take (256 * 1) = cur.toList := List.take_of_length_le (by rw [Array.length_toList]; omega)
        rw [h5] at h4
        apply Array.toList_inj.1
        rw [h4, zeros_made]
      rw [← this]; exact hb
  obtain ⟨g, hge⟩ : ∃ g, w.heap.size = g := ⟨_, rfl⟩
  have hgw : w.heap.size ≤ g := by omega
  rw [hge] at hblk ⊢
  clear hrow hgr hge
  go_wp2_with fail
  go_loopw [4] (fun i wr => ∃ n : Nat, i = .int .i64 (n : Int) ∧ n ≤ 256 ∧ wr.heap[g]? = some (.cells (pageCells c n) 5 (0, 0)) ∧ Fresh w wr) (fun i _ => 256 - (intOf i).toNat)
  case atStart => exact ⟨0, rfl, by omega, hblk, f1⟩
  case round =>
    obtain ⟨n, rfl, hn, hb, hf⟩ := hrel
    by_cases hlt : n < 256
    · obtain ⟨u, hu⟩ : ∃ u, (pageCells c n)[n]? = some u := ⟨(pageCells c n)[n]'(by rw [pageCells_size]; exact hlt), by simp⟩
      have hcell := cell_at hb n
      rw [hu] at hcell
      have hz := free_at hb n
      have hnext := heap_setCell_at hb n (.int .u8 (pageByte c n))
      rw [pageCells_succ c n hlt] at hnext
      have hkk := Keeps.setCell (S := fun q => q = g) (Keeps.refl _ wr) (p := ⟨g, n, none⟩) (fun _ => rfl) (.int .u8 (pageByte c n))
      have hf2 := hf.trans' hkk (fun i hi h => by omega)
      have HN := hid hnext
      have HF := hid hf2
      clear hnext hf2 hkk hu
      go_wp2_with fail
      go_roundw
      case rel => exact ⟨n + 1, by go_num, by omega, HN.out, HF.out⟩
      case measure => simp [intOf]; omega
    · obtain rfl : n = 256 := by omega
      have hct : (convert 63 9 (.slice (some ⟨g, 0, none⟩) 256 256)).run Try.prog wr = .ok (.string (str (pageOf c))) wr := by
        have := run_convert_bytes_back wr 63 9 5 ⟨g, 0, none⟩ 256 (pageOf c) Try.underlying63 Try.underlying5 Try.underlying9 (fun j hj => by
          rw [addr_add0, cell_at hb]
          have h1 : (pageCells c 256).toList[j]? = (u8s (pageOf c))[j]? := by rw [pageCells_full]
          rw [Array.getElem?_toList] at h1
          rw [h1, u8s, List.getElem?_map, List.getElem?_eq_getElem hj]; rfl)
        rw [pageOf_len] at this
        exact this
      go_wp2_with fail
      go_ret
      exact ⟨rfl, hf⟩
end Go.Proofs.Ytbhienlalpbflaa
