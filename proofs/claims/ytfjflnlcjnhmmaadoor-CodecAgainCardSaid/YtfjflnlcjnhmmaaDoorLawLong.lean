/-
  The law CodecLong: its walk; and the laws' 'pick' and 'addsUp'.
-/
import Derived.Test.YtfjflnlcjnhmmaaDoorCxKnown
import Derived.Test.YtfjflnlcjnhmmaaDoorPlainFrame
namespace Go.Proofs.YtfjflnlcjnhmmaaDoor
open Go.RowKit

def pickN (c : Int) (n : Nat) : Nat := ((if c < 0 then -(c + 1) else c) % n).toNat
theorem pickN_lt (c : Int) {n : Nat} (h : 0 < n) : pickN c n < n := by
  unfold pickN
  have := Int.emod_lt_of_pos (if c < 0 then -(c + 1) else c) (show (0 : Int) < n by omega)
  have := Int.emod_nonneg (if c < 0 then -(c + 1) else c) (show (n : Int) ≠ 0 by omega)
  omega

set_option maxRecDepth 100000 in
set_option maxHeartbeats 400000 in
theorem pick_any (c : Int) (n : Nat) (w : World) (hn : 0 < n) (hn2 : n ≤ 9223372036854775807) (h1 : -9223372036854775808 ≤ c) (h2 : c ≤ 9223372036854775807) :
    Calls Tryd.prog 13 #[.int .i64 c, .int .i64 (n : Int)] w fun e w' => e = .returned (.int .i64 (pickN c n : Int)) ∧ w = w' := by
  have hne : ((n : Int) == 0) = false := by simpa using (by omega : ¬ n = 0)
  by_cases hc : c < 0
  · have HP : Hid ((pickN c n : Int) = -(c + 1).tmod n) := by
      have := Int.emod_nonneg (-(c + 1)) (show (n : Int) ≠ 0 by omega)
      rw [Hid, ← Int.neg_tmod, Int.tmod_eq_emod_of_nonneg (by omega)]
      simp only [pickN, if_pos hc]; omega
    go_enter Tryd.func13, Tryd.ntmps13
    go_wp2
    rw [HP.out]
    go_ret
    exact ⟨rfl, rfl⟩
  · have HP : Hid ((pickN c n : Int) = c % n) := by
      have := Int.emod_nonneg c (show (n : Int) ≠ 0 by omega)
      simp only [Hid, pickN, if_neg hc]; omega
    go_enter Tryd.func13, Tryd.ntmps13
    go_wp2
    rw [HP.out]
    go_ret
    exact ⟨rfl, rfl⟩

theorem zeros_cells (n : Nat) : (madeCells #[Value.int .u8 0] n).toList = u8s (List.replicate n 0) := by
  simp only [madeCells, u8s]
  apply List.ext_getElem?
  intro j
  simp only [Array.toList_map, Array.toList_range, List.getElem?_map, List.getElem?_replicate]
  by_cases hj : j < n
  · simp [hj, Nat.mod_one]
  · simp [hj]

set_option maxRecDepth 100000 in
set_option maxHeartbeats 2000000 in
theorem codecLong_walk (more : Int) (behind : List UInt8) (w : World) (hl : Laid w) (h1 : -9223372036854775808 ≤ more) (h2 : more ≤ 9223372036854775807) (hb : behind.length ≤ 9223372036854775807) :
    Calls Tryd.prog 4 #[.int .i64 more, .string (str behind)] w fun e w' => e = .returned (.bool true) ∧ Fresh w w' := by
  have hsz := str_size behind
  by_cases hbig : 1073741823 < behind.length
  · go_enter Tryd.func4, Tryd.ntmps4
    go_wp2
    go_ret
    exact ⟨rfl, Keeps.refl _ _⟩
  · obtain ⟨i0, hi, hz0, hz1, hz2⟩ := info_parts Tryd.infoU8
    have hpl := pickN_lt more (show 0 < 12 by omega)
    obtain ⟨m, hm⟩ : ∃ m, m = pickN more 12 := ⟨_, rfl⟩
    have HM := hid hm
    rw [← hm] at hpl
    clear hm
    have hbn : ¬ 1073741823 < (behind.length : Int) := by omega
    go_enter Tryd.func4, Tryd.ntmps4
    go_wp2_with fail
    refine (known_any w hl).mono ?_
    rintro e w1 ⟨rfl, f1⟩
    go_wp2_with fail
    refine (pick_any more 12 w1 (by omega) (by omega) h1 h2).mono ?_
    rintro e w2 ⟨rfl, rfl⟩
    rw [← HM.out]
    go_wp2_with (at_make; refine wpList_make_full _ rfl (.tmp 20) (.tmp 20) 30 rfl 0 5 i0 (.int .u8 0) 1 Tryd.underlying30 hi hz0 hz1 .i64 .i64 (1048570 + (m : Int)) (1048570 + (m : Int)) (1048570 + m) rfl rfl (by omega) (by omega) (by rw [hz2]; omega) (by unfold maxLen; omega) (Nat.zero_le _) ?_)
    intro w3 hrow hgr
    have f3 : Fresh w w3 := f1.grown hgr (fun k h => by cases h)
    have hrow2 : w3.ownsRow 0 5 1 (.slice (some ⟨w1.heap.size, 0, none⟩) (1048570 + m) (1048570 + m)) (List.replicate (1048570 + m) (0 : UInt8)).length (u8s (List.replicate (1048570 + m) 0)) := by
      rw [zeros_cells] at hrow; simpa using hrow
    have hcv : (convert 30 9 (.slice (some ⟨w1.heap.size, 0, none⟩) (1048570 + m) (1048570 + m))).run Tryd.prog w3 = .ok (.string (str (List.replicate (1048570 + m) 0))) w3 :=
      run_text_of_row 30 9 Tryd.underlying30 Tryd.underlying5 Tryd.underlying9 hrow2
    have hlz : (List.replicate (1048570 + m) (0 : UInt8)).length = 1048570 + m := by simp
    clear hrow hgr hrow2
    generalize List.replicate (1048570 + m) (0 : UInt8) = z at *
    have HLZ := hid hlz
    have hszz : (str z).size = 1048570 + m := by rw [str_size, hlz]
    go_wp2_with fail
    refine (frame_any z w3 (by omega)).mono ?_
    rintro e w4 ⟨rfl, f4⟩
    have f34 := f3.trans f4
    have hl4 := hl.keeps f34 (fun h => h)
    clear hcv hlz f1 f3 f4 hi hz0 hz1 hz2
    by_cases hbm : 1048576 < 1048570 + m
    · have hF : framed z = ([], 22) := by have := HLZ.out; simp [framed, this, hbm]
      have hs0 : (str ([] : List UInt8)).toList = [] := str_toList []
      rw [hF]
      go_wp2
      go_ret
      exact ⟨rfl, f34⟩
    · have hF : framed z = (digs z.length ++ z, 0) := by
        have := HLZ.out
        simp only [framed]; rw [if_neg (by omega)]
      have hcat := str_append
      have hdl := digs_len10 (n := z.length) (by have := HLZ.out; omega)
      have hszd : (str (digs z.length ++ z)).size = (digs z.length).length + (1048570 + m) := by rw [str_size, List.length_append, HLZ.out]
      have hU : Hid (unframed (digs z.length ++ (z ++ behind)) = (z, behind, 0)) := by
        have := HLZ.out
        simp only [Hid, unframed, pText_frame z behind 1048576 (by omega) (by omega)]
      rw [hF]
      have hsl : (digs z.length).length + (1048570 + m) + behind.length ≤ 2000000000 := by omega
      have hcat1 : str (digs z.length ++ z) ++ str behind = str (digs z.length ++ (z ++ behind)) := by rw [str_append, List.append_assoc]
      clear hcat
      have HD := hid hdl
      clear hdl
      generalize digs z.length = d at *
      go_wp2_with fail
      (with_reducible refine (unframe_any (d ++ (z ++ behind)) w4 hl4 ?hln).mono ?_)
      case hln => have := HLZ.out; simp; omega
      rw [hU.out]
      rintro e w5 ⟨rfl, f5⟩
      go_wp2
      go_ret
      exact ⟨rfl, f34.trans f5⟩
end Go.Proofs.YtfjflnlcjnhmmaaDoor
