/-
  The document's device: New; the law's pick.
-/
import Derived.Test.YtbhienlalpbflaaDvRef
namespace Go.Proofs.Ytbhienlalpbflaa
open Go.RowKit Go.Maps

theorem u8s_noughts (n : Nat) : u8s (List.replicate n 0) = List.replicate n (Value.int .u8 0) := by simp [u8s]

set_option maxRecDepth 100000 in
set_option maxHeartbeats 2000000 in
theorem refnew_any (p : Int) (w : World) :
    Calls Try.prog 8 #[.int .i64 p] w fun e w' => ∃ q, e = .returned (.tuple #[.pointer q, .int .i64 (newErr p)]) ∧ Fresh w w' ∧ There (newErr p) q := by
  by_cases h4 : p < 4 ∨ 4096 < p
  · have hE : newErr p = 1 := by rw [newErr, if_pos h4]
    rw [hE]
    clear hE
    by_cases h5 : p < 4
    · clear h4
      go_enter Try.func8, Try.ntmps8
      go_wp2_with fail
      go_ret2
      exact ⟨none, rfl, Keeps.refl _ _, by simp [There]⟩
    · have h6 : 4096 < p := h4.resolve_left h5
      clear h4
      go_enter Try.func8, Try.ntmps8
      go_wp2_with fail
      go_ret2
      exact ⟨none, rfl, Keeps.refl _ _, by simp [There]⟩
  · have hE : newErr p = 0 := by rw [newErr, if_neg h4]
    obtain ⟨N, rfl⟩ : ∃ N : Nat, p = (N : Int) := ⟨p.toNat, by omega⟩
    have hN : 4 ≤ N ∧ N ≤ 4096 := by omega
    have hL : loadErr (List.replicate N nought256) = 0 := by
      rw [loadErr, if_neg (by rw [List.length_replicate]; omega), every_noughts, if_pos rfl]
    rw [hE]
    obtain ⟨hN1, hN2⟩ := hN
    have HL := hid hL
    obtain ⟨i0, hi, hz0, hz1, hz2⟩ := info_parts Try.infoText
    obtain ⟨j0, hj, hy0, hy1, hy2⟩ := info_parts Try.infoByte
    clear h4 hE hL
    go_enter Try.func8, Try.ntmps8
    go_wp2_with fail
    go_loopw [4, 5] (fun v i wr => ∃ n : Nat, i = .int .i64 (n : Int) ∧ n ≤ N ∧ wr.ownsRow 0 9 1 v n (texts (List.replicate n nought256)) ∧ (∀ g, v.ownBlock = some g → w.heap.size ≤ g) ∧ Fresh w wr) (fun _ i _ => N - (intOf i).toNat)
    case atStart => exact ⟨0, rfl, by omega, World.ownsRow_nil _ _ _ _, (fun _ h => nomatch h), Keeps.refl _ _⟩
    case round =>
      obtain ⟨n, rfl, hn, hrow, hnew, hf⟩ := hrel
      obtain ⟨so, scap, rfl⟩ := ownsRow_slice hrow
      by_cases hlt : n < N
      · have hlt2 : (n : Int) < (N : Int) := by omega
        go_wp2_with (at_make; refine wpList_make_full _ rfl (.const (.int .i64 256)) (.const (.int .i64 256)) 63 rfl 0 5 j0 (.int .u8 0) 1 Try.underlying63 hj hy0 hy1 .i64 .i64 256 256 256 rfl rfl rfl rfl (by rw [hy2]; omega) (by unfold maxLen; omega) (Nat.zero_le _) ?_)
        intro w8 hrow8 hgr8
        have f8 : Fresh wr w8 := (Keeps.refl _ wr).grown hgr8 (fun k h => by cases h)
        have hrow8' : w8.ownsRow 0 5 1 (.slice (some ⟨wr.heap.size, 0, none⟩) 256 256) 256 (u8s nought256) := by
          have e : (madeCells #[Value.int .u8 0] 256).toList = u8s nought256 := by rw [made_list]; exact (u8s_noughts 256).symm
          rw [← e]; exact hrow8
        have hct : (convert 63 9 (.slice (some ⟨wr.heap.size, 0, none⟩) 256 256)).run Try.prog w8 = .ok (.string (str nought256)) w8 := run_text_of_row (P := Try.prog) (w := w8) (base := 0) (e := 5) (v := .slice (some ⟨wr.heap.size, 0, none⟩) 256 256) (bs := nought256) 63 9 Try.underlying63 Try.underlying5 Try.underlying9 hrow8'
        have hrow9 := ownsRow_keeps hrow f8 (fun _ _ h => h)
        have hf8 := hf.trans f8
        clear hrow8 hrow8' hgr8 hrow
        go_wp2_with (at_builtin; refine wpList_push rfl (.tmp 17) (.tmp 20) 30 rfl 9 i0 (.string ⟨#[]⟩) 16 Try.underlying30 hi hz0 hz1 hz2 rfl w8 hrow9 _ (by rfl) (by rfl) rfl (by omega) (by unfold maxLen; omega) ?_)
        intro v4 w4 ha
        have hrow4 := ha.row
        have e4 : texts (List.replicate n nought256) ++ [Value.string (str nought256)] = texts (List.replicate (n + 1) nought256) := by rw [← texts_snoc, ← List.replicate_succ']
        rw [e4] at hrow4
        have hown4 : ∀ g, v4.ownBlock = some g → w.heap.size ≤ g := fun g hg => by
          rcases ha.own g hg with h | h
          · exact hnew g h
          · have := hf8.size; omega
        have f4 : Fresh w w4 := hf8.trans' ha.keeps fun i hi h => by have := hnew i h; omega
        clear ha hct hrow9 e4
        go_wp2
        go_roundw
        case rel => exact ⟨n + 1, by go_num, by omega, hrow4, hown4, f4⟩
        case measure => simp [intOf]; omega
      · obtain rfl : n = N := by omega
        have hown : OwnTexts w.heap.size wr (.slice so n scap) (List.replicate n nought256) := ⟨by rw [List.length_replicate]; exact hrow, hnew⟩
        have hload := refload_any _ _ wr hown.at_ (by rw [List.length_replicate]; omega) (fun s hs => by rw [(List.mem_replicate.1 hs).2, nought256_len]; omega)
        rw [HL.out] at hload
        have HLD := hid hload
        clear hload hown
        go_wp2_with fail
        refine HLD.out.mono ?_
        rintro e w3 ⟨q, rfl, f3, hld⟩
        go_wp2_with fail
        go_ret2
        exact ⟨q, rfl, hf.trans f3, hld⟩

set_option maxRecDepth 100000 in
theorem pick_any (x : Int) (n : Nat) (w : World) (hn : 0 < n) (hn2 : n ≤ 1000000) (hx : -9223372036854775808 ≤ x) (hx2 : x ≤ 9223372036854775807) :
    Calls Try.prog 9 #[.int .i64 x, .int .i64 (n : Int)] w fun e w' => e = .returned (.int .i64 ((if x < 0 then -(x + 1) else x).tmod (n : Int))) ∧ w = w' := by
  have hn0 : ¬ (n : Int) = 0 := by omega
  by_cases h : x < 0
  · rw [if_pos h]
    go_enter Try.func9, Try.ntmps9
    go_wp2_with fail
    go_ret
    exact ⟨by rw [Int.neg_tmod]; rfl, rfl⟩
  · rw [if_neg h]
    go_enter Try.func9, Try.ntmps9
    go_wp2_with fail
    go_ret
    exact ⟨by rw [Int.tmod_eq_emod_of_nonneg (by omega)]; rfl, rfl⟩
theorem picked (x : Int) (n : Nat) (hn : 0 < n) : ∃ r : Nat, (if x < 0 then -(x + 1) else x).tmod (n : Int) = (r : Int) ∧ r < n := by
  have fin : ∀ y : Int, 0 ≤ y → ∃ r : Nat, y.tmod (n : Int) = (r : Int) ∧ r < n := fun y hy => by
    have h1 := Int.tmod_nonneg (n : Int) hy
    have h2 := Int.tmod_lt_of_pos y (show (0 : Int) < (n : Int) by omega)
    exact ⟨(y.tmod (n : Int)).toNat, by omega, by omega⟩
  by_cases h : x < 0
  · rw [if_pos h]; exact fin _ (by omega)
  · rw [if_neg h]; exact fin _ (by omega)
end Go.Proofs.Ytbhienlalpbflaa
