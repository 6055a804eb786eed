/-
  Package codec: 'digits' at int and at uint64: the digits of a number are appended, by sevens of bits from below.
-/
import Derived.Test.YtfjflnlcjnhmmaaDoorAppend
import Derived.Test.YtfjflnlcjnhmmaaDoorCxRep
namespace Go.Proofs.YtfjflnlcjnhmmaaDoor
open Go.RowKit

/-- A number's digits. -/
def digs (n : Nat) : List UInt8 := if _h : 127 < n then UInt8.ofNat (n % 128 + 128) :: digs (n / 128) else [UInt8.ofNat n]
termination_by n
decreasing_by omega

theorem digs_more {n : Nat} (h : 127 < n) : digs n = UInt8.ofNat (n % 128 + 128) :: digs (n / 128) := by rw [digs, dif_pos h]
theorem digs_last {n : Nat} (h : n ≤ 127) : digs n = [UInt8.ofNat n] := by rw [digs, dif_neg (by omega)]
theorem digs_len (k : Nat) : ∀ n, n < 128 ^ (k + 1) → (digs n).length ≤ k + 1 := by
  induction k with
  | zero => intro n h; rw [digs_last (by omega)]; simp
  | succ k ih =>
    intro n h
    by_cases hn : 127 < n
    · rw [digs_more hn]
      have := ih (n / 128) (by rw [Nat.pow_succ] at h; omega)
      simp; omega
    · rw [digs_last (by omega)]; simp

theorem Tryd.infoU8 : (Tryd.prog.info? 5).map (fun i => (i.zero, i.size, i.bytes)) = some (some (.int .u8 0), 1, 1) := by kernel_rfl

theorem or128 (j : Nat) : bits BinOp.or IntKind.u8 ((j : Int) % 128) 128 = ((UInt8.ofNat (j % 128 + 128)).toNat : Int) := by
  have h : ∀ x : Fin 128, bits BinOp.or IntKind.u8 ((x.val : Nat) : Int) 128 = ((UInt8.ofNat (x.val + 128)).toNat : Int) := by decide
  have := h ⟨j % 128, by omega⟩
  simpa using this
theorem digs_pos (n : Nat) : 0 < (digs n).length := by
  by_cases h : 127 < n
  · rw [digs_more h]; simp
  · rw [digs_last (by omega)]; simp

set_option maxRecDepth 100000 in
set_option maxHeartbeats 400000 in
theorem digits_int (v : Value) (n : Nat) (xs : List Value) (m : Nat) (w : World) (hm : m ≤ 9223372036854775807) (hn : n < 70368744177664) (hrow : w.ownsRow 0 5 1 v n xs) :
    Calls Tryd.prog 56 #[v, .int .i64 m] w fun e w' => ∃ v', e = .returned v' ∧ Appended 5 1 w w' v v' (n + (digs m).length) (xs ++ u8s (digs m)) := by
  obtain ⟨i0, hi, hz0, hz1, hz2⟩ := info_parts Tryd.infoU8
  go_enter Tryd.func56, Tryd.ntmps56
  go_wp2
  go_loopw [0, 1] (fun s i wr => ∃ (j : Nat) (pre : List UInt8), i = .int .i64 j ∧ j ≤ 9223372036854775807 ∧ pre.length ≤ 9 ∧ Hid (pre ++ digs j = digs m) ∧ Appended 5 1 w wr v s (n + pre.length) (xs ++ u8s pre)) (fun _ i _ => (intOf i).toNat)
  case atStart => exact ⟨m, [], rfl, hm, by simp, rfl, by simpa [u8s] using hrow, Keeps.refl _ _, fun g h => .inl h⟩
  case round =>
    obtain ⟨j, pre, rfl, hj, hpre, HD, hown⟩ := hrel
    by_cases hlt : 127 < j
    · go_wp2_with (at_builtin; go_loud (refine wpList_push rfl (.tmp 7) (.tmp 12) 30 rfl 5 i0 (.int .u8 0) 1 Tryd.underlying30 hi hz0 hz1 hz2 rfl wr hown.row _ (by rfl) (by rfl) rfl (by omega) (by unfold maxLen; omega) ?_))
      intro v' w' ha
      go_wp2
      have hr := hown.trans ha
      go_roundw
      case rel =>
        refine ⟨j / 128, pre ++ [UInt8.ofNat (j % 128 + 128)], by go_num, by omega, ?_, ?_, ?_⟩
        · have h2 := congrArg List.length HD.out
          rw [digs_more hlt] at h2
          have := digs_pos (j / 128)
          have := digs_len 9 m (by omega)
          simp at h2 ⊢; omega
        · show _ = _
          rw [← HD.out, digs_more hlt]; simp
        · have e : xs ++ u8s pre ++ [Value.int .u8 (bits BinOp.or IntKind.u8 ((j : Int) % 128) 128)] = xs ++ u8s (pre ++ [UInt8.ofNat (j % 128 + 128)]) := by
            rw [or128]; simp [u8s]
          rw [List.append_assoc] at e
          rw [e] at hr
          simpa [Nat.add_assoc] using hr
      case measure => simp [intOf]; omega
    · go_wp2_with (at_builtin; refine wpList_push rfl (.tmp 16) (.tmp 19) 30 rfl 5 i0 (.int .u8 0) 1 Tryd.underlying30 hi hz0 hz1 hz2 rfl wr hown.row _ (by rfl) (by rfl) rfl (by omega) (by unfold maxLen; omega) ?_)
      intro v' w' ha
      have hr := hown.trans ha
      go_wp2
      go_ret
      refine ⟨v', rfl, ?_⟩
      have e : digs m = pre ++ [UInt8.ofNat j] := by rw [← HD.out, digs_last (by omega)]
      have h256 : (j : Int) % 256 = j := by omega
      rw [e]
      simpa [u8s, Nat.add_assoc, h256] using hr

set_option maxRecDepth 100000 in
set_option maxHeartbeats 400000 in
theorem digits_u64 (v : Value) (n : Nat) (xs : List Value) (m : Nat) (w : World) (hm : m ≤ 9223372036854775807) (hn : n < 70368744177664) (hrow : w.ownsRow 0 5 1 v n xs) :
    Calls Tryd.prog 37 #[v, .int .u64 m] w fun e w' => ∃ v', e = .returned v' ∧ Appended 5 1 w w' v v' (n + (digs m).length) (xs ++ u8s (digs m)) := by
  obtain ⟨i0, hi, hz0, hz1, hz2⟩ := info_parts Tryd.infoU8
  go_enter Tryd.func37, Tryd.ntmps37
  go_wp2
  go_loopw [0, 1] (fun s i wr => ∃ (j : Nat) (pre : List UInt8), i = .int .u64 j ∧ j ≤ 9223372036854775807 ∧ pre.length ≤ 9 ∧ Hid (pre ++ digs j = digs m) ∧ Appended 5 1 w wr v s (n + pre.length) (xs ++ u8s pre)) (fun _ i _ => (intOf i).toNat)
  case atStart => exact ⟨m, [], rfl, hm, by simp, rfl, by simpa [u8s] using hrow, Keeps.refl _ _, fun g h => .inl h⟩
  case round =>
    obtain ⟨j, pre, rfl, hj, hpre, HD, hown⟩ := hrel
    by_cases hlt : 127 < j
    · go_wp2_with (at_builtin; go_loud (refine wpList_push rfl (.tmp 7) (.tmp 12) 30 rfl 5 i0 (.int .u8 0) 1 Tryd.underlying30 hi hz0 hz1 hz2 rfl wr hown.row _ (by rfl) (by rfl) rfl (by omega) (by unfold maxLen; omega) ?_))
      intro v' w' ha
      go_wp2
      have hr := hown.trans ha
      go_roundw
      case rel =>
        refine ⟨j / 128, pre ++ [UInt8.ofNat (j % 128 + 128)], by go_num, by omega, ?_, ?_, ?_⟩
        · have h2 := congrArg List.length HD.out
          rw [digs_more hlt] at h2
          have := digs_pos (j / 128)
          have := digs_len 9 m (by omega)
          simp at h2 ⊢; omega
        · show _ = _
          rw [← HD.out, digs_more hlt]; simp
        · have e : xs ++ u8s pre ++ [Value.int .u8 (bits BinOp.or IntKind.u8 ((j : Int) % 128) 128)] = xs ++ u8s (pre ++ [UInt8.ofNat (j % 128 + 128)]) := by
            rw [or128]; simp [u8s]
          rw [List.append_assoc] at e
          rw [e] at hr
          simpa [Nat.add_assoc] using hr
      case measure => simp [intOf]; omega
    · go_wp2_with (at_builtin; refine wpList_push rfl (.tmp 16) (.tmp 19) 30 rfl 5 i0 (.int .u8 0) 1 Tryd.underlying30 hi hz0 hz1 hz2 rfl wr hown.row _ (by rfl) (by rfl) rfl (by omega) (by unfold maxLen; omega) ?_)
      intro v' w' ha
      have hr := hown.trans ha
      go_wp2
      go_ret
      refine ⟨v', rfl, ?_⟩
      have e : digs m = pre ++ [UInt8.ofNat j] := by rw [← HD.out, digs_last (by omega)]
      have h256 : (j : Int) % 256 = j := by omega
      rw [e]
      simpa [u8s, Nat.add_assoc, h256] using hr
end Go.Proofs.YtfjflnlcjnhmmaaDoor
