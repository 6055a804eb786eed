/-
  A bit of a digest: the trie's and the document's; what stands for nothing (the document's); a leaf's hash.
-/
import Derived.Test.YtmflbchiapdhbaaDoorShaLaid
namespace Go.Proofs.YtmflbchiapdhbaaDoor
open Go.RowKit

def bitAt (s : List UInt8) (n : Nat) : Nat := (byteAt s (n / 8)).toNat / 2 ^ (7 - n % 8) % 2
theorem bitAt_le (s : List UInt8) (n : Nat) : bitAt s n ≤ 1 := by unfold bitAt; omega

theorem shift_int (c m : Nat) (_h : m < 8) : (c : Int) / 2 ^ m = ((c / 2 ^ m : Nat) : Int) := by simp
theorem refbit_eq (s : List UInt8) (n : Nat) : (wrap64 ((byteAt s (n / 8)).toNat : Int) / 2 ^ (7 - n % 8)).tmod 2 = (bitAt s n : Int) := by
  have hc := (byteAt s (n / 8)).toNat_lt
  rw [wrap_small (by omega) (by omega), shift_int _ _ (by omega), Int.tmod_eq_emod_of_nonneg (Int.natCast_nonneg _), bitAt]
  generalize (byteAt s (n / 8)).toNat / 2 ^ (7 - n % 8) = q
  omega
theorem bit_eq (s : List UInt8) (n : Nat) : bits BinOp.and IntKind.i64 (wrap64 (((byteAt s (n / 8)).toNat : Int) / 2 ^ (7 - n % 8))) 1 = (bitAt s n : Int) := by
  have hc := (byteAt s (n / 8)).toNat_lt
  have hle := Nat.div_le_self (byteAt s (n / 8)).toNat (2 ^ (7 - n % 8))
  rw [shift_int _ _ (by omega), bitAt]
  generalize (byteAt s (n / 8)).toNat / 2 ^ (7 - n % 8) = q at hle ⊢
  have h1 : (1 : Int) = ((1 : Nat) : Int) := rfl
  rw [wrap_small (by omega) (by omega), h1, and_nat (by omega) (by omega), Nat.and_one_is_mod]

set_option maxRecDepth 100000 in
set_option maxHeartbeats 1000000 in
theorem refbit_any (s : List UInt8) (n : Nat) (w : World) (hn : n / 8 < s.length) (hs : s.length ≤ 9223372036854775807) :
    Calls Tryd.prog 32 #[.string (str s), .int .i64 (n : Int)] w fun e w' => e = .returned (.int .i64 (bitAt s n : Int)) ∧ w = w' := by
  have hsz := str_size s
  have hidx := byte_idx (b := s) (j := n / 8)
  have x0 : (n : Int) / 8 < (s.length : Int) := by omega
  have y0 : ((n : Int) / 8).toNat = n / 8 := by omega
  have HE := hid (refbit_eq s n)
  go_enter Tryd.func32, Tryd.ntmps32
  go_wp2_with fail
  rw [HE.out]
  go_ret
  exact ⟨rfl, rfl⟩

set_option maxRecDepth 100000 in
set_option maxHeartbeats 1000000 in
theorem bit_any (s : List UInt8) (n : Nat) (w : World) (hn : n / 8 < s.length) (hs : s.length ≤ 9223372036854775807) :
    Calls Tryd.prog 28 #[.string (str s), .int .i64 (n : Int)] w fun e w' => e = .returned (.int .i64 (bitAt s n : Int)) ∧ w = w' := by
  have hsz := str_size s
  have hidx := byte_idx (b := s) (j := n / 8)
  have x0 : (n : Int) / 8 < (s.length : Int) := by omega
  have y0 : ((n : Int) / 8).toNat = n / 8 := by omega
  have HE := hid (bit_eq s n)
  go_enter Tryd.func28, Tryd.ntmps28
  go_wp2_with fail
  rw [HE.out]
  go_ret
  exact ⟨rfl, rfl⟩
end Go.Proofs.YtmflbchiapdhbaaDoor
