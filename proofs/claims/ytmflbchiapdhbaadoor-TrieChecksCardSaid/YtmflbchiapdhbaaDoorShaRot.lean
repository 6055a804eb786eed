/-
  A word turned right: the program's and the document's.
-/
import Derived.Test.YtmflbchiapdhbaaDoorShaPlain
import Derived.Test.YtmflbchiapdhbaaDoorRows
import Derived.BigQuiet
import Derived.Laws.BitsLemmas
namespace Go.Proofs.YtmflbchiapdhbaaDoor
open Go.RowKit

theorem shift_lt {x n : Nat} (hx : x < 4294967296) (hn : n < 32) : x <<< n < 2 ^ 63 := by
  rw [Nat.shiftLeft_eq]
  calc x * 2 ^ n ≤ x * 2 ^ 31 := Nat.mul_le_mul_left _ (Nat.pow_le_pow_right (by decide) (by omega))
    _ < 2 ^ 63 := by omega
theorem shr_lt {x n : Nat} (hx : x < 4294967296) : x >>> n < 4294967296 := by
  rw [Nat.shiftRight_eq_div_pow]
  exact Nat.lt_of_le_of_lt (Nat.div_le_self _ _) hx
theorem int_shr (x n : Nat) : (x : Int) / 2 ^ n = ((x >>> n : Nat) : Int) := by rw [Nat.shiftRight_eq_div_pow]; simp
theorem int_shl (x n : Nat) : (x : Int) * 2 ^ n = ((x <<< n : Nat) : Int) := by rw [Nat.shiftLeft_eq]; simp
theorem i64_keeps (n : Int) (h0 : 0 ≤ n) (h1 : n < 2 ^ 63) : IntKind.i64.wrap n = n := by rw [IntKind.wrap_i64]; omega
theorem u32_keeps (n : Int) (h0 : 0 ≤ n) (h1 : n < 2 ^ 32) : IntKind.u32.wrap n = n := by rw [IntKind.wrap_u32]; omega

theorem ror_eq {x n : Nat} (hx : x < 4294967296) (hn : 1 ≤ n) (hn2 : n < 32) : bits BinOp.and IntKind.i64 (bits BinOp.or IntKind.i64 ((x : Int) / 2 ^ n) (wrap64 ((x : Int) * 2 ^ (32 - n)))) 4294967295 = (rot x n : Int) := by
  have h1 : wrap64 (((x <<< (32 - n) : Nat)) : Int) = ((x <<< (32 - n) : Nat) : Int) := by
    have := shift_lt (n := 32 - n) hx (by omega)
    generalize x <<< (32 - n) = y at *
    unfold wrap64
    omega
  rw [int_shr, int_shl, h1, (bits_nat .i64 63 (by decide) i64_keeps _ _ (by have := shr_lt (n := n) hx; omega) (shift_lt hx (by omega))).2]
  have h2 : x >>> n ||| x <<< (32 - n) < 2 ^ 63 := Nat.or_lt_two_pow (by have := shr_lt (n := n) hx; omega) (shift_lt hx (by omega))
  have h3 := bits_mask .i64 63 (by decide) i64_keeps 32 (by decide) ((x >>> n ||| x <<< (32 - n) : Nat) : Int) (by omega) (by exact_mod_cast h2)
  have h4 : ((2 : Int) ^ 32 - 1) = 4294967295 := by decide
  rw [h4] at h3
  rw [h3, rot]
  rfl
theorem rotl_eq {x n m : Nat} (hx : x < 4294967296) (hm : m + n = 32) (hn : 1 ≤ n) (hn2 : n < 32) : bits BinOp.or IntKind.u32 ((x : Int) * 2 ^ m % 4294967296) ((x : Int) / 2 ^ (32 - m)) = (rot x n : Int) := by
  have e1 : 32 - m = n := by omega
  have e2 : 32 - n = m := by omega
  have h5 := shr_lt (n := n) hx
  rw [e1, int_shr, int_shl]
  have h1 : ((x <<< m : Nat) : Int) % 4294967296 = ((x <<< m % 4294967296 : Nat) : Int) := by simp
  rw [h1, (bits_nat .u32 32 (by decide) u32_keeps _ _ (Nat.mod_lt _ (by decide)) (by omega)).2, rot, e2]
  have h2 : (x >>> n ||| x <<< m) % 2 ^ 32 = (x >>> n) % 2 ^ 32 ||| (x <<< m) % 2 ^ 32 := Nat.or_mod_two_pow
  have h3 : (x >>> n) % 2 ^ 32 = x >>> n := Nat.mod_eq_of_lt (by omega)
  rw [h3] at h2
  rw [show (4294967296 : Nat) = 2 ^ 32 from rfl, h2, Nat.or_comm]

theorem back31 {n m : Nat} (hm : m + n = 32) (hn : 1 ≤ n) (hn2 : n < 32) : bits BinOp.and IntKind.u64 (IntKind.u64.wrap (-(n : Int))) 31 = (m : Int) := by
  have key : ∀ n : Fin 32, 1 ≤ n.val → bits BinOp.and IntKind.u64 (IntKind.u64.wrap (-(n.val : Int))) 31 = ((32 - n.val : Nat) : Int) := by decide
  have h := key ⟨n, hn2⟩ hn
  have e : 32 - n = m := by omega
  simp only [e] at h
  exact h

set_option maxRecDepth 100000 in
theorem ror_any (x n : Nat) (w : World) (hx : x < 4294967296) (hn : 1 ≤ n) (hn2 : n < 32) :
    Calls Tryd.prog 62 #[.int .i64 (x : Int), .int .i64 (n : Int)] w fun e w' => e = .returned (.int .i64 (rot x n : Int)) ∧ ∃ k, w' = w.drewN k := by
  have he := ror_eq hx hn hn2
  have HE := hid he
  clear he
  go_enter Tryd.func62, Tryd.ntmps62
  go_wp2_with fail
  go_quiet (fail)
  go_wp2
  go_ret
  exact ⟨by rw [HE.out]; rfl, _, rfl⟩
set_option maxRecDepth 100000 in
theorem rotl_any (x n : Nat) (w : World) (hx : x < 4294967296) (hn : 1 ≤ n) (hn2 : n < 32) :
    Calls Tryd.prog 81 #[.int .u32 (x : Int), .int .i64 (-(n : Int))] w fun e w' => e = .returned (.int .u32 (rot x n : Int)) ∧ w = w' := by
  obtain ⟨m, hm⟩ : ∃ m : Nat, m + n = 32 := ⟨32 - n, by omega⟩
  have hb := back31 hm hn hn2
  have hm1 : 1 ≤ m := by omega
  have hm2 : m < 32 := by omega
  have he := rotl_eq hx hm hn hn2
  have HE := hid he
  clear he
  go_enter Tryd.func81, Tryd.ntmps81
  go_wp2
  go_ret
  exact ⟨by rw [HE.out]; rfl, rfl⟩
set_option maxRecDepth 100000 in
theorem turned_any (x n : Nat) (w : World) (hx : x < 4294967296) (hn : 1 ≤ n) (hn2 : n < 32) :
    Calls Tryd.prog 64 #[.int .u32 (x : Int), .int .i64 (n : Int)] w fun e w' => e = .returned (.int .u32 (rot x n : Int)) ∧ w = w' := by
  go_enter Tryd.func64, Tryd.ntmps64
  go_wp2_with fail
  refine (rotl_any x n w hx hn hn2).mono ?_
  rintro e w1 ⟨rfl, rfl⟩
  go_wp2
  go_ret
  exact ⟨rfl, rfl⟩
end Go.Proofs.YtmflbchiapdhbaaDoor
