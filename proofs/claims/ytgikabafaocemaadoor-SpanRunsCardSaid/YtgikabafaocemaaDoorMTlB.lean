/-
  A leaf more in a tree: how many nodes there are on each level, round by round. Plain.
  Contracts of Go's library, laid at this program (the numbers by name).
  How many bits a number has; how many noughts stand at its end.
-/
import Derived.Test.YtgikabafaocemaaDoorMSpB
import Derived.Shelf.Small.Bits
import Derived.Test.YtgikabafaocemaaDoorProg
import Derived.Lib.LaidTab
namespace Go.Proofs.YtgikabafaocemaaDoor
open Go.RowKit

theorem odd_part : ∀ n : Nat, 0 < n → ∃ k m, n = 2 ^ k * (2 * m + 1) := by
  intro n
  induction n using Nat.strongRecOn with
  | _ n ih =>
    intro h
    by_cases h2 : n % 2 = 0
    · obtain ⟨k, m, e⟩ := ih (n / 2) (by omega) (by omega)
      refine ⟨k + 1, m, ?_⟩
      rw [Nat.pow_succ, Nat.mul_right_comm, ← e]
      omega
    · exact ⟨0, n / 2, by simp; omega⟩

/-- so many nodes are there on each level, behind so many rounds -/
def cAt (s j : Nat) : Nat → Nat := fun l => if l ≤ j then (s + 1) / 2 ^ l else s / 2 ^ l
theorem pow_split {k j : Nat} (h : j ≤ k) (m : Nat) : 2 ^ k * (2 * m + 1) = 2 ^ j * (2 ^ (k - j) * (2 * m + 1)) := by
  rw [← Nat.mul_assoc, ← Nat.pow_add, show j + (k - j) = k by omega]
/-- on a level up to k one more -/
theorem count_up {s k m j : Nat} (h : s + 1 = 2 ^ k * (2 * m + 1)) (hj : j ≤ k) : (s + 1) / 2 ^ j = s / 2 ^ j + 1 ∧ (s / 2 ^ j + 1) * 2 ^ j = s + 1 := by
  have h0 : 0 < 2 ^ j := Nat.pow_pos (by omega)
  rw [pow_split hj] at h
  generalize 2 ^ (k - j) * (2 * m + 1) = q at h
  have hq : 0 < q := by
    rcases Nat.eq_zero_or_pos q with e | e
    · rw [e, Nat.mul_zero] at h; omega
    · exact e
  have e1 : (s + 1) / 2 ^ j = q := by rw [h, Nat.mul_div_cancel_left _ h0]
  have e2 : s / 2 ^ j = q - 1 := by
    have h1 : 2 ^ j * q = 2 ^ j * (q - 1) + 2 ^ j := by
      rw [show q = (q - 1) + 1 by omega, Nat.mul_add, Nat.mul_one]
      rfl
    have h2 : s = (2 ^ j - 1) + 2 ^ j * (q - 1) := by omega
    rw [h2, Nat.add_mul_div_left _ _ h0, Nat.div_eq_of_lt (by omega)]
    omega
  rw [e1, e2]
  refine ⟨by omega, ?_⟩
  rw [show q - 1 + 1 = q by omega, Nat.mul_comm]
  exact h.symm
/-- below level k it is odd -/
theorem count_odd {s k m j : Nat} (h : s + 1 = 2 ^ k * (2 * m + 1)) (hj : j < k) : s / 2 ^ j = 2 * (s / 2 ^ (j + 1)) + 1 := by
  have h1 := count_up h (show j ≤ k by omega)
  have h2 := count_up h (show j + 1 ≤ k by omega)
  have h3 : s / 2 ^ (j + 1) = s / 2 ^ j / 2 := by rw [Nat.pow_succ, Nat.div_div_eq_div_mul]
  have h4 : (s + 1) / 2 ^ (j + 1) = (s + 1) / 2 ^ j / 2 := by rw [Nat.pow_succ, Nat.div_div_eq_div_mul]
  omega
/-- above level k there is no more -/
theorem count_same {s k m l : Nat} (h : s + 1 = 2 ^ k * (2 * m + 1)) (hl : k < l) : (s + 1) / 2 ^ l = s / 2 ^ l := by
  have h1 := count_up h (Nat.le_refl k)
  have h0 : 0 < 2 ^ k := Nat.pow_pos (by omega)
  have e1 : (s + 1) / 2 ^ k = 2 * m + 1 := by rw [h, Nat.mul_div_cancel_left _ h0]
  have hp : 2 ^ l = 2 ^ k * 2 * 2 ^ (l - k - 1) := by
    rw [← Nat.pow_succ, ← Nat.pow_add]
    congr 1
    omega
  rw [hp, ← Nat.div_div_eq_div_mul, ← Nat.div_div_eq_div_mul, ← Nat.div_div_eq_div_mul, ← Nat.div_div_eq_div_mul]
  congr 1
  omega
theorem cAt_first (s : Nat) : oneMore (fun l => s / 2 ^ l) 0 = cAt s 0 := by
  funext l
  unfold oneMore cAt
  by_cases h : l = 0
  · subst h; simp
  · rw [if_neg h, if_neg (by omega)]
theorem cAt_next {s k m j : Nat} (h : s + 1 = 2 ^ k * (2 * m + 1)) (hj : j < k) : oneMore (cAt s j) (j + 1) = cAt s (j + 1) := by
  funext l
  unfold oneMore cAt
  by_cases e : l = j + 1
  · subst e
    rw [if_pos rfl, if_neg (by omega), if_pos (Nat.le_refl _)]
    exact (count_up h (by omega)).1.symm
  · rw [if_neg e]
    by_cases h2 : l ≤ j
    · rw [if_pos h2, if_pos (by omega)]
    · rw [if_neg h2, if_neg (by omega)]
theorem cAt_last {s k m : Nat} (h : s + 1 = 2 ^ k * (2 * m + 1)) : cAt s k = fun l => (s + 1) / 2 ^ l := by
  funext l
  unfold cAt
  by_cases h2 : l ≤ k
  · rw [if_pos h2]
  · rw [if_neg h2]; exact (count_same h (by omega)).symm
theorem cAt_here (s j : Nat) : cAt s j j = (s + 1) / 2 ^ j := by unfold cAt; rw [if_pos (Nat.le_refl _)]
theorem cAt_above (s j : Nat) : cAt s j (j + 1) = s / 2 ^ (j + 1) := by unfold cAt; rw [if_neg (by omega)]

/-- the old nodes are as they were -/
theorem nodeOf_old (L M : List (List UInt8)) {l i : Nat} (h : i < L.length / 2 ^ l) : nodeOf (L ++ M) l i = nodeOf L l i := by
  apply nodeOf_more
  have h0 : 0 < 2 ^ l := Nat.pow_pos (by omega)
  exact Nat.le_trans (Nat.mul_le_mul_right _ h) (Nat.div_mul_le_self _ _)
/-- the next node is the hash of two -/
theorem nodeOf_next {L : List (List UInt8)} {s k m j : Nat} (hL : L.length = s + 1) (h : s + 1 = 2 ^ k * (2 * m + 1)) (hj : j < k) :
    nodeH (nodeOf L j (s / 2 ^ j - 1)) (nodeOf L j (s / 2 ^ j)) = nodeOf L (j + 1) (s / 2 ^ (j + 1)) := by
  have h1 := count_odd h hj
  have h2 := count_up h (show j + 1 ≤ k by omega)
  rw [nodeOf_up (by rw [hL, h2.2]; exact Nat.le_refl _), h1, show 2 * (s / 2 ^ (j + 1)) + 1 - 1 = 2 * (s / 2 ^ (j + 1)) by omega]
theorem nodeOf_len {L : List (List UInt8)} (h : ∀ x ∈ L, x.length = 32) (l i : Nat) : (nodeOf L l i).length = 32 := by
  unfold nodeOf
  exact hashL_len (fun x hx => h x (List.mem_of_mem_drop (List.mem_of_mem_take hx)))
end Go.Proofs.YtgikabafaocemaaDoor

namespace Go.Proofs.YtgikabafaocemaaDoor
open Go.Shelf
def Tryd.lays128_ren : Go.Shelf.Ren := ⟨fun | 128 => 113 | n => n, fun | 51 => 161 | 3 => 3 | 4 => 4 | 46 => 97 | 5 => 5 | 9 => 9 | n => n, fun | n => n⟩
theorem Tryd.lays128 : Go.Proofs.Lays.n128 Tryd.prog Tryd.lays128_ren := {
  mixed := by kernel_rfl
  f128 := Tryd.func113.trans (congrArg some (by kernel_rfl))
  t3 := Tryd.underlying3
  a3 := Tryd.isAgg3
  z3 := Tryd.sizeOf3
  v3 := Tryd.zeroValue3
  t4 := Tryd.underlying4
  a4 := Tryd.isAgg4
  z4 := Tryd.sizeOf4
  v4 := Tryd.zeroValue4
  t5 := Tryd.underlying5
  a5 := Tryd.isAgg5
  z5 := Tryd.sizeOf5
  v5 := Tryd.zeroValue5
  t9 := Tryd.underlying9
  a9 := Tryd.isAgg9
  z9 := Tryd.sizeOf9
  v9 := Tryd.zeroValue9
  t46 := Tryd.underlying97
  a46 := Tryd.isAgg97
  z46 := Tryd.sizeOf97
  v46 := Tryd.zeroValue97
  t51 := Tryd.underlying161
  a51 := Tryd.isAgg161
  z51 := Tryd.sizeOf161
  v51 := Tryd.zeroValue161 }
theorem Tryd.bits_Len32 (x : Int) (w : World) (h0 : 0 ≤ x) (h1 : x ≤ 4294967295) :
    Calls Tryd.prog 113 #[.int .u32 x] w fun e w' => e = .returned (.int .i64 (Lib.bitLen x.toNat)) ∧ w' = w := Any.bits_Len32 Tryd.lays128 x w h0 h1
def Tryd.lays125_ren : Go.Shelf.Ren := ⟨fun | 125 => 78 | 128 => 113 | 129 => 114 | n => n, fun | 46 => 97 | 3 => 3 | 51 => 161 | 53 => 163 | 4 => 4 | 5 => 5 | 9 => 9 | n => n, fun | n => n⟩
theorem Tryd.lays125 : Go.Proofs.Lays.n125 Tryd.prog Tryd.lays125_ren := {
  mixed := by kernel_rfl
  f125 := Tryd.func78.trans (congrArg some (by kernel_rfl))
  f128 := Tryd.func113.trans (congrArg some (by kernel_rfl))
  f129 := Tryd.func114.trans (congrArg some (by kernel_rfl))
  t3 := Tryd.underlying3
  a3 := Tryd.isAgg3
  z3 := Tryd.sizeOf3
  v3 := Tryd.zeroValue3
  t4 := Tryd.underlying4
  a4 := Tryd.isAgg4
  z4 := Tryd.sizeOf4
  v4 := Tryd.zeroValue4
  t5 := Tryd.underlying5
  a5 := Tryd.isAgg5
  z5 := Tryd.sizeOf5
  v5 := Tryd.zeroValue5
  t9 := Tryd.underlying9
  a9 := Tryd.isAgg9
  z9 := Tryd.sizeOf9
  v9 := Tryd.zeroValue9
  t46 := Tryd.underlying97
  a46 := Tryd.isAgg97
  z46 := Tryd.sizeOf97
  v46 := Tryd.zeroValue97
  t51 := Tryd.underlying161
  a51 := Tryd.isAgg161
  z51 := Tryd.sizeOf161
  v51 := Tryd.zeroValue161
  t53 := Tryd.underlying163
  a53 := Tryd.isAgg163
  z53 := Tryd.sizeOf163
  v53 := Tryd.zeroValue163 }
theorem Tryd.bits_Len (x : Int) (w : World) (h0 : 0 ≤ x) (h1 : x ≤ 18446744073709551615) :
    Calls Tryd.prog 78 #[.int .u64 x] w fun e w' => e = .returned (.int .i64 (Lib.bitLen x.toNat)) ∧ w' = w := Any.bits_Len Tryd.lays125 x w h0 h1
end Go.Proofs.YtgikabafaocemaaDoor

namespace Go.Proofs.YtgikabafaocemaaDoor
open Go.RowKit

def dbTab : List Nat := [0, 1, 56, 2, 57, 49, 28, 3, 61, 58, 42, 50, 38, 29, 17, 4, 62, 47, 59, 36, 45, 43, 51, 22, 53, 39, 33, 30, 24, 18, 12, 5, 63, 55, 48, 27, 60, 41, 37, 16, 46, 35, 44, 21, 52, 32, 23, 11, 54, 26, 40, 15, 34, 20, 31, 10, 25, 14, 19, 9, 13, 8, 7, 6]
theorem dbTab_ok : ∀ k, k < 64 → dbTab.getD (2 ^ k * 285870213051353865 % 2 ^ 64 / 2 ^ 58) 0 = k := by decide +kernel
def DbLaid (w : World) : Prop := ∀ j, j < 64 → w.cell? ⟨1, j, none⟩ = some (.int .u8 (dbTab.getD j 0 : Int))
theorem cell_lt {w : World} {a : Addr} {v : Value} (h : w.cell? a = some v) : a.block < w.heap.size := by
  cases hh : w.heap[a.block]? with
  | none => simp [World.cell?, hh] at h
  | some o => exact lt_of_block hh
theorem DbLaid.keeps {S : Nat → Prop} {w w' : World} (h : DbLaid w) (f : Keeps S w w') (hn : ¬ S 1) : DbLaid w' := fun j hj => (f.cell (p := ⟨1, j, none⟩) (cell_lt (h j hj)) hn).trans (h j hj)
theorem DbLaid.fresh {w w' : World} (h : DbLaid w) (f : Fresh w w') : DbLaid w' := h.keeps f (fun h => h)

theorem low_bit (k m : Nat) (h : 2 ^ k * (2 * m + 1) < 2 ^ 64) : (2 ^ k * (2 * m + 1)) &&& (2 ^ 64 - 2 ^ k * (2 * m + 1)) = 2 ^ k := by
  have hk : k < 64 := by
    apply Classical.byContradiction
    intro hc
    have h1 := Nat.pow_le_pow_right (n := 2) (by omega) (show 64 ≤ k by omega)
    have h2 := Nat.mul_le_mul_left (2 ^ k) (show 1 ≤ 2 * m + 1 by omega)
    rw [Nat.mul_one] at h2
    omega
  have e1 : 2 ^ 64 - 2 ^ k * (2 * m + 1) = 2 ^ k * (2 ^ (64 - k) - (2 * m + 1)) := by
    rw [Nat.mul_sub, ← Nat.pow_add, show k + (64 - k) = 64 by omega]
  have h3 : 2 * m + 1 < 2 ^ (64 - k) := by
    have h4 : 2 ^ k * 2 ^ (64 - k) = 2 ^ 64 := by rw [← Nat.pow_add, show k + (64 - k) = 64 by omega]
    rw [← h4] at h
    exact Nat.lt_of_mul_lt_mul_left h
  rw [e1]
  apply Nat.eq_of_testBit_eq
  intro j
  rw [Nat.testBit_and, Nat.testBit_two_pow_mul, Nat.testBit_two_pow_mul, Nat.testBit_two_pow]
  by_cases hj : k ≤ j
  · rw [show 2 ^ (64 - k) - (2 * m + 1) = 2 ^ (64 - k) - ((2 * m) + 1) from rfl, Nat.testBit_two_pow_sub_succ (by omega)]
    cases hi : j - k with
    | zero =>
      have : k = j := by omega
      subst this
      have : 0 < 64 - k := by omega
      simp [Nat.testBit_zero]
      omega
    | succ i =>
      have hne : k ≠ j := by omega
      rw [Nat.testBit_succ, Nat.testBit_succ, show (2 * m + 1) / 2 = m by omega, show 2 * m / 2 = m by omega]
      cases m.testBit i <;> simp [hne]
  · have hne : k ≠ j := by omega
    simp [hj, hne]

theorem and_u64 {a b : Nat} (ha : a < 18446744073709551616) (hb : b < 18446744073709551616) : bits BinOp.and IntKind.u64 (a : Int) (b : Int) = ((a &&& b : Nat) : Int) := by
  show IntKind.u64.wrap ((BitVec.ofInt 64 (a : Int) &&& BitVec.ofInt 64 (b : Int)).toNat : Int) = _
  have h1 := Nat.and_lt_two_pow a (n := 64) (y := b) (by omega)
  rw [BitVec.toNat_and, BitVec.toNat_ofInt, BitVec.toNat_ofInt, show ((a : Int) % (2 ^ 64 : Nat)).toNat = a by omega, show ((b : Int) % (2 ^ 64 : Nat)).toNat = b by omega, IntKind.wrap_u64]
  omega

set_option maxRecDepth 100000 in
set_option maxHeartbeats 1000000 in
theorem trail64_any (k m : Nat) (h : 2 ^ k * (2 * m + 1) < 9223372036854775808) (w : World) (hd : DbLaid w) :
    Calls Tryd.prog 118 #[.int .u64 ((2 ^ k * (2 * m + 1) : Nat) : Int)] w fun x w' => x = .returned (.int .i64 (k : Int)) ∧ Fresh w w' := by
  have hl := low_bit k m (by omega)
  obtain ⟨N, hN⟩ : ∃ N, 2 ^ k * (2 * m + 1) = N := ⟨_, rfl⟩
  rw [hN] at h hl ⊢
  have h0 : 0 < N := by rw [← hN]; exact Nat.mul_pos (Nat.pow_pos (by omega)) (by omega)
  have hz : ((N : Int) == 0) = false := by simpa using (by omega : N ≠ 0)
  have hk : k < 64 := by
    apply Classical.byContradiction
    intro hc
    have h1 := Nat.pow_le_pow_right (n := 2) (by omega) (show 64 ≤ k by omega)
    have h2 := Nat.mul_le_mul_left (2 ^ k) (show 1 ≤ 2 * m + 1 by omega)
    rw [Nat.mul_one] at h2
    omega
  have hP : 2 ^ k < 18446744073709551616 := by
    have h2 := Nat.mul_le_mul_left (2 ^ k) (show 1 ≤ 2 * m + 1 by omega)
    rw [Nat.mul_one] at h2
    omega
  have hi : IntKind.u64.wrap (bits BinOp.and IntKind.u64 (N : Int) (IntKind.u64.wrap (-(N : Int))) * 285870213051353865) / 288230376151711744 = ((2 ^ k * 285870213051353865 % 2 ^ 64 / 2 ^ 58 : Nat) : Int) := by
    rw [show IntKind.u64.wrap (-(N : Int)) = ((2 ^ 64 - N : Nat) : Int) by rw [IntKind.wrap_u64]; omega, and_u64 (by omega) (by omega), hl, IntKind.wrap_u64]
    generalize 2 ^ k = P
    omega
  have hdb := dbTab_ok k hk
  obtain ⟨I, hI⟩ : ∃ I, 2 ^ k * 285870213051353865 % 2 ^ 64 / 2 ^ 58 = I := ⟨_, rfl⟩
  rw [hI] at hi hdb
  have hI64 : I < 64 := by rw [← hI]; omega
  have hIi : (I : Int) < 64 := by omega
  have hcell := hd I hI64
  rw [hdb] at hcell
  clear hN hl hI hdb hP
  go_enter Tryd.func118, Tryd.ntmps118
  go_wp2_with fail
  go_ret
  exact ⟨rfl, Keeps.refl _ _⟩

set_option maxRecDepth 100000 in
set_option maxHeartbeats 1000000 in
theorem trail_any (k m : Nat) (h : 2 ^ k * (2 * m + 1) < 9223372036854775808) (w : World) (hd : DbLaid w) :
    Calls Tryd.prog 85 #[.int .u64 ((2 ^ k * (2 * m + 1) : Nat) : Int)] w fun x w' => x = .returned (.int .i64 (k : Int)) ∧ Fresh w w' := by
  have ht := hid (trail64_any k m h w hd)
  obtain ⟨N, hN⟩ : ∃ N, 2 ^ k * (2 * m + 1) = N := ⟨_, rfl⟩
  rw [hN] at ht ⊢
  clear hN h
  go_enter Tryd.func85, Tryd.ntmps85
  go_wp2_with fail
  refine ht.out.mono ?_
  rintro x w1 ⟨rfl, f⟩
  go_wp2_with fail
  go_ret
  exact ⟨rfl, f⟩

def lenN (n : Nat) : Nat := if n = 0 then 0 else Nat.log2 n + 1
theorem log2_shift {n a : Nat} (h : 2 ^ a ≤ n) : Nat.log2 (n / 2 ^ a) + a = Nat.log2 n := by
  have h0 : 0 < 2 ^ a := Nat.pow_pos (by omega)
  have h1 : 0 < n / 2 ^ a := Nat.div_pos h h0
  have e1 := Nat.log2_self_le (n := n / 2 ^ a) (by omega)
  have e2 := Nat.lt_log2_self (n := n / 2 ^ a)
  have g1 : 2 ^ (Nat.log2 (n / 2 ^ a) + a) ≤ n := by
    rw [Nat.pow_add]
    exact Nat.le_trans (Nat.mul_le_mul_right _ e1) (Nat.div_mul_le_self n _)
  have g2 : n < 2 ^ (Nat.log2 (n / 2 ^ a) + a + 1) := by
    rw [Nat.add_right_comm, Nat.pow_add]
    exact (Nat.div_lt_iff_lt_mul h0).1 e2
  have q1 := (Nat.le_log2 (by omega)).2 g1
  have q2 := (Nat.log2_lt (by omega)).2 g2
  omega
theorem lenN_shift {n a : Nat} (h : 2 ^ a ≤ n) : lenN (n / 2 ^ a) + a = lenN n := by
  have h0 : 0 < 2 ^ a := Nat.pow_pos (by omega)
  have h1 : 0 < n / 2 ^ a := Nat.div_pos h h0
  unfold lenN
  rw [if_neg (by omega), if_neg (by omega)]
  have := log2_shift h
  omega

theorem bitLenAux_eq : ∀ (f x : Nat), x < 2 ^ f → Lib.bitLenAux f x = lenN x
  | 0, x, h => by
    have : x = 0 := by simpa using h
    subst this
    rfl
  | f + 1, x, h => by
    unfold Lib.bitLenAux
    by_cases h0 : x = 0
    · subst h0; rfl
    · rw [if_neg h0, bitLenAux_eq f (x / 2) (by rw [Nat.pow_succ] at h; omega)]
      by_cases h1 : x = 1
      · subst h1; rfl
      · have := lenN_shift (n := x) (a := 1) (by omega)
        rw [Nat.pow_one] at this
        omega
theorem len_any (x : Nat) (w : World) (h : x ≤ 9223372036854775807) :
    Calls Tryd.prog 78 #[.int .u64 (x : Int)] w fun e w' => e = .returned (.int .i64 (lenN x : Int)) ∧ Fresh w w' := by
  refine (Tryd.bits_Len (x : Int) w (by omega) (by omega)).mono ?_
  rintro e w' ⟨rfl, rfl⟩
  refine ⟨?_, Keeps.refl _ _⟩
  rw [Int.toNat_natCast, Lib.bitLen, bitLenAux_eq 64 x (by omega)]
end Go.Proofs.YtgikabafaocemaaDoor
