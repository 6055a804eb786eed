/-
  Bits of words, as the document's code has them: over whole numbers of 64 bits.
-/
import Derived.Test.YtmflbchiapdhbaaDoorShaRounds
namespace Go.Proofs.YtmflbchiapdhbaaDoor
open Go.RowKit

theorem words_cell {w : World} {g : Nat} {k : IntKind} {l : List Nat} {t : TypeId} {fr : Nat × Nat} (h : w.heap[g]? = some (.cells (words k l) t fr)) {j : Nat} (hj : j < l.length) : w.cell? ⟨g, j, none⟩ = some (.int k (l.getD j 0 : Int)) := by
  rw [cell_at h, words_at hj]
def byteAt (b : List UInt8) (j : Nat) : UInt8 := b.getD j 0
theorem byte_idx {b : List UInt8} {j : Nat} : ∀ h : j < (str b).size, (str b)[j]'h = byteAt b j := by
  intro h
  have hl : j < b.length := by rw [← str_size b]; exact h
  have : (str b)[j]'h = b[j] := rfl
  rw [this, byteAt, List.getD, List.getElem?_eq_getElem hl]
  rfl

theorem wrap_small {n : Int} (h0 : 0 ≤ n) (h1 : n < 9223372036854775808) : wrap64 n = n := by unfold wrap64; omega
theorem or_nat {a b : Nat} (ha : a < 9223372036854775808) (hb : b < 9223372036854775808) : bits BinOp.or IntKind.i64 (a : Int) (b : Int) = ((a ||| b : Nat) : Int) :=
  (bits_nat .i64 63 (by decide) i64_keeps a b (by omega) (by omega)).2
theorem and_nat {a b : Nat} (ha : a < 9223372036854775808) (hb : b < 9223372036854775808) : bits BinOp.and IntKind.i64 (a : Int) (b : Int) = ((a &&& b : Nat) : Int) :=
  (bits_nat .i64 63 (by decide) i64_keeps a b (by omega) (by omega)).1
theorem and_low {n : Nat} (h : n < 9223372036854775808) : bits BinOp.and IntKind.i64 (n : Int) 4294967295 = ((n % 4294967296 : Nat) : Int) := by
  have h3 := bits_mask .i64 63 (by decide) i64_keeps 32 (by decide) (n : Int) (by omega) (by exact_mod_cast (by omega : n < 2 ^ 63))
  have h4 : ((2 : Int) ^ 32 - 1) = 4294967295 := by decide
  rw [h4] at h3
  rw [h3]
  rfl
theorem xor_nat {a b : Nat} (ha : a < 9223372036854775808) (hb : b < 9223372036854775808) : bits BinOp.xor IntKind.i64 (a : Int) (b : Int) = ((a ^^^ b : Nat) : Int) := by
  have h1 : (BitVec.ofInt 64 (a : Int)).toNat = a := by
    rw [BitVec.ofInt_natCast, BitVec.toNat_ofNat]; exact Nat.mod_eq_of_lt (by omega)
  have h2 : (BitVec.ofInt 64 (b : Int)).toNat = b := by
    rw [BitVec.ofInt_natCast, BitVec.toNat_ofNat]; exact Nat.mod_eq_of_lt (by omega)
  have h3 : a ^^^ b < 2 ^ 63 := Nat.xor_lt_two_pow (by omega) (by omega)
  show IntKind.i64.wrap ((BitVec.ofInt 64 (a : Int) ^^^ BitVec.ofInt 64 (b : Int)).toNat : Int) = _
  rw [BitVec.toNat_xor, h1, h2]
  exact i64_keeps _ (by omega) (by exact_mod_cast h3)
theorem or_add {a b i : Nat} (h : b < 2 ^ i) : a * 2 ^ i ||| b = a * 2 ^ i + b := by
  rw [← Nat.shiftLeft_eq, Nat.shiftLeft_add_eq_or_of_lt h]

theorem be_expr (c0 c1 c2 c3 : UInt8) : bits BinOp.or IntKind.i64 (bits BinOp.or IntKind.i64 (bits BinOp.or IntKind.i64 (wrap64 (wrap64 (c0.toNat : Int) * 16777216)) (wrap64 (wrap64 (c1.toNat : Int) * 65536))) (wrap64 (wrap64 (c2.toNat : Int) * 256))) (wrap64 (c3.toNat : Int)) =
    ((c0.toNat * 16777216 + c1.toNat * 65536 + c2.toNat * 256 + c3.toNat : Nat) : Int) := by
  have h0 := c0.toNat_lt
  have h1 := c1.toNat_lt
  have h2 := c2.toNat_lt
  have h3 := c3.toNat_lt
  rw [wrap_small (n := (c0.toNat : Int)) (by omega) (by omega), wrap_small (n := (c1.toNat : Int)) (by omega) (by omega), wrap_small (n := (c2.toNat : Int)) (by omega) (by omega), wrap_small (n := (c3.toNat : Int)) (by omega) (by omega),
    wrap_small (n := (c0.toNat : Int) * 16777216) (by omega) (by omega), wrap_small (n := (c1.toNat : Int) * 65536) (by omega) (by omega), wrap_small (n := (c2.toNat : Int) * 256) (by omega) (by omega)]
  have e0 : (c0.toNat : Int) * 16777216 = ((c0.toNat * 16777216 : Nat) : Int) := by omega
  have e1 : (c1.toNat : Int) * 65536 = ((c1.toNat * 65536 : Nat) : Int) := by omega
  have e2 : (c2.toNat : Int) * 256 = ((c2.toNat * 256 : Nat) : Int) := by omega
  have f1 : c0.toNat * 16777216 ||| c1.toNat * 65536 = c0.toNat * 16777216 + c1.toNat * 65536 := or_add (i := 24) (by omega)
  have f2 : (c0.toNat * 16777216 + c1.toNat * 65536) ||| c2.toNat * 256 = c0.toNat * 16777216 + c1.toNat * 65536 + c2.toNat * 256 := by
    have := or_add (a := c0.toNat * 256 + c1.toNat) (b := c2.toNat * 256) (i := 16) (by omega)
    rw [show (c0.toNat * 256 + c1.toNat) * 2 ^ 16 = c0.toNat * 16777216 + c1.toNat * 65536 by omega] at this
    exact this
  have f3 : (c0.toNat * 16777216 + c1.toNat * 65536 + c2.toNat * 256) ||| c3.toNat = c0.toNat * 16777216 + c1.toNat * 65536 + c2.toNat * 256 + c3.toNat := by
    have := or_add (a := c0.toNat * 65536 + c1.toNat * 256 + c2.toNat) (b := c3.toNat) (i := 8) (by omega)
    rw [show (c0.toNat * 65536 + c1.toNat * 256 + c2.toNat) * 2 ^ 8 = c0.toNat * 16777216 + c1.toNat * 65536 + c2.toNat * 256 by omega] at this
    exact this
  rw [e0, e1, e2, or_nat (by omega) (by omega), f1, or_nat (by omega) (by omega), f2, or_nat (by omega) (by omega), f3]

theorem xor32 {a b : Nat} (ha : a < 4294967296) (hb : b < 4294967296) : a ^^^ b < 4294967296 := Nat.xor_lt_two_pow (n := 32) ha hb
theorem and32 {a b : Nat} (ha : a < 4294967296) : a &&& b < 4294967296 := Nat.lt_of_le_of_lt Nat.and_le_left ha
theorem small0_lt {x : Nat} (hx : x < 4294967296) : small0 x < 4294967296 := xor32 (xor32 (rot_lt _ _) (rot_lt _ _)) (shr_lt hx)
theorem small1_lt {x : Nat} (hx : x < 4294967296) : small1 x < 4294967296 := xor32 (xor32 (rot_lt _ _) (rot_lt _ _)) (shr_lt hx)
theorem big0_lt (x : Nat) : big0 x < 4294967296 := xor32 (xor32 (rot_lt _ _) (rot_lt _ _)) (rot_lt _ _)
theorem big1_lt (x : Nat) : big1 x < 4294967296 := xor32 (xor32 (rot_lt _ _) (rot_lt _ _)) (rot_lt _ _)
theorem choose_lt {e f g : Nat} (he : e < 4294967296) : choose e f g < 4294967296 := xor32 (and32 he) (and32 (by omega))
theorem most_lt {a b c : Nat} (ha : a < 4294967296) (hb : b < 4294967296) : most a b c < 4294967296 := xor32 (xor32 (and32 ha) (and32 ha)) (and32 hb)
theorem small1_expr {x : Nat} (hx : x < 4294967296) : bits BinOp.xor IntKind.i64 (bits BinOp.xor IntKind.i64 (rot x 17 : Int) (rot x 19 : Int)) ((x : Int) / 1024) = (small1 x : Int) := by
  have h1 := rot_lt x 17
  have h2 := rot_lt x 19
  have h3 := shr_lt (n := 10) hx
  have h4 := xor32 h1 h2
  have e : (x : Int) / (1024 : Int) = ((x >>> 10 : Nat) : Int) := by rw [Nat.shiftRight_eq_div_pow]; omega
  rw [e, xor_nat (by omega) (by omega), xor_nat (by omega) (by omega)]
  rfl
theorem small0_expr {x : Nat} (hx : x < 4294967296) : bits BinOp.xor IntKind.i64 (bits BinOp.xor IntKind.i64 (rot x 7 : Int) (rot x 18 : Int)) ((x : Int) / 8) = (small0 x : Int) := by
  have h1 := rot_lt x 7
  have h2 := rot_lt x 18
  have h3 := shr_lt (n := 3) hx
  have h4 := xor32 h1 h2
  have e : (x : Int) / (8 : Int) = ((x >>> 3 : Nat) : Int) := by rw [Nat.shiftRight_eq_div_pow]; omega
  rw [e, xor_nat (by omega) (by omega), xor_nat (by omega) (by omega)]
  rfl
theorem big0_expr (x : Nat) : bits BinOp.xor IntKind.i64 (bits BinOp.xor IntKind.i64 (rot x 2 : Int) (rot x 13 : Int)) (rot x 22 : Int) = (big0 x : Int) := by
  have h1 := rot_lt x 2
  have h2 := rot_lt x 13
  have h3 := rot_lt x 22
  have h4 := xor32 h1 h2
  rw [xor_nat (by omega) (by omega), xor_nat (by omega) (by omega)]
  rfl
theorem big1_expr (x : Nat) : bits BinOp.xor IntKind.i64 (bits BinOp.xor IntKind.i64 (rot x 6 : Int) (rot x 11 : Int)) (rot x 25 : Int) = (big1 x : Int) := by
  have h1 := rot_lt x 6
  have h2 := rot_lt x 11
  have h3 := rot_lt x 25
  have h4 := xor32 h1 h2
  rw [xor_nat (by omega) (by omega), xor_nat (by omega) (by omega)]
  rfl
theorem choose_expr {e f g : Nat} (he : e < 4294967296) (hf : f < 4294967296) (hg : g < 4294967296) : bits BinOp.xor IntKind.i64 (bits BinOp.and IntKind.i64 (e : Int) (f : Int)) (bits BinOp.and IntKind.i64 (bits BinOp.xor IntKind.i64 4294967295 (e : Int)) (g : Int)) = (choose e f g : Int) := by
  have h1 : (4294967295 : Int) = ((4294967295 : Nat) : Int) := rfl
  have h2 : (4294967295 : Nat) ^^^ e = 4294967295 - e := by
    have h := BitVec.toNat_not (x := BitVec.ofNat 32 e)
    rw [BitVec.not_def, BitVec.toNat_xor, BitVec.toNat_allOnes, BitVec.toNat_ofNat, Nat.mod_eq_of_lt (by omega)] at h
    simpa using h
  rw [h1, xor_nat (by omega) (by omega), h2, and_nat (by omega) (by omega), and_nat (by omega) (by omega), xor_nat (by have := and32 (b := f) he; omega) (by have := and32 (a := 4294967295 - e) (b := g) (by omega); omega)]
  rfl
theorem most_expr {a b c : Nat} (ha : a < 4294967296) (hb : b < 4294967296) (hc : c < 4294967296) : bits BinOp.xor IntKind.i64 (bits BinOp.xor IntKind.i64 (bits BinOp.and IntKind.i64 (a : Int) (b : Int)) (bits BinOp.and IntKind.i64 (a : Int) (c : Int))) (bits BinOp.and IntKind.i64 (b : Int) (c : Int)) = (most a b c : Int) := by
  have h1 := and32 (b := b) ha
  have h2 := and32 (b := c) ha
  have h3 := and32 (b := c) hb
  have h4 := xor32 h1 h2
  rw [and_nat (by omega) (by omega), and_nat (by omega) (by omega), and_nat (by omega) (by omega), xor_nat (by omega) (by omega), xor_nat (by omega) (by omega)]
  rfl
/-- nothing but draws lies between -/
def Quiet (w w' : World) : Prop := ∃ k, w' = w.drewN k
theorem Quiet.refl (w : World) : Quiet w w := ⟨0, rfl⟩
theorem Quiet.trans {a b c : World} (h : Quiet a b) (k : Quiet b c) : Quiet a c := by
  obtain ⟨i, rfl⟩ := h
  obtain ⟨j, rfl⟩ := k
  exact ⟨i + j, by rw [World.drewN_drewN]⟩
theorem Quiet.heap {a b : World} (h : Quiet a b) : b.heap = a.heap := by obtain ⟨i, rfl⟩ := h; rfl
theorem Quiet.fresh {a b : World} (h : Quiet a b) : Fresh a b := by obtain ⟨i, rfl⟩ := h; exact (Keeps.refl _ _).drewN i
theorem ints8_one (k : IntKind) (a b c d e f g h : Int) : (#[Value.int k a, .int k b, .int k c, .int k d, .int k e, .int k f, .int k g, .int k h] : Array Value).all (·.oneCell') = true := by
  rw [Array.all_eq_true_iff_forall_mem]
  intro v hv
  simp only [List.mem_toArray, List.mem_cons, List.not_mem_nil, or_false] at hv
  rcases hv with rfl | rfl | rfl | rfl | rfl | rfl | rfl | rfl <;> rfl
/-- the first i of some sums, the rest as it was -/
def mixed (a b : List Nat) (i : Nat) : List Nat := (List.range 8).map fun j => if j < i then (a.getD j 0 + b.getD j 0) % 4294967296 else a.getD j 0
theorem mixed_len (a b : List Nat) (i : Nat) : (mixed a b i).length = 8 := by simp [mixed]
theorem mixed_at {a b : List Nat} {i : Nat} (h : i < 8) : (mixed a b i).getD i 0 = a.getD i 0 := by
  simp [mixed, List.getD, h]
theorem mixed_set {a b : List Nat} {i : Nat} (_h : i < 8) (_ha : a.length = 8) : (mixed a b i).set i ((a.getD i 0 + b.getD i 0) % 4294967296) = mixed a b (i + 1) := by
  apply List.ext_getElem?
  intro j
  by_cases hj : j = i
  · subst hj
    rw [List.getElem?_set_self (by rw [mixed_len]; exact _h)]
    simp [mixed, _h]
  · rw [List.getElem?_set_ne (fun h => hj h.symm)]
    simp only [mixed, List.getElem?_map]
    cases hr : (List.range 8)[j]? with
    | none => rfl
    | some k =>
      have hk : k = j := by
        have := List.getElem?_eq_some_iff.1 hr
        obtain ⟨h1, h2⟩ := this
        simpa using h2.symm
      subst hk
      simp only [Option.map_some]
      by_cases h1 : k < i
      · rw [if_pos h1, if_pos (by omega)]
      · rw [if_neg h1, if_neg (by omega)]
theorem mixed_all (v u : Eight) : mixed v.list u.list 8 = (v.add u).list := rfl
theorem eight_lt {v : Eight} (h : v.ok) : ∀ j, v.list.getD j 0 < 4294967296 := by
  obtain ⟨h1, h2, h3, h4, h5, h6, h7, h8⟩ := h
  intro j
  match j with
  | 0 => exact h1
  | 1 => exact h2
  | 2 => exact h3
  | 3 => exact h4
  | 4 => exact h5
  | 5 => exact h6
  | 6 => exact h7
  | 7 => exact h8
  | (j + 8) => simp [Eight.list, List.getD]
end Go.Proofs.YtmflbchiapdhbaaDoor
