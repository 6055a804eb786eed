/-
  Bits of words, as the program's code has them: over whole numbers of 32 bits; how a Hasher lies in memory.
-/
import Derived.Test.YtmflbchiapdhbaaDoorShaSum
namespace Go.Proofs.YtmflbchiapdhbaaDoor
open Go.RowKit

theorem uor_nat {a b : Nat} (ha : a < 4294967296) (hb : b < 4294967296) : bits BinOp.or IntKind.u32 (a : Int) (b : Int) = ((a ||| b : Nat) : Int) :=
  (bits_nat .u32 32 (by decide) u32_keeps a b (by omega) (by omega)).2
theorem uand_nat {a b : Nat} (ha : a < 4294967296) (hb : b < 4294967296) : bits BinOp.and IntKind.u32 (a : Int) (b : Int) = ((a &&& b : Nat) : Int) :=
  (bits_nat .u32 32 (by decide) u32_keeps a b (by omega) (by omega)).1
theorem uxor_nat {a b : Nat} (ha : a < 4294967296) (hb : b < 4294967296) : bits BinOp.xor IntKind.u32 (a : Int) (b : Int) = ((a ^^^ b : Nat) : Int) := by
  have h1 : (BitVec.ofInt 32 (a : Int)).toNat = a := by
    rw [BitVec.ofInt_natCast, BitVec.toNat_ofNat]; exact Nat.mod_eq_of_lt (by omega)
  have h2 : (BitVec.ofInt 32 (b : Int)).toNat = b := by
    rw [BitVec.ofInt_natCast, BitVec.toNat_ofNat]; exact Nat.mod_eq_of_lt (by omega)
  have h3 : a ^^^ b < 2 ^ 32 := Nat.xor_lt_two_pow (by omega) (by omega)
  show IntKind.u32.wrap ((BitVec.ofInt 32 (a : Int) ^^^ BitVec.ofInt 32 (b : Int)).toNat : Int) = _
  rw [BitVec.toNat_xor, h1, h2]
  exact u32_keeps _ (by omega) (by exact_mod_cast h3)

theorem ube_expr (c0 c1 c2 c3 : UInt8) : bits BinOp.or IntKind.u32 (bits BinOp.or IntKind.u32 (bits BinOp.or IntKind.u32 ((c0.toNat : Int) % 4294967296 * 16777216 % 4294967296) ((c1.toNat : Int) % 4294967296 * 65536 % 4294967296)) ((c2.toNat : Int) % 4294967296 * 256 % 4294967296)) ((c3.toNat : Int) % 4294967296) =
    ((c0.toNat * 16777216 + c1.toNat * 65536 + c2.toNat * 256 + c3.toNat : Nat) : Int) := by
  have h0 := c0.toNat_lt
  have h1 := c1.toNat_lt
  have h2 := c2.toNat_lt
  have h3 := c3.toNat_lt
  have e0 : (c0.toNat : Int) % 4294967296 * 16777216 % 4294967296 = ((c0.toNat * 16777216 : Nat) : Int) := by omega
  have e1 : (c1.toNat : Int) % 4294967296 * 65536 % 4294967296 = ((c1.toNat * 65536 : Nat) : Int) := by omega
  have e2 : (c2.toNat : Int) % 4294967296 * 256 % 4294967296 = ((c2.toNat * 256 : Nat) : Int) := by omega
  have e3 : (c3.toNat : Int) % 4294967296 = (c3.toNat : Int) := by omega
  have f1 : c0.toNat * 16777216 ||| c1.toNat * 65536 = c0.toNat * 16777216 + c1.toNat * 65536 := or_add (i := 24) (by omega)
  have f2 : (c0.toNat * 16777216 + c1.toNat * 65536) ||| c2.toNat * 256 = c0.toNat * 16777216 + c1.toNat * 65536 + c2.toNat * 256 := by
    have := or_add (a := c0.toNat * 256 + c1.toNat) (b := c2.toNat * 256) (i := 16) (by omega)
    rw [show (c0.toNat * 256 + c1.toNat) * 2 ^ 16 = c0.toNat * 16777216 + c1.toNat * 65536 by omega] at this
    exact this
  have f3 : (c0.toNat * 16777216 + c1.toNat * 65536 + c2.toNat * 256) ||| c3.toNat = c0.toNat * 16777216 + c1.toNat * 65536 + c2.toNat * 256 + c3.toNat := by
    have := or_add (a := c0.toNat * 65536 + c1.toNat * 256 + c2.toNat) (b := c3.toNat) (i := 8) (by omega)
    rw [show (c0.toNat * 65536 + c1.toNat * 256 + c2.toNat) * 2 ^ 8 = c0.toNat * 16777216 + c1.toNat * 65536 + c2.toNat * 256 by omega] at this
    exact this
  rw [e0, e1, e2, e3, uor_nat (by omega) (by omega), f1, uor_nat (by omega) (by omega), f2, uor_nat (by omega) (by omega), f3]
theorem usmall1_expr {x : Nat} (hx : x < 4294967296) : bits BinOp.xor IntKind.u32 (bits BinOp.xor IntKind.u32 (rot x 17 : Int) (rot x 19 : Int)) ((x : Int) / 1024) = (small1 x : Int) := by
  have h1 := rot_lt x 17
  have h2 := rot_lt x 19
  have h3 := shr_lt (n := 10) hx
  have h4 := xor32 h1 h2
  have e : (x : Int) / (1024 : Int) = ((x >>> 10 : Nat) : Int) := by rw [Nat.shiftRight_eq_div_pow]; omega
  rw [e, uxor_nat (by omega) (by omega), uxor_nat (by omega) (by omega)]
  rfl
theorem usmall0_expr {x : Nat} (hx : x < 4294967296) : bits BinOp.xor IntKind.u32 (bits BinOp.xor IntKind.u32 (rot x 7 : Int) (rot x 18 : Int)) ((x : Int) / 8) = (small0 x : Int) := by
  have h1 := rot_lt x 7
  have h2 := rot_lt x 18
  have h3 := shr_lt (n := 3) hx
  have h4 := xor32 h1 h2
  have e : (x : Int) / (8 : Int) = ((x >>> 3 : Nat) : Int) := by rw [Nat.shiftRight_eq_div_pow]; omega
  rw [e, uxor_nat (by omega) (by omega), uxor_nat (by omega) (by omega)]
  rfl
theorem ubig0_expr (x : Nat) : bits BinOp.xor IntKind.u32 (bits BinOp.xor IntKind.u32 (rot x 2 : Int) (rot x 13 : Int)) (rot x 22 : Int) = (big0 x : Int) := by
  have h1 := rot_lt x 2
  have h2 := rot_lt x 13
  have h3 := rot_lt x 22
  have h4 := xor32 h1 h2
  rw [uxor_nat (by omega) (by omega), uxor_nat (by omega) (by omega)]
  rfl
theorem ubig1_expr (x : Nat) : bits BinOp.xor IntKind.u32 (bits BinOp.xor IntKind.u32 (rot x 6 : Int) (rot x 11 : Int)) (rot x 25 : Int) = (big1 x : Int) := by
  have h1 := rot_lt x 6
  have h2 := rot_lt x 11
  have h3 := rot_lt x 25
  have h4 := xor32 h1 h2
  rw [uxor_nat (by omega) (by omega), uxor_nat (by omega) (by omega)]
  rfl
theorem umost_expr {a b c : Nat} (ha : a < 4294967296) (hb : b < 4294967296) (hc : c < 4294967296) : bits BinOp.xor IntKind.u32 (bits BinOp.xor IntKind.u32 (bits BinOp.and IntKind.u32 (a : Int) (b : Int)) (bits BinOp.and IntKind.u32 (a : Int) (c : Int))) (bits BinOp.and IntKind.u32 (b : Int) (c : Int)) = (most a b c : Int) := by
  have h1 := and32 (b := b) ha
  have h2 := and32 (b := c) ha
  have h3 := and32 (b := c) hb
  have h4 := xor32 h1 h2
  rw [uand_nat (by omega) (by omega), uand_nat (by omega) (by omega), uand_nat (by omega) (by omega), uxor_nat (by omega) (by omega), uxor_nat (by omega) (by omega)]
  rfl

theorem uchoose_expr {e f g : Nat} (he : e < 4294967296) (hf : f < 4294967296) (hg : g < 4294967296) : bits BinOp.xor IntKind.u32 (bits BinOp.and IntKind.u32 (e : Int) (f : Int)) (bits BinOp.and IntKind.u32 (bits BinOp.xor IntKind.u32 (if IntKind.u32.signed = true then -1 else IntKind.u32.max) (e : Int)) (g : Int)) = (choose e f g : Int) := by
  have h1 : (if IntKind.u32.signed = true then (-1 : Int) else IntKind.u32.max) = ((4294967295 : Nat) : Int) := by decide
  have h2 : (4294967295 : Nat) ^^^ e = 4294967295 - e := by
    have h := BitVec.toNat_not (x := BitVec.ofNat 32 e)
    rw [BitVec.not_def, BitVec.toNat_xor, BitVec.toNat_allOnes, BitVec.toNat_ofNat, Nat.mod_eq_of_lt (by omega)] at h
    simpa using h
  rw [h1, uxor_nat (by omega) (by omega), h2, uand_nat (by omega) (by omega), uand_nat (by omega) (by omega), uxor_nat (by have := and32 (b := f) he; omega) (by have := and32 (a := 4294967295 - e) (b := g) (by omega); omega)]
  rfl
theorem ux_expr {h B e f g k x : Nat} (he : e < 4294967296) (hf : f < 4294967296) (hg : g < 4294967296) :
    IntKind.u32.wrap (IntKind.u32.wrap (IntKind.u32.wrap (IntKind.u32.wrap ((h : Int) + (B : Int)) + bits BinOp.xor IntKind.u32 (bits BinOp.and IntKind.u32 (e : Int) (f : Int)) (bits BinOp.and IntKind.u32 (bits BinOp.xor IntKind.u32 (if IntKind.u32.signed = true then -1 else IntKind.u32.max) (e : Int)) (g : Int))) + (k : Int)) + (x : Int)) =
      (((h + B + choose e f g + k + x) % 4294967296 : Nat) : Int) := by
  rw [uchoose_expr he hf hg]
  simp only [IntKind.wrap_u32]
  omega
theorem uy_expr {B M : Nat} : IntKind.u32.wrap ((B : Int) + (M : Int)) = (((B + M) % 4294967296 : Nat) : Int) := by
  rw [IntKind.wrap_u32]
  omega

theorem Tryd.sizeState : (Tryd.prog.info? 99).map (·.size) = some 8 := by kernel_rfl
/-- a Hasher's cells: the state, what is kept, how many bytes so far -/
def hcells (v : Eight) (rest : List UInt8) (n : Int) : Array Value := (v.list.map (fun (x : Nat) => Value.int .u32 (x : Int)) ++ (u8s rest ++ [Value.int .i64 n])).toArray
theorem hcells_state {v : Eight} {rest : List UInt8} {n : Int} {j : Nat} (h : j < 8) : (hcells v rest n)[j]? = some (.int .u32 (v.list.getD j 0 : Int)) := by
  have hl : v.list.length = 8 := rfl
  simp only [hcells, List.getElem?_toArray]
  rw [List.getElem?_append_left (by simp [hl, h]), List.getElem?_map, List.getD, List.getElem?_eq_getElem (by omega)]
  rfl
theorem hcells_rest {v : Eight} {rest : List UInt8} {n : Int} {j : Nat} (h : j < rest.length) : (hcells v rest n)[8 + j]? = some (.int .u8 ((rest.getD j 0).toNat : Int)) := by
  have hl : (v.list.map (fun (x : Nat) => Value.int .u32 (x : Int))).length = 8 := rfl
  simp only [hcells, List.getElem?_toArray]
  rw [List.getElem?_append_right (by omega), hl, show 8 + j - 8 = j by omega, List.getElem?_append_left (by simp [u8s, h]), u8s, List.getElem?_map, List.getD, List.getElem?_eq_getElem h]
  rfl
theorem hcells_many {v : Eight} {rest : List UInt8} {n : Int} (h : rest.length = 64) : (hcells v rest n)[72]? = some (.int .i64 n) := by
  have hl : (v.list.map (fun (x : Nat) => Value.int .u32 (x : Int))).length = 8 := rfl
  simp only [hcells, List.getElem?_toArray]
  rw [List.getElem?_append_right (by omega), hl, List.getElem?_append_right (by simp [u8s, h]), u8s]
  simp [h]
theorem hcells_size {v : Eight} {rest : List UInt8} {n : Int} (h : rest.length = 64) : (hcells v rest n).size = 73 := by
  have hl : (v.list.map (fun (x : Nat) => Value.int .u32 (x : Int))).length = 8 := rfl
  simp [hcells, u8s, h, Eight.list]
def hcellsL (l : List Nat) (rest : List UInt8) (n : Int) : Array Value := (l.map (fun (x : Nat) => Value.int .u32 (x : Int)) ++ (u8s rest ++ [Value.int .i64 n])).toArray
theorem hcellsL_at {l : List Nat} {rest : List UInt8} {n : Int} {j : Nat} (h : j < l.length) : (hcellsL l rest n)[j]? = some (.int .u32 (l.getD j 0 : Int)) := by
  simp only [hcellsL, List.getElem?_toArray]
  rw [List.getElem?_append_left (by simpa using h), List.getElem?_map, List.getD, List.getElem?_eq_getElem h]
  rfl
theorem hcellsL_set {l : List Nat} {rest : List UInt8} {n : Int} {j : Nat} (h : j < l.length) (z : Nat) : (hcellsL l rest n).setIfInBounds j (.int .u32 (z : Int)) = hcellsL (l.set j z) rest n := by
  simp only [hcellsL, List.setIfInBounds_toArray]
  rw [List.set_append_left _ _ (by simpa using h)]
  simp
/-- the table of round numbers lies there -/
def TabLaid (w : World) : Prop := ∀ t, t < 64 → w.cell? ⟨1, t, none⟩ = some (.int .u32 (kAt t : Int))
theorem TabLaid.keeps {S : Nat → Prop} {w w' : World} (h : TabLaid w) (hk : Keeps S w w') (hn : ¬ S 1) : TabLaid w' := fun t ht =>
  (hk.cell (p := ⟨1, t, none⟩) (World.block_lt_of_cell? w _ (h t ht)) hn).trans (h t ht)
end Go.Proofs.YtmflbchiapdhbaaDoor
