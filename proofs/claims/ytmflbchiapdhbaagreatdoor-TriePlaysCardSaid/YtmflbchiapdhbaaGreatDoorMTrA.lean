/-
  A bit of a digest: the trie's and the document's; what stands for nothing (the document's); a leaf's hash.
  The trie: a leaf's hash.
  The document's trie: what stands for nothing.
  The form of a lookup in plain words.
  The trie: what Check answers, in plain words.
  Contracts of Go's library, laid at this program (the numbers by name).
  The program's trie: what stands for nothing; the hashes of the three nodes.
  The program's trie: Root; a fork of two sides.
  The program's trie: find goes down to where a key is, or would be.
  The program's trie: the digest stands ready.
  SHA-256 reckoned: the schedule as a list, so that digests of given texts can be told.
-/
import Derived.Test.YtmflbchiapdhbaaGreatDoorMShaC
import Derived.Shelf.Strings.Repeat
import Derived.Test.YtmflbchiapdhbaaGreatDoorProg
import Derived.Handy
import Derived.Deep.RegionLaw
import Derived.Test.YtmflbchiapdhbaaGreatDoorMShaA
import Derived.Test.YtmflbchiapdhbaaGreatDoorMSpB
namespace Go.Proofs.YtmflbchiapdhbaaGreatDoor
open Go.RowKit

def bitAt (s : List UInt8) (n : Nat) : Nat := (byteAt s (n / 8)).toNat / 2 ^ (7 - n % 8) % 2
theorem bitAt_le (s : List UInt8) (n : Nat) : bitAt s n ≤ 1 := by unfold bitAt; omega

theorem shift_int (c m : Nat) (_h : m < 8) : (c : Int) / 2 ^ m = ((c / 2 ^ m : Nat) : Int) := by simp
theorem refbit_eq (s : List UInt8) (n : Nat) : (wrap64 ((byteAt s (n / 8)).toNat : Int) / 2 ^ (7 - n % 8)).tmod 2 = (bitAt s n : Int) := by
  have hc := (byteAt s (n / 8)).toNat_lt
  rw [wrap_small (by omega) (by omega), shift_int _ _ (by omega), Int.tmod_eq_emod_of_nonneg (Int.natCast_nonneg _), bitAt]
  generalize (byteAt s (n / 8)).toNat / 2 ^ (7 - n % 8) = q
  omega
theorem bit_eq (s : List UInt8) (n : Nat) : bits BinOp.and IntKind.i64 (wrap64 (((byteAt s (n / 8)).toNat : Int) / 2 ^ (7 - n % 8))) 1 = (bitAt s n : Int) := by
  have hc := (byteAt s (n / 8)).toNat_lt
  have hle := Nat.div_le_self (byteAt s (n / 8)).toNat (2 ^ (7 - n % 8))
  rw [shift_int _ _ (by omega), bitAt]
  generalize (byteAt s (n / 8)).toNat / 2 ^ (7 - n % 8) = q at hle ⊢
  have h1 : (1 : Int) = ((1 : Nat) : Int) := rfl
  rw [wrap_small (by omega) (by omega), h1, and_nat (by omega) (by omega), Nat.and_one_is_mod]

set_option maxRecDepth 100000 in
set_option maxHeartbeats 1000000 in
theorem refbit_any (s : List UInt8) (n : Nat) (w : World) (hn : n / 8 < s.length) (hs : s.length ≤ 9223372036854775807) :
    Calls Tryz.prog 51 #[.string (str s), .int .i64 (n : Int)] w fun e w' => e = .returned (.int .i64 (bitAt s n : Int)) ∧ w = w' := by
  have hsz := str_size s
  have hidx := byte_idx (b := s) (j := n / 8)
  have x0 : (n : Int) / 8 < (s.length : Int) := by omega
  have y0 : ((n : Int) / 8).toNat = n / 8 := by omega
  have HE := hid (refbit_eq s n)
  go_enter Tryz.func51, Tryz.ntmps51
  go_wp2_with fail
  rw [HE.out]
  go_ret
  exact ⟨rfl, rfl⟩

set_option maxRecDepth 100000 in
set_option maxHeartbeats 1000000 in
theorem bit_any (s : List UInt8) (n : Nat) (w : World) (hn : n / 8 < s.length) (hs : s.length ≤ 9223372036854775807) :
    Calls Tryz.prog 40 #[.string (str s), .int .i64 (n : Int)] w fun e w' => e = .returned (.int .i64 (bitAt s n : Int)) ∧ w = w' := by
  have hsz := str_size s
  have hidx := byte_idx (b := s) (j := n / 8)
  have x0 : (n : Int) / 8 < (s.length : Int) := by omega
  have y0 : ((n : Int) / 8).toNat = n / 8 := by omega
  have HE := hid (bit_eq s n)
  go_enter Tryz.func40, Tryz.ntmps40
  go_wp2_with fail
  rw [HE.out]
  go_ret
  exact ⟨rfl, rfl⟩
end Go.Proofs.YtmflbchiapdhbaaGreatDoor

namespace Go.Proofs.YtmflbchiapdhbaaGreatDoor
open Go.RowKit

set_option maxRecDepth 100000 in
set_option maxHeartbeats 1000000 in
theorem leafHash_any (k v : List UInt8) (w : World) (hT : TabLaid w) (hF : FirstLaid w) (hng : 3 ≤ w.heap.size) (hb : k.length + v.length ≤ 70368744170000) :
    Calls Tryz.prog 35 #[.string (str k), .string (str v)] w fun e w' => e = .returned (.string (str (sha (2 :: (k ++ v))))) ∧ Fresh w w' := by
  have f1 : Fresh w (w.alloc (.cells #[.string (str [2]), .string (str k), .string (str v)] 9)) := (Keeps.refl _ _).alloc _
  have hl : TextsAt (w.alloc (.cells #[.string (str [2]), .string (str k), .string (str v)] 9)) (.slice (some ⟨w.heap.size, 0, none⟩) 3 3) [[2], k, v] :=
    ⟨_, _, rfl, fun j s hs => by
      refine ⟨w.heap.size, 0, rfl, by simp, ?_⟩
      rw [cell_at (heap_alloc_new w _)]
      match j, hs with
      | 0, hs => simp at hs; subst hs; rfl
      | 1, hs => simp at hs; subst hs; rfl
      | 2, hs => simp at hs; subst hs; rfl
      | (j + 3), hs => simp at hs⟩
  have hp := psum_any (.slice (some ⟨w.heap.size, 0, none⟩) 3 3) [[2], k, v] _ hl (hT.keeps f1 (fun h => h)) (hF.keeps f1 (fun h => h)) (by simp; omega) (by simp) (by simp; omega)
  have he : ([[2], k, v] : List (List UInt8)).flatten = 2 :: (k ++ v) := by simp
  rw [he] at hp
  have HP := hid hp
  clear hp hl he
  go_enter Tryz.func35, Tryz.ntmps35
  go_wp2_with fail
  refine HP.out.mono ?_
  rintro e w2 ⟨rfl, f2⟩
  go_wp2
  go_ret
  exact ⟨rfl, f1.trans f2⟩
end Go.Proofs.YtmflbchiapdhbaaGreatDoor

namespace Go.Proofs.YtmflbchiapdhbaaGreatDoor
open Go.RowKit

def nought32 : List UInt8 := List.replicate 32 0
set_option maxRecDepth 100000 in
set_option maxHeartbeats 1000000 in
theorem noughts_any (w : World) :
    Calls Tryz.prog 53 #[] w fun e w' => e = .returned (.string (str nought32)) ∧ Fresh w w' := by
  obtain ⟨i0, hi, hz0, hz1, hz2⟩ := info_parts Tryz.infoByte
  go_enter Tryz.func53, Tryz.ntmps53
  go_wp2_with (at_make; refine wpList_make_full _ rfl (.const (.int .i64 32)) (.const (.int .i64 32)) 47 rfl 0 5 i0 (.int .u8 0) 1 Tryz.underlying47 hi hz0 hz1 .i64 .i64 32 32 32 rfl rfl rfl rfl (by rw [hz2]; omega) (by unfold maxLen; omega) (Nat.zero_le _) ?_)
  intro w3 hrow hgr
  have f3 : Fresh w w3 := (Keeps.refl _ w).grown hgr (fun k h => by cases h)
  rw [zeros_cells'] at hrow
  have hct := run_text_of_row (P := Tryz.prog) (w := w3) (base := 0) (e := 5) (v := .slice (some ⟨w.heap.size, 0, none⟩) 32 32) (bs := nought32) 47 9 Tryz.underlying47 Tryz.underlying5 Tryz.underlying9 hrow
  have hct2 : (convert 47 9 (.slice (some ⟨w.heap.size, 0, none⟩) 32 32)).run Tryz.prog w3 = .ok (.string (str nought32)) w3 := hct
  clear hct hrow hgr
  go_wp2
  go_ret
  exact ⟨rfl, f3⟩
end Go.Proofs.YtmflbchiapdhbaaGreatDoor

namespace Go.Proofs.YtmflbchiapdhbaaGreatDoor
open Go.RowKit

def every32 : List (List UInt8) → Bool
  | [] => true
  | s :: r => decide (s.length = 32) && every32 r
/-- do the bits of two digests agree from place i on, so many? -/
def agree (a b : List UInt8) : Nat → Nat → Bool
  | _, 0 => true
  | i, n + 1 => decide (bitAt a i = bitAt b i) && agree a b (i + 1) n
def formOf (l : List (List UInt8)) (there : Bool) (key val k : List UInt8) : Bool :=
  decide (l.length ≤ 256) && every32 l && (if there then decide (key.length = 32) && decide (val.length = 32) && agree key k 0 l.length else decide (key = []) && decide (val = []))
theorem drop_cons {α : Type} {l : List α} {k : Nat} {x : α} (h : l[k]? = some x) : l.drop k = x :: l.drop (k + 1) := by
  obtain ⟨hk, rfl⟩ := List.getElem?_eq_some_iff.1 h
  exact List.drop_eq_getElem_cons hk
end Go.Proofs.YtmflbchiapdhbaaGreatDoor

namespace Go.Proofs.YtmflbchiapdhbaaGreatDoor
open Go.RowKit

/-- from the hash of what is under place d, with the sides from there on, to the hash at place d -/
def rung (k : List UInt8) (d : Nat) (s h : List UInt8) : List UInt8 := if bitAt k d = 0 then sha (3 :: (h ++ s)) else sha (3 :: (s ++ h))
def climb (k : List UInt8) : Nat → List (List UInt8) → List UInt8 → List UInt8
  | _, [], h => h
  | d, s :: r, h => rung k d s (climb k (d + 1) r h)
def ground (pt : Bool) (pk pv : List UInt8) : List UInt8 := if pt then sha (2 :: (pk ++ pv)) else nought32
/-- may this be a proof for this key and value? -/
def fits (l : List (List UInt8)) (pt : Bool) (pk pv key value : List UInt8) (there : Bool) : Bool :=
  formOf l pt pk pv (sha key) && (if there then pt && decide (pk = sha key) && decide (pv = sha value) else !(pt && decide (pk = sha key)))
def tooLong (key value : List UInt8) (there : Bool) : Bool := decide (200 < key.length) || (there && decide (1000 < value.length))
def checkOf (l : List (List UInt8)) (pt : Bool) (pk pv key value : List UInt8) (there : Bool) (root : List UInt8) : Int :=
  if tooLong key value there = true then 242
  else if fits l pt pk pv key value there = false then 240
  else if climb (sha key) 0 l (ground pt pk pv) = root then 0 else 241

theorem rung_length (k : List UInt8) (d : Nat) (s h : List UInt8) : (rung k d s h).length = 32 := by
  unfold rung; split <;> exact sha_len _
theorem ground_length (pt : Bool) (pk pv : List UInt8) : (ground pt pk pv).length = 32 := by
  unfold ground; split
  · exact sha_len _
  · simp [nought32]
theorem climb_length (k : List UInt8) (l : List (List UInt8)) (h : List UInt8) (hh : h.length = 32) (d : Nat) : (climb k d l h).length = 32 := by
  cases l with
  | nil => exact hh
  | cons s r => exact rung_length _ _ _ _
theorem every32_mem {l : List (List UInt8)} (h : every32 l = true) : ∀ s ∈ l, s.length = 32 := by
  induction l with
  | nil => intro s hs; cases hs
  | cons x r ih =>
    simp only [every32, Bool.and_eq_true, decide_eq_true_eq] at h
    intro s hs
    rcases List.mem_cons.1 hs with rfl | hs
    · exact h.1
    · exact ih h.2 s hs
end Go.Proofs.YtmflbchiapdhbaaGreatDoor

namespace Go.Proofs.YtmflbchiapdhbaaGreatDoor
open Go.Shelf Go.RowKit
def Tryz.lays105_ren : Go.Shelf.Ren := ⟨fun | 105 => 57 | 212 => 67 | 99 => 68 | 165 => 69 | 166 => 70 | 170 => 71 | 169 => 72 | 263 => 87 | 264 => 88 | 206 => 89 | 240 => 90 | 241 => 91 | 276 => 99 | 277 => 100 | n => n, fun | 9 => 9 | 3 => 3 | 4 => 4 | 20 => 20 | 0 => 0 | 46 => 97 | 109 => 123 | 5 => 5 | 72 => 128 | 76 => 132 | 51 => 107 | 146 => 151 | 53 => 150 | 148 => 153 | 70 => 126 | 37 => 47 | 75 => 131 | 127 => 155 | 164 => 162 | 80 => 37 | n => n, fun | n => n⟩
theorem Tryz.lays105 : Go.Proofs.Lays.n105 Tryz.prog Tryz.lays105_ren := {
  mixed := by kernel_rfl
  f99 := Tryz.func68.trans (congrArg some (by kernel_rfl))
  f105 := Tryz.func57.trans (congrArg some (by kernel_rfl))
  f165 := Tryz.func69.trans (congrArg some (by kernel_rfl))
  f166 := Tryz.func70.trans (congrArg some (by kernel_rfl))
  f169 := Tryz.func72.trans (congrArg some (by kernel_rfl))
  f170 := Tryz.func71.trans (congrArg some (by kernel_rfl))
  f206 := Tryz.func89.trans (congrArg some (by kernel_rfl))
  f212 := Tryz.func67.trans (congrArg some (by kernel_rfl))
  f240 := Tryz.func90.trans (congrArg some (by kernel_rfl))
  f241 := Tryz.func91.trans (congrArg some (by kernel_rfl))
  f263 := Tryz.func87.trans (congrArg some (by kernel_rfl))
  f264 := Tryz.func88.trans (congrArg some (by kernel_rfl))
  f276 := Tryz.func99.trans (congrArg some (by kernel_rfl))
  f277 := Tryz.func100.trans (congrArg some (by kernel_rfl))
  t0 := Tryz.underlying0
  a0 := Tryz.isAgg0
  z0 := Tryz.sizeOf0
  v0 := Tryz.zeroValue0
  t3 := Tryz.underlying3
  a3 := Tryz.isAgg3
  z3 := Tryz.sizeOf3
  v3 := Tryz.zeroValue3
  t4 := Tryz.underlying4
  a4 := Tryz.isAgg4
  z4 := Tryz.sizeOf4
  v4 := Tryz.zeroValue4
  t5 := Tryz.underlying5
  a5 := Tryz.isAgg5
  z5 := Tryz.sizeOf5
  v5 := Tryz.zeroValue5
  t9 := Tryz.underlying9
  a9 := Tryz.isAgg9
  z9 := Tryz.sizeOf9
  v9 := Tryz.zeroValue9
  t20 := Tryz.underlying20
  a20 := Tryz.isAgg20
  z20 := Tryz.sizeOf20
  v20 := Tryz.zeroValue20
  t37 := Tryz.underlying47
  a37 := Tryz.isAgg47
  z37 := Tryz.sizeOf47
  v37 := Tryz.zeroValue47
  t46 := Tryz.underlying97
  a46 := Tryz.isAgg97
  z46 := Tryz.sizeOf97
  v46 := Tryz.zeroValue97
  t51 := Tryz.underlying107
  a51 := Tryz.isAgg107
  z51 := Tryz.sizeOf107
  v51 := Tryz.zeroValue107
  t53 := Tryz.underlying150
  a53 := Tryz.isAgg150
  z53 := Tryz.sizeOf150
  v53 := Tryz.zeroValue150
  t70 := Tryz.underlying126
  a70 := Tryz.isAgg126
  z70 := Tryz.sizeOf126
  v70 := Tryz.zeroValue126
  t72 := Tryz.underlying128
  a72 := Tryz.isAgg128
  z72 := Tryz.sizeOf128
  v72 := Tryz.zeroValue128
  t75 := Tryz.underlying131
  a75 := Tryz.isAgg131
  z75 := Tryz.sizeOf131
  v75 := Tryz.zeroValue131
  t76 := Tryz.underlying132
  a76 := Tryz.isAgg132
  z76 := Tryz.sizeOf132
  v76 := Tryz.zeroValue132
  t109 := Tryz.underlying123
  a109 := Tryz.isAgg123
  z109 := Tryz.sizeOf123
  v109 := Tryz.zeroValue123
  t127 := Tryz.underlying155
  a127 := Tryz.isAgg155
  z127 := Tryz.sizeOf155
  v127 := Tryz.zeroValue155
  t146 := Tryz.underlying151
  a146 := Tryz.isAgg151
  z146 := Tryz.sizeOf151
  v146 := Tryz.zeroValue151
  t148 := Tryz.underlying153
  a148 := Tryz.isAgg153
  z148 := Tryz.sizeOf153
  v148 := Tryz.zeroValue153
  t164 := Tryz.underlying162
  a164 := Tryz.isAgg162
  z164 := Tryz.sizeOf162
  v164 := Tryz.zeroValue162 }
theorem Tryz.Builder_Extra_105 : Builder.Extra Tryz.prog Tryz.lays105_ren := {
  sizeBuilder := by kernel_rfl
  liesBuilder := by kernel_rfl
  t5 := Tryz.underlying5
  a5 := Tryz.isAgg5
  z5 := Tryz.sizeOf5
  v5 := Tryz.zeroValue5
  infoByte := by kernel_rfl
  cellsByte := by kernel_rfl
  sizeByte := by kernel_rfl
  neB5 := by decide }
theorem Tryz.strings_Repeat (s : ByteArray) (c : Nat) (w : World) (hc : c ≤ 9223372036854775807) (hlen : s.size * c ≤ 140737488355328) :
    Calls Tryz.prog 57 #[.string s, .int .i64 c] w fun e w' => e = .returned (.string ⟨(Lib.repeatL s.data.toList c).toArray⟩) ∧ Below w.heap.size w w' := Any.strings_Repeat Tryz.lays105 Tryz.Builder_Extra_105 s c w hc hlen
end Go.Proofs.YtmflbchiapdhbaaGreatDoor

namespace Go.Proofs.YtmflbchiapdhbaaGreatDoor
open Go.RowKit

set_option maxRecDepth 100000 in
theorem none_any (w : World) :
    Calls Tryz.prog 38 #[] w fun e w' => e = .returned (.string (str nought32)) ∧ Fresh w w' := by
  have hr := Tryz.strings_Repeat (str [0]) 32 w (by omega) (by rw [str_size]; decide)
  have he : (⟨(Lib.repeatL (str [0]).data.toList 32).toArray⟩ : ByteArray) = str nought32 := rfl
  rw [he] at hr
  have HR := hid hr
  clear hr he
  go_enter Tryz.func38, Tryz.ntmps38
  go_wp2_with fail
  refine HR.out.mono ?_
  rintro e w2 ⟨rfl, hb⟩
  have f2 : Fresh w w2 := (Keeps.of_below hb).mono fun k hk hk2 => absurd hk (by omega)
  go_wp2
  go_ret
  exact ⟨rfl, f2⟩

/-- A node, as Go has it. -/
inductive Tr where
  | none
  | leaf (k sum key val : List UInt8)
  | fork (l r : Tr) (sum : List UInt8)
def leafCells (k sum key val : List UInt8) : Array Value := #[.string (str k), .string (str sum), .string (str key), .string (str val)]
def Tr.val : Tr → Value
  | .none => .iface 50 (.agg #[])
  | .leaf k sum key val => .iface 75 (.agg (leafCells k sum key val))
  | .fork l r sum => .iface 100 (.agg #[l.val, r.val, .string (str sum)])
def Tr.hash : Tr → List UInt8
  | .none => nought32
  | .leaf _ sum _ _ => sum
  | .fork _ _ sum => sum

set_option maxRecDepth 100000 in
theorem nothingHash_any (w : World) :
    Calls Tryz.prog 117 #[.agg #[]] w fun e w' => e = .returned (.string (str nought32)) ∧ Fresh w w' := by
  go_enter Tryz.func117, Tryz.ntmps117
  go_wp2_with fail
  refine (none_any _).mono ?_
  rintro e w2 ⟨rfl, f2⟩
  go_wp2
  go_ret
  exact ⟨rfl, ((Keeps.refl _ _).alloc _).trans f2⟩
set_option maxRecDepth 100000 in
theorem leafNodeHash_any (k sum key val : List UInt8) (w : World) :
    Calls Tryz.prog 118 #[.agg #[.string (str k), .string (str sum), .string (str key), .string (str val)]] w fun e w' => e = .returned (.string (str sum)) ∧ Fresh w w' := by
  go_enter Tryz.func118, Tryz.ntmps118
  go_wp2_with fail
  go_ret
  exact ⟨rfl, ((Keeps.refl _ _).alloc _)⟩
set_option maxRecDepth 100000 in
theorem forkHash_any (l r : Value) (sum : List UInt8) (w : World) :
    Calls Tryz.prog 120 #[.agg #[l, r, .string (str sum)]] w fun e w' => e = .returned (.string (str sum)) ∧ Fresh w w' := by
  go_enter Tryz.func120, Tryz.ntmps120
  go_wp2_with fail
  go_ret
  exact ⟨rfl, ((Keeps.refl _ _).alloc _)⟩

/-- The map in memory: one block of two cells. -/
def MapAt (w : World) (b : Nat) (t : Tr) (many : Int) : Prop := w.heap[b]? = some (.cells #[t.val, .int .i64 many] 54 (0, 0))

set_option maxRecDepth 100000 in
theorem new_any (w : World) :
    Calls Tryz.prog 5 #[] w fun e w' => e = .returned (.pointer (some ⟨w.heap.size, 0, none⟩)) ∧ Fresh w w' ∧ MapAt w' w.heap.size .none 0 := by
  go_enter Tryz.func5, Tryz.ntmps5
  go_wp2_with fail
  go_ret
  exact ⟨rfl, (Keeps.refl _ _).alloc _, heap_alloc_new w _⟩
end Go.Proofs.YtmflbchiapdhbaaGreatDoor

namespace Go.Proofs.YtmflbchiapdhbaaGreatDoor
open Go.RowKit

set_option maxRecDepth 100000 in
theorem root_any (b : Nat) (t : Tr) (many : Int) (w : World) (h : MapAt w b t many) :
    Calls Tryz.prog 10 #[.pointer (some ⟨b, 0, none⟩)] w fun e w' => e = .returned (.string (str t.hash)) ∧ Fresh w w' := by
  have c0 := cell_at h 0
  simp at c0
  cases t with
  | none =>
    simp only [Tr.val] at c0
    clear h
    go_enter Tryz.func10, Tryz.ntmps10
    go_wp2_with (go_at_call 117; refine (nothingHash_any _).mono ?_; rintro e w2 ⟨rfl, f2⟩)
    go_ret
    exact ⟨rfl, f2⟩
  | leaf k sum key val =>
    simp only [Tr.val, leafCells] at c0
    clear h
    go_enter Tryz.func10, Tryz.ntmps10
    go_wp2_with (go_at_call 118; refine (leafNodeHash_any _ _ _ _ _).mono ?_; rintro e w2 ⟨rfl, f2⟩)
    go_ret
    exact ⟨rfl, f2⟩
  | fork l r sum =>
    simp only [Tr.val] at c0
    generalize l.val = lv at c0
    generalize r.val = rv at c0
    clear h
    go_enter Tryz.func10, Tryz.ntmps10
    go_wp2_with (go_at_call 120; refine (forkHash_any _ _ _ _).mono ?_; rintro e w2 ⟨rfl, f2⟩)
    go_ret
    exact ⟨rfl, f2⟩
end Go.Proofs.YtmflbchiapdhbaaGreatDoor

namespace Go.Proofs.YtmflbchiapdhbaaGreatDoor
open Go.RowKit

theorem Tryz.infoText : (Tryz.prog.info? 9).map (fun i => (i.zero, i.size, i.bytes)) = some (some (.string ⟨#[]⟩), 1, 16) := by kernel_rfl

/-- any node's hash, by its method -/
theorem hash_any (t : Tr) : ∃ (ty : TypeId) (dat : Value) (fn : FuncId), t.val = .iface ty dat ∧ (∀ w, (method 280 ty dat "scrivener/trie.hash").run Tryz.prog w = .ok (fn, dat) w) ∧
    (∀ args w, (callFunc fn args).run Tryz.prog w = .ok (.enter fn args) w) ∧ ∀ w, Calls Tryz.prog fn #[dat] w fun e w' => e = .returned (.string (str t.hash)) ∧ Fresh w w' := by
  cases t with
  | none => exact ⟨_, _, 117, rfl, fun w => by kernel_rfl, enters_of Tryz.func117 (by kernel_rfl) rfl, fun w => nothingHash_any w⟩
  | leaf k sum key val => exact ⟨_, _, 118, rfl, fun w => by kernel_rfl, enters_of Tryz.func118 (by kernel_rfl) rfl, fun w => leafNodeHash_any k sum key val w⟩
  | fork l r sum => exact ⟨_, _, 120, rfl, fun w => by kernel_rfl, enters_of Tryz.func120 (by kernel_rfl) rfl, fun w => forkHash_any _ _ sum w⟩

/-- which node is it? -/
theorem as_fork (l r : Value) (s : ByteArray) (w : World) : (Instr.typeAssert (.iface 100 (.agg #[l, r, .string s])) 52 100 true).run Tryz.prog w = .ok (.tuple #[.agg #[l, r, .string s], .bool true]) w := by kernel_rfl
theorem none_as_fork (w : World) : (Instr.typeAssert (.iface 50 (.agg #[])) 52 100 true).run Tryz.prog w = .ok (.tuple #[.agg #[.nilIface, .nilIface, .string ⟨#[]⟩], .bool false]) w := by kernel_rfl
theorem leaf_as_fork (x : Value) (w : World) : (Instr.typeAssert (.iface 75 x) 52 100 true).run Tryz.prog w = .ok (.tuple #[.agg #[.nilIface, .nilIface, .string ⟨#[]⟩], .bool false]) w := by kernel_rfl
theorem as_leaf (a b c d : Value) (w : World) : (Instr.typeAssert (.iface 75 (.agg #[a, b, c, d])) 52 75 true).run Tryz.prog w = .ok (.tuple #[.agg #[a, b, c, d], .bool true]) w := by kernel_rfl
theorem none_as_leaf (w : World) : (Instr.typeAssert (.iface 50 (.agg #[])) 52 75 true).run Tryz.prog w = .ok (.tuple #[.agg #[.string ⟨#[]⟩, .string ⟨#[]⟩, .string ⟨#[]⟩, .string ⟨#[]⟩], .bool false]) w := by kernel_rfl
theorem fork_as_leaf (x : Value) (w : World) : (Instr.typeAssert (.iface 100 x) 52 75 true).run Tryz.prog w = .ok (.tuple #[.agg #[.string ⟨#[]⟩, .string ⟨#[]⟩, .string ⟨#[]⟩, .string ⟨#[]⟩], .bool false]) w := by kernel_rfl

theorem ownsRow_lt {w : World} {base : Nat} {e : TypeId} {size : Nat} {v : Value} {n : Nat} {xs : List Value} {g : Nat} (h : w.ownsRow base e size v n xs) (hg : v.ownBlock = some g) : g < w.heap.size := by
  obtain ⟨_, ⟨rfl, _⟩ | ⟨g', cap, cur, rfl, _, hb, _⟩⟩ := h
  · simp [Value.ownBlock] at hg
  · simp [Value.ownBlock] at hg
    subst hg
    exact lt_of_block hb
theorem ownsRow_at {w : World} {base : Nat} {e : TypeId} {v : Value} {n : Nat} {xs : List Value} (h : w.ownsRow base e 1 v n xs) : ∃ ao cap, v = .slice ao n cap ∧ ∀ (k : Nat) (u : Value), xs[k]? = some u → ∃ bb, ao = some ⟨bb, 0, none⟩ ∧ bb < w.heap.size ∧ w.cell? ⟨bb, k, none⟩ = some u := by
  obtain ⟨hl, ⟨rfl, rfl⟩ | ⟨g', cap, cur, rfl, _, hb, hn, _, hcs, ht⟩⟩ := h
  · refine ⟨_, _, rfl, fun k u hu => ?_⟩
    have : k < xs.length := (List.getElem?_eq_some_iff.1 hu).1
    omega
  · refine ⟨_, _, rfl, fun k u hu => ⟨g', rfl, lt_of_block hb, ?_⟩⟩
    rw [cell_at hb]
    rw [← ht, List.getElem?_take] at hu
    split at hu
    · simpa using hu
    · cases hu
theorem OwnTexts_at {B : Nat} {w : World} {v : Value} {l : List (List UInt8)} (h : w.ownsRow B 9 1 v l.length (l.map fun s => Value.string (str s))) : TextsAt w v l := by
  obtain ⟨ao, cap, rfl, hc⟩ := ownsRow_at h
  refine ⟨ao, cap, rfl, fun k s hs => ?_⟩
  obtain ⟨bb, rfl, h1, h2⟩ := hc k (.string (str s)) (by simp [hs])
  exact ⟨bb, 0, rfl, h1, by rw [Nat.zero_add]; exact h2⟩

def texts (l : List (List UInt8)) : List Value := l.map fun s => .string (str s)
theorem texts_snoc (l : List (List UInt8)) (x : List UInt8) : texts (l ++ [x]) = texts l ++ [Value.string (str x)] := by simp [texts]
/-- a list of texts in blocks of its own, all made since there were B blocks -/
def OwnTexts (B : Nat) (w : World) (v : Value) (l : List (List UInt8)) : Prop :=
  w.ownsRow 0 9 1 v l.length (texts l) ∧ ∀ g, v.ownBlock = some g → B ≤ g

theorem OwnTexts.at_ {B : Nat} {w : World} {v : Value} {l : List (List UInt8)} (h : OwnTexts B w v l) : TextsAt w v l := OwnTexts_at h.1

def Tr.dig (k : List UInt8) : Nat → Tr → Tr × List (List UInt8)
  | d, .fork l r _ => if bitAt k d = 0 then ((l.dig k (d + 1)).1, r.hash :: (l.dig k (d + 1)).2) else ((r.dig k (d + 1)).1, l.hash :: (r.dig k (d + 1)).2)
  | _, t => (t, [])
def sliceLen : Value → Nat
  | .slice _ n _ => n
  | _ => 0

set_option maxRecDepth 100000 in
set_option maxHeartbeats 2000000 in
theorem find_any (k : List UInt8) (t : Tr) (w : World) (hk : k.length = 32) (hd : (t.dig k 0).2.length ≤ 256) :
    Calls Tryz.prog 36 #[t.val, .string (str k)] w fun e w' => ∃ v, e = .returned (.tuple #[(t.dig k 0).1.val, v]) ∧ Fresh w w' ∧ OwnTexts w.heap.size w' v (t.dig k 0).2 := by
  obtain ⟨i0, hi, hz0, hz1, hz2⟩ := info_parts Tryz.infoText
  go_enter Tryz.func36, Tryz.ntmps36
  go_wp2_with fail
  go_loopw [0, 6] (fun n s wr => ∃ (t' : Tr) (acc : List (List UInt8)), n = t'.val ∧ Hid ((t.dig k 0).1 = (t'.dig k acc.length).1) ∧ Hid ((t.dig k 0).2 = acc ++ (t'.dig k acc.length).2) ∧ wr.ownsRow 0 9 1 s acc.length (texts acc) ∧ (∀ g, s.ownBlock = some g → w.heap.size ≤ g) ∧ Fresh w wr) (fun _ s _ => 256 - sliceLen s)
  case atStart => exact ⟨t, [], rfl, rfl, rfl, World.ownsRow_nil _ _ _ _, (fun _ h => nomatch h), Keeps.refl _ _⟩
  case round =>
    obtain ⟨t', acc, rfl, HD1, HD2, hrow, hnew, hf⟩ := hrel
    cases t' with
    | none =>
      have HD1' : Hid ((t.dig k 0).1 = .none) := by rw [Hid, HD1.out]; simp [Tr.dig]
      have HD2' : Hid ((t.dig k 0).2 = acc) := by rw [Hid, HD2.out]; simp [Tr.dig]
      clear HD1 HD2 hd
      simp only [Tr.val]
      have hta := none_as_fork
      have htb := leaf_as_fork
      go_wp2_with fail
      go_ret2
      refine ⟨_, by rw [HD1'.out]; rfl, hf.alloc _, ?_⟩
      rw [HD2'.out]
      exact ⟨hrow.alloc _, hnew⟩
    | leaf kk sum key val =>
      have HD1' : Hid ((t.dig k 0).1 = .leaf kk sum key val) := by rw [Hid, HD1.out]; simp [Tr.dig]
      have HD2' : Hid ((t.dig k 0).2 = acc) := by rw [Hid, HD2.out]; simp [Tr.dig]
      clear HD1 HD2 hd
      simp only [Tr.val, leafCells]
      have hta := none_as_fork
      have htb := leaf_as_fork
      go_wp2_with fail
      go_ret2
      refine ⟨_, by rw [HD1'.out]; rfl, hf.alloc _, ?_⟩
      rw [HD2'.out]
      exact ⟨hrow.alloc _, hnew⟩
    | fork l r sum =>
      by_cases hbit : bitAt k acc.length = 0
      · obtain ⟨ty, dat, fn, hty, hmeth, hcf, hhash⟩ := hash_any r
        obtain ⟨ty2, dat2, fn2, hty2, -, -, -⟩ := hash_any l
        obtain ⟨lv, hlv⟩ : ∃ lv, l.val = lv := ⟨_, rfl⟩
        obtain ⟨rv, hrv⟩ : ∃ rv, r.val = rv := ⟨_, rfl⟩
        have HLV := hid hlv
        have HRV := hid hrv
        have HD1' : Hid ((t.dig k 0).1 = (l.dig k (acc.length + 1)).1) := by rw [Hid, HD1.out]; simp [Tr.dig, hbit]
        have HD2' : Hid ((t.dig k 0).2 = (acc ++ [r.hash]) ++ (l.dig k (acc.length + 1)).2) := by rw [Hid, HD2.out]; simp [Tr.dig, hbit]
        have hlen : acc.length + 1 ≤ 256 := by
          have h1 := hd
          rw [HD2'.out] at h1
          simp only [List.length_append, List.length_cons, List.length_nil] at h1
          omega
        have HHASH := hid hhash
        have hbitc := bit_any k acc.length
        rw [hbit] at hbitc
        have HBIT := hid hbitc
        obtain ⟨so, scap, rfl⟩ := ownsRow_slice hrow
        simp only [Tr.val]
        rw [hlv, hrv]
        rw [hrv] at hty
        rw [hlv] at hty2
        clear hlv hrv hbit HD1 HD2 hhash hbitc hd
        subst hty hty2
        have hta := as_fork
        go_wp2_with fail
        refine (HBIT.out _ (by rw [hk]; omega) (by omega)).mono ?_
        rintro e w2 ⟨rfl, rfl⟩
        go_wp2_with fail
        refine (HHASH.out _).mono ?_
        rintro e w2 ⟨rfl, f2⟩
        have f0 : Fresh wr (wr.alloc (.cells #[.iface ty2 dat2, .iface ty dat, .string (str sum)] 100)) := (Keeps.refl _ _).alloc _
        have f3 := hf.trans (f0.trans f2)
        have hrow2 := ownsRow_keeps hrow (f0.trans f2) (fun _ _ h => h)
        have d0 := (f2.cell (p := ⟨wr.heap.size, 0, none⟩) (by simp) (fun h => h)).trans (cell_at (heap_alloc_new wr _) 0)
        have d1 := (f2.cell (p := ⟨wr.heap.size, 1, none⟩) (by simp) (fun h => h)).trans (cell_at (heap_alloc_new wr _) 1)
        simp at d0 d1
        have HROW := hid hrow
        clear hrow hmeth hcf HHASH
        go_wp2_with (at_builtin; refine wpList_push rfl (.tmp 23) (.tmp 30) 41 rfl 9 i0 (.string ⟨#[]⟩) 16 Tryz.underlying41 hi hz0 hz1 hz2 rfl w2 hrow2 _ (by rfl) (by rfl) rfl (by omega) (by unfold maxLen; omega) ?_)
        intro v4 w4 ha
        obtain ⟨ao4, cp4, rfl⟩ := ownsRow_slice ha.row
        have hkk := ha.keeps
        have hlt : wr.heap.size < w2.heap.size := by have := f2.size; simp at this; omega
        have hno : ¬ (Value.slice so acc.length scap).ownBlock = some wr.heap.size := fun h => by
          have h2 := ownsRow_lt HROW.out h
          omega
        have d0 := (hkk.cell (p := ⟨wr.heap.size, 0, none⟩) hlt hno).trans d0
        have d1 := (hkk.cell (p := ⟨wr.heap.size, 1, none⟩) hlt hno).trans d1
        have f4 : Fresh w w4 := f3.trans' hkk fun i hi h => by have := hnew i h; omega
        have hrow4 := ha.row
        have hown4 : ∀ g, (Value.slice ao4 (acc.length + 1) cp4).ownBlock = some g → w.heap.size ≤ g := fun g hg => by
          rcases ha.own g hg with h | h
          · exact hnew g h
          · have := f3.size; omega
        rw [← texts_snoc] at hrow4
        clear ha hkk hno hrow2 hnew
        go_wp2
        go_roundw
        case rel => exact ⟨l, acc ++ [r.hash], HLV.out.symm, by rw [Hid, HD1'.out]; simp, by rw [Hid, HD2'.out]; simp, by simpa using hrow4, hown4, f4⟩
        case measure => simp [sliceLen]; omega
      · have hbit : bitAt k acc.length = 1 := by have := bitAt_le k acc.length; omega
        obtain ⟨ty, dat, fn, hty, hmeth, hcf, hhash⟩ := hash_any l
        obtain ⟨ty2, dat2, fn2, hty2, -, -, -⟩ := hash_any r
        obtain ⟨lv, hlv⟩ : ∃ lv, l.val = lv := ⟨_, rfl⟩
        obtain ⟨rv, hrv⟩ : ∃ rv, r.val = rv := ⟨_, rfl⟩
        have HLV := hid hlv
        have HRV := hid hrv
        have HD1' : Hid ((t.dig k 0).1 = (r.dig k (acc.length + 1)).1) := by rw [Hid, HD1.out]; simp [Tr.dig, hbit]
        have HD2' : Hid ((t.dig k 0).2 = (acc ++ [l.hash]) ++ (r.dig k (acc.length + 1)).2) := by rw [Hid, HD2.out]; simp [Tr.dig, hbit]
        have hlen : acc.length + 1 ≤ 256 := by
          have h1 := hd
          rw [HD2'.out] at h1
          simp only [List.length_append, List.length_cons, List.length_nil] at h1
          omega
        have HHASH := hid hhash
        have hbitc := bit_any k acc.length
        rw [hbit] at hbitc
        have HBIT := hid hbitc
        obtain ⟨so, scap, rfl⟩ := ownsRow_slice hrow
        simp only [Tr.val]
        rw [hlv, hrv]
        rw [hlv] at hty
        rw [hrv] at hty2
        clear hlv hrv hbit HD1 HD2 hhash hbitc hd
        subst hty hty2
        have hta := as_fork
        go_wp2_with fail
        refine (HBIT.out _ (by rw [hk]; omega) (by omega)).mono ?_
        rintro e w2 ⟨rfl, rfl⟩
        go_wp2_with fail
        refine (HHASH.out _).mono ?_
        rintro e w2 ⟨rfl, f2⟩
        have f0 : Fresh wr (wr.alloc (.cells #[.iface ty dat, .iface ty2 dat2, .string (str sum)] 100)) := (Keeps.refl _ _).alloc _
        have f3 := hf.trans (f0.trans f2)
        have hrow2 := ownsRow_keeps hrow (f0.trans f2) (fun _ _ h => h)
        have d0 := (f2.cell (p := ⟨wr.heap.size, 0, none⟩) (by simp) (fun h => h)).trans (cell_at (heap_alloc_new wr _) 0)
        have d1 := (f2.cell (p := ⟨wr.heap.size, 1, none⟩) (by simp) (fun h => h)).trans (cell_at (heap_alloc_new wr _) 1)
        simp at d0 d1
        have HROW := hid hrow
        clear hrow hmeth hcf HHASH
        go_wp2_with (at_builtin; refine wpList_push rfl (.tmp 23) (.tmp 30) 41 rfl 9 i0 (.string ⟨#[]⟩) 16 Tryz.underlying41 hi hz0 hz1 hz2 rfl w2 hrow2 _ (by rfl) (by rfl) rfl (by omega) (by unfold maxLen; omega) ?_)
        intro v4 w4 ha
        obtain ⟨ao4, cp4, rfl⟩ := ownsRow_slice ha.row
        have hkk := ha.keeps
        have hlt : wr.heap.size < w2.heap.size := by have := f2.size; simp at this; omega
        have hno : ¬ (Value.slice so acc.length scap).ownBlock = some wr.heap.size := fun h => by
          have h2 := ownsRow_lt HROW.out h
          omega
        have d0 := (hkk.cell (p := ⟨wr.heap.size, 0, none⟩) hlt hno).trans d0
        have d1 := (hkk.cell (p := ⟨wr.heap.size, 1, none⟩) hlt hno).trans d1
        have f4 : Fresh w w4 := f3.trans' hkk fun i hi h => by have := hnew i h; omega
        have hrow4 := ha.row
        have hown4 : ∀ g, (Value.slice ao4 (acc.length + 1) cp4).ownBlock = some g → w.heap.size ≤ g := fun g hg => by
          rcases ha.own g hg with h | h
          · exact hnew g h
          · have := f3.size; omega
        rw [← texts_snoc] at hrow4
        clear ha hkk hno hrow2 hnew
        go_wp2
        go_roundw
        case rel => exact ⟨r, acc ++ [l.hash], HRV.out.symm, by rw [Hid, HD1'.out]; simp, by rw [Hid, HD2'.out]; simp, by simpa using hrow4, hown4, f4⟩
        case measure => simp [sliceLen]; omega

end Go.Proofs.YtmflbchiapdhbaaGreatDoor



namespace Go.Proofs.YtmflbchiapdhbaaGreatDoor
open Go.RowKit

/-- the schedule's next word, of those before, the newest first -/
def nextWord (l : List Nat) : Nat := (small1 (l.getD 1 0) + l.getD 6 0 + small0 (l.getD 14 0) + l.getD 15 0) % 4294967296
def sched (b : List UInt8) : Nat → List Nat
  | 0 => ((List.range 16).map (be32 b)).reverse
  | n + 1 => nextWord (sched b n) :: sched b n
theorem sched_len (b : List UInt8) : ∀ n, (sched b n).length = 16 + n
  | 0 => by simp [sched]
  | n + 1 => by simp [sched, sched_len b n]; omega
theorem sched_at (b : List UInt8) : ∀ n i, i < 16 + n → (sched b n).getD i 0 = word b (15 + n - i)
  | 0, i, h => by
    have : (((List.range 16).map (be32 b)).reverse).getD i 0 = be32 b (15 - i) := by
      rw [List.getD, List.getElem?_reverse (by simpa using h)]
      simp [show 16 - 1 - i < 16 by omega]
    simp only [sched, this, Nat.add_zero]
    rw [word_first (by omega)]
  | n + 1, 0, h => by
    have ih := sched_at b n
    simp only [sched, List.getD_cons_zero, nextWord]
    rw [ih 1 (by omega), ih 6 (by omega), ih 14 (by omega), ih 15 (by omega), word_next (t := 15 + (n + 1) - 0) (by omega)]
    rw [show 15 + (n + 1) - 0 - 2 = 15 + n - 1 by omega, show 15 + (n + 1) - 0 - 7 = 15 + n - 6 by omega, show 15 + (n + 1) - 0 - 15 = 15 + n - 14 by omega, show 15 + (n + 1) - 0 - 16 = 15 + n - 15 by omega]
  | n + 1, i + 1, h => by
    simp only [sched, List.getD_cons_succ]
    rw [sched_at b n i (by omega)]
    congr 1
    omega
/-- t rounds by a list of words, the oldest first -/
def runs (ws : List Nat) : Nat → Nat → Eight → Eight
  | _, 0, v => v
  | t, n + 1, v => runs ws (t + 1) n (v.next (kAt t) (ws.getD t 0))
theorem runs_eq (b : List UInt8) (ws : List Nat) (h : ∀ t, t < 64 → ws.getD t 0 = word b t) : ∀ n t v, t + n ≤ 64 → runs ws t n (roundsOf b v t) = roundsOf b v (t + n)
  | 0, _, _, _ => rfl
  | n + 1, t, v, hle => by
    rw [runs, h t (by omega)]
    have := runs_eq b ws h n (t + 1) v (by omega)
    rw [roundsOf] at this
    rw [this, show t + 1 + n = t + (n + 1) by omega]
theorem block_fast (v : Eight) (b : List UInt8) : shaBlock v b = v.add (runs (sched b 48).reverse 0 64 v) := by
  have h : ∀ t, t < 64 → (sched b 48).reverse.getD t 0 = word b t := fun t ht => by
    rw [List.getD, List.getElem?_reverse (by rw [sched_len]; omega), sched_len]
    have := sched_at b 48 (16 + 48 - 1 - t) (by omega)
    rw [List.getD] at this
    rw [this]
    congr 1
    omega
  rw [shaBlock, ← runs_eq b _ h 64 0 v (by omega)]
  rfl
theorem sha_short (s : List UInt8) (h : s.length < 56) : sha s = (eight0.add (runs (sched (filledUp s) 48).reverse 0 64 eight0)).list.flatMap (fun x => bigEnd x 4) := by
  have hl : (filledUp s).length = 64 := by
    simp only [filledUp, List.length_append, List.length_cons, List.length_replicate, bigEnd_len, noughts]
    omega
  rw [sha, shaBlocks, dif_neg (by omega), List.take_of_length_le (by omega), shaBlocks, dif_pos (by simp; omega), block_fast]
set_option maxRecDepth 100000 in
theorem sha_one : (sha [49]).take 2 = [107, 134] := by
  rw [sha_short _ (by decide)]
  decide +kernel
set_option maxRecDepth 100000 in
theorem sha_two : (sha [50]).take 2 = [212, 115] := by
  rw [sha_short _ (by decide)]
  decide +kernel
end Go.Proofs.YtmflbchiapdhbaaGreatDoor
