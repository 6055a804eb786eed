/-
  A bit of a digest: the trie's and the document's; what stands for nothing (the document's); a leaf's hash.
  The trie: a leaf's hash.
  The document's trie: what stands for nothing.
  The document's trie: has a lookup its form?
  The trie: what Check answers, in plain words.
  Contracts of Go's library, laid at this program (the numbers by name).
  The program's trie: what stands for nothing; the hashes of the three nodes.
  The program's trie: Root; a fork of two sides.
  The program's trie: find goes down to where a key is, or would be.
  The program's digest, of one text or three, laid in a block of their own.
  SHA-256 reckoned: the schedule as a list, so that digests of given texts can be told.
-/
import Derived.Test.YtmflbchiapdhbaaDoorMShaC
import Derived.Shelf.Strings.Repeat
import Derived.Test.YtmflbchiapdhbaaDoorProg
import Derived.Handy
import Derived.Deep.RegionLaw
import Derived.Test.YtmflbchiapdhbaaDoorMShaA
namespace Go.Proofs.YtmflbchiapdhbaaDoor
open Go.RowKit

def bitAt (s : List UInt8) (n : Nat) : Nat := (byteAt s (n / 8)).toNat / 2 ^ (7 - n % 8) % 2
theorem bitAt_le (s : List UInt8) (n : Nat) : bitAt s n ≤ 1 := by unfold bitAt; omega

theorem shift_int (c m : Nat) (_h : m < 8) : (c : Int) / 2 ^ m = ((c / 2 ^ m : Nat) : Int) := by simp
theorem refbit_eq (s : List UInt8) (n : Nat) : (wrap64 ((byteAt s (n / 8)).toNat : Int) / 2 ^ (7 - n % 8)).tmod 2 = (bitAt s n : Int) := by
  have hc := (byteAt s (n / 8)).toNat_lt
  rw [wrap_small (by omega) (by omega), shift_int _ _ (by omega), Int.tmod_eq_emod_of_nonneg (Int.natCast_nonneg _), bitAt]
  generalize (byteAt s (n / 8)).toNat / 2 ^ (7 - n % 8) = q
  omega
theorem bit_eq (s : List UInt8) (n : Nat) : bits BinOp.and IntKind.i64 (wrap64 (((byteAt s (n / 8)).toNat : Int) / 2 ^ (7 - n % 8))) 1 = (bitAt s n : Int) := by
  have hc := (byteAt s (n / 8)).toNat_lt
  have hle := Nat.div_le_self (byteAt s (n / 8)).toNat (2 ^ (7 - n % 8))
  rw [shift_int _ _ (by omega), bitAt]
  generalize (byteAt s (n / 8)).toNat / 2 ^ (7 - n % 8) = q at hle ⊢
  have h1 : (1 : Int) = ((1 : Nat) : Int) := rfl
  rw [wrap_small (by omega) (by omega), h1, and_nat (by omega) (by omega), Nat.and_one_is_mod]

set_option maxRecDepth 100000 in
set_option maxHeartbeats 1000000 in
theorem refbit_any (s : List UInt8) (n : Nat) (w : World) (hn : n / 8 < s.length) (hs : s.length ≤ 9223372036854775807) :
    Calls Tryd.prog 32 #[.string (str s), .int .i64 (n : Int)] w fun e w' => e = .returned (.int .i64 (bitAt s n : Int)) ∧ w = w' := by
  have hsz := str_size s
  have hidx := byte_idx (b := s) (j := n / 8)
  have x0 : (n : Int) / 8 < (s.length : Int) := by omega
  have y0 : ((n : Int) / 8).toNat = n / 8 := by omega
  have HE := hid (refbit_eq s n)
  go_enter Tryd.func32, Tryd.ntmps32
  go_wp2_with fail
  rw [HE.out]
  go_ret
  exact ⟨rfl, rfl⟩

set_option maxRecDepth 100000 in
set_option maxHeartbeats 1000000 in
theorem bit_any (s : List UInt8) (n : Nat) (w : World) (hn : n / 8 < s.length) (hs : s.length ≤ 9223372036854775807) :
    Calls Tryd.prog 28 #[.string (str s), .int .i64 (n : Int)] w fun e w' => e = .returned (.int .i64 (bitAt s n : Int)) ∧ w = w' := by
  have hsz := str_size s
  have hidx := byte_idx (b := s) (j := n / 8)
  have x0 : (n : Int) / 8 < (s.length : Int) := by omega
  have y0 : ((n : Int) / 8).toNat = n / 8 := by omega
  have HE := hid (bit_eq s n)
  go_enter Tryd.func28, Tryd.ntmps28
  go_wp2_with fail
  rw [HE.out]
  go_ret
  exact ⟨rfl, rfl⟩
end Go.Proofs.YtmflbchiapdhbaaDoor

namespace Go.Proofs.YtmflbchiapdhbaaDoor
open Go.RowKit

set_option maxRecDepth 100000 in
set_option maxHeartbeats 1000000 in
theorem leafHash_any (k v : List UInt8) (w : World) (hT : TabLaid w) (hF : FirstLaid w) (hng : 3 ≤ w.heap.size) (hb : k.length + v.length ≤ 70368744170000) :
    Calls Tryd.prog 26 #[.string (str k), .string (str v)] w fun e w' => e = .returned (.string (str (sha (2 :: (k ++ v))))) ∧ Fresh w w' := by
  have f1 : Fresh w (w.alloc (.cells #[.string (str [2]), .string (str k), .string (str v)] 9)) := (Keeps.refl _ _).alloc _
  have hl : TextsAt (w.alloc (.cells #[.string (str [2]), .string (str k), .string (str v)] 9)) (.slice (some ⟨w.heap.size, 0, none⟩) 3 3) [[2], k, v] :=
    ⟨_, _, rfl, fun j s hs => by
      refine ⟨w.heap.size, 0, rfl, by simp, ?_⟩
      rw [cell_at (heap_alloc_new w _)]
      match j, hs with
      | 0, hs => simp at hs; subst hs; rfl
      | 1, hs => simp at hs; subst hs; rfl
      | 2, hs => simp at hs; subst hs; rfl
      | (j + 3), hs => simp at hs⟩
  have hp := psum_any (.slice (some ⟨w.heap.size, 0, none⟩) 3 3) [[2], k, v] _ hl (hT.keeps f1 (fun h => h)) (hF.keeps f1 (fun h => h)) (by simp; omega) (by simp) (by simp; omega)
  have he : ([[2], k, v] : List (List UInt8)).flatten = 2 :: (k ++ v) := by simp
  rw [he] at hp
  have HP := hid hp
  clear hp hl he
  go_enter Tryd.func26, Tryd.ntmps26
  go_wp2_with fail
  refine HP.out.mono ?_
  rintro e w2 ⟨rfl, f2⟩
  go_wp2
  go_ret
  exact ⟨rfl, f1.trans f2⟩
end Go.Proofs.YtmflbchiapdhbaaDoor

namespace Go.Proofs.YtmflbchiapdhbaaDoor
open Go.RowKit

def nought32 : List UInt8 := List.replicate 32 0
set_option maxRecDepth 100000 in
set_option maxHeartbeats 1000000 in
theorem noughts_any (w : World) :
    Calls Tryd.prog 31 #[] w fun e w' => e = .returned (.string (str nought32)) ∧ Fresh w w' := by
  obtain ⟨i0, hi, hz0, hz1, hz2⟩ := info_parts Tryd.infoByte
  go_enter Tryd.func31, Tryd.ntmps31
  go_wp2_with (at_make; refine wpList_make_full _ rfl (.const (.int .i64 32)) (.const (.int .i64 32)) 53 rfl 0 5 i0 (.int .u8 0) 1 Tryd.underlying53 hi hz0 hz1 .i64 .i64 32 32 32 rfl rfl rfl rfl (by rw [hz2]; omega) (by unfold maxLen; omega) (Nat.zero_le _) ?_)
  intro w3 hrow hgr
  have f3 : Fresh w w3 := (Keeps.refl _ w).grown hgr (fun k h => by cases h)
  rw [zeros_cells'] at hrow
  have hct := run_text_of_row (P := Tryd.prog) (w := w3) (base := 0) (e := 5) (v := .slice (some ⟨w.heap.size, 0, none⟩) 32 32) (bs := nought32) 53 9 Tryd.underlying53 Tryd.underlying5 Tryd.underlying9 hrow
  have hct2 : (convert 53 9 (.slice (some ⟨w.heap.size, 0, none⟩) 32 32)).run Tryd.prog w3 = .ok (.string (str nought32)) w3 := hct
  clear hct hrow hgr
  go_wp2
  go_ret
  exact ⟨rfl, f3⟩
end Go.Proofs.YtmflbchiapdhbaaDoor

namespace Go.Proofs.YtmflbchiapdhbaaDoor
open Go.RowKit

def every32 : List (List UInt8) → Bool
  | [] => true
  | s :: r => decide (s.length = 32) && every32 r
/-- do the bits of two digests agree from place i on, so many? -/
def agree (a b : List UInt8) : Nat → Nat → Bool
  | _, 0 => true
  | i, n + 1 => decide (bitAt a i = bitAt b i) && agree a b (i + 1) n
def formOf (l : List (List UInt8)) (there : Bool) (key val k : List UInt8) : Bool :=
  decide (l.length ≤ 256) && every32 l && (if there then decide (key.length = 32) && decide (val.length = 32) && agree key k 0 l.length else decide (key = []) && decide (val = []))
theorem drop_cons {α : Type} {l : List α} {k : Nat} {x : α} (h : l[k]? = some x) : l.drop k = x :: l.drop (k + 1) := by
  obtain ⟨hk, rfl⟩ := List.getElem?_eq_some_iff.1 h
  exact List.drop_eq_getElem_cons hk

set_option maxRecDepth 100000 in
set_option maxHeartbeats 1000000 in
theorem refform_any (v : Value) (l : List (List UInt8)) (there : Bool) (key val k : List UInt8) (w : World) (hl : TextsAt w v l) (hk : k.length = 32) (hkey : key.length ≤ 9223372036854775807) (hval : val.length ≤ 9223372036854775807) (hll : l.length ≤ 9223372036854775807) (hs : ∀ s ∈ l, s.length ≤ 9223372036854775807) :
    Calls Tryd.prog 30 #[.agg #[v, .bool there, .string (str key), .string (str val)], .string (str k)] w fun e w' => e = .returned (.bool (formOf l there key val k)) ∧ Fresh w w' := by
  obtain ⟨ao, cap, rfl, hc⟩ := hl
  have HC := hid hc
  have HS := hid hs
  clear hc hs
  have hskey := str_size key
  have hsval := str_size val
  by_cases h256 : l.length ≤ 256
  · go_enter Tryd.func30, Tryd.ntmps30
    go_wp2_with fail
    go_loopw [5] (fun i wr => ∃ (n : Nat), i = .int .i64 (n : Int) ∧ n ≤ l.length ∧ Hid (every32 l = every32 (l.drop n)) ∧ wr.heap[w.heap.size]? = some (.cells #[.slice ao l.length cap, .bool there, .string (str key), .string (str val)] 24 (0, 0)) ∧ Fresh w wr) (fun i _ => l.length - (intOf i).toNat)
    case atStart => exact ⟨0, rfl, by omega, rfl, heap_alloc_new w _, (Keeps.refl _ _).alloc _⟩
    case round =>
      obtain ⟨n, rfl, hn, HE, hb, hf⟩ := hrel
      have c0 := cell_at hb 0
      have c1 := cell_at hb 1
      have c2 := cell_at hb 2
      have c3 := cell_at hb 3
      simp at c0 c1 c2 c3
      by_cases hlt : n < l.length
      · obtain ⟨s, hs⟩ : ∃ s, l[n]? = some s := ⟨l[n], by simp [hlt]⟩
        obtain ⟨bb, off, hao, hbb, hcw⟩ := HC.out n s hs
        have hcell := (hf.cell (p := ⟨bb, off + n, none⟩) hbb (fun h => h)).trans hcw
        have hE := HE.out
        rw [drop_cons hs] at hE
        simp only [every32] at hE
        have hsz := str_size s
        have hsl := HS.out s (List.mem_of_getElem? hs)
        subst hao
        clear hs hcw
        by_cases h32 : s.length = 32
        · have hE2 : Hid (every32 l = every32 (l.drop (n + 1))) := by simpa [Hid, h32] using hE
          have hb32 : ((s.length : Int) != 32) = false := by rw [h32]; rfl
          clear hE h32
          go_wp2
          go_roundw
          case rel => exact ⟨n + 1, by go_num, by omega, hE2, hb, hf⟩
          case measure => simp [intOf]; omega
        · have hF : Hid (formOf l there key val k = false) := by
            have : every32 l = false := by rw [hE]; simp [h32]
            simp [Hid, formOf, this]
          have hb32 : ((s.length : Int) != 32) = true := by rw [bne_iff_ne]; omega
          clear hE h32
          go_wp2
          go_ret
          exact ⟨by rw [hF.out]; rfl, hf⟩
      · have hne : n = l.length := by omega
        have hall : Hid (every32 l = true) := by rw [Hid, HE.out, hne, List.drop_length]; rfl
        clear hne HE
        cases there
        · have hkl := str_toList key
          have hvl := str_toList val
          have hF : Hid (formOf l false key val k = (decide (key = []) && decide (val = []))) := by simp [Hid, formOf, h256, hall.out]
          go_wp2_with fail
          · have hk0 : key = [] := by assumption
            go_ret
            refine ⟨?_, hf⟩
            rw [hF.out]
            cases val <;> simp [hk0]
          · have hk0 : ¬ key = [] := by assumption
            go_ret
            refine ⟨?_, hf⟩
            rw [hF.out]
            cases key with
            | nil => exact absurd rfl hk0
            | cons => simp
        · have hF : Hid (formOf l true key val k = (decide (key.length = 32) && decide (val.length = 32) && agree key k 0 l.length)) := by simp [Hid, formOf, h256, hall.out]
          by_cases hkk : key.length = 32
          · by_cases hvv : val.length = 32
            · have x1 : ((key.length : Int) != 32) = false := by rw [hkk]; rfl
              have x2 : ((val.length : Int) != 32) = false := by rw [hvv]; rfl
              have HKK := hid hkk
              have HVV := hid hvv
              clear hkk hvv
              go_wp2_with fail
              clear hlt hn
              go_loopw [6] (fun i wr2 => ∃ (m : Nat), i = .int .i64 (m : Int) ∧ m ≤ l.length ∧ Hid (agree key k 0 l.length = agree key k m (l.length - m)) ∧ wr2.heap[w.heap.size]? = some (.cells #[.slice ao l.length cap, .bool true, .string (str key), .string (str val)] 24 (0, 0)) ∧ Fresh w wr2) (fun i _ => l.length - (intOf i).toNat)
              case atStart => exact ⟨0, rfl, by omega, rfl, hb, hf⟩
              case round =>
                obtain ⟨m, rfl, hm, HA, hb, hf⟩ := hrel
                have c0 := cell_at hb 0
                have c1 := cell_at hb 1
                have c2 := cell_at hb 2
                have c3 := cell_at hb 3
                simp at c0 c1 c2 c3
                by_cases hlt : m < l.length
                · go_wp2_with fail
                  refine (refbit_any key m _ (by rw [HKK.out]; omega) hkey).mono ?_
                  rintro e w2 ⟨rfl, rfl⟩
                  go_wp2_with fail
                  refine (refbit_any k m _ (by rw [hk]; omega) (by omega)).mono ?_
                  rintro e w2 ⟨rfl, rfl⟩
                  by_cases hbb : bitAt key m = bitAt k m
                  · have hA2 : Hid (agree key k 0 l.length = agree key k (m + 1) (l.length - (m + 1))) := by
                      rw [Hid, HA.out]
                      obtain ⟨q, hq⟩ : ∃ q, l.length - m = q + 1 := ⟨l.length - m - 1, by omega⟩
                      rw [hq, show l.length - (m + 1) = q by omega, agree, decide_eq_true hbb, Bool.true_and]
                    have hne : ((bitAt key m : Int) != (bitAt k m : Int)) = false := by rw [hbb]; simp
                    clear hbb HA
                    go_wp2
                    go_roundw
                    case rel => exact ⟨m + 1, by go_num, by omega, hA2, hb, hf⟩
                    case measure => simp [intOf]; omega
                  · have hA2 : Hid (formOf l true key val k = false) := by
                      obtain ⟨q, hq⟩ : ∃ q, l.length - m = q + 1 := ⟨l.length - m - 1, by omega⟩
                      rw [Hid, hF.out, HA.out, hq, agree, decide_eq_false hbb]
                      simp
                    have hne : ((bitAt key m : Int) != (bitAt k m : Int)) = true := by rw [bne_iff_ne]; omega
                    clear hbb HA hF
                    go_wp2
                    go_ret
                    exact ⟨by rw [hA2.out]; rfl, hf⟩
                · have hA2 : Hid (formOf l true key val k = true) := by
                    rw [Hid, hF.out, HA.out, show l.length - m = 0 by omega]
                    simp [agree, HKK.out, HVV.out]
                  clear hF HA
                  go_wp2
                  go_ret
                  exact ⟨by rw [hA2.out]; rfl, hf⟩
            · have hA2 : Hid (formOf l true key val k = false) := by rw [Hid, hF.out, decide_eq_false hvv]; simp
              have x1 : ((key.length : Int) != 32) = false := by rw [hkk]; rfl
              have x2 : ((val.length : Int) != 32) = true := by rw [bne_iff_ne]; omega
              clear hF hkk hvv
              go_wp2_with fail
              go_ret
              exact ⟨by rw [hA2.out]; rfl, hf⟩
          · have hA2 : Hid (formOf l true key val k = false) := by rw [Hid, hF.out, decide_eq_false hkk]; simp
            have x1 : ((key.length : Int) != 32) = true := by rw [bne_iff_ne]; omega
            clear hF hkk
            go_wp2_with fail
            go_ret
            exact ⟨by rw [hA2.out]; rfl, hf⟩
  · have hF : Hid (formOf l there key val k = false) := by simp [Hid, formOf]; intro h; omega
    go_enter Tryd.func30, Tryd.ntmps30
    go_wp2
    go_ret
    exact ⟨by rw [hF.out]; rfl, (Keeps.refl _ _).alloc _⟩
end Go.Proofs.YtmflbchiapdhbaaDoor

namespace Go.Proofs.YtmflbchiapdhbaaDoor
open Go.RowKit

/-- from the hash of what is under place d, with the sides from there on, to the hash at place d -/
def rung (k : List UInt8) (d : Nat) (s h : List UInt8) : List UInt8 := if bitAt k d = 0 then sha (3 :: (h ++ s)) else sha (3 :: (s ++ h))
def climb (k : List UInt8) : Nat → List (List UInt8) → List UInt8 → List UInt8
  | _, [], h => h
  | d, s :: r, h => rung k d s (climb k (d + 1) r h)
def ground (pt : Bool) (pk pv : List UInt8) : List UInt8 := if pt then sha (2 :: (pk ++ pv)) else nought32
/-- may this be a proof for this key and value? -/
def fits (l : List (List UInt8)) (pt : Bool) (pk pv key value : List UInt8) (there : Bool) : Bool :=
  formOf l pt pk pv (sha key) && (if there then pt && decide (pk = sha key) && decide (pv = sha value) else !(pt && decide (pk = sha key)))
def tooLong (key value : List UInt8) (there : Bool) : Bool := decide (200 < key.length) || (there && decide (1000 < value.length))
def checkOf (l : List (List UInt8)) (pt : Bool) (pk pv key value : List UInt8) (there : Bool) (root : List UInt8) : Int :=
  if tooLong key value there = true then 242
  else if fits l pt pk pv key value there = false then 240
  else if climb (sha key) 0 l (ground pt pk pv) = root then 0 else 241

theorem rung_length (k : List UInt8) (d : Nat) (s h : List UInt8) : (rung k d s h).length = 32 := by
  unfold rung; split <;> exact sha_len _
theorem ground_length (pt : Bool) (pk pv : List UInt8) : (ground pt pk pv).length = 32 := by
  unfold ground; split
  · exact sha_len _
  · simp [nought32]
theorem climb_length (k : List UInt8) (l : List (List UInt8)) (h : List UInt8) (hh : h.length = 32) (d : Nat) : (climb k d l h).length = 32 := by
  cases l with
  | nil => exact hh
  | cons s r => exact rung_length _ _ _ _
theorem every32_mem {l : List (List UInt8)} (h : every32 l = true) : ∀ s ∈ l, s.length = 32 := by
  induction l with
  | nil => intro s hs; cases hs
  | cons x r ih =>
    simp only [every32, Bool.and_eq_true, decide_eq_true_eq] at h
    intro s hs
    rcases List.mem_cons.1 hs with rfl | hs
    · exact h.1
    · exact ih h.2 s hs
end Go.Proofs.YtmflbchiapdhbaaDoor

namespace Go.Proofs.YtmflbchiapdhbaaDoor
open Go.Shelf Go.RowKit
def Tryd.lays105_ren : Go.Shelf.Ren := ⟨fun | 105 => 45 | 212 => 56 | 99 => 57 | 165 => 58 | 166 => 59 | 170 => 60 | 169 => 61 | 263 => 76 | 264 => 77 | 206 => 78 | 240 => 79 | 241 => 80 | 276 => 88 | 277 => 89 | n => n, fun | 9 => 9 | 3 => 3 | 4 => 4 | 20 => 20 | 0 => 0 | 46 => 105 | 109 => 111 | 5 => 5 | 72 => 116 | 76 => 120 | 51 => 97 | 146 => 138 | 53 => 137 | 148 => 140 | 70 => 114 | 37 => 53 | 75 => 119 | 127 => 142 | 164 => 149 | 80 => 34 | n => n, fun | n => n⟩
theorem Tryd.lays105 : Go.Proofs.Lays.n105 Tryd.prog Tryd.lays105_ren := {
  mixed := by kernel_rfl
  f99 := Tryd.func57.trans (congrArg some (by kernel_rfl))
  f105 := Tryd.func45.trans (congrArg some (by kernel_rfl))
  f165 := Tryd.func58.trans (congrArg some (by kernel_rfl))
  f166 := Tryd.func59.trans (congrArg some (by kernel_rfl))
  f169 := Tryd.func61.trans (congrArg some (by kernel_rfl))
  f170 := Tryd.func60.trans (congrArg some (by kernel_rfl))
  f206 := Tryd.func78.trans (congrArg some (by kernel_rfl))
  f212 := Tryd.func56.trans (congrArg some (by kernel_rfl))
  f240 := Tryd.func79.trans (congrArg some (by kernel_rfl))
  f241 := Tryd.func80.trans (congrArg some (by kernel_rfl))
  f263 := Tryd.func76.trans (congrArg some (by kernel_rfl))
  f264 := Tryd.func77.trans (congrArg some (by kernel_rfl))
  f276 := Tryd.func88.trans (congrArg some (by kernel_rfl))
  f277 := Tryd.func89.trans (congrArg some (by kernel_rfl))
  t0 := Tryd.underlying0
  a0 := Tryd.isAgg0
  z0 := Tryd.sizeOf0
  v0 := Tryd.zeroValue0
  t3 := Tryd.underlying3
  a3 := Tryd.isAgg3
  z3 := Tryd.sizeOf3
  v3 := Tryd.zeroValue3
  t4 := Tryd.underlying4
  a4 := Tryd.isAgg4
  z4 := Tryd.sizeOf4
  v4 := Tryd.zeroValue4
  t5 := Tryd.underlying5
  a5 := Tryd.isAgg5
  z5 := Tryd.sizeOf5
  v5 := Tryd.zeroValue5
  t9 := Tryd.underlying9
  a9 := Tryd.isAgg9
  z9 := Tryd.sizeOf9
  v9 := Tryd.zeroValue9
  t20 := Tryd.underlying20
  a20 := Tryd.isAgg20
  z20 := Tryd.sizeOf20
  v20 := Tryd.zeroValue20
  t37 := Tryd.underlying53
  a37 := Tryd.isAgg53
  z37 := Tryd.sizeOf53
  v37 := Tryd.zeroValue53
  t46 := Tryd.underlying105
  a46 := Tryd.isAgg105
  z46 := Tryd.sizeOf105
  v46 := Tryd.zeroValue105
  t51 := Tryd.underlying97
  a51 := Tryd.isAgg97
  z51 := Tryd.sizeOf97
  v51 := Tryd.zeroValue97
  t53 := Tryd.underlying137
  a53 := Tryd.isAgg137
  z53 := Tryd.sizeOf137
  v53 := Tryd.zeroValue137
  t70 := Tryd.underlying114
  a70 := Tryd.isAgg114
  z70 := Tryd.sizeOf114
  v70 := Tryd.zeroValue114
  t72 := Tryd.underlying116
  a72 := Tryd.isAgg116
  z72 := Tryd.sizeOf116
  v72 := Tryd.zeroValue116
  t75 := Tryd.underlying119
  a75 := Tryd.isAgg119
  z75 := Tryd.sizeOf119
  v75 := Tryd.zeroValue119
  t76 := Tryd.underlying120
  a76 := Tryd.isAgg120
  z76 := Tryd.sizeOf120
  v76 := Tryd.zeroValue120
  t109 := Tryd.underlying111
  a109 := Tryd.isAgg111
  z109 := Tryd.sizeOf111
  v109 := Tryd.zeroValue111
  t127 := Tryd.underlying142
  a127 := Tryd.isAgg142
  z127 := Tryd.sizeOf142
  v127 := Tryd.zeroValue142
  t146 := Tryd.underlying138
  a146 := Tryd.isAgg138
  z146 := Tryd.sizeOf138
  v146 := Tryd.zeroValue138
  t148 := Tryd.underlying140
  a148 := Tryd.isAgg140
  z148 := Tryd.sizeOf140
  v148 := Tryd.zeroValue140
  t164 := Tryd.underlying149
  a164 := Tryd.isAgg149
  z164 := Tryd.sizeOf149
  v164 := Tryd.zeroValue149 }
theorem Tryd.Builder_Extra_105 : Builder.Extra Tryd.prog Tryd.lays105_ren := {
  sizeBuilder := by kernel_rfl
  liesBuilder := by kernel_rfl
  t5 := Tryd.underlying5
  a5 := Tryd.isAgg5
  z5 := Tryd.sizeOf5
  v5 := Tryd.zeroValue5
  infoByte := by kernel_rfl
  cellsByte := by kernel_rfl
  sizeByte := by kernel_rfl
  neB5 := by decide }
theorem Tryd.strings_Repeat (s : ByteArray) (c : Nat) (w : World) (hc : c ≤ 9223372036854775807) (hlen : s.size * c ≤ 140737488355328) :
    Calls Tryd.prog 45 #[.string s, .int .i64 c] w fun e w' => e = .returned (.string ⟨(Lib.repeatL s.data.toList c).toArray⟩) ∧ Below w.heap.size w w' := Any.strings_Repeat Tryd.lays105 Tryd.Builder_Extra_105 s c w hc hlen
end Go.Proofs.YtmflbchiapdhbaaDoor

namespace Go.Proofs.YtmflbchiapdhbaaDoor
open Go.RowKit

set_option maxRecDepth 100000 in
theorem none_any (w : World) :
    Calls Tryd.prog 25 #[] w fun e w' => e = .returned (.string (str nought32)) ∧ Fresh w w' := by
  have hr := Tryd.strings_Repeat (str [0]) 32 w (by omega) (by rw [str_size]; decide)
  have he : (⟨(Lib.repeatL (str [0]).data.toList 32).toArray⟩ : ByteArray) = str nought32 := rfl
  rw [he] at hr
  have HR := hid hr
  clear hr he
  go_enter Tryd.func25, Tryd.ntmps25
  go_wp2_with fail
  refine HR.out.mono ?_
  rintro e w2 ⟨rfl, hb⟩
  have f2 : Fresh w w2 := (Keeps.of_below hb).mono fun k hk hk2 => absurd hk (by omega)
  go_wp2
  go_ret
  exact ⟨rfl, f2⟩

/-- A node, as Go has it. -/
inductive Tr where
  | none
  | leaf (k sum key val : List UInt8)
  | fork (l r : Tr) (sum : List UInt8)
def leafCells (k sum key val : List UInt8) : Array Value := #[.string (str k), .string (str sum), .string (str key), .string (str val)]
def Tr.val : Tr → Value
  | .none => .iface 81 (.agg #[])
  | .leaf k sum key val => .iface 71 (.agg (leafCells k sum key val))
  | .fork l r sum => .iface 95 (.agg #[l.val, r.val, .string (str sum)])
def Tr.hash : Tr → List UInt8
  | .none => nought32
  | .leaf _ sum _ _ => sum
  | .fork _ _ sum => sum

set_option maxRecDepth 100000 in
theorem nothingHash_any (w : World) :
    Calls Tryd.prog 108 #[.agg #[]] w fun e w' => e = .returned (.string (str nought32)) ∧ Fresh w w' := by
  go_enter Tryd.func108, Tryd.ntmps108
  go_wp2_with fail
  refine (none_any _).mono ?_
  rintro e w2 ⟨rfl, f2⟩
  go_wp2
  go_ret
  exact ⟨rfl, ((Keeps.refl _ _).alloc _).trans f2⟩
set_option maxRecDepth 100000 in
theorem leafNodeHash_any (k sum key val : List UInt8) (w : World) :
    Calls Tryd.prog 106 #[.agg #[.string (str k), .string (str sum), .string (str key), .string (str val)]] w fun e w' => e = .returned (.string (str sum)) ∧ Fresh w w' := by
  go_enter Tryd.func106, Tryd.ntmps106
  go_wp2_with fail
  go_ret
  exact ⟨rfl, ((Keeps.refl _ _).alloc _)⟩
set_option maxRecDepth 100000 in
theorem forkHash_any (l r : Value) (sum : List UInt8) (w : World) :
    Calls Tryd.prog 109 #[.agg #[l, r, .string (str sum)]] w fun e w' => e = .returned (.string (str sum)) ∧ Fresh w w' := by
  go_enter Tryd.func109, Tryd.ntmps109
  go_wp2_with fail
  go_ret
  exact ⟨rfl, ((Keeps.refl _ _).alloc _)⟩

/-- The map in memory: one block of two cells. -/
def MapAt (w : World) (b : Nat) (t : Tr) (many : Int) : Prop := w.heap[b]? = some (.cells #[t.val, .int .i64 many] 69 (0, 0))

set_option maxRecDepth 100000 in
theorem new_any (w : World) :
    Calls Tryd.prog 18 #[] w fun e w' => e = .returned (.pointer (some ⟨w.heap.size, 0, none⟩)) ∧ Fresh w w' ∧ MapAt w' w.heap.size .none 0 := by
  go_enter Tryd.func18, Tryd.ntmps18
  go_wp2_with fail
  go_ret
  exact ⟨rfl, (Keeps.refl _ _).alloc _, heap_alloc_new w _⟩
end Go.Proofs.YtmflbchiapdhbaaDoor

namespace Go.Proofs.YtmflbchiapdhbaaDoor
open Go.RowKit

set_option maxRecDepth 100000 in
theorem root_any (b : Nat) (t : Tr) (many : Int) (w : World) (h : MapAt w b t many) :
    Calls Tryd.prog 13 #[.pointer (some ⟨b, 0, none⟩)] w fun e w' => e = .returned (.string (str t.hash)) ∧ Fresh w w' := by
  have c0 := cell_at h 0
  simp at c0
  cases t with
  | none =>
    simp only [Tr.val] at c0
    clear h
    go_enter Tryd.func13, Tryd.ntmps13
    go_wp2_with (go_at_call 108; refine (nothingHash_any _).mono ?_; rintro e w2 ⟨rfl, f2⟩)
    go_ret
    exact ⟨rfl, f2⟩
  | leaf k sum key val =>
    simp only [Tr.val, leafCells] at c0
    clear h
    go_enter Tryd.func13, Tryd.ntmps13
    go_wp2_with (go_at_call 106; refine (leafNodeHash_any _ _ _ _ _).mono ?_; rintro e w2 ⟨rfl, f2⟩)
    go_ret
    exact ⟨rfl, f2⟩
  | fork l r sum =>
    simp only [Tr.val] at c0
    generalize l.val = lv at c0
    generalize r.val = rv at c0
    clear h
    go_enter Tryd.func13, Tryd.ntmps13
    go_wp2_with (go_at_call 109; refine (forkHash_any _ _ _ _).mono ?_; rintro e w2 ⟨rfl, f2⟩)
    go_ret
    exact ⟨rfl, f2⟩
end Go.Proofs.YtmflbchiapdhbaaDoor

namespace Go.Proofs.YtmflbchiapdhbaaDoor
open Go.RowKit

theorem Tryd.infoText : (Tryd.prog.info? 9).map (fun i => (i.zero, i.size, i.bytes)) = some (some (.string ⟨#[]⟩), 1, 16) := by kernel_rfl

/-- any node's hash, by its method -/
theorem hash_any (t : Tr) : ∃ (ty : TypeId) (dat : Value) (fn : FuncId), t.val = .iface ty dat ∧ (∀ w, (method 267 ty dat "scrivener/trie.hash").run Tryd.prog w = .ok (fn, dat) w) ∧
    (∀ args w, (callFunc fn args).run Tryd.prog w = .ok (.enter fn args) w) ∧ ∀ w, Calls Tryd.prog fn #[dat] w fun e w' => e = .returned (.string (str t.hash)) ∧ Fresh w w' := by
  cases t with
  | none => exact ⟨_, _, 108, rfl, fun w => by kernel_rfl, enters_of Tryd.func108 (by kernel_rfl) rfl, fun w => nothingHash_any w⟩
  | leaf k sum key val => exact ⟨_, _, 106, rfl, fun w => by kernel_rfl, enters_of Tryd.func106 (by kernel_rfl) rfl, fun w => leafNodeHash_any k sum key val w⟩
  | fork l r sum => exact ⟨_, _, 109, rfl, fun w => by kernel_rfl, enters_of Tryd.func109 (by kernel_rfl) rfl, fun w => forkHash_any _ _ sum w⟩

/-- which node is it? -/
theorem as_fork (l r : Value) (s : ByteArray) (w : World) : (Instr.typeAssert (.iface 95 (.agg #[l, r, .string s])) 63 95 true).run Tryd.prog w = .ok (.tuple #[.agg #[l, r, .string s], .bool true]) w := by kernel_rfl
theorem none_as_fork (w : World) : (Instr.typeAssert (.iface 81 (.agg #[])) 63 95 true).run Tryd.prog w = .ok (.tuple #[.agg #[.nilIface, .nilIface, .string ⟨#[]⟩], .bool false]) w := by kernel_rfl
theorem leaf_as_fork (x : Value) (w : World) : (Instr.typeAssert (.iface 71 x) 63 95 true).run Tryd.prog w = .ok (.tuple #[.agg #[.nilIface, .nilIface, .string ⟨#[]⟩], .bool false]) w := by kernel_rfl
theorem as_leaf (a b c d : Value) (w : World) : (Instr.typeAssert (.iface 71 (.agg #[a, b, c, d])) 63 71 true).run Tryd.prog w = .ok (.tuple #[.agg #[a, b, c, d], .bool true]) w := by kernel_rfl
theorem none_as_leaf (w : World) : (Instr.typeAssert (.iface 81 (.agg #[])) 63 71 true).run Tryd.prog w = .ok (.tuple #[.agg #[.string ⟨#[]⟩, .string ⟨#[]⟩, .string ⟨#[]⟩, .string ⟨#[]⟩], .bool false]) w := by kernel_rfl
theorem fork_as_leaf (x : Value) (w : World) : (Instr.typeAssert (.iface 95 x) 63 71 true).run Tryd.prog w = .ok (.tuple #[.agg #[.string ⟨#[]⟩, .string ⟨#[]⟩, .string ⟨#[]⟩, .string ⟨#[]⟩], .bool false]) w := by kernel_rfl

theorem ownsRow_lt {w : World} {base : Nat} {e : TypeId} {size : Nat} {v : Value} {n : Nat} {xs : List Value} {g : Nat} (h : w.ownsRow base e size v n xs) (hg : v.ownBlock = some g) : g < w.heap.size := by
  obtain ⟨_, ⟨rfl, _⟩ | ⟨g', cap, cur, rfl, _, hb, _⟩⟩ := h
  · simp [Value.ownBlock] at hg
  · simp [Value.ownBlock] at hg
    subst hg
    exact lt_of_block hb
theorem ownsRow_at {w : World} {base : Nat} {e : TypeId} {v : Value} {n : Nat} {xs : List Value} (h : w.ownsRow base e 1 v n xs) : ∃ ao cap, v = .slice ao n cap ∧ ∀ (k : Nat) (u : Value), xs[k]? = some u → ∃ bb, ao = some ⟨bb, 0, none⟩ ∧ bb < w.heap.size ∧ w.cell? ⟨bb, k, none⟩ = some u := by
  obtain ⟨hl, ⟨rfl, rfl⟩ | ⟨g', cap, cur, rfl, _, hb, hn, _, hcs, ht⟩⟩ := h
  · refine ⟨_, _, rfl, fun k u hu => ?_⟩
    have : k < xs.length := (List.getElem?_eq_some_iff.1 hu).1
    omega
  · refine ⟨_, _, rfl, fun k u hu => ⟨g', rfl, lt_of_block hb, ?_⟩⟩
    rw [cell_at hb]
    rw [← ht, List.getElem?_take] at hu
    split at hu
    · simpa using hu
    · cases hu
theorem OwnTexts_at {B : Nat} {w : World} {v : Value} {l : List (List UInt8)} (h : w.ownsRow B 9 1 v l.length (l.map fun s => Value.string (str s))) : TextsAt w v l := by
  obtain ⟨ao, cap, rfl, hc⟩ := ownsRow_at h
  refine ⟨ao, cap, rfl, fun k s hs => ?_⟩
  obtain ⟨bb, rfl, h1, h2⟩ := hc k (.string (str s)) (by simp [hs])
  exact ⟨bb, 0, rfl, h1, by rw [Nat.zero_add]; exact h2⟩

def texts (l : List (List UInt8)) : List Value := l.map fun s => .string (str s)
theorem texts_snoc (l : List (List UInt8)) (x : List UInt8) : texts (l ++ [x]) = texts l ++ [Value.string (str x)] := by simp [texts]
/-- a list of texts in blocks of its own, all made since there were B blocks -/
def OwnTexts (B : Nat) (w : World) (v : Value) (l : List (List UInt8)) : Prop :=
  w.ownsRow 0 9 1 v l.length (texts l) ∧ ∀ g, v.ownBlock = some g → B ≤ g

theorem OwnTexts.at_ {B : Nat} {w : World} {v : Value} {l : List (List UInt8)} (h : OwnTexts B w v l) : TextsAt w v l := OwnTexts_at h.1

def Tr.dig (k : List UInt8) : Nat → Tr → Tr × List (List UInt8)
  | d, .fork l r _ => if bitAt k d = 0 then ((l.dig k (d + 1)).1, r.hash :: (l.dig k (d + 1)).2) else ((r.dig k (d + 1)).1, l.hash :: (r.dig k (d + 1)).2)
  | _, t => (t, [])
def sliceLen : Value → Nat
  | .slice _ n _ => n
  | _ => 0

set_option maxRecDepth 100000 in
set_option maxHeartbeats 2000000 in
theorem find_any (k : List UInt8) (t : Tr) (w : World) (hk : k.length = 32) (hd : (t.dig k 0).2.length ≤ 256) :
    Calls Tryd.prog 33 #[t.val, .string (str k)] w fun e w' => ∃ v, e = .returned (.tuple #[(t.dig k 0).1.val, v]) ∧ Fresh w w' ∧ OwnTexts w.heap.size w' v (t.dig k 0).2 := by
  obtain ⟨i0, hi, hz0, hz1, hz2⟩ := info_parts Tryd.infoText
  go_enter Tryd.func33, Tryd.ntmps33
  go_wp2_with fail
  go_loopw [0, 6] (fun n s wr => ∃ (t' : Tr) (acc : List (List UInt8)), n = t'.val ∧ Hid ((t.dig k 0).1 = (t'.dig k acc.length).1) ∧ Hid ((t.dig k 0).2 = acc ++ (t'.dig k acc.length).2) ∧ wr.ownsRow 0 9 1 s acc.length (texts acc) ∧ (∀ g, s.ownBlock = some g → w.heap.size ≤ g) ∧ Fresh w wr) (fun _ s _ => 256 - sliceLen s)
  case atStart => exact ⟨t, [], rfl, rfl, rfl, World.ownsRow_nil _ _ _ _, (fun _ h => nomatch h), Keeps.refl _ _⟩
  case round =>
    obtain ⟨t', acc, rfl, HD1, HD2, hrow, hnew, hf⟩ := hrel
    cases t' with
    | none =>
      have HD1' : Hid ((t.dig k 0).1 = .none) := by rw [Hid, HD1.out]; simp [Tr.dig]
      have HD2' : Hid ((t.dig k 0).2 = acc) := by rw [Hid, HD2.out]; simp [Tr.dig]
      clear HD1 HD2 hd
      simp only [Tr.val]
      have hta := none_as_fork
      have htb := leaf_as_fork
      go_wp2_with fail
      go_ret2
      refine ⟨_, by rw [HD1'.out]; rfl, hf.alloc _, ?_⟩
      rw [HD2'.out]
      exact ⟨hrow.alloc _, hnew⟩
    | leaf kk sum key val =>
      have HD1' : Hid ((t.dig k 0).1 = .leaf kk sum key val) := by rw [Hid, HD1.out]; simp [Tr.dig]
      have HD2' : Hid ((t.dig k 0).2 = acc) := by rw [Hid, HD2.out]; simp [Tr.dig]
      clear HD1 HD2 hd
      simp only [Tr.val, leafCells]
      have hta := none_as_fork
      have htb := leaf_as_fork
      go_wp2_with fail
      go_ret2
      refine ⟨_, by rw [HD1'.out]; rfl, hf.alloc _, ?_⟩
      rw [HD2'.out]
      exact ⟨hrow.alloc _, hnew⟩
    | fork l r sum =>
      by_cases hbit : bitAt k acc.length = 0
      · obtain ⟨ty, dat, fn, hty, hmeth, hcf, hhash⟩ := hash_any r
        obtain ⟨ty2, dat2, fn2, hty2, -, -, -⟩ := hash_any l
        obtain ⟨lv, hlv⟩ : ∃ lv, l.val = lv := ⟨_, rfl⟩
        obtain ⟨rv, hrv⟩ : ∃ rv, r.val = rv := ⟨_, rfl⟩
        have HLV := hid hlv
        have HRV := hid hrv
        have HD1' : Hid ((t.dig k 0).1 = (l.dig k (acc.length + 1)).1) := by rw [Hid, HD1.out]; simp [Tr.dig, hbit]
        have HD2' : Hid ((t.dig k 0).2 = (acc ++ [r.hash]) ++ (l.dig k (acc.length + 1)).2) := by rw [Hid, HD2.out]; simp [Tr.dig, hbit]
        have hlen : acc.length + 1 ≤ 256 := by
          have h1 := hd
          rw [HD2'.out] at h1
          simp only [List.length_append, List.length_cons, List.length_nil] at h1
          omega
        have HHASH := hid hhash
        have hbitc := bit_any k acc.length
        rw [hbit] at hbitc
        have HBIT := hid hbitc
        obtain ⟨so, scap, rfl⟩ := ownsRow_slice hrow
        simp only [Tr.val]
        rw [hlv, hrv]
        rw [hrv] at hty
        rw [hlv] at hty2
        clear hlv hrv hbit HD1 HD2 hhash hbitc hd
        subst hty hty2
        have hta := as_fork
        go_wp2_with fail
        refine (HBIT.out _ (by rw [hk]; omega) (by omega)).mono ?_
        rintro e w2 ⟨rfl, rfl⟩
        go_wp2_with fail
        refine (HHASH.out _).mono ?_
        rintro e w2 ⟨rfl, f2⟩
        have f0 : Fresh wr (wr.alloc (.cells #[.iface ty2 dat2, .iface ty dat, .string (str sum)] 95)) := (Keeps.refl _ _).alloc _
        have f3 := hf.trans (f0.trans f2)
        have hrow2 := ownsRow_keeps hrow (f0.trans f2) (fun _ _ h => h)
        have d0 := (f2.cell (p := ⟨wr.heap.size, 0, none⟩) (by simp) (fun h => h)).trans (cell_at (heap_alloc_new wr _) 0)
        have d1 := (f2.cell (p := ⟨wr.heap.size, 1, none⟩) (by simp) (fun h => h)).trans (cell_at (heap_alloc_new wr _) 1)
        simp at d0 d1
        have HROW := hid hrow
        clear hrow hmeth hcf HHASH
        go_wp2_with (at_builtin; refine wpList_push rfl (.tmp 23) (.tmp 30) 22 rfl 9 i0 (.string ⟨#[]⟩) 16 Tryd.underlying22 hi hz0 hz1 hz2 rfl w2 hrow2 _ (by rfl) (by rfl) rfl (by omega) (by unfold maxLen; omega) ?_)
        intro v4 w4 ha
        obtain ⟨ao4, cp4, rfl⟩ := ownsRow_slice ha.row
        have hkk := ha.keeps
        have hlt : wr.heap.size < w2.heap.size := by have := f2.size; simp at this; omega
        have hno : ¬ (Value.slice so acc.length scap).ownBlock = some wr.heap.size := fun h => by
          have h2 := ownsRow_lt HROW.out h
          omega
        have d0 := (hkk.cell (p := ⟨wr.heap.size, 0, none⟩) hlt hno).trans d0
        have d1 := (hkk.cell (p := ⟨wr.heap.size, 1, none⟩) hlt hno).trans d1
        have f4 : Fresh w w4 := f3.trans' hkk fun i hi h => by have := hnew i h; omega
        have hrow4 := ha.row
        have hown4 : ∀ g, (Value.slice ao4 (acc.length + 1) cp4).ownBlock = some g → w.heap.size ≤ g := fun g hg => by
          rcases ha.own g hg with h | h
          · exact hnew g h
          · have := f3.size; omega
        rw [← texts_snoc] at hrow4
        clear ha hkk hno hrow2 hnew
        go_wp2
        go_roundw
        case rel => exact ⟨l, acc ++ [r.hash], HLV.out.symm, by rw [Hid, HD1'.out]; simp, by rw [Hid, HD2'.out]; simp, by simpa using hrow4, hown4, f4⟩
        case measure => simp [sliceLen]; omega
      · have hbit : bitAt k acc.length = 1 := by have := bitAt_le k acc.length; omega
        obtain ⟨ty, dat, fn, hty, hmeth, hcf, hhash⟩ := hash_any l
        obtain ⟨ty2, dat2, fn2, hty2, -, -, -⟩ := hash_any r
        obtain ⟨lv, hlv⟩ : ∃ lv, l.val = lv := ⟨_, rfl⟩
        obtain ⟨rv, hrv⟩ : ∃ rv, r.val = rv := ⟨_, rfl⟩
        have HLV := hid hlv
        have HRV := hid hrv
        have HD1' : Hid ((t.dig k 0).1 = (r.dig k (acc.length + 1)).1) := by rw [Hid, HD1.out]; simp [Tr.dig, hbit]
        have HD2' : Hid ((t.dig k 0).2 = (acc ++ [l.hash]) ++ (r.dig k (acc.length + 1)).2) := by rw [Hid, HD2.out]; simp [Tr.dig, hbit]
        have hlen : acc.length + 1 ≤ 256 := by
          have h1 := hd
          rw [HD2'.out] at h1
          simp only [List.length_append, List.length_cons, List.length_nil] at h1
          omega
        have HHASH := hid hhash
        have hbitc := bit_any k acc.length
        rw [hbit] at hbitc
        have HBIT := hid hbitc
        obtain ⟨so, scap, rfl⟩ := ownsRow_slice hrow
        simp only [Tr.val]
        rw [hlv, hrv]
        rw [hlv] at hty
        rw [hrv] at hty2
        clear hlv hrv hbit HD1 HD2 hhash hbitc hd
        subst hty hty2
        have hta := as_fork
        go_wp2_with fail
        refine (HBIT.out _ (by rw [hk]; omega) (by omega)).mono ?_
        rintro e w2 ⟨rfl, rfl⟩
        go_wp2_with fail
        refine (HHASH.out _).mono ?_
        rintro e w2 ⟨rfl, f2⟩
        have f0 : Fresh wr (wr.alloc (.cells #[.iface ty dat, .iface ty2 dat2, .string (str sum)] 95)) := (Keeps.refl _ _).alloc _
        have f3 := hf.trans (f0.trans f2)
        have hrow2 := ownsRow_keeps hrow (f0.trans f2) (fun _ _ h => h)
        have d0 := (f2.cell (p := ⟨wr.heap.size, 0, none⟩) (by simp) (fun h => h)).trans (cell_at (heap_alloc_new wr _) 0)
        have d1 := (f2.cell (p := ⟨wr.heap.size, 1, none⟩) (by simp) (fun h => h)).trans (cell_at (heap_alloc_new wr _) 1)
        simp at d0 d1
        have HROW := hid hrow
        clear hrow hmeth hcf HHASH
        go_wp2_with (at_builtin; refine wpList_push rfl (.tmp 23) (.tmp 30) 22 rfl 9 i0 (.string ⟨#[]⟩) 16 Tryd.underlying22 hi hz0 hz1 hz2 rfl w2 hrow2 _ (by rfl) (by rfl) rfl (by omega) (by unfold maxLen; omega) ?_)
        intro v4 w4 ha
        obtain ⟨ao4, cp4, rfl⟩ := ownsRow_slice ha.row
        have hkk := ha.keeps
        have hlt : wr.heap.size < w2.heap.size := by have := f2.size; simp at this; omega
        have hno : ¬ (Value.slice so acc.length scap).ownBlock = some wr.heap.size := fun h => by
          have h2 := ownsRow_lt HROW.out h
          omega
        have d0 := (hkk.cell (p := ⟨wr.heap.size, 0, none⟩) hlt hno).trans d0
        have d1 := (hkk.cell (p := ⟨wr.heap.size, 1, none⟩) hlt hno).trans d1
        have f4 : Fresh w w4 := f3.trans' hkk fun i hi h => by have := hnew i h; omega
        have hrow4 := ha.row
        have hown4 : ∀ g, (Value.slice ao4 (acc.length + 1) cp4).ownBlock = some g → w.heap.size ≤ g := fun g hg => by
          rcases ha.own g hg with h | h
          · exact hnew g h
          · have := f3.size; omega
        rw [← texts_snoc] at hrow4
        clear ha hkk hno hrow2 hnew
        go_wp2
        go_roundw
        case rel => exact ⟨r, acc ++ [l.hash], HRV.out.symm, by rw [Hid, HD1'.out]; simp, by rw [Hid, HD2'.out]; simp, by simpa using hrow4, hown4, f4⟩
        case measure => simp [sliceLen]; omega

end Go.Proofs.YtmflbchiapdhbaaDoor

namespace Go.Proofs.YtmflbchiapdhbaaDoor
open Go.RowKit

/-- what digest.Sum asks of the world -/
structure Dig (w : World) : Prop where
  tab : TabLaid w
  first : FirstLaid w
  room : 3 ≤ w.heap.size
theorem Dig.fresh {w w' : World} (h : Dig w) (f : Fresh w w') : Dig w' := ⟨h.tab.keeps f (fun h => h), h.first.keeps f (fun h => h), Nat.le_trans h.room f.size⟩
theorem Dig.drew {w : World} (h : Dig w) : Dig w.drew := h.fresh (Keeps.refl _ _).drew
theorem Dig.alloc {w : World} (h : Dig w) (o : Obj) : Dig (w.alloc o) := h.fresh ((Keeps.refl _ _).alloc o)

theorem Dig.keepsOut {B h : Nat} {w w' : World} (d : Dig w) (k : Keeps (fun q => q = h ∨ B ≤ q) w w') (h1 : 3 ≤ h) (h2 : 3 ≤ B) : Dig w' :=
  ⟨d.tab.keeps k (fun e => by omega), d.first.keeps k (fun e => by omega), Nat.le_trans d.room k.size⟩

theorem psum_one (bb : Nat) (s : List UInt8) (w : World) (hb : w.heap[bb]? = some (.cells #[.string (str s)] 9 (0, 0))) (hd : Dig w) (hs : s.length ≤ 70368744170000) :
    Calls Tryd.prog 15 #[.slice (some ⟨bb, 0, none⟩) 1 1] w fun e w' => e = .returned (.string (str (sha s))) ∧ Fresh w w' := by
  have hp := psum_any (.slice (some ⟨bb, 0, none⟩) 1 1) [s] w ⟨_, _, rfl, fun j x hx => ⟨bb, 0, rfl, lt_of_block hb, by
      rw [cell_at hb]
      match j, hx with
      | 0, hx => simp at hx; subst hx; rfl
      | (j + 1), hx => simp at hx⟩⟩ hd.tab hd.first hd.room (by simp) (by simp; omega)
  simpa using hp
theorem psum_three (bb : Nat) (a b c : List UInt8) (w : World) (hb : w.heap[bb]? = some (.cells #[.string (str a), .string (str b), .string (str c)] 9 (0, 0))) (hd : Dig w) (hs : a.length + b.length + c.length ≤ 70368744170000) :
    Calls Tryd.prog 15 #[.slice (some ⟨bb, 0, none⟩) 3 3] w fun e w' => e = .returned (.string (str (sha (a ++ (b ++ c))))) ∧ Fresh w w' := by
  have hp := psum_any (.slice (some ⟨bb, 0, none⟩) 3 3) [a, b, c] w ⟨_, _, rfl, fun j x hx => ⟨bb, 0, rfl, lt_of_block hb, by
      rw [cell_at hb]
      match j, hx with
      | 0, hx => simp at hx; subst hx; rfl
      | 1, hx => simp at hx; subst hx; rfl
      | 2, hx => simp at hx; subst hx; rfl
      | (j + 3), hx => simp at hx⟩⟩ hd.tab hd.first hd.room (by simp) (by simp; omega)
  simpa using hp
end Go.Proofs.YtmflbchiapdhbaaDoor

namespace Go.Proofs.YtmflbchiapdhbaaDoor
open Go.RowKit

/-- the schedule's next word, of those before, the newest first -/
def nextWord (l : List Nat) : Nat := (small1 (l.getD 1 0) + l.getD 6 0 + small0 (l.getD 14 0) + l.getD 15 0) % 4294967296
def sched (b : List UInt8) : Nat → List Nat
  | 0 => ((List.range 16).map (be32 b)).reverse
  | n + 1 => nextWord (sched b n) :: sched b n
theorem sched_len (b : List UInt8) : ∀ n, (sched b n).length = 16 + n
  | 0 => by simp [sched]
  | n + 1 => by simp [sched, sched_len b n]; omega
theorem sched_at (b : List UInt8) : ∀ n i, i < 16 + n → (sched b n).getD i 0 = word b (15 + n - i)
  | 0, i, h => by
    have : (((List.range 16).map (be32 b)).reverse).getD i 0 = be32 b (15 - i) := by
      rw [List.getD, List.getElem?_reverse (by simpa using h)]
      simp [show 16 - 1 - i < 16 by omega]
    simp only [sched, this, Nat.add_zero]
    rw [word_first (by omega)]
  | n + 1, 0, h => by
    have ih := sched_at b n
    simp only [sched, List.getD_cons_zero, nextWord]
    rw [ih 1 (by omega), ih 6 (by omega), ih 14 (by omega), ih 15 (by omega), word_next (t := 15 + (n + 1) - 0) (by omega)]
    rw [show 15 + (n + 1) - 0 - 2 = 15 + n - 1 by omega, show 15 + (n + 1) - 0 - 7 = 15 + n - 6 by omega, show 15 + (n + 1) - 0 - 15 = 15 + n - 14 by omega, show 15 + (n + 1) - 0 - 16 = 15 + n - 15 by omega]
  | n + 1, i + 1, h => by
    simp only [sched, List.getD_cons_succ]
    rw [sched_at b n i (by omega)]
    congr 1
    omega
/-- t rounds by a list of words, the oldest first -/
def runs (ws : List Nat) : Nat → Nat → Eight → Eight
  | _, 0, v => v
  | t, n + 1, v => runs ws (t + 1) n (v.next (kAt t) (ws.getD t 0))
theorem runs_eq (b : List UInt8) (ws : List Nat) (h : ∀ t, t < 64 → ws.getD t 0 = word b t) : ∀ n t v, t + n ≤ 64 → runs ws t n (roundsOf b v t) = roundsOf b v (t + n)
  | 0, _, _, _ => rfl
  | n + 1, t, v, hle => by
    rw [runs, h t (by omega)]
    have := runs_eq b ws h n (t + 1) v (by omega)
    rw [roundsOf] at this
    rw [this, show t + 1 + n = t + (n + 1) by omega]
theorem block_fast (v : Eight) (b : List UInt8) : shaBlock v b = v.add (runs (sched b 48).reverse 0 64 v) := by
  have h : ∀ t, t < 64 → (sched b 48).reverse.getD t 0 = word b t := fun t ht => by
    rw [List.getD, List.getElem?_reverse (by rw [sched_len]; omega), sched_len]
    have := sched_at b 48 (16 + 48 - 1 - t) (by omega)
    rw [List.getD] at this
    rw [this]
    congr 1
    omega
  rw [shaBlock, ← runs_eq b _ h 64 0 v (by omega)]
  rfl
theorem sha_short (s : List UInt8) (h : s.length < 56) : sha s = (eight0.add (runs (sched (filledUp s) 48).reverse 0 64 eight0)).list.flatMap (fun x => bigEnd x 4) := by
  have hl : (filledUp s).length = 64 := by
    simp only [filledUp, List.length_append, List.length_cons, List.length_replicate, bigEnd_len, noughts]
    omega
  rw [sha, shaBlocks, dif_neg (by omega), List.take_of_length_le (by omega), shaBlocks, dif_pos (by simp; omega), block_fast]
set_option maxRecDepth 100000 in
theorem sha_one : (sha [49]).take 2 = [107, 134] := by
  rw [sha_short _ (by decide)]
  decide +kernel
set_option maxRecDepth 100000 in
theorem sha_two : (sha [50]).take 2 = [212, 115] := by
  rw [sha_short _ (by decide)]
  decide +kernel
end Go.Proofs.YtmflbchiapdhbaaDoor
