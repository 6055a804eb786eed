/-
  Package frontier: the subtrees of a span; they get their hashes.
-/
import Derived.Test.YtgikabafaocemaaDoorRnFront
import Derived.Test.YtgikabafaocemaaDoorMTlB
namespace Go.Proofs.YtgikabafaocemaaDoor
open Go.RowKit

theorem lenN_pos' {n : Nat} (h : 1 ≤ n) : lenN n = Nat.log2 n + 1 := by unfold lenN; rw [if_neg (by omega)]
theorem lev_zero {x : Nat} (h : 0 < x) : Lev 0 x (Nat.log2 x) := by
  have h1 := Nat.log2_self_le (n := x) (by omega)
  have h2 := Nat.lt_log2_self (n := x)
  exact ⟨Nat.zero_mod _, by omega, fun z => by have := z.2; omega⟩
theorem odd_mod (t m : Nat) : (2 ^ t * (2 * m + 1)) % 2 ^ t = 0 ∧ ¬ (2 ^ t * (2 * m + 1)) % 2 ^ (t + 1) = 0 := by
  have h0 := pow_pos2 t
  refine ⟨Nat.mul_mod_right _ _, fun h => ?_⟩
  have := div_even h
  rw [Nat.mul_div_cancel_left _ h0] at this
  omega
theorem lev_min {t m x : Nat} (h : 2 ^ t * (2 * m + 1) < x) : Lev (2 ^ t * (2 * m + 1)) x (min (Nat.log2 (x - 2 ^ t * (2 * m + 1))) t) := by
  obtain ⟨o1, o2⟩ := odd_mod t m
  have h1 := Nat.log2_self_le (n := x - 2 ^ t * (2 * m + 1)) (by omega)
  have h2 := Nat.lt_log2_self (n := x - 2 ^ t * (2 * m + 1))
  generalize 2 ^ t * (2 * m + 1) = s at *
  generalize Nat.log2 (x - s) = L at *
  have h3 := pow_mono2 (Nat.min_le_left L t)
  refine ⟨mod_pow_le o1 (Nat.min_le_right _ _), by omega, fun z => ?_⟩
  by_cases hle : L ≤ t
  · rw [Nat.min_eq_left hle] at z
    have := z.2
    omega
  · rw [Nat.min_eq_right (by omega)] at z
    exact o2 z.1

set_option maxRecDepth 100000 in
set_option maxHeartbeats 1000000 in
theorem fend_any (b k : Nat) (s : ByteArray) (w : World) (h : b + 2 ^ k ≤ 1099511627776) :
    Calls Tryd.prog 133 #[.agg #[.int .i64 (b : Int), .int .i64 (k : Int), .string s]] w fun x w' => x = .returned (.int .i64 ((b + 2 ^ k : Nat) : Int)) ∧ Fresh w w' := by
  have hk : k ≤ 40 := pow_le_of40 (by omega)
  have f0 : Fresh w (w.alloc (.cells #[.int .i64 (b : Int), .int .i64 (k : Int), .string s] 126)) := (Keeps.refl _ _).alloc _
  obtain ⟨P, hP⟩ : ∃ P, 2 ^ k = P := ⟨_, rfl⟩
  have hPi : (2 : Int) ^ k = (P : Int) := by rw [← hP]; simp
  have hp0 := pow_pos2 k
  rw [hP] at h hp0 ⊢
  have hPb : (P : Int) ≤ 1099511627776 := by omega
  have hPb0 : (0 : Int) ≤ (P : Int) := by omega
  have hbb : (b : Int) ≤ 1099511627776 := by omega
  have hki : (k : Int) ≤ 40 := by omega
  have hw1 : IntKind.i64.wrap (P : Int) = (P : Int) := IntWalk.i64_in _ (by omega)
  have hw2 : IntKind.i64.wrap ((b : Int) + (P : Int)) = ((b + P : Nat) : Int) := by rw [IntWalk.i64_in _ (by omega)]; omega
  clear hP h hp0 hk
  go_enter Tryd.func133, Tryd.ntmps133
  go_wp2_with fail
  go_quiet (fail)
  go_wp2_with fail
  go_ret
  exact ⟨by rw [Int.natCast_add]; rfl, f0.drewN _⟩

/-- a row whose hashes are not there yet -/
def bare : Nat × Nat → List UInt8 := fun _ => []
/-- a row of its own -/
def OwnPieces (B : Nat) (V : Nat × Nat → List UInt8) (w : World) (v : Value) (l : List (Nat × Nat)) : Prop :=
  w.ownsRow 0 126 3 v l.length (pcells V l) ∧ ∀ g, v.ownBlock = some g → B ≤ g

set_option maxRecDepth 100000 in
set_option maxHeartbeats 4000000 in
theorem fcut_any (s x : Nat) (w : World) (hsx : s ≤ x) (hx : x ≤ 1099511627776) (hdb : DbLaid w) :
    Calls Tryd.prog 124 #[.int .i64 (s : Int), .int .i64 (x : Int)] w fun e w' => ∃ v l, e = .returned v ∧ Cut s x l ∧ OwnPieces w.heap.size bare w' v l ∧ Fresh w w' := by
  obtain ⟨i0, hi, hz0, hz1, hz2⟩ := info_parts Tryd.infoPiece
  have HDB := hid hdb
  have hxb : (x : Int) ≤ 1099511627776 := by omega
  have HSX := hid hsx
  clear hdb hsx
  go_enter Tryd.func124, Tryd.ntmps124
  go_wp2_with fail
  go_loopw [0, 5] (fun a u wr => ∃ (at_ : Nat) (out : List (Nat × Nat)), a = .int .i64 (at_ : Int) ∧ s ≤ at_ ∧ at_ ≤ x ∧ CutTo s at_ x out ∧ out.length ≤ at_ - s ∧ wr.ownsRow 0 126 3 u out.length (pcells bare out) ∧ (∀ g, u.ownBlock = some g → w.heap.size ≤ g) ∧ Fresh w wr) (fun a _ _ => x - (intOf a).toNat)
  case atStart => exact ⟨s, [], rfl, Nat.le_refl _, HSX.out, CutTo.start s x, by simp, ⟨rfl, .inl ⟨rfl, rfl⟩⟩, (fun g hg => by simp [Value.ownBlock] at hg), Keeps.refl _ _⟩
  case round =>
    obtain ⟨at_, out, rfl, hsa, hax, hct, hol, hrow, hown, f⟩ := hrel
    have HCT := hid hct
    have HOL := hid hol
    have HO := hid hown
    obtain ⟨aou, cpu, rfl⟩ := ownsRow_slice hrow
    have HROW := hid hrow
    have hab : (at_ : Int) ≤ 1099511627776 := by omega
    by_cases hlt : at_ < x
    · have hlti : (at_ : Int) < (x : Int) := by omega
      have hlen := fun W => len_any (x - at_) W (by omega)
      rw [lenN_pos' (show 1 ≤ x - at_ by omega), show ((x - at_ : Nat) : Int) = (x : Int) - (at_ : Int) by omega] at hlen
      have hlo : Nat.log2 (x - at_) ≤ 40 := pow_le_of40 (Nat.le_trans (Nat.log2_self_le (by omega)) (by omega))
      have hlevz := fun (h : at_ = 0) => (by subst h; exact lev_zero (x := x) hlt : Lev at_ x (Nat.log2 (x - 0)))
      have hlevm := fun t m (h : at_ = 2 ^ t * (2 * m + 1)) => (by subst h; exact lev_min hlt : Lev at_ x (min (Nat.log2 (x - at_)) t))
      have hpos : 0 < at_ → ∃ t m, at_ = 2 ^ t * (2 * m + 1) := odd_part at_
      obtain ⟨L, hL⟩ : ∃ L, Nat.log2 (x - at_) = L := ⟨_, rfl⟩
      rw [hL] at hlen hlo
      simp only [hL] at hlevm
      have hLb : (L : Int) ≤ 40 := by omega
      have HLEN := hid hlen
      have HSA := hid hsa
      clear hlen hrow hown hct hol
      by_cases h0 : at_ = 0
      · have hlv : Lev at_ x L := by
          have := hlevz h0
          rw [← hL, h0]
          rw [h0] at this
          exact this
        have hnp : ¬ (0 : Int) < (at_ : Int) := by omega
        have HLV := hid hlv
        clear hlevz hlevm hpos hL hlo hlv h0 hlt hsa hax
        go_wp2_with fail
        refine (HLEN.out _).mono ?_
        rintro e w1 ⟨rfl, f1⟩
        have fp := (Keeps.refl (fun _ => False) w1).alloc (.cells #[.int .i64 (at_ : Int), .int .i64 (L : Int), .string ⟨#[]⟩] 126)
        have hrW := ownsRow_keeps HROW.out ((f1).trans fp) (fun _ _ h => h)
        have hzb := heap_alloc_new w1 (.cells #[.int .i64 (at_ : Int), .int .i64 (L : Int), .string ⟨#[]⟩] 126)
        go_wp2_with (at_builtin; refine wpList_pushN rfl (.tmp 27) (.tmp 29) 121 rfl 126 i0 (.agg #[.int .i64 0, .int .i64 0, .string ⟨#[]⟩]) 3 32 Tryd.underlying121 hi hz0 hz1 hz2 rfl (by decide) (w1.alloc (.cells #[.int .i64 (at_ : Int), .int .i64 (L : Int), .string ⟨#[]⟩] 126)) hrW #[.int .i64 (at_ : Int), .int .i64 (L : Int), .string ⟨#[]⟩] rfl (by rfl) (by simp only [World.size_alloc]; rfl) (pcells_cell bare [(at_, L)]) (by have := HOL.out; omega) (by have := HOL.out; unfold maxLen; omega) ?_)
        intro v5 w5 ha
        replace ha : Appended 126 3 (w1.alloc (.cells #[.int .i64 (at_ : Int), .int .i64 (L : Int), .string ⟨#[]⟩] 126)) w5 (.slice aou out.length cpu) v5 (out.length + 1) (pcells bare out ++ pcells bare [(at_, L)]) := ha
        have fWp := (f.trans f1).trans fp
        have hsz : (w1.alloc (.cells #[.int .i64 (at_ : Int), .int .i64 (L : Int), .string ⟨#[]⟩] 126)).heap.size = w1.heap.size + 1 := World.size_alloc _ _
        have hz5 := ha.keeps.at_ hzb (fun e => by have := (HROW.out.lt _ e).2; have := (f1).size; omega)
        have e0 := (cell_at hz5 0).trans (show _ = some (Value.int .i64 (at_ : Int)) from rfl)
        have e1 := (cell_at hz5 1).trans (show _ = some (Value.int .i64 (L : Int)) from rfl)
        have e2 := (cell_at hz5 2).trans (show _ = some (Value.string ⟨#[]⟩) from rfl)
        have el := lt_of_block hz5
        obtain ⟨ao5, cp5, rfl⟩ := ownsRow_slice ha.row
        have hend := fun W => fend_any at_ L ⟨#[]⟩ W (by have := HLV.out.2.1; omega)
        obtain ⟨NA, hNA⟩ : ∃ NA, at_ + 2 ^ L = NA := ⟨_, rfl⟩
        have hna1 : at_ < NA := by have := pow_pos2 L; omega
        have hna2 : NA ≤ x := by have := HLV.out.2.1; omega
        have hct2 := HCT.out.step HLV.out
        rw [hNA] at hend hct2
        have HCT2 := hid hct2
        have HEND := hid hend
        have HR5 := hid ha.row
        have f5 : Fresh w w5 := fWp.trans' ha.keeps (fun q hq e => by have := HO.out q e; omega)
        have o5 : ∀ g, (Value.slice ao5 (out.length + 1) cp5).ownBlock = some g → w.heap.size ≤ g := fun g hg => by
          rcases ha.own g hg with z | z
          · exact HO.out g z
          · have := z.1; have := fWp.size; omega
        clear ha hz5 hend hzb hrW hsz fp hNA hct2
        go_wp2_with fail
        refine (HEND.out _).mono ?_
        rintro e w6 ⟨rfl, f6⟩
        go_wp2_with fail
        go_roundw
        case rel => exact ⟨NA, out ++ [(at_, L)], rfl, by have := HSA.out; omega, hna2, HCT2.out, by rw [List.length_append]; have := HOL.out; have := HSA.out; simp only [List.length_singleton]; omega, by rw [List.length_append, pcells_append]; exact ownsRow_keeps HR5.out f6 (fun _ _ h => h), o5, f5.trans f6⟩
        case measure => simp [intOf]; omega
      · obtain ⟨t, m, htm⟩ := hpos (by omega)
        have hlv := hlevm t m htm
        have htr := fun W (f : Fresh w W) => trail_any t m (by omega) W (HDB.out.fresh f)
        rw [← htm] at htr
        have ht40 : t ≤ 40 := pow_le_of40 (by
          have h1 := Nat.le_mul_of_pos_right (2 ^ t) (show 0 < 2 * m + 1 by omega)
          omega)
        have htb : (t : Int) ≤ 40 := by omega
        have hnp : (0 : Int) < (at_ : Int) := by omega
        have HTR := hid htr
        obtain ⟨K, hK⟩ : ∃ K, min L t = K := ⟨_, rfl⟩
        rw [hK] at hlv
        have HLV := hid (show Lev at_ x K from hlv)
        have hmn : min (L : Int) (t : Int) = (K : Int) := by omega
        clear hlevz hlevm hpos hL hlo hlv h0 hlt hsa hax htr htm ht40 hK
        go_wp2_with fail
        refine (HLEN.out _).mono ?_
        rintro e w1 ⟨rfl, f1⟩
        go_wp2_with fail
        refine (HTR.out _ (f.trans f1)).mono ?_
        rintro e w2 ⟨rfl, f2⟩
        have fp := (Keeps.refl (fun _ => False) w2).alloc (.cells #[.int .i64 (at_ : Int), .int .i64 (K : Int), .string ⟨#[]⟩] 126)
        have hrW := ownsRow_keeps HROW.out (((f1.trans f2)).trans fp) (fun _ _ h => h)
        have hzb := heap_alloc_new w2 (.cells #[.int .i64 (at_ : Int), .int .i64 (K : Int), .string ⟨#[]⟩] 126)
        go_wp2_with (at_builtin; refine wpList_pushN rfl (.tmp 27) (.tmp 29) 121 rfl 126 i0 (.agg #[.int .i64 0, .int .i64 0, .string ⟨#[]⟩]) 3 32 Tryd.underlying121 hi hz0 hz1 hz2 rfl (by decide) (w2.alloc (.cells #[.int .i64 (at_ : Int), .int .i64 (K : Int), .string ⟨#[]⟩] 126)) hrW #[.int .i64 (at_ : Int), .int .i64 (K : Int), .string ⟨#[]⟩] rfl (by rfl) (by simp only [World.size_alloc]; rfl) (pcells_cell bare [(at_, K)]) (by have := HOL.out; omega) (by have := HOL.out; unfold maxLen; omega) ?_)
        intro v5 w5 ha
        replace ha : Appended 126 3 (w2.alloc (.cells #[.int .i64 (at_ : Int), .int .i64 (K : Int), .string ⟨#[]⟩] 126)) w5 (.slice aou out.length cpu) v5 (out.length + 1) (pcells bare out ++ pcells bare [(at_, K)]) := ha
        have fWp := (f.trans (f1.trans f2)).trans fp
        have hsz : (w2.alloc (.cells #[.int .i64 (at_ : Int), .int .i64 (K : Int), .string ⟨#[]⟩] 126)).heap.size = w2.heap.size + 1 := World.size_alloc _ _
        have hz5 := ha.keeps.at_ hzb (fun e => by have := (HROW.out.lt _ e).2; have := ((f1.trans f2)).size; omega)
        have e0 := (cell_at hz5 0).trans (show _ = some (Value.int .i64 (at_ : Int)) from rfl)
        have e1 := (cell_at hz5 1).trans (show _ = some (Value.int .i64 (K : Int)) from rfl)
        have e2 := (cell_at hz5 2).trans (show _ = some (Value.string ⟨#[]⟩) from rfl)
        have el := lt_of_block hz5
        obtain ⟨ao5, cp5, rfl⟩ := ownsRow_slice ha.row
        have hend := fun W => fend_any at_ K ⟨#[]⟩ W (by have := HLV.out.2.1; omega)
        obtain ⟨NA, hNA⟩ : ∃ NA, at_ + 2 ^ K = NA := ⟨_, rfl⟩
        have hna1 : at_ < NA := by have := pow_pos2 K; omega
        have hna2 : NA ≤ x := by have := HLV.out.2.1; omega
        have hct2 := HCT.out.step HLV.out
        rw [hNA] at hend hct2
        have HCT2 := hid hct2
        have HEND := hid hend
        have HR5 := hid ha.row
        have f5 : Fresh w w5 := fWp.trans' ha.keeps (fun q hq e => by have := HO.out q e; omega)
        have o5 : ∀ g, (Value.slice ao5 (out.length + 1) cp5).ownBlock = some g → w.heap.size ≤ g := fun g hg => by
          rcases ha.own g hg with z | z
          · exact HO.out g z
          · have := z.1; have := fWp.size; omega
        clear ha hz5 hend hzb hrW hsz fp hNA hct2
        go_wp2_with fail
        refine (HEND.out _).mono ?_
        rintro e w6 ⟨rfl, f6⟩
        go_wp2_with fail
        go_roundw
        case rel => exact ⟨NA, out ++ [(at_, K)], rfl, by have := HSA.out; omega, hna2, HCT2.out, by rw [List.length_append]; have := HOL.out; have := HSA.out; simp only [List.length_singleton]; omega, by rw [List.length_append, pcells_append]; exact ownsRow_keeps HR5.out f6 (fun _ _ h => h), o5, f5.trans f6⟩
        case measure => simp [intOf]; omega
    · obtain rfl : at_ = x := by omega
      have HC := hid hct.done
      clear hct hol hrow hown hlt
      go_wp2_with fail
      go_ret
      exact ⟨_, out, rfl, HC.out, ⟨HROW.out, HO.out⟩, f⟩
end Go.Proofs.YtgikabafaocemaaDoor
