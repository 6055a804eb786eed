/-
  The laws on spans: a tree of leaves is planted.
-/
import Derived.Test.YtgikabafaocemaaDoorMSpD
import Derived.Test.YtgikabafaocemaaDoorTlRoot
namespace Go.Proofs.YtgikabafaocemaaDoor
open Go.RowKit Go.Maps

/-- a tree that was made since, and has these leaves -/
def Planted (w w' : World) (tb : Nat) (l : List (List UInt8)) : Prop := ∃ h S, TileTree S w' tb h l ∧ ∀ q, S q → w.heap.size ≤ q

set_option maxRecDepth 100000 in
set_option maxHeartbeats 4000000 in
theorem planted_any (v : Value) (l : List (List UInt8)) (height : Int) (w : World) (hl : TextsAt w v l) (h32 : all32P l) (hn : l.length ≤ 1000000) (hh1 : -9223372036854775808 ≤ height) (hh2 : height ≤ 9223372036854775807) (hN : Nums w) :
    Calls Tryd.prog 10 #[v, .int .i64 height] w fun x w' => ∃ tb, x = .returned (.pointer (some ⟨tb, 0, none⟩)) ∧ Planted w w' tb l ∧ Fresh w w' := by
  obtain ⟨hp1, hp2⟩ := pickN_in height 8 (by omega)
  have hpk := fun W => pick_any height 8 W (by omega) (by omega) hh1 hh2
  obtain ⟨r, hr⟩ : ∃ r : Nat, pickN height 8 = (r : Int) := ⟨(pickN height 8).toNat, by omega⟩
  rw [hr] at hp1 hp2 hpk
  have hnew := fun W q => tlnew_any (r + 1) (by omega) (by omega) W q
  rw [show ((r + 1 : Nat) : Int) = 1 + (r : Int) from by omega] at hnew
  obtain ⟨ao, cap, rfl, hk⟩ := hl
  have HPK := hid hpk
  have HNEW := hid hnew
  have HK := hid hk
  have HLN := hid hn
  have h7 : (r : Int) ≤ 7 := by omega
  have hli : (l.length : Int) ≤ 1000000 := by omega
  clear hpk hnew hk hn hp1 hp2 hr hh1 hh2
  go_enter Tryd.func10, Tryd.ntmps10
  go_wp2_with fail
  refine (HPK.out w).mono ?_
  rintro x w1 ⟨rfl, rfl⟩
  go_wp2_with fail
  refine (HNEW.out w hN.dig.room).mono ?_
  rintro x w2 ⟨tb, rfl, T2, f2⟩
  have hq1 : ∀ W, (binOp .eql 28 (.pointer (some ⟨tb, 0, none⟩)) (.pointer none)).run Tryd.prog W = .ok (.bool false) W := fun W => by kernel_rfl
  go_wp2_with fail
  have N2 := hN.fresh f2
  go_loopw [7] (fun i wr => ∃ (k : Nat) (Sk : Nat → Prop), i = .int .i64 (k : Int) ∧ k ≤ l.length ∧ TileTree Sk wr tb (r + 1) (l.take k) ∧ (∀ q, Sk q → w.heap.size ≤ q) ∧ Fresh w wr ∧ Nums wr) (fun i _ => l.length - (intOf i).toNat)
  case atStart => exact ⟨0, fun q => w.heap.size ≤ q ∧ q < w2.heap.size, rfl, Nat.zero_le _, by rw [List.take_zero]; exact T2, fun q hq => hq.1, f2, N2⟩
  case round =>
    obtain ⟨k, Sk, rfl, hk, Tk, hSk, fr, Nk⟩ := hrel
    by_cases hlt : k < l.length
    · obtain ⟨s, hs⟩ : ∃ s, l[k]? = some s := ⟨l[k], by simp⟩
      obtain ⟨bb, off, rfl, hbb, hcw⟩ := HK.out k s hs
      have hcell := (fr.cell (p := ⟨bb, off + k, none⟩) hbb (fun h => h)).trans hcw
      have htk : l.take (k + 1) = l.take k ++ [s] := by rw [List.take_add_one, hs]; rfl
      have hadd := add_any Sk tb (r + 1) (l.take k) s wr Tk (h32 s (List.mem_of_getElem? hs)) (by rw [List.length_take]; have := HLN.out; omega) Nk
      rw [← htk] at hadd
      have HADD := hid hadd
      have HLT := hid hlt
      have HTK := hid Tk.lives
      have hki : (k : Int) ≤ 1000000 := by have := HLN.out; omega
      have hlti : (k : Int) < (l.length : Int) := by omega
      clear hadd hlt hs hcw htk hk Tk T2
      go_wp2_with fail
      refine HADD.out.mono ?_
      rintro x w5 ⟨rfl, S5, g5, k5, T5⟩
      have N5 := Nk.keeps k5 (fun q hq => (HTK.out q hq).1)
      have f5 : Fresh w w5 := fr.trans' k5 (fun q hq h => by have := hSk q h; omega)
      have s5 : ∀ q, S5 q → w.heap.size ≤ q := fun q hq => by
        rcases g5 q hq with z | z
        · exact hSk q z
        · have := fr.size; omega
      have HT5 := hid T5
      clear T5 k5 g5
      go_wp2_with fail
      go_roundw
      case rel => exact ⟨k + 1, S5, by simp, HLT.out, HT5.out, s5, f5, N5⟩
      case measure => have := HLT.out; simp [intOf]; omega
    · have hkl : k = l.length := by omega
      have hnlt : ¬ (k : Int) < (l.length : Int) := by omega
      rw [hkl, List.take_length] at Tk
      have HT := hid Tk
      clear Tk hkl hlt hk T2
      go_wp2_with fail
      go_ret
      exact ⟨tb, rfl, ⟨r + 1, Sk, HT.out, hSk⟩, fr⟩
end Go.Proofs.YtgikabafaocemaaDoor
