/-
  The law's own looks at lists: two values of one list are the same.
-/
import Derived.Test.YtpccaodkgboefaaGreatDoorMsWhich
import Derived.BigQuiet
namespace Go.Proofs.YtpccaodkgboefaaGreatDoor
open Go.RowKit

set_option maxRecDepth 100000 in
set_option maxHeartbeats 1000000 in
theorem sameInts_self (v1 v2 : Value) (l : List Int) (w : World) (h1 : ListAt w v1 (ints l)) (h2 : ListAt w v2 (ints l)) (hb : l.length ≤ 9223372036854775807) :
    Calls Tryz.prog 39 #[v1, v2] w fun e w' => e = .returned (.bool true) ∧ Fresh w w' := by
  obtain ⟨ao1, cap1, rfl, hc1⟩ := h1.ints_
  obtain ⟨ao2, cap2, rfl, hc2⟩ := h2.ints_
  have HC1 := hid hc1
  have HC2 := hid hc2
  clear hc1 hc2 h1 h2
  have hne : ((l.length : Int) != (l.length : Int)) = false := by simp
  go_enter Tryz.func39, Tryz.ntmps39
  go_wp2_with fail
  clear hne
  go_loopw [5] (fun i wr => ∃ (n : Nat), i = .int .i64 (n : Int) ∧ n ≤ l.length ∧ Fresh w wr) (fun i _ => l.length - (intOf i).toNat)
  case atStart => exact ⟨0, rfl, by omega, Keeps.refl _ _⟩
  case round =>
    obtain ⟨n, rfl, hn, fr⟩ := hrel
    by_cases hlt : n < l.length
    · obtain ⟨s1, hs1⟩ : ∃ s, l[n]? = some s := ⟨l[n], by simp⟩
      obtain ⟨bb1, off1, hao1, hbb1, hcell1⟩ := HC1.out n s1 hs1
      obtain ⟨bb2, off2, hao2, hbb2, hcell2⟩ := HC2.out n s1 hs1
      have hcell1 := (fr.cell (p := ⟨bb1, off1 + n, none⟩) hbb1 (fun h => h)).trans hcell1
      have hcell2 := (fr.cell (p := ⟨bb2, off2 + n, none⟩) hbb2 (fun h => h)).trans hcell2
      subst hao1 hao2
      clear hs1
      have hq : (s1 != s1) = false := by simp
      go_wp2_with fail
      go_quiet (fail)
      go_wp2_with fail
      go_roundw
      case rel => exact ⟨n + 1, by go_num, by omega, fr.drewN _⟩
      case measure => simp [intOf]; omega
    · go_wp2
      go_ret
      exact ⟨rfl, fr⟩

set_option maxRecDepth 100000 in
set_option maxHeartbeats 1000000 in
theorem sameTexts_self (v1 v2 : Value) (l : List (List UInt8)) (w : World) (h1 : ListAt w v1 (texts l)) (h2 : ListAt w v2 (texts l)) (hb : l.length ≤ 9223372036854775807) :
    Calls Tryz.prog 40 #[v1, v2] w fun e w' => e = .returned (.bool true) ∧ Fresh w w' := by
  obtain ⟨ao1, cap1, rfl, hc1⟩ := h1.texts
  obtain ⟨ao2, cap2, rfl, hc2⟩ := h2.texts
  have HC1 := hid hc1
  have HC2 := hid hc2
  clear hc1 hc2 h1 h2
  have hne : ((l.length : Int) != (l.length : Int)) = false := by simp
  go_enter Tryz.func40, Tryz.ntmps40
  go_wp2_with fail
  clear hne
  go_loopw [5] (fun i wr => ∃ (n : Nat), i = .int .i64 (n : Int) ∧ n ≤ l.length ∧ Fresh w wr) (fun i _ => l.length - (intOf i).toNat)
  case atStart => exact ⟨0, rfl, by omega, Keeps.refl _ _⟩
  case round =>
    obtain ⟨n, rfl, hn, fr⟩ := hrel
    by_cases hlt : n < l.length
    · obtain ⟨s1, hs1⟩ : ∃ s, l[n]? = some s := ⟨l[n], by simp⟩
      obtain ⟨bb1, off1, hao1, hbb1, hcell1⟩ := HC1.out n s1 hs1
      obtain ⟨bb2, off2, hao2, hbb2, hcell2⟩ := HC2.out n s1 hs1
      have hcell1 := (fr.cell (p := ⟨bb1, off1 + n, none⟩) hbb1 (fun h => h)).trans hcell1
      have hcell2 := (fr.cell (p := ⟨bb2, off2 + n, none⟩) hbb2 (fun h => h)).trans hcell2
      subst hao1 hao2
      clear hs1
      have hq : ((str s1).toList == (str s1).toList) = true := by simp
      go_wp2_with fail
      go_quiet (fail)
      go_wp2_with fail
      go_roundw
      case rel => exact ⟨n + 1, by go_num, by omega, fr.drewN _⟩
      case measure => simp [intOf]; omega
    · go_wp2
      go_ret
      exact ⟨rfl, fr⟩
end Go.Proofs.YtpccaodkgboefaaGreatDoor
