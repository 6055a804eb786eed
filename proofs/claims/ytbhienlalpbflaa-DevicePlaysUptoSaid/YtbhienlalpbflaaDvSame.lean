/-
  The law's own look: are two lists the same?
-/
import Derived.Test.YtbhienlalpbflaaMDvA
namespace Go.Proofs.Ytbhienlalpbflaa
open Go.RowKit

set_option maxRecDepth 100000 in
set_option maxHeartbeats 1000000 in
theorem sameTexts_any (v1 v2 : Value) (l1 l2 : List (List UInt8)) (w : World) (h1 : TextsAt w v1 l1) (h2 : TextsAt w v2 l2) (_hb1 : l1.length ≤ 9223372036854775807) (hb2 : l2.length ≤ 9223372036854775807) :
    Calls Try.prog 15 #[v1, v2] w fun e w' => e = .returned (.bool (decide (l1 = l2))) ∧ Fresh w w' := by
  obtain ⟨ao1, cap1, rfl, hc1⟩ := h1
  obtain ⟨ao2, cap2, rfl, hc2⟩ := h2
  have HC1 := hid hc1
  have HC2 := hid hc2
  clear hc1 hc2
  by_cases hlen : l1.length = l2.length
  · have HLEN := hid hlen
    rw [hlen]
    have hne : ((l2.length : Int) != (l2.length : Int)) = false := by simp
    clear hlen _hb1
    go_enter Try.func15, Try.ntmps15
    go_wp2_with fail
    clear hne
    go_loopw [5] (fun i wr => ∃ (n : Nat), i = .int .i64 (n : Int) ∧ n ≤ l2.length ∧ Hid (decide (l1 = l2) = decide (l1.drop n = l2.drop n)) ∧ Fresh w wr) (fun i _ => l2.length - (intOf i).toNat)
    case atStart => exact ⟨0, rfl, by omega, rfl, Keeps.refl _ _⟩
    case round =>
      obtain ⟨n, rfl, hn, HE, fr⟩ := hrel
      by_cases hlt : n < l2.length
      · obtain ⟨s1, hs1⟩ : ∃ s, l1[n]? = some s := ⟨l1[n]'(by rw [HLEN.out]; exact hlt), by simp⟩
        obtain ⟨s2, hs2⟩ : ∃ s, l2[n]? = some s := ⟨l2[n], by simp⟩
        obtain ⟨bb1, off1, hao1, hbb1, hcell1⟩ := HC1.out n s1 hs1
        obtain ⟨bb2, off2, hao2, hbb2, hcell2⟩ := HC2.out n s2 hs2
        have hcell1 := (fr.cell (p := ⟨bb1, off1 + n, none⟩) hbb1 (fun h => h)).trans hcell1
        have hcell2 := (fr.cell (p := ⟨bb2, off2 + n, none⟩) hbb2 (fun h => h)).trans hcell2
        have hE := HE.out
        rw [drop_cons hs1, drop_cons hs2] at hE
        subst hao1 hao2
        clear hs1 hs2 HE
        by_cases hss : s1 = s2
        · have hq : ((str s1).toList == (str s2).toList) = true := by rw [hss]; simp
          have hE2 : Hid (decide (l1 = l2) = decide (l1.drop (n + 1) = l2.drop (n + 1))) := by rw [Hid, hE, hss]; simp
          clear hE hss
          go_wp2_with fail
          go_quiet (fail)
          go_wp2_with fail
          go_roundw
          case rel => exact ⟨n + 1, by go_num, by omega, hE2, fr.drewN _⟩
          case measure => simp [intOf]; omega
        · have hq : ((str s1).toList == (str s2).toList) = false := by rw [str_toList, str_toList]; simp [hss]
          have hE2 : Hid (decide (l1 = l2) = false) := by rw [Hid, hE]; simp [hss]
          clear hE hss
          go_wp2_with fail
          go_quiet (fail)
          go_wp2_with fail
          go_ret
          exact ⟨by rw [hE2.out]; rfl, fr.drewN _⟩
      · have hE2 : Hid (decide (l1 = l2) = true) := by
          have e1 := HLEN.out
          have d1 : l1.drop n = [] := List.drop_eq_nil_of_le (by omega)
          have d2 : l2.drop n = [] := List.drop_eq_nil_of_le (by omega)
          rw [Hid, HE.out, d1, d2]; simp
        clear HE
        go_wp2
        go_ret
        exact ⟨by rw [hE2.out]; rfl, fr⟩
  · have hF : Hid (decide (l1 = l2) = false) := by rw [Hid, decide_eq_false_iff_not]; exact fun h => hlen (by rw [h])
    have hne : ((l1.length : Int) != (l2.length : Int)) = true := by rw [bne_iff_ne]; omega
    clear hlen
    go_enter Try.func15, Try.ntmps15
    go_wp2
    go_ret
    exact ⟨by rw [hF.out]; rfl, Keeps.refl _ _⟩

end Go.Proofs.Ytbhienlalpbflaa
