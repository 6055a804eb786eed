/-
  The device: Pages and Pending; the list that comes out is made of own, new cells and cut to its length. Printed by gen_dvown.py.
-/
import Derived.Test.YtbhienlalpbflaaDvPend
import Derived.Test.YtbhienlalpbflaaSpHerd
namespace Go.Proofs.Ytbhienlalpbflaa
open Go.RowKit Go.Maps

set_option maxRecDepth 100000 in
set_option maxHeartbeats 1000000 in
theorem pages_own (B : Nat → Prop) (d : Nat) (l : List (List UInt8)) (D : DD) (n : Nat) (dead : Bool) (armed : Int) (w : World) (h : Dev B w d l D n dead armed) (hll : l.length ≤ 4096) :
    Calls Try.prog 16 #[.pointer (some ⟨d, 0, none⟩)] w fun e w' => ∃ v y, e = .returned v ∧ Clip v y ∧ OwnTexts w.heap.size w' y l ∧ Fresh w w' := by
  obtain ⟨pv, mb, h1, h2, -⟩ := h.ex
  have hclone := clone_any pv l w h2.at_ (by omega)
  obtain ⟨ao, cp, rfl⟩ := ownsRow_slice h2.1
  have c0 := cell_at h1 0
  simp at c0
  have HC := hid hclone
  clear h1 h2 h hclone
  go_enter Try.func16, Try.ntmps16
  go_wp2_with fail
  refine HC.out.mono ?_
  rintro e w1 ⟨v1, rfl, hown, f1⟩
  have hcap : ∃ ao1 c1, v1 = .slice ao1 l.length c1 ∧ l.length ≤ c1 ∧ c1 ≤ 9223372036854775807 ∧ (ao1 = none → l.length = 0) := by
    rcases hown.1.2 with ⟨rfl, h0⟩ | ⟨g, cap, cur, rfl, _, _, h2, h3, _, _⟩
    · rw [h0]; exact ⟨none, 0, rfl, by omega, by omega, fun _ => rfl⟩
    · exact ⟨_, cap, rfl, h2, by unfold maxLen at h3; omega, fun e => nomatch e⟩
  obtain ⟨ao1, c1, rfl, k1, k2, k3⟩ := hcap
  have hclip := clip_any ao1 l.length c1 w1 k1 k2 k3
  have HCL := hid hclip
  clear hclip HC
  go_wp2_with fail
  refine HCL.out.mono ?_
  rintro e w2 ⟨rfl, f2⟩
  go_wp2_with fail
  go_ret
  exact ⟨_, _, rfl, ⟨ao1, l.length, l.length, c1, rfl, rfl, .inr rfl⟩, hown.fresh f2, f1.trans f2⟩

set_option maxRecDepth 100000 in
set_option maxHeartbeats 2000000 in
theorem pending_own (B : Nat → Prop) (d : Nat) (l : List (List UInt8)) (D : DD) (n : Nat) (dead : Bool) (armed : Int) (f : Int → Option (List UInt8)) (w : World) (h : Dev B w d l D n dead armed) (hP : Pends D f) (hn : Maps.size D ≤ 4096) (hw : ∀ p ∈ intKeys D, 0 ≤ p ∧ p < 4096) :
    Calls Try.prog 17 #[.pointer (some ⟨d, 0, none⟩)] w fun e w' => ∃ v y, e = .returned v ∧ Clip v y ∧ w'.ownsRow 0 69 2 y (pendList D f).length (writeCells (pendList D f)) ∧ (∀ g, y.ownBlock = some g → w.heap.size ≤ g) ∧ Fresh w w' := by
  obtain ⟨i0, hi, hz0, hz1, hz2⟩ := info_parts Try.infoWrite
  obtain ⟨pv, mb, h1, h2, h3, -⟩ := h.ex
  have c1 := cell_at h1 1
  simp at c1
  have hrise := rising_any d mb n D w c1 h3 (by omega)
  have H3 := hid h3
  have H1 := hid h1
  have HR := hid hrise
  have HW := hid hw
  have HPP := hid hP
  clear h1 h2 h3 h hrise c1 hw hP
  go_enter Try.func17, Try.ntmps17
  go_wp2_with fail
  refine HR.out.mono ?_
  rintro e w1 ⟨v1, ss, rfl, hperm, hrow, -, hbel⟩
  have f1 : Fresh w w1 := (Keeps.of_below hbel).mono fun k hk hk2 => absurd hk (by omega)
  have hsorted : ss.mergeSort (fun x y => decide (x ≤ y)) = (intKeys D).mergeSort (fun x y => decide (x ≤ y)) :=
    List.Perm.eq_of_pairwise (le := fun a b => decide (a ≤ b) = true) (fun a b _ _ p q => by simp only [decide_eq_true_eq] at p q; omega) (List.pairwise_mergeSort (fun a b c p q => by simp only [decide_eq_true_eq] at p q ⊢; omega) (fun a b => by simp; omega) ss) (List.pairwise_mergeSort (fun a b c p q => by simp only [decide_eq_true_eq] at p q ⊢; omega) (fun a b => by simp; omega) _) (((List.mergeSort_perm ss _).trans hperm).trans (List.mergeSort_perm _ _).symm)
  obtain ⟨L, hL⟩ : ∃ L, (intKeys D).mergeSort (fun x y => decide (x ≤ y)) = L := ⟨_, rfl⟩
  have hlen : ss.length = L.length := by rw [← hL, List.length_mergeSort, hperm.length_eq]
  have hmem : ∀ p ∈ L, 0 ≤ p ∧ p < 4096 := fun p hp => HW.out p (by rw [← hL] at hp; exact (List.mergeSort_perm _ _).mem_iff.1 hp)
  have hLn : L.length ≤ 4096 := by
    rw [← hL, List.length_mergeSort]
    obtain ⟨es, clock, hb, F, hs, rfl⟩ := H3.out
    simpa [Maps.size, intKeys] using hn
  rw [hsorted, hL, hlen] at hrow
  have hpl : pendList D f = L.map fun p => (p, (f p).getD []) := by rw [pendList, hL]
  obtain ⟨WL, hWL⟩ : ∃ WL, (L.map fun p => (p, (f p).getD [])) = WL := ⟨_, rfl⟩
  have hWn : WL.length = L.length := by rw [← hWL, List.length_map]
  have hWat : ∀ k p, L[k]? = some p → WL[k]? = some (p, (f p).getD []) := fun k p h => by rw [← hWL, List.getElem?_map, h]; rfl
  rw [hWL] at hpl
  have HPL := hid hpl
  have HWN := hid hWn
  have HWAT := hid hWat
  obtain ⟨ao1, cp1, rfl, hcells⟩ := ownsRow_at hrow
  have HC := hid hcells
  have HM := hid hmem
  clear hcells hrow hsorted hperm hlen hmem hL hbel HR HW hpl hWL hWn hWat
  go_wp2_with fail
  go_loopw [3, 9] (fun s i wr => ∃ m : Nat, i = .int .i64 (m : Int) ∧ m ≤ L.length ∧ wr.ownsRow 0 69 2 s m (writeCells (WL.take m)) ∧ (∀ g, s.ownBlock = some g → w1.heap.size ≤ g) ∧ Fresh w1 wr) (fun _ i _ => L.length - (intOf i).toNat)
  case atStart => exact ⟨0, rfl, by omega, World.ownsRow_nil _ _ _ _, (fun _ h => nomatch h), Keeps.refl _ _⟩
  case round =>
    obtain ⟨m, rfl, hm, hrow, hnew, fr⟩ := hrel
    by_cases hlt : m < L.length
    · obtain ⟨p, hp⟩ : ∃ p, L[m]? = some p := ⟨L[m], by simp⟩
      obtain ⟨hp0, hp1⟩ := HM.out p (List.mem_of_getElem? hp)
      obtain ⟨bb, rfl, hbb, hcell⟩ := HC.out m (.int .i64 p) (by rw [List.getElem?_map, hp]; rfl)
      have hcell := (fr.cell (p := ⟨bb, m, none⟩) hbb (fun h => h)).trans hcell
      have fw := f1.trans fr
      have D1 := cell_at (fw.at_ H1.out (fun h => h)) 1
      simp at D1
      have hlook := look_text (map_keeps H3.out fw (fun h => h)) HPP.out p (WalkArith.wf_i64 (by omega))
      obtain ⟨so, scap, rfl⟩ := ownsRow_slice hrow
      have htk : WL.take (m + 1) = WL.take m ++ [(p, (f p).getD [])] := by
        rw [List.take_add_one, HWAT.out m p hp]; rfl
      have HTK := hid htk
      clear htk hp
      go_wp2_with (at_builtin; refine wpList_push2 rfl (.tmp 13) (.tmp 22) 38 rfl 69 i0 (.agg #[.int .i64 0, .string ⟨#[]⟩]) 24 Try.underlying38 hi hz0 hz1 hz2 rfl wr hrow _ _ (by rfl) (by rfl) rfl rfl (by omega) (by unfold maxLen; omega) ?_)
      intro v4 w4 ha
      obtain ⟨ao4, cp4, rfl⟩ := ownsRow_slice ha.row
      have f4 : Fresh w1 w4 := fr.trans' ha.keeps fun i hi h => by have := hnew i h; omega
      have hrow4 := ha.row
      have hown4 : ∀ g, (Value.slice ao4 (m + 1) cp4).ownBlock = some g → w1.heap.size ≤ g := fun g hg => by
        rcases ha.own g hg with h | h
        · exact hnew g h
        · have := fr.size; omega
      have hrow5 : w4.ownsRow 0 69 2 (.slice ao4 (m + 1) cp4) (m + 1) (writeCells (WL.take (m + 1))) := by
        rw [HTK.out, writeCells_snoc]; exact hrow4
      clear ha hrow4 hrow hnew hlook D1 hcell
      go_wp2
      go_roundw
      case rel => exact ⟨m + 1, by go_num, by omega, hrow5, hown4, f4⟩
      case measure => simp [intOf]; omega
    · obtain rfl : m = L.length := by omega
      rw [← HWN.out, List.take_length, HWN.out] at hrow
      obtain ⟨so, scap, rfl⟩ := ownsRow_slice hrow
      have hcap : L.length ≤ scap ∧ (so = none → L.length = 0) := by
        rcases hrow.2 with ⟨he, h0⟩ | ⟨g, cap, cur, he, _, _, h2, h3, _, _⟩
        · simp only [Value.slice.injEq] at he
          exact ⟨by omega, fun _ => h0⟩
        · simp only [Value.slice.injEq] at he
          refine ⟨by omega, fun e => ?_⟩
          rw [e] at he
          cases he.1
      obtain ⟨k1, k3⟩ := hcap
      have hclip := clipw_any so L.length scap wr k1 k3
      have HCL := hid hclip
      clear hclip
      go_wp2_with fail
      refine HCL.out.mono ?_
      rintro e w2 ⟨rfl, f2⟩
      go_wp2_with fail
      go_ret
      refine ⟨_, .slice so L.length scap, rfl, ⟨so, L.length, L.length, scap, rfl, rfl, .inr rfl⟩, ?_, fun g hg => ?_, (f1.trans fr).trans f2⟩
      · rw [HPL.out, HWN.out]
        exact ownsRow_keeps hrow f2 fun _ _ h => h
      · have := hnew g hg
        have := f1.size
        omega
end Go.Proofs.Ytbhienlalpbflaa
