/-
  The laws on spans: numbered.
-/
import Derived.Test.YtgikabafaocemaaDoorSpLawW
namespace Go.Proofs.YtgikabafaocemaaDoor
open Go.RowKit

/-- a list of numbers, whatever they are -/
def NumbersAt (w : World) (v : Value) (n : Nat) : Prop :=
  ∃ ao cap, v = .slice ao n cap ∧ ∀ k, k < n → ∃ bb off z, ao = some ⟨bb, off, none⟩ ∧ bb < w.heap.size ∧ w.cell? ⟨bb, off + k, none⟩ = some (.int .i64 z)
def NumberedOut (w : World) (M : Nat) (x : Ending) (w' : World) : Prop :=
  ∃ v l, x = .returned v ∧ l.length = M ∧ all32P l ∧ OwnTexts w.heap.size w' v l ∧ Fresh w w'

set_option maxRecDepth 100000 in
set_option maxHeartbeats 4000000 in
theorem numbered_any (v : Value) (n most : Nat) (w : World) (hv : NumbersAt w v n) (hmost : most ≤ 1000) :
    Calls Tryd.prog 9 #[v, .int .i64 (most : Int)] w (NumberedOut w (min n most)) := by
  obtain ⟨ao, cap, rfl, hk⟩ := hv
  obtain ⟨i0, hi, hz0, hz1, hz2⟩ := info_parts Tryd.infoText
  have HK := hid hk
  have hmi : (most : Int) ≤ 1000 := by omega
  clear hk
  go_enter Tryd.func9, Tryd.ntmps9
  go_wp2_with fail
  go_loopw [5, 6] (fun v i wr => ∃ (j : Nat) (Y : List (List UInt8)), i = .int .i64 (j : Int) ∧ j ≤ n ∧ j ≤ most ∧ Y.length = j ∧ all32P Y ∧ wr.ownsRow 0 9 1 v Y.length (texts Y) ∧ (∀ g, v.ownBlock = some g → w.heap.size ≤ g) ∧ Fresh w wr) (fun _ i _ => most - (intOf i).toNat)
  case atStart => exact ⟨0, [], rfl, Nat.zero_le _, Nat.zero_le _, rfl, (fun _ h => nomatch h), World.ownsRow_nil _ _ _ _, (fun g hg => by simp [Value.ownBlock] at hg), Keeps.refl _ _⟩
  case round =>
    obtain ⟨j, Y, rfl, hjn, hj, hY, hYa, hrow, ok, f4⟩ := hrel
    by_cases hjm : j < n ∧ j < most
    · obtain ⟨bb, off, z, rfl, hbb, hcw⟩ := HK.out j hjm.1
      have hcell := (f4.cell (p := ⟨bb, off + j, none⟩) hbb (fun h => h)).trans hcw
      have hji : (j : Int) < (most : Int) := by omega
      have hji2 : (j : Int) < (n : Int) := by omega
      obtain ⟨aoY, cpY, erv⟩ := ownsRow_slice hrow
      have HJM := hid hjm
      have HROW := hid hrow
      have HYA := hid hYa
      have HY := hid hY
      have HO := hid ok
      have HLEN := hid (show Y.length + 1 ≤ 1001 by omega)
      subst erv
      clear hjm hj hjn hY hYa hrow ok hcw
      go_wp2_with fail
      refine (leaf_some _ _).mono ?_
      rintro x w5 ⟨sf, rfl, hsl, f5⟩
      have f45 := f4.trans f5
      have hrow5 := ownsRow_keeps HROW.out f5 (fun _ _ h => h)
      have fal := (Keeps.refl (fun _ => False) w5).alloc (.cells #[.string (str sf)] 9)
      have hlb := heap_alloc_new w5 (.cells #[.string (str sf)] 9)
      have hAt : TextsAt (w5.alloc (.cells #[.string (str sf)] 9)) (.slice (some ⟨w5.heap.size, 0, none⟩) 1 1) [sf] := ⟨_, 1, rfl, fun k s hs => by
        match k, hs with
        | 0, hs => simp at hs; subst hs; exact ⟨_, 0, rfl, lt_of_block hlb, cell_at hlb 0⟩
        | (k + 1), hs => simp at hs⟩
      have hsrc : Src Tryd.prog 1 26 (.slice (some ⟨w5.heap.size, 0, none⟩) 1 1) 1 (texts [sf]) (w5.alloc (.cells #[.string (str sf)] 9)) := Src.ofTexts (P := Tryd.prog) Tryd.underlying26 hAt
      have hrow6 := ownsRow_keeps hrow5 fal (fun _ _ h => h)
      clear hlb hrow5 hAt
      go_wp2_with (at_builtin; refine wpList_append_src rfl (.tmp 18) (.tmp 24) 26 26 rfl 9 i0 (.string ⟨#[]⟩) 1 16 Tryd.underlying26 hi hz0 hz1 hz2 rfl (by decide) hrow6 _ 1 (texts [sf]) (by rfl) (by rfl) hsrc (by have := HLEN.out; unfold maxLen; omega) (by have := HLEN.out; omega) ?_)
      intro v6 w6 ha
      replace ha : Appended 9 1 (w5.alloc (.cells #[.string (str sf)] 9)) w6 (.slice aoY Y.length cpY) v6 (Y.length + 1) (texts Y ++ texts [sf]) := ha
      have f6 : Fresh w w6 := (f45.trans fal).trans' ha.keeps (fun q hq e => by have := HO.out q e; omega)
      have o6 : ∀ g, v6.ownBlock = some g → w.heap.size ≤ g := fun g hg => by
        rcases ha.own g hg with z | z
        · exact HO.out g z
        · have := (f45.trans fal).size; omega
      have hrow7 : w6.ownsRow 0 9 1 v6 (Y ++ [sf]).length (texts (Y ++ [sf])) := by
        rw [texts_snoc, List.length_append]
        exact ha.row
      obtain ⟨ao6, cp6, rfl⟩ := ownsRow_slice ha.row
      have hYn : all32P (Y ++ [sf]) := fun z hz => by
        rcases List.mem_append.1 hz with hz | hz
        · exact HYA.out z hz
        · rw [List.mem_singleton.1 hz]; exact hsl
      clear ha hsrc hrow6 fal
      go_wp2_with fail
      go_roundw
      case rel => exact ⟨j + 1, Y ++ [sf], by simp, HJM.out.1, HJM.out.2, by rw [List.length_append, HY.out]; rfl, hYn, hrow7, o6, f6⟩
      case measure => have := HJM.out; simp [intOf]; omega
    · have hmin : Y.length = min n most := by omega
      have HMIN := hid hmin
      have HROW := hid hrow
      have HYA := hid hYa
      have HO := hid ok
      obtain ⟨aoY, cpY, erv⟩ := ownsRow_slice hrow
      subst erv
      by_cases hjn2 : j < n
      · have q1 : (j : Int) < (n : Int) := by omega
        have q2 : ¬ (j : Int) < (most : Int) := by omega
        clear hjm hj hjn hY hYa hrow ok hmin hjn2
        go_wp2_with fail
        go_ret
        exact ⟨_, Y, rfl, HMIN.out, HYA.out, ⟨HROW.out, HO.out⟩, f4⟩
      · have q1 : ¬ (j : Int) < (n : Int) := by omega
        clear hjm hj hjn hY hYa hrow ok hmin hjn2
        go_wp2_with fail
        go_ret
        exact ⟨_, Y, rfl, HMIN.out, HYA.out, ⟨HROW.out, HO.out⟩, f4⟩
end Go.Proofs.YtgikabafaocemaaDoor
