/-
  The law's lists: a mark of each; a list is grown by its owner, one by one, and all that it was is kept.
-/
import Derived.Test.YtmflbchiapdhbaaGreatDoorTrSame
import Derived.Test.YtmflbchiapdhbaaGreatDoorMTrA
import Derived.Test.YtmflbchiapdhbaaGreatDoorPack
import Derived.Test.YtmflbchiapdhbaaGreatDoorMShaA
namespace Go.Proofs.YtmflbchiapdhbaaGreatDoor
open Go.RowKit

def markL (n : Nat) : List UInt8 := [109, 97, 114, 107, UInt8.ofNat n, UInt8.ofNat (n / 256)]
def markU (n : Nat) : List Value := [.string (str (markL n))]

set_option maxRecDepth 100000 in
set_option maxHeartbeats 2000000 in
theorem mark_any (n : Nat) (w : World) :
    Calls Tryz.prog 31 #[.int .i64 (n : Int)] w fun e w' => e = .returned (.string (str (markL n))) ∧ Fresh w w' := by
  have hconv : (convert 47 9 (.slice (some ⟨w.heap.size, 0, none⟩) 2 2)).run Tryz.prog (w.alloc (.cells #[.int .u8 ((n : Int) % 256), .int .u8 ((n : Int) / 256 % 256)] 5)) = .ok (.string (str [UInt8.ofNat n, UInt8.ofNat (n / 256)])) (w.alloc (.cells #[.int .u8 ((n : Int) % 256), .int .u8 ((n : Int) / 256 % 256)] 5)) := run_convert_bytes_back (P := Tryz.prog) (w.alloc (.cells #[.int .u8 ((n : Int) % 256), .int .u8 ((n : Int) / 256 % 256)] 5)) 47 9 5 ⟨w.heap.size, 0, none⟩ 2 [UInt8.ofNat n, UInt8.ofNat (n / 256)] Tryz.underlying47 Tryz.underlying5 Tryz.underlying9 (fun j hj => by
    rw [addr_add0, cell_at (heap_alloc_new w _)]
    match j, hj with
    | 0, _ => simp
    | 1, _ => simp
    | j + 2, hj => simp at hj; omega)
  go_enter Tryz.func31, Tryz.ntmps31
  go_wp2_with fail
  go_ret
  refine ⟨?_, (Keeps.refl _ _).alloc _⟩
  rfl

theorem Tryz.infoListT : (Tryz.prog.info? 41).map (fun i => (i.zero, i.size, i.bytes)) = some (some (.slice none 0 0), 1, 24) := by kernel_rfl

def gcol (n : Nat) : Nat := 11 + 2 * n
def fcol (j : Nat) : Nat := 10 + 2 * j
abbrev Packs (c : Nat → Nat) (w : World) (av : Value) (A : List Value) : Prop := Pack c w 9 41 1 markU 2 gcol 6 1000000 av A
abbrev PacksUp (c : Nat → Nat) (w : World) (av : Value) (A : List Value) (n L : Nat) (xv : Value) : Prop := Packing c w 9 41 1 markU 2 gcol 6 1000000 av A n L xv
theorem gcol_ne (i : Nat) : gcol i ≠ 2 := by unfold gcol; omega
theorem gcol_inj (i j : Nat) (h : gcol i = gcol j) : i = j := by unfold gcol at h; omega

set_option maxRecDepth 100000 in
set_option maxHeartbeats 4000000 in
theorem grows_any (c : Nat → Nat) (av xv : Value) (A : List Value) (n L : Nat) (w : World) (h : PacksUp c w av A n L xv) (hA : A.length = 6 * n) (hL : L ≤ 900000) (hn : n ≤ 100000) :
    Calls Tryz.prog 32 #[av, xv, .string (str (markL n))] w fun e w' => ∃ c' av' A', e = .returned av' ∧ (∀ g, g < w.heap.size → c' g = c g) ∧ A'.length = 6 * (n + 1) ∧ Packs c' w' av' A' ∧ Keeps (fun g => c g = 2 ∨ c g = gcol n) w w' := by
  obtain ⟨i0, hi, hz0, hz1, hz2⟩ := info_parts Tryz.infoText
  obtain ⟨i1, hi', hz0', hz1', hz2'⟩ := info_parts Tryz.infoListT
  have H := hid h
  have HA := hid hA
  obtain ⟨aa, ca, rfl⟩ := ownsRow_slice h.row
  obtain ⟨ax, cx, rfl⟩ := h.x.slice
  clear h hA
  go_enter Tryz.func32, Tryz.ntmps32
  go_wp2_with (at_builtin; refine wpList_push rfl (.tmp 8) (.tmp 10) 31 rfl 41 i1 (.slice none 0 0) 24 Tryz.underlying31 hi' hz0' hz1' hz2' rfl w H.out.row _ (by rfl) (by rfl) rfl (by have := HA.out; omega) (by have := HA.out; unfold maxLen; omega) ?_)
  intro v4 w4 ha
  have h4 := H.out.note (by have := HA.out; omega) (by omega) gcol_ne ha
  have k4 : Keeps (fun g => c g = 2 ∨ c g = gcol n) w w4 := ha.keeps.mono fun q _ e => .inl (H.out.crow q e)
  obtain ⟨aa4, ca4, rfl⟩ := ownsRow_slice ha.row
  have hlen4 : (A ++ [Value.slice ax L cx]).length = 6 * n + 1 := by rw [List.length_append, HA.out]; rfl
  have H4 := hid h4
  have HL4 := hid hlen4
  have K4 := hid k4
  clear ha h4 hlen4 k4
  go_wp2_with fail
  go_loopw [0, 1, 7] (fun av xv i wr => ∃ (j : Nat) (c' : Nat → Nat) (B : List Value), i = .int .i64 (j : Int) ∧ j ≤ 40 ∧ (∀ g, g < w.heap.size → c' g = c g) ∧ B.length = 6 * n + 1 + min j 4 ∧ PacksUp c' wr av B n (L + j) xv ∧ Keeps (fun g => c g = 2 ∨ c g = gcol n) w wr) (fun _ _ i _ => 40 - (intOf i).toNat)
  case atStart => exact ⟨0, _, _, rfl, by omega, fun g hg => paint_old hg, by rw [HL4.out]; rfl, H4.out, K4.out⟩
  case round =>
    obtain ⟨j, c', B, rfl, hj, hag, hB, hp, kr⟩ := hrel
    have HP := hid hp
    obtain ⟨ab, cb, rfl⟩ := ownsRow_slice hp.row
    obtain ⟨ay, cy, rfl⟩ := hp.x.slice
    obtain ⟨y, hy, hyr, hyc⟩ := hp.x
    have HY := hid hy
    have HYR := hid hyr
    have HYC := hid hyc
    have HBL := hid hB
    have HAG := hid hag
    have HK := hid kr
    clear hp hy hyr hyc hB hag kr
    by_cases hj40 : j < 40
    · have hj1 : (j : Int) < 40 := by omega
      go_wp2_with (at_builtin; refine wpList_growC rfl (.tmp 16) (.tmp 18) 41 rfl 9 i0 (.string ⟨#[]⟩) 1 16 Tryz.underlying41 hi hz0 hz1 hz2 rfl (by decide) HY.out wr HYR.out #[.string (str (markL n))] rfl (by rfl) (by rfl) (by simp [Value.oneCell']) (by omega) (by unfold maxLen; omega) ?_)
      intro v5 w5 hg
      have h5 := HP.out.grow gcol_ne gcol_inj HY.out HYR.out hg
      have k5 : Keeps (fun g => c g = 2 ∨ c g = gcol n) w w5 := HK.out.trans' hg.app.keeps fun g hl e => by
        have := HYC.out g e
        rw [HAG.out g hl] at this
        exact .inr this
      obtain ⟨a5, c5, rfl⟩ := ownsRow_slice hg.app.row
      have H5 := hid h5
      have K5 := hid k5
      have hsz5 := HK.out.size
      have HAG5 : Hid (∀ g, g < w.heap.size → paint c' wr (gcol n) g = c g) := fun g hl => by rw [paint_old (by omega)]; exact HAG.out g hl
      clear hg h5 k5 hsz5
      by_cases hj4 : j < 4
      · have hj2 : (j : Int) < 4 := by omega
        go_wp2_with (at_builtin; refine wpList_push rfl (.tmp 22) (.tmp 24) 31 rfl 41 i1 (.slice none 0 0) 24 Tryz.underlying31 hi' hz0' hz1' hz2' rfl w5 H5.out.row _ (by rfl) (by rfl) rfl (by have := HBL.out; omega) (by have := HBL.out; unfold maxLen; omega) ?_)
        intro v6 w6 hb
        have h6 := H5.out.note (by have := HBL.out; omega) (by omega) gcol_ne hb
        have k6 : Keeps (fun g => c g = 2 ∨ c g = gcol n) w w6 := K5.out.trans' hb.keeps fun g hl e => by
          have := H5.out.crow g e
          rw [HAG5.out g hl] at this
          exact .inl this
        obtain ⟨a6, c6, rfl⟩ := ownsRow_slice hb.row
        have HAG6 : Hid (∀ g, g < w.heap.size → paint (paint c' wr (gcol n)) w5 2 g = c g) := fun g hl => by rw [paint_old (by have := K5.out.size; omega)]; exact HAG5.out g hl
        have H6 := hid h6
        have K6 := hid k6
        clear hb h6 k6
        go_wp2_with fail
        go_roundw
        case rel => exact ⟨j + 1, _, _, by go_num, by omega, HAG6.out, by rw [List.length_append, HBL.out]; simp; omega, H6.out, K6.out⟩
        case measure => simp [intOf]; omega
      · have hj2 : ¬ (j : Int) < 4 := by omega
        go_wp2_with fail
        go_roundw
        case rel => exact ⟨j + 1, _, _, by go_num, by omega, HAG5.out, by rw [HBL.out]; omega, H5.out, K5.out⟩
        case measure => simp [intOf]; omega
    · obtain rfl : j = 40 := by omega
      go_wp2_with (at_builtin; refine wpList_push rfl (.tmp 26) (.tmp 28) 31 rfl 41 i1 (.slice none 0 0) 24 Tryz.underlying31 hi' hz0' hz1' hz2' rfl wr HP.out.row _ (by rfl) (by rfl) rfl (by have := HBL.out; omega) (by have := HBL.out; unfold maxLen; omega) ?_)
      intro v6 w6 hb
      have h6 := HP.out.note (by have := HBL.out; omega) (by omega) gcol_ne hb
      have k6 : Keeps (fun g => c g = 2 ∨ c g = gcol n) w w6 := HK.out.trans' hb.keeps fun g hl e => by
        have := HP.out.crow g e
        rw [HAG.out g hl] at this
        exact .inl this
      have hag6 : ∀ g, g < w.heap.size → paint c' wr 2 g = c g := fun g hl => by rw [paint_old (by have := HK.out.size; omega)]; exact HAG.out g hl
      have hl6 : (B ++ [Value.slice ay (L + 40) cy]).length = 6 * (n + 1) := by rw [List.length_append, HBL.out]; simp; omega
      have H6 := hid h6.fin
      have K6 := hid k6
      have HAG6 := hid hag6
      have HL6 := hid hl6
      clear hb h6 k6 hag6 hl6
      go_wp2_with fail
      go_ret
      exact ⟨_, _, _, rfl, HAG6.out, HL6.out, H6.out, K6.out⟩
end Go.Proofs.YtmflbchiapdhbaaGreatDoor
