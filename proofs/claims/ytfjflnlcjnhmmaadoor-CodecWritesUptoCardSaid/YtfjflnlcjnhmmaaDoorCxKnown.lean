/-
  The laws' first calls, whose answers are fixed.
-/
import Derived.Test.YtfjflnlcjnhmmaaDoorCxFrame
import Derived.Test.YtfjflnlcjnhmmaaDoorCxWRise
namespace Go.Proofs.YtfjflnlcjnhmmaaDoor
open Go.RowKit

theorem known_1 : wByte ([], 0) 255 = ([255], 0) := rfl
theorem known_2 : wNum ([255], 0) 300 = ([255, 172, 2], 0) := by
  have : digs 300 = [172, 2] := by rw [digs_more (by omega), digs_last (by omega)]; rfl
  simp [wNum, this]
theorem known_3 : wRising ([255, 172, 2], 0) [3, 4, 9] = ([255, 172, 2, 3, 3, 0, 4], 0) := by
  have h0 : digs 0 = [0] := digs_last (by omega)
  have h3 : digs 3 = [3] := digs_last (by omega)
  have h4 : digs 4 = [4] := digs_last (by omega)
  simp [wRising, rises, deltas, h0, h3, h4]
theorem known_4 : wText ([255, 172, 2, 3, 3, 0, 4], 0) [104, 105] 4 = ([255, 172, 2, 3, 3, 0, 4, 2, 104, 105], 0) := by
  have h2 : digs 2 = [2] := digs_last (by omega)
  simp [wText, h2]
theorem known_5 : rd pByte 0 ([255, 172, 2, 3, 3, 0, 4, 2, 104, 105], 0, 0) = (255, [172, 2, 3, 3, 0, 4, 2, 104, 105], 1, 0) := rfl
theorem known_6 : rd (pNum 0 0) 0 ([172, 2, 3, 3, 0, 4, 2, 104, 105], 1, 0) = (300, [3, 3, 0, 4, 2, 104, 105], 3, 0) := rfl
theorem known_7 : rd (pRising 3) [] ([3, 3, 0, 4, 2, 104, 105], 3, 0) = ([3, 4, 9], [2, 104, 105], 7, 0) := rfl
theorem known_8 : rd (pTextM 4) [] ([2, 104, 105], 7, 0) = ([104, 105], [], 10, 0) := rfl
theorem known_9 : rDone ([], 10, 0) = (0, 10) := rfl

set_option maxRecDepth 100000 in
set_option maxHeartbeats 2000000 in
theorem known_any (w : World) (hl : Laid w) :
    Calls Tryd.prog 8 #[] w fun e w' => e = .returned (.bool true) ∧ Fresh w w' := by
  go_enter Tryd.func8, Tryd.ntmps8
  go_wp2_with fail
  refine (newWriter_any w hl).mono ?_
  rintro e w1 ⟨b, rfl, hf1, hb, hr1⟩
  have m1 : Mine w (fun k => k = b) w1 := ⟨hf1, fun k hk => by simp only at hk; omega⟩
  clear hf1 hb
  go_wp2_with fail
  refine (wbyte_any _ b _ 255 w1 hr1 (by simp)).mono ?_
  rintro e w2 ⟨rfl, S2, hg2, hk2, hr2⟩
  rw [known_1] at hr2
  have m2 := m1.step hg2 hk2
  clear hg2 hk2 hr1 m1
  go_wp2_with fail
  refine (wnum_any S2 b _ 300 w2 hr2 (by simp)).mono ?_
  rintro e w3 ⟨rfl, S3, hg3, hk3, hr3⟩
  rw [known_2] at hr3
  have m3 := m2.step hg3 hk3
  clear hg3 hk3 hr2 m2
  go_wp2_with fail
  have hr3' := hr3.keeps ((Keeps.refl (fun _ => False) w3).alloc (.cells #[.int .i64 3, .int .i64 4, .int .i64 9] 3)) (fun _ _ h => h)
  have m3' := m3.fresh ((Keeps.refl (fun _ => False) w3).alloc (.cells #[.int .i64 3, .int .i64 4, .int .i64 9] 3))
  have hlist : ListAt (w3.alloc (.cells #[.int .i64 3, .int .i64 4, .int .i64 9] 3)) (.slice (some ⟨w3.heap.size, 0, none⟩) 3 3) (ints [3, 4, 9]) :=
    .inr ⟨w3.heap.size, 0, 3, rfl, by simp, fun j u hj => by
      match j, hj with
      | 0, hj => simp [ints] at hj; subst hj; simp
      | 1, hj => simp [ints] at hj; subst hj; simp
      | 2, hj => simp [ints] at hj; subst hj; simp
      | (j + 3), hj => simp [ints] at hj⟩
  have hnot : ∀ g, (Value.slice (some ⟨w3.heap.size, 0, none⟩) 3 3).ownBlock = some g → ¬ S3 g := fun g hg h => by
    simp [Value.ownBlock] at hg; subst hg
    have := (hr3.2.1 _ h).2; omega
  refine (wrising_any S3 b _ _ [3, 4, 9] _ hr3' hlist hnot (by simp)).mono ?_
  rintro e w4 ⟨rfl, S4, hg4, hk4, hr4⟩
  rw [known_3] at hr4
  have m4 := m3'.step hg4 hk4
  clear hg4 hk4 hr3 m3 hr3' m3' hlist hnot
  go_wp2_with fail
  refine (wtext_any S4 b _ (str [104, 105]) 4 w4 hr4 (by simp [str_size])).mono ?_
  rintro e w5 ⟨rfl, S5, hg5, hk5, hr5⟩
  rw [str_data, known_4] at hr5
  have m5 := m4.step hg5 hk5
  clear hg5 hk5 hr4 m4
  have hl5 := hl.keeps m5.1 (fun h => h)
  go_wp2_with fail
  refine (wdone_any S5 b _ w5 hl5 hr5).mono ?_
  rintro e w6 ⟨rfl, hf6⟩
  have m6 := (m5.fresh hf6).1
  have hl6 := hl.keeps m6 (fun h => h)
  clear m5 hl5 hf6 hr5
  go_wp2_with fail
  refine (newReader_any (str [255, 172, 2, 3, 3, 0, 4, 2, 104, 105]) w6 hl6 (by simp [str_size])).mono ?_
  rintro e w7 ⟨b2, rfl, hf7, hb7, hr7⟩
  rw [str_data] at hr7
  have m7 : Mine w (fun k => k = b2) w7 := ⟨m6.trans hf7, fun k hk => by simp only at hk; have := m6.size; omega⟩
  clear hf7 hb7 m6 hl6
  go_wp2_with fail
  refine (rbyte_any _ b2 _ w7 hr7).mono ?_
  rw [known_5]
  rintro e w8 ⟨rfl, S8, hg8, hk8, hr8⟩
  have m8 := m7.step hg8 hk8
  clear hg8 hk8 hr7 m7
  go_wp2_with fail
  refine (rnum_any S8 b2 _ w8 hr8).mono ?_
  simp only [known_6]
  rintro e w9 ⟨rfl, S9, hg9, hk9, hr9⟩
  have m9 := m8.step hg9 hk9
  clear hg9 hk9 hr8 m8
  go_wp2_with fail
  refine (rrising_any S9 b2 _ 3 w9 hr9 (by simp)).mono ?_
  simp only [Hands, known_7]
  rintro e w10 ⟨v, S10, rfl, hg10, hk10, hr10, hrow10, hown10⟩
  have m10 := m9.step hg10 hk10
  have hsz9 := m9.1.size
  clear hg10 hr9 m9
  obtain ⟨ao, cp, rfl⟩ := ownsRow_slice hrow10
  obtain ⟨g, rfl⟩ : ∃ g, ao = some ⟨g, 0, none⟩ := by
    rcases hrow10.2 with ⟨h, _⟩ | ⟨g, cap, cur, h, _⟩
    · simp at h
    · injection h with h1; exact ⟨g, h1⟩
  have hgS := (hown10 g rfl).1
  have hglt := (hrow10.lt g rfl).2
  have h9 : w10.cell? ⟨g, 2, none⟩ = some (.int .i64 9) := by
    have := hrow10.cells (g := g) rfl 2 (.int .i64 9) rfl
    rwa [addr_add0] at this
  clear hrow10 hown10 hk10
  go_wp2_with fail
  refine (rtxt_any S10 b2 _ 4 w10 hr10).mono ?_
  simp only [known_8]
  rintro e w11 ⟨rfl, S11, hg11, hk11, hr11⟩
  have m11 := m10.step hg11 hk11
  have h9' := (hk11.cell (p := ⟨g, 2, none⟩) hglt hgS).trans h9
  have hglt' := Nat.lt_of_lt_of_le hglt hk11.size
  clear hg11 hk11 hr10 m10 h9 hgS hglt
  have hl11 := hl.keeps m11.1 (fun h => h)
  go_wp2_with fail
  refine (rdone_any S11 b2 _ w11 hl11 hr11).mono ?_
  simp only [known_9]
  rintro e w12 ⟨rfl, hf12⟩
  have m12 := (m11.fresh hf12).1
  have h9'' := (hf12.cell (p := ⟨g, 2, none⟩) hglt' (fun h => h)).trans h9'
  clear hf12 m11 h9' hr11 hl11
  have hstr := str_toList [104, 105]
  go_wp2
  go_ret
  exact ⟨rfl, m12⟩
end Go.Proofs.YtfjflnlcjnhmmaaDoor
