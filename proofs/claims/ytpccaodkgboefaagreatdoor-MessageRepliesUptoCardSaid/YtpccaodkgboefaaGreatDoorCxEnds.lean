/-
  Package codec: what a Reader tells at its end; how much is left; a new Reader, a new Writer.
-/
import Derived.Test.YtpccaodkgboefaaGreatDoorCxLists
import Derived.Deep.RegionWith
namespace Go.Proofs.YtpccaodkgboefaaGreatDoor
open Go.RowKit

set_option maxRecDepth 100000 in
set_option maxHeartbeats 400000 in
theorem rleft_any (S : Nat → Prop) (b : Nat) (r : RSt) (w : World) (h : RRep S w b r) :
    Calls Tryz.prog 135 #[.pointer (some ⟨b, 0, none⟩)] w fun e w' => e = .returned (.int .i64 (r.1.length : Int)) ∧ w = w' := by
  obtain ⟨ev, c0, c1, c2, f0, f1, f2, hbl, he, hle⟩ := h.cells
  have hsz := str_size r.1
  go_enter Tryz.func135, Tryz.ntmps135
  go_wp2
  go_ret
  exact ⟨rfl, rfl⟩

set_option maxRecDepth 100000 in
set_option maxHeartbeats 400000 in
theorem newReader_any (s : ByteArray) (w : World) (hl : Laid w) (hs : s.size ≤ 9223372036854775807) :
    Calls Tryz.prog 47 #[.string s] w fun e w' => ∃ b, e = .returned (.pointer (some ⟨b, 0, none⟩)) ∧ Fresh w w' ∧ w.heap.size ≤ b ∧ RRep (fun k => k = b) w' b (s.data.toList, 0, 0) := by
  have hg := World.block_lt_of_cell? w _ hl
  simp only at hg
  go_enter Tryz.func47, Tryz.ntmps47
  go_wp2
  go_ret
  refine ⟨w.heap.size, rfl, (Keeps.refl _ _).alloc _, Nat.le_refl _, rfl, fun k hk => ?_, by simp; omega, .nilIface, heap_size_alloc _ _, .inl ⟨rfl, rfl⟩⟩
  subst hk
  simp; omega

set_option maxRecDepth 100000 in
set_option maxHeartbeats 400000 in
theorem newWriter_any (w : World) (hl : Laid w) :
    Calls Tryz.prog 29 #[] w fun e w' => ∃ b, e = .returned (.pointer (some ⟨b, 0, none⟩)) ∧ Fresh w w' ∧ w.heap.size ≤ b ∧ WRep (fun k => k = b) w' b ([], 0) := by
  have hg := World.block_lt_of_cell? w _ hl
  simp only at hg
  go_enter Tryz.func29, Tryz.ntmps29
  go_wp2
  go_ret
  refine ⟨w.heap.size, rfl, (Keeps.refl _ _).alloc _, Nat.le_refl _, rfl, fun k hk => ?_, .slice none 0 0, .nilIface, heap_size_alloc _ _, World.ownsRow_nil _ _ _ _, fun g hg => (by cases hg), .inl ⟨rfl, rfl⟩⟩
  subst hk
  simp; omega

def rDone (r : RSt) : Int × Nat := (if r.2.2 ≠ 0 then r.2.2 else if r.1 ≠ [] then 24 else 0, r.2.1)

set_option maxRecDepth 100000 in
set_option maxHeartbeats 1000000 in
theorem rdone_any (S : Nat → Prop) (b : Nat) (r : RSt) (w : World) (hl : Laid w) (h : RRep S w b r) :
    Calls Tryz.prog 50 #[.pointer (some ⟨b, 0, none⟩)] w fun e w' => e = .returned (.tuple #[.int .i64 (rDone r).1, .int .i64 ((rDone r).2 : Int)]) ∧ Fresh w w' := by
  obtain ⟨ev, c0, c1, c2, f0, f1, f2, hbl, he, hle⟩ := h.cells
  by_cases h0 : r.2.2 = 0
  · have hc := h.fine h0
    by_cases h1 : r.1 = []
    · have hs : (str r.1).toList = [] := by rw [str_toList, h1]
      have HD : Hid (rDone r = (0, r.2.1)) := by simp [Hid, rDone, h0, h1]
      clear he c2 h0 h1
      go_enter Tryz.func50, Tryz.ntmps50
      go_wp2
      go_quiet (fail)
      go_wp2
      go_ret2
      rw [HD.out]
      exact ⟨rfl, (Keeps.refl _ _).drewN _⟩
    · have hs : (str r.1).toList.isEmpty = false := by rw [str_toList]; cases hr : r.1 with | nil => exact absurd hr h1 | cons _ _ => rfl
      have hs' : ¬ (str r.1).toList = [] := by rw [str_toList]; exact h1
      have HD : Hid (rDone r = (24, r.2.1)) := by simp [Hid, rDone, h0, h1]
      clear he c2 h0 h1
      go_enter Tryz.func50, Tryz.ntmps50
      go_wp2
      go_quiet (fail)
      go_wp2
      go_ret2
      rw [HD.out]
      exact ⟨rfl, (Keeps.refl _ _).drewN _⟩
  · obtain ⟨k, hev⟩ := h.err h0
    have HD : Hid (rDone r = (r.2.2, r.2.1)) := by simp [Hid, rDone, h0]
    have hev2 : ev = .iface 133 (.pointer (some ⟨k, 0, none⟩)) := by rw [c2] at hev; exact Option.some.inj hev
    subst hev2
    have HE := hid he
    clear he h0 hev
    go_enter Tryz.func50, Tryz.ntmps50
    go_wp2
    go_region_with (go_at_call 92; refine (told_any S _ r.2.2 _ (by exact hl) (by exact HE.out)).mono ?_; rintro e1 w1 ⟨rfl, hf⟩; have k1 : w1.cell? ⟨b, 1, none⟩ = some (.int .i64 (r.2.1 : Int)) := (hf.cell (p := ⟨b, 1, none⟩) hbl (fun h => h)).trans c1)
    all_goals
      go_wp2
      go_ret2
      rw [HD.out]
      exact ⟨rfl, hf.os, hf.tape, hf.output, hf.size, hf.block⟩
end Go.Proofs.YtpccaodkgboefaaGreatDoor
