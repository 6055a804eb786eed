/-
  Package codec: 'told', and what a Writer hands out at its end.
-/
import Derived.Test.YtpccaodkgboefaaGreatDoorCxAs
import Derived.Test.YtpccaodkgboefaaGreatDoorMCxW
namespace Go.Proofs.YtpccaodkgboefaaGreatDoor
open Go.RowKit

/-- The library's variable errors.errorType holds what start-up lays there. -/
def Laid (w : World) : Prop := w.cell? ⟨0, 0, none⟩ = some (.iface 165 (.agg #[.pointer (some ⟨1, 98, none⟩)]))
theorem Laid.keeps {S : Nat → Prop} {w w' : World} (h : Laid w) (hk : Keeps S w w') (hn : ¬ S 0) : Laid w' := by
  unfold Laid at *
  rw [← h]
  refine hk.cell (p := ⟨0, 0, none⟩) ?_ hn
  exact World.block_lt_of_cell? w _ h
theorem Laid.lives {S : Nat → Prop} {w w1 w' : World} (h : Laid w) (hl : Lives S w1) (hk : Keeps S w w') : Laid w' := h.keeps hk fun h0 => by have := (hl _ h0).1; omega

theorem as_found (e t : Addr) (w : World) (hg : Laid w) (ht0 : w.cell? t = some (.pointer none)) (hf0 : w.frozen? t = false) :
    Calls Tryz.prog 128 #[.iface 133 (.pointer (some e)), .iface 148 (.pointer (some t))] w fun ev w' => ev = .returned (.bool true) ∧ Keeps (fun k => k = t.block) w w' ∧ w'.cell? t = some (.pointer (some e)) := by
  refine (as_hit e t _ w hg ht0 hf0).mono ?_
  rintro ev w' ⟨rfl, rfl⟩
  refine ⟨rfl, ((((((Keeps.refl (fun k => k = t.block) w).alloc _).alloc _).alloc _).alloc _).setCell (fun _ => rfl) _), ?_⟩
  have hlt := World.block_lt_of_cell? w t ht0
  refine World.cell?_setCell_same _ _ _ (u := .pointer none) ?_
  rw [World.cell?_alloc_lt _ _ t (by simp; omega), World.cell?_alloc_lt _ _ t (by simp; omega), World.cell?_alloc_lt _ _ t (by simp; omega), World.cell?_alloc_lt _ _ t hlt]
  exact ht0

set_option maxRecDepth 100000 in
set_option maxHeartbeats 1000000 in
theorem told_any (S : Nat → Prop) (ev : Value) (e : Int) (w : World) (hl : Laid w) (he : ErrAt S w ev e) :
    Calls Tryz.prog 92 #[ev] w fun en w' => en = .returned (.int .i64 e) ∧ Fresh w w' := by
  rcases he with ⟨rfl, rfl⟩ | ⟨h0, k, hk, rfl, hkk⟩
  · go_enter Tryz.func92, Tryz.ntmps92
    go_wp2_with (go_at_call 128; refine (as_nil _ _).mono ?_; rintro e w' ⟨rfl, rfl⟩)
    go_ret
    exact ⟨rfl, (Keeps.refl _ _).alloc _⟩
  · have hlt := lt_of_block hkk
    have ck := cell_at hkk 0
    simp at ck
    have hg : w.cell? ⟨0, 0, none⟩ = _ := hl
    have hg0 := World.block_lt_of_cell? w _ hg
    simp only at hg0
    have hgA : (w.alloc (.cells #[.pointer none] 133)).cell? ⟨0, 0, none⟩ = some (.iface 165 (.agg #[.pointer (some ⟨1, 98, none⟩)])) := by
      rw [World.cell?_alloc_lt _ _ ⟨0, 0, none⟩ hg0]; exact hg
    clear hg hl
    go_enter Tryz.func92, Tryz.ntmps92
    go_wp2_with fail
    refine (as_found _ _ _ hgA (by simp) (by simp)).mono ?_
    rintro e1 w1 ⟨rfl, hk1, ct⟩
    have c1 : w1.cell? ⟨k, 0, none⟩ = some (.int .i64 e) := by
      rw [hk1.cell (p := ⟨k, 0, none⟩) (by simp; omega) (by simp; omega), World.cell?_alloc_lt _ _ ⟨k, 0, none⟩ hlt]; exact ck
    have hfin : Fresh w w1 := ((Keeps.refl _ w).alloc _).trans' hk1 (fun i hi h => by simp at h; omega)
    clear hk1 hgA
    go_wp2
    go_ret
    exact ⟨rfl, hfin⟩

set_option maxRecDepth 100000 in
set_option maxHeartbeats 1000000 in
theorem wdone_any (S : Nat → Prop) (b : Nat) (st : List UInt8 × Int) (w : World) (hl : Laid w) (h : WRep S w b st) :
    Calls Tryz.prog 69 #[.pointer (some ⟨b, 0, none⟩)] w fun e w' =>
      e = .returned (.tuple #[.string ⟨(if st.2 = 0 then st.1 else []).toArray⟩, .int .i64 st.2]) ∧ Fresh w w' := by
  obtain ⟨v, ev, c0, c1, f0, f1, hb, hrow, hne, he⟩ := h.cells
  obtain ⟨ao, cp, rfl⟩ := ownsRow_slice hrow
  have hcv := run_text_of_row (P := Tryz.prog) 96 9 Tryz.underlying96 Tryz.underlying5 Tryz.underlying9 hrow
  by_cases h0 : st.2 = 0
  · rcases he with ⟨_, rfl⟩ | ⟨h1, _⟩
    · clear h0
      go_enter Tryz.func69, Tryz.ntmps69
      go_wp2
      go_ret2
      exact ⟨rfl, Keeps.refl _ _⟩
    · exact absurd h0 h1
  · obtain ⟨k, hk, rfl, hkk⟩ : ∃ k, S k ∧ ev = .iface 133 (.pointer (some ⟨k, 0, none⟩)) ∧ w.heap[k]? = some (.cells #[.int .i64 st.2] 135 (0, 0)) := by
      rcases he with ⟨h1, _⟩ | ⟨_, h⟩
      · exact absurd h1 h0
      · exact h
    clear hcv
    go_enter Tryz.func69, Tryz.ntmps69
    go_wp2_with fail
    refine (told_any S _ st.2 w hl (.inr ⟨h0, k, hk, rfl, hkk⟩)).mono ?_
    rintro e1 w1 ⟨rfl, hf⟩
    go_wp2
    go_ret2
    exact ⟨rfl, hf⟩
end Go.Proofs.YtpccaodkgboefaaGreatDoor
