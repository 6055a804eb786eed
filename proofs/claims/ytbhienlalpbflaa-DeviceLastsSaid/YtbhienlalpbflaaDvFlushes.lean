/-
  The device: Flush.
-/
import Derived.Test.YtbhienlalpbflaaDvWrites
namespace Go.Proofs.Ytbhienlalpbflaa
open Go.RowKit Go.Maps

set_option maxRecDepth 100000 in
set_option maxHeartbeats 1000000 in
theorem actf_idle (d : Nat) (cap : Array Value) (pv mv : Value) (S : Nat → Prop) (R : World → Prop) (w : World) (h1 : w.heap[d]? = some (.cells #[pv, mv, .bool false, .int .i64 0] 82 (0, 0)))
    (hw : Calls Try.prog 48 cap (w.alloc (.cells #[.pointer (some ⟨d, 0, none⟩)] 23)) fun e w2 => e = .returned (.tuple #[]) ∧ R w2 ∧ Keeps S (w.alloc (.cells #[.pointer (some ⟨d, 0, none⟩)] 23)) w2) (hS : ¬ S d) (hS2 : ¬ S w.heap.size) :
    Calls Try.prog 47 #[.pointer (some ⟨d, 0, none⟩), .func (.func 48) #[] cap] w fun e w' => e = .returned (.int .i64 0) ∧ R w' ∧ Keeps S w w' := by
  have hmf : ∀ (fn : Fn) (first cap : Array Value) (w : World), (Instr.makeFunc fn first cap).run Try.prog w = .ok (.func fn first cap) w := fun _ _ _ _ => rfl
  have f0 : Fresh w (w.alloc (.cells #[.pointer (some ⟨d, 0, none⟩)] 23)) := (Keeps.refl _ _).alloc _
  have hbox := heap_alloc_new w (.cells #[.pointer (some ⟨d, 0, none⟩)] 23)
  have cb : (w.alloc (.cells #[.pointer (some ⟨d, 0, none⟩)] 23)).cell? ⟨w.heap.size, 0, none⟩ = some (.pointer (some ⟨d, 0, none⟩)) := (cell_at hbox 0).trans rfl
  have hd2 := f0.at_ h1 (fun h => h)
  have c3 := cell_at hd2 3
  simp at c3
  have c3 : (w.alloc (.cells #[.pointer (some ⟨d, 0, none⟩)] 23)).cell? ⟨d, 3, none⟩ = some (.int .i64 0) := by rw [cell_at hd2 3]; rfl
  have HB := hid (lt_of_block hbox)
  have HD := hid hd2
  have HW := hid hw
  clear hw h1 hbox hd2
  go_enter_defers Try.func47, Try.ntmps47
  go_wp2_with (go_at_call 48; refine HW.out.mono ?_; rintro e w2 ⟨rfl, hR, k2⟩)
  have cb2 := (k2.cell (p := ⟨w.heap.size, 0, none⟩) HB.out hS2).trans cb
  have hd3 := k2.at_ HD.out hS
  have c32 := cell_at hd3 3
  refine leaves_cons (f := 63) (args := #[.pointer (some ⟨w.heap.size, 0, none⟩)]) (by simp) (by simp [go_sem]) ?_
  refine (act1_idle w.heap.size d w2 cb2 (by rw [c32]; rfl)).mono ?_
  rintro e u' w'' ⟨rfl, rfl, rfl⟩
  exact ⟨_, results_tmp rfl _ _ _, rfl, hR, (f0.mono (fun _ _ h => h.elim)).trans k2⟩

theorem flushed_len (l : List (List UInt8)) (f : Int → Option (List UInt8)) : (flushed l f).length = l.length := by simp [flushed]
set_option maxRecDepth 100000 in
theorem actf_end (B : Nat → Prop) (bx d : Nat) (l : List (List UInt8)) (D : DD) (n : Nat) (armed : Int) (f : Int → Option (List UInt8)) (w : World) (hx : w.heap[bx]? = some (.cells #[.pointer (some ⟨d, 0, none⟩)] 23 (0, 0))) (h : Dev B w d l D n false armed) (ha : 0 ≤ armed) (ha2 : armed ≤ 1000000)
    (hP : Pends D f) (hr : ∀ p, (f p).isSome = true → 0 ≤ p ∧ p < l.length) (hll : l.length ≤ 4096) (hn : n ≤ 100000) :
    Calls Try.prog 47 #[.pointer (some ⟨d, 0, none⟩), .func (.func 48) #[] #[.pointer (some ⟨bx, 0, none⟩)]] w fun e w' => (armed = 1 ∧ e = .returned (.int .i64 2) ∧ Dev B w' d l D n true 1 ∧ Keeps B w w') ∨
      (armed ≠ 1 ∧ e = .returned (.int .i64 0) ∧ (∃ D', Dev B w' d (flushed l f) D' n false (lower armed) ∧ Pends D' (fun _ => none)) ∧ Keeps B w w') := by
  obtain ⟨pv, mb, h1, h2, h3, h4, h5⟩ := h.ex
  have g0 : Fresh w (w.alloc (.cells #[.pointer (some ⟨d, 0, none⟩)] 23)) := (Keeps.refl _ _).alloc _
  have nd := cells_ne_map h1 h3
  have ndp := cells_ne_row h1 h2.1 (by decide)
  have nmp := row_ne_map h2.1 h3
  have hml := h3.lt
  have hpl := fun g hg => (h2.1.lt g hg).2
  by_cases hd : armed = 1
  · subst hd
    refine (act_dies d _ _ pv (.map (some mb)) w h1).mono ?_
    rintro e w' ⟨rfl, rfl⟩
    have k2 : Keeps (fun q => q = d) w ((w.alloc (.cells #[.pointer (some ⟨d, 0, none⟩)] 23)).setCell ⟨d, 2, none⟩ (.bool true)) := Keeps.setCell (S := fun q => q = d) (p := ⟨d, 2, none⟩) (g0.mono (fun _ _ h => h.elim)) (fun _ => rfl) _
    exact .inl ⟨rfl, rfl, ⟨⟨pv, mb, heap_setCell_at (g0.at_ h1 (fun h => h)) 2 _, ⟨ownsRow_keeps h2.1 k2 (fun g hg e => ndp (by rw [hg, e])), h2.2⟩, map_keeps h3 k2 (fun e => nd e.symm), h4, h5⟩⟩, k2.mono (fun q _ h => by rw [show q = d from h]; exact h5)⟩
  · have hfl := flush1_any bx d mb n pv l D false armed f (w.alloc (.cells #[.pointer (some ⟨d, 0, none⟩)] 23)) (g0.at_ hx (fun h => h)) (g0.at_ h1 (fun h => h)) (ownsRow_keeps h2.1 g0 (fun _ _ h => h)) (map_keeps h3 g0 (fun h => h)) hP hr hll hn
    have hSd : ¬ (d = mb ∨ pv.ownBlock = some d) := fun e => e.elim nd ndp
    have hSw : ¬ (w.heap.size = mb ∨ pv.ownBlock = some w.heap.size) := fun e => e.elim (fun e => by omega) (fun e => by have := hpl _ e; omega)
    have hSB : ∀ q, (q = mb ∨ pv.ownBlock = some q) → B q := fun q e => e.elim (fun e => by rw [e]; exact h4) (fun e => h2.2 q e)
    by_cases h0 : armed = 0
    · subst h0
      refine (actf_idle d _ pv (.map (some mb)) (fun q => q = mb ∨ pv.ownBlock = some q) _ w h1 hfl hSd hSw).mono ?_
      rintro e w' ⟨rfl, ⟨hrow, D', hown, hPn⟩, k2⟩
      exact .inr ⟨hd, rfl, ⟨D', ⟨⟨pv, mb, k2.at_ h1 hSd, ⟨by rw [flushed_len]; exact hrow, h2.2⟩, hown, h4, h5⟩⟩, hPn⟩, k2.mono (fun q _ h => hSB q h)⟩
    · obtain ⟨k, rfl⟩ : ∃ k : Nat, armed = ((k + 1 : Nat) : Int) := ⟨(armed - 1).toNat, by omega⟩
      have e1 : lower ((k + 1 : Nat) : Int) = (k : Int) := by unfold lower; rw [if_neg (by omega)]; omega
      refine (act_flush d k _ pv (.map (some mb)) (fun q => q = mb ∨ pv.ownBlock = some q) _ w h1 (by omega) (by omega) hfl hSd hSw).mono ?_
      rintro e w' ⟨rfl, w2, ⟨hrow, D', hown, hPn⟩, k2, rfl⟩
      have k3 : Keeps (fun q => q = d) w2 (w2.setCell ⟨d, 3, none⟩ (.int .i64 (k : Int))) := Keeps.setCell (S := fun q => q = d) (p := ⟨d, 3, none⟩) (Keeps.refl _ _) (fun _ => rfl) _
      refine .inr ⟨hd, rfl, ⟨D', ?_, hPn⟩, (k2.mono (fun q _ h => hSB q h)).trans (k3.mono (fun q _ h => by rw [show q = d from h]; exact h5))⟩
      rw [e1]
      exact ⟨⟨pv, mb, heap_setCell_at (k2.at_ h1 hSd) 3 _, ⟨by rw [flushed_len]; exact ownsRow_keeps hrow k3 (fun g hg e => ndp (by rw [hg, e])), h2.2⟩, map_keeps hown k3 (fun e => nd e.symm), h4, h5⟩⟩

set_option maxRecDepth 100000 in
set_option maxHeartbeats 1000000 in
/-- Flush, of a device that lives -/
theorem flush_end (B : Nat → Prop) (d : Nat) (l : List (List UInt8)) (D : DD) (n : Nat) (armed : Int) (f : Int → Option (List UInt8)) (w : World) (h : Dev B w d l D n false armed) (ha : 0 ≤ armed) (ha2 : armed ≤ 1000000)
    (hP : Pends D f) (hr : ∀ p, (f p).isSome = true → 0 ≤ p ∧ p < l.length) (hll : l.length ≤ 4096) (hn : n ≤ 100000) :
    Calls Try.prog 24 #[.pointer (some ⟨d, 0, none⟩)] w fun e w' => (armed = 1 ∧ e = .returned (.int .i64 2) ∧ Dev B w' d l D n true 1 ∧ Keeps B w w') ∨
      (armed ≠ 1 ∧ e = .returned (.int .i64 0) ∧ (∃ D', Dev B w' d (flushed l f) D' n false (lower armed) ∧ Pends D' (fun _ => none)) ∧ Keeps B w w') := by
  have hmf : ∀ (fn : Fn) (first cap : Array Value) (w : World), (Instr.makeFunc fn first cap).run Try.prog w = .ok (.func fn first cap) w := fun _ _ _ _ => rfl
  have f0 : Fresh w (w.alloc (.cells #[.pointer (some ⟨d, 0, none⟩)] 23)) := (Keeps.refl _ _).alloc _
  have hbox := heap_alloc_new w (.cells #[.pointer (some ⟨d, 0, none⟩)] 23)
  have hdev0 := h.fresh f0
  have hact := actf_end B w.heap.size d l D n armed f (w.alloc (.cells #[.pointer (some ⟨d, 0, none⟩)] 23)) hbox hdev0 ha ha2 hP hr hll hn
  obtain ⟨pv, mb, h1, -⟩ := hdev0.ex
  have X0 := cell_at hbox 0
  have D2 := cell_at h1 2
  simp at X0 D2
  have HACT := hid hact
  clear hact hdev0 hbox h1 h hP hr
  go_enter Try.func24, Try.ntmps24
  go_wp2_with fail
  refine HACT.out.mono ?_
  rintro e w2 (⟨h1, rfl, h2, h3⟩ | ⟨h1, rfl, h2, h3⟩)
  · go_wp2_with fail
    go_ret
    exact .inl ⟨h1, rfl, h2, (f0.mono (fun _ _ h => h.elim)).trans h3⟩
  · go_wp2_with fail
    go_ret
    exact .inr ⟨h1, rfl, h2, (f0.mono (fun _ _ h => h.elim)).trans h3⟩
end Go.Proofs.Ytbhienlalpbflaa
