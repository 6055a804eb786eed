/-
  The device: Arm; what act does, of a device that is armed or not.
-/
import Derived.Test.YtbhienlalpbflaaDvWrite
namespace Go.Proofs.Ytbhienlalpbflaa
open Go.RowKit Go.Maps

set_option maxRecDepth 100000 in
set_option maxHeartbeats 1000000 in
theorem arm_any (B : Nat → Prop) (d : Nat) (l : List (List UInt8)) (D : DD) (n : Nat) (armed k : Int) (w : World) (h : Dev B w d l D n false armed) (hk : 0 ≤ k) :
    Calls Try.prog 23 #[.pointer (some ⟨d, 0, none⟩), .int .i64 k] w fun e w' => e = .returned (.int .i64 0) ∧ Dev B w' d l D n false k ∧ Keeps B w w' := by
  obtain ⟨pv, mb, h1, h2, h3, h4, h5⟩ := h.ex
  have c2 := cell_at h1 2
  have c3 := cell_at h1 3
  have z3 := free_at h1 3
  simp at c2 c3
  have hk' : ¬ k < 0 := by omega
  have hmd : mb ≠ d := fun e => by
    obtain ⟨es, clock, hb, _⟩ := h3
    rw [e, h1] at hb
    cases hb
  have hpv : pv.ownBlock ≠ some d := fun hg => by
    rcases h2.1.2 with ⟨rfl, _⟩ | ⟨g', cap, cur, rfl, _, hb2, _, _, _, _⟩
    · cases hg
    · simp only [Value.ownBlock, Option.some.injEq] at hg
      rw [hg, h1] at hb2
      injection hb2 with hb2
      injection hb2 with _ hb2
      revert hb2
      decide
  have H1 := hid h1
  have H2 := hid h2
  have H3 := hid h3
  clear h1 h2 h3 h
  go_enter Try.func23, Try.ntmps23
  go_wp2
  go_ret
  have k1 : Keeps (fun q => q = d) w (w.setCell ⟨d, 3, none⟩ (.int .i64 k)) := Keeps.setCell (S := fun q => q = d) (p := ⟨d, 3, none⟩) (Keeps.refl _ w) (fun _ => rfl) _
  refine ⟨rfl, ⟨⟨pv, mb, ?_, ⟨ownsRow_keeps H2.out.1 k1 (fun g hg e => hpv (by rw [hg, e])), H2.out.2⟩, map_keeps H3.out k1 hmd, h4, h5⟩⟩, k1.mono (fun q _ e => by rw [show q = d from e]; exact h5)⟩
  exact heap_setCell_at H1.out 3 _

set_option maxRecDepth 100000 in
theorem act1_armed (bx d : Nat) (k : Nat) (w : World) (hx : w.cell? ⟨bx, 0, none⟩ = some (.pointer (some ⟨d, 0, none⟩))) (h3 : w.cell? ⟨d, 3, none⟩ = some (.int .i64 ((k + 1 : Nat) : Int))) (z3 : w.frozen? ⟨d, 3, none⟩ = false) (hk : k < 9223372036854775807) :
    CallsD Try.prog 63 #[.pointer (some ⟨bx, 0, none⟩)] .returning w fun e u' w' => u' = .returning ∧ (e = .returned (.tuple #[]) ∧ w' = w.setCell ⟨d, 3, none⟩ (.int .i64 (k : Int))) := by
  have hk0 : (0 : Int) < ((k + 1 : Nat) : Int) := by omega
  have hw : IntKind.i64.wrap (((k + 1 : Nat) : Int) - 1) = (k : Int) := by rw [IntKind.wrap_i64]; omega
  go_enter_d Try.func63, Try.ntmps63
  go_wp2
  go_end0
  exact ⟨rfl, rfl⟩

set_option maxRecDepth 100000 in
set_option maxHeartbeats 1000000 in
theorem act_dies (d : Nat) (cap : Array Value) (fn : Fn) (pv mv : Value) (w : World) (h1 : w.heap[d]? = some (.cells #[pv, mv, .bool false, .int .i64 1] 82 (0, 0))) :
    Calls Try.prog 47 #[.pointer (some ⟨d, 0, none⟩), .func fn #[] cap] w fun e w' => e = .returned (.int .i64 2) ∧ w' = (w.alloc (.cells #[.pointer (some ⟨d, 0, none⟩)] 23)).setCell ⟨d, 2, none⟩ (.bool true) := by
  have f0 : Fresh w (w.alloc (.cells #[.pointer (some ⟨d, 0, none⟩)] 23)) := (Keeps.refl _ _).alloc _
  have hbox := heap_alloc_new w (.cells #[.pointer (some ⟨d, 0, none⟩)] 23)
  have cb : (w.alloc (.cells #[.pointer (some ⟨d, 0, none⟩)] 23)).cell? ⟨w.heap.size, 0, none⟩ = some (.pointer (some ⟨d, 0, none⟩)) := (cell_at hbox 0).trans rfl
  have h2 := f0.at_ h1 (fun h => h)
  have c2 := cell_at h2 2
  have c3 := cell_at h2 3
  have z2 := free_at h2 2
  simp at c2 c3
  have H1 := hid hbox
  clear h1 h2 hbox
  go_enter_defers Try.func47, Try.ntmps47
  go_wp2
  exact ⟨_, results_tmp rfl _ _ _, rfl, rfl⟩

set_option maxRecDepth 100000 in
set_option maxHeartbeats 1000000 in
theorem act_write (d k : Nat) (cap : Array Value) (pv mv : Value) (S : Nat → Prop) (R : World → Prop) (w : World) (h1 : w.heap[d]? = some (.cells #[pv, mv, .bool false, .int .i64 ((k + 1 : Nat) : Int)] 82 (0, 0))) (hk : 1 ≤ k) (hk2 : k < 9223372036854775807)
    (hw : Calls Try.prog 50 cap (w.alloc (.cells #[.pointer (some ⟨d, 0, none⟩)] 23)) fun e w2 => e = .returned (.tuple #[]) ∧ R w2 ∧ Keeps S (w.alloc (.cells #[.pointer (some ⟨d, 0, none⟩)] 23)) w2) (hS : ¬ S d) (hS2 : ¬ S w.heap.size) :
    Calls Try.prog 47 #[.pointer (some ⟨d, 0, none⟩), .func (.func 50) #[] cap] w fun e w' => e = .returned (.int .i64 0) ∧ ∃ w2, R w2 ∧ Keeps S w w2 ∧ w' = w2.setCell ⟨d, 3, none⟩ (.int .i64 (k : Int)) := by
  have hmf : ∀ (fn : Fn) (first cap : Array Value) (w : World), (Instr.makeFunc fn first cap).run Try.prog w = .ok (.func fn first cap) w := fun _ _ _ _ => rfl
  have f0 : Fresh w (w.alloc (.cells #[.pointer (some ⟨d, 0, none⟩)] 23)) := (Keeps.refl _ _).alloc _
  have hbox := heap_alloc_new w (.cells #[.pointer (some ⟨d, 0, none⟩)] 23)
  have cb : (w.alloc (.cells #[.pointer (some ⟨d, 0, none⟩)] 23)).cell? ⟨w.heap.size, 0, none⟩ = some (.pointer (some ⟨d, 0, none⟩)) := (cell_at hbox 0).trans rfl
  have hd2 := f0.at_ h1 (fun h => h)
  have c3 := cell_at hd2 3
  simp at c3
  have c3 : (w.alloc (.cells #[.pointer (some ⟨d, 0, none⟩)] 23)).cell? ⟨d, 3, none⟩ = some (.int .i64 ((k + 1 : Nat) : Int)) := by rw [cell_at hd2 3]; rfl
  have hk1 : ¬ ((k + 1 : Nat) : Int) = 1 := by omega
  obtain ⟨K, hK⟩ : ∃ K : Int, ((k + 1 : Nat) : Int) = K := ⟨_, rfl⟩
  have HB := hid (lt_of_block hbox)
  have HD := hid hd2
  have HW := hid hw
  clear hw h1 hbox hd2
  have hk3 : ¬ K = 1 := by omega
  rw [hK] at c3
  clear hk1
  have HK := hid hK
  clear hK
  go_enter_defers Try.func47, Try.ntmps47
  go_wp2_with (go_at_call 50; refine HW.out.mono ?_; rintro e w2 ⟨rfl, hR, k2⟩)
  have cb2 := (k2.cell (p := ⟨w.heap.size, 0, none⟩) HB.out hS2).trans cb
  have hd3 := k2.at_ HD.out hS
  have c32 := cell_at hd3 3
  have z32 := free_at hd3 3
  refine leaves_cons (f := 63) (args := #[.pointer (some ⟨w.heap.size, 0, none⟩)]) (by simp) (by simp [go_sem]) ?_
  refine (act1_armed w.heap.size d k w2 cb2 (by rw [c32]; rfl) z32 hk2).mono ?_
  rintro e u' w'' ⟨rfl, rfl, rfl⟩
  exact ⟨_, results_tmp rfl _ _ _, rfl, w2, hR, (f0.mono (fun _ _ h => h.elim)).trans k2, rfl⟩

set_option maxRecDepth 100000 in
set_option maxHeartbeats 1000000 in
theorem act_flush (d k : Nat) (cap : Array Value) (pv mv : Value) (S : Nat → Prop) (R : World → Prop) (w : World) (h1 : w.heap[d]? = some (.cells #[pv, mv, .bool false, .int .i64 ((k + 1 : Nat) : Int)] 82 (0, 0))) (hk : 1 ≤ k) (hk2 : k < 9223372036854775807)
    (hw : Calls Try.prog 48 cap (w.alloc (.cells #[.pointer (some ⟨d, 0, none⟩)] 23)) fun e w2 => e = .returned (.tuple #[]) ∧ R w2 ∧ Keeps S (w.alloc (.cells #[.pointer (some ⟨d, 0, none⟩)] 23)) w2) (hS : ¬ S d) (hS2 : ¬ S w.heap.size) :
    Calls Try.prog 47 #[.pointer (some ⟨d, 0, none⟩), .func (.func 48) #[] cap] w fun e w' => e = .returned (.int .i64 0) ∧ ∃ w2, R w2 ∧ Keeps S w w2 ∧ w' = w2.setCell ⟨d, 3, none⟩ (.int .i64 (k : Int)) := by
  have hmf : ∀ (fn : Fn) (first cap : Array Value) (w : World), (Instr.makeFunc fn first cap).run Try.prog w = .ok (.func fn first cap) w := fun _ _ _ _ => rfl
  have f0 : Fresh w (w.alloc (.cells #[.pointer (some ⟨d, 0, none⟩)] 23)) := (Keeps.refl _ _).alloc _
  have hbox := heap_alloc_new w (.cells #[.pointer (some ⟨d, 0, none⟩)] 23)
  have cb : (w.alloc (.cells #[.pointer (some ⟨d, 0, none⟩)] 23)).cell? ⟨w.heap.size, 0, none⟩ = some (.pointer (some ⟨d, 0, none⟩)) := (cell_at hbox 0).trans rfl
  have hd2 := f0.at_ h1 (fun h => h)
  have c3 := cell_at hd2 3
  simp at c3
  have c3 : (w.alloc (.cells #[.pointer (some ⟨d, 0, none⟩)] 23)).cell? ⟨d, 3, none⟩ = some (.int .i64 ((k + 1 : Nat) : Int)) := by rw [cell_at hd2 3]; rfl
  have hk1 : ¬ ((k + 1 : Nat) : Int) = 1 := by omega
  obtain ⟨K, hK⟩ : ∃ K : Int, ((k + 1 : Nat) : Int) = K := ⟨_, rfl⟩
  have HB := hid (lt_of_block hbox)
  have HD := hid hd2
  have HW := hid hw
  clear hw h1 hbox hd2
  have hk3 : ¬ K = 1 := by omega
  rw [hK] at c3
  clear hk1
  have HK := hid hK
  clear hK
  go_enter_defers Try.func47, Try.ntmps47
  go_wp2_with (go_at_call 48; refine HW.out.mono ?_; rintro e w2 ⟨rfl, hR, k2⟩)
  have cb2 := (k2.cell (p := ⟨w.heap.size, 0, none⟩) HB.out hS2).trans cb
  have hd3 := k2.at_ HD.out hS
  have c32 := cell_at hd3 3
  have z32 := free_at hd3 3
  refine leaves_cons (f := 63) (args := #[.pointer (some ⟨w.heap.size, 0, none⟩)]) (by simp) (by simp [go_sem]) ?_
  refine (act1_armed w.heap.size d k w2 cb2 (by rw [c32]; rfl) z32 hk2).mono ?_
  rintro e u' w'' ⟨rfl, rfl, rfl⟩
  exact ⟨_, results_tmp rfl _ _ _, rfl, w2, hR, (f0.mono (fun _ _ h => h.elim)).trans k2, rfl⟩
end Go.Proofs.Ytbhienlalpbflaa
