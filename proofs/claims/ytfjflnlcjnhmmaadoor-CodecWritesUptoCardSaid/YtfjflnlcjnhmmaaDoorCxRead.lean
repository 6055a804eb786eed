/-
  Package codec: a Reader's 'read': a call that is made whole or not at all, whatever closure is handed in.
-/
import Derived.Test.YtfjflnlcjnhmmaaDoorCxCount
namespace Go.Proofs.YtfjflnlcjnhmmaaDoor
open Go.RowKit

def rBack (r r1 : RSt) : RSt := if r1.2.2 = 0 then r1 else (r.1, r.2.1, r1.2.2)

set_option maxRecDepth 100000 in
set_option maxHeartbeats 1000000 in
theorem read_wrong (S : Nat → Prop) (b : Nat) (r : RSt) (f : Value) (w : World) (h : RRep S w b r) (h0 : r.2.2 ≠ 0) :
    Calls Tryd.prog 53 #[.pointer (some ⟨b, 0, none⟩), f] w fun e w' => e = .returned (.bool false) ∧ w = w' := by
  obtain ⟨k, c2⟩ := h.err h0
  go_enter Tryd.func53, Tryd.ntmps53
  go_wp2
  go_ret
  exact ⟨rfl, rfl⟩

set_option maxRecDepth 100000 in
set_option maxHeartbeats 1000000 in
theorem read_any (S T : Nat → Prop) (b : Nat) (r : RSt) (K : Nat) (cap : Array Value) (w : World) (Q : RSt → (Nat → Prop) → World → Prop) (h : RRep S w b r) (h0 : r.2.2 = 0)
    (hen : ∀ w, (callFunc K cap).run Tryd.prog w = .ok (.enter K cap) w)
    (hcall : ∀ nq, Calls Tryd.prog K cap (w.drewN nq) fun e w1 => e = .returned (.tuple #[]) ∧ ∃ r1 S1, Grows S S1 w w1 ∧ Keeps (fun k => S k ∨ T k) w w1 ∧ RRep S1 w1 b r1 ∧ Q r1 S1 w1) :
    Calls Tryd.prog 53 #[.pointer (some ⟨b, 0, none⟩), .func (.func K) #[] cap] w fun e w' =>
      ∃ r1 w1 S1 S2, Q r1 S1 w1 ∧ (r1.2.2 = 0 → S2 = S1 ∧ w' = w1) ∧ e = .returned (.bool (decide (r1.2.2 = 0))) ∧ Grows S S2 w w' ∧ Keeps (fun k => S k ∨ T k) w w' ∧ RRep S2 w' b (rBack r r1) ∧ (∀ k, k ≠ b → w'.heap[k]? = w1.heap[k]?) := by
  have c2 := h.fine h0
  obtain ⟨ev, c0, c1, _, f0, f1, f2, hbl, _, hle⟩ := h.cells
  have HC := hid hcall
  have H0 := hid h0
  clear h0
  clear hcall
  go_enter Tryd.func53, Tryd.ntmps53
  go_wp2_with fail
  go_quiet (fail)
  go_wp2_with fail
  refine (HC.out nq).mono ?_
  rintro e w1 ⟨rfl, r1, S1, hg1, hk1, hr1, hq⟩
  have hS := h.1
  by_cases h1 : r1.2.2 = 0
  · have c3 := hr1.fine h1
    have H1 := hid h1
    clear h1 HC
    go_wp2
    go_ret
    exact ⟨r1, w1, S1, S1, hq, fun _ => ⟨rfl, rfl⟩, by simp [H1.out], hg1, hk1, by simpa [rBack, H1.out] using hr1, fun _ _ => rfl⟩
  · obtain ⟨k1, c3⟩ := hr1.err h1
    obtain ⟨ev1, a0, a1, _, g0, g1, _, hbl1, _, _⟩ := hr1.cells
    have H1 := hid h1
    have hmv := hr1.moved r.1 r.2.1 hle
    have HM := hid hmv
    clear h1 HC hmv
    go_wp2
    go_ret
    obtain ⟨S2, b1, b2, b3⟩ := Acts.afterT hg1 hk1 HM.out
    refine ⟨r1, w1, S1, S2, hq, fun h => absurd h H1.out, ?_, b1, b2, ?_, fun k hk => ?_⟩
    · have e : decide (r1.2.2 = 0) = false := decide_eq_false H1.out
      rw [e]; rfl
    · simp only [rBack]; rw [if_neg H1.out]; exact b3
    · rw [heap_setCell_ne _ _ _ _ hk, heap_setCell_ne _ _ _ _ hk]
end Go.Proofs.YtfjflnlcjnhmmaaDoor
