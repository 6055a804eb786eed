/-
  Package codec: the Reader's Rising; what is left, what is told at the end; a new Reader, a new Writer.
-/
import Derived.Test.YtpccaodkgboefaaGreatDoorCxRise
namespace Go.Proofs.YtpccaodkgboefaaGreatDoor
open Go.RowKit

/-- what a method leaves that hands out a list: the list is new memory, which the Reader does not own -/
def Hands {α : Type} (E : TypeId) (size : Nat) (S : Nat → Prop) (b : Nat) (w w' : World) (q : List α × RSt) (enc : List α → List Value) (e : Ending) : Prop :=
  ∃ v S', e = .returned v ∧ Grows S S' w w' ∧ Keeps S w w' ∧ RRep S' w' b q.2 ∧ w'.ownsRow 0 E size v q.1.length (enc q.1) ∧ ∀ g, v.ownBlock = some g → ¬ S' g ∧ w.heap.size ≤ g

theorem hands_end {α : Type} {E : TypeId} {size : Nat} {S S1 S2 : Nat → Prop} {b nb : Nat} {w W w1 w2 : World} {r r1 : RSt} {p : List UInt8 → Except Int (List α × List UInt8)} {enc : List α → List Value} (h0 : r.2.2 = 0) (henc : enc [] = [])
    (hW : Fresh w W) (hnb : w.heap.size ≤ nb) (hl : LeavesL E size nb W.heap.size r (p r.1) enc r1 S1 w1) (hsame : r1.2.2 = 0 → S2 = S1 ∧ w2 = w1) (hg : Grows S S2 W w2) (hk : Keeps (fun k => S k ∨ k = nb) W w2) (hr : RRep S2 w2 b (rBack r r1)) :
    (r1.2.2 ≠ 0 → Hands E size S b w w2 (rd p [] r) enc (.returned (.slice none 0 0))) ∧ (r1.2.2 = 0 → ∃ v, w2.cell? ⟨nb, 0, none⟩ = some v ∧ (∃ ao len cap, v = .slice ao len cap) ∧ Hands E size S b w w2 (rd p [] r) enc (.returned v)) := by
  have hsz := hW.size
  have hg' : Grows S S2 w w2 := fun k hk => orr (hg k hk) fun h => ⟨by omega, h.2⟩
  have hk' : Keeps S w w2 := (hW.mono fun _ _ h => h.elim).trans' hk fun i hi h => by
    rcases h with h | h
    · exact h
    · omega
  obtain ⟨_, _, hl⟩ := hl
  refine ⟨fun h1 => ?_, fun h1 => ?_⟩
  · cases hp : p r.1 with
    | error f =>
      rw [hp] at hl
      have hrd : rd p [] r = ([], (r.1, r.2.1, f)) := by unfold rd; rw [if_neg (by simpa using h0), hp]
      rw [hrd]
      refine ⟨_, S2, rfl, hg', hk', ?_, by simp only [henc]; exact World.ownsRow_nil _ _ _ _, fun g hg => by cases hg⟩
      simp only [rBack] at hr
      rw [if_neg h1, hl.1] at hr
      exact hr
    | ok x =>
      rw [hp] at hl
      exact absurd (by rw [hl.1]) h1
  · cases hp : p r.1 with
    | error f =>
      rw [hp] at hl
      exact absurd (hl.1.symm.trans h1) hl.2
    | ok x =>
      obtain ⟨xs, l⟩ := x
      rw [hp] at hl
      obtain ⟨hr1, hle, v, hc, hrow, hown⟩ := hl
      obtain ⟨rfl, rfl⟩ := hsame h1
      have hrd : rd p [] r = (xs, (l, r.2.1 + (r.1.length - l.length), 0)) := by unfold rd; rw [if_neg (by simpa using h0), hp]
      rw [hrd]
      obtain ⟨ao, cp, hv⟩ := ownsRow_slice hrow
      refine ⟨v, hc, ⟨_, _, _, hv⟩, v, S2, rfl, hg', hk', ?_, hrow, fun g hg => ⟨(hown g hg).1, by have := (hown g hg).2.1; omega⟩⟩
      simp only [rBack] at hr
      rw [if_pos h1, hr1] at hr
      exact hr

set_option maxRecDepth 100000 in
set_option maxHeartbeats 1000000 in
theorem rrising_any (S : Nat → Prop) (b : Nat) (r : RSt) (n : Int) (w : World) (h : RRep S w b r) (hb : n ≤ 1099511627776 ∨ r.1.length ≤ 1099511627776) :
    Calls Tryz.prog 88 #[.pointer (some ⟨b, 0, none⟩), .int .i64 n] w fun e w' => Hands 3 1 S b w w' (rd (pRising n) [] r) ints e := by
  have hmf := makeFunc_run Tryz.prog
  have hnot : ∀ (x : Bool) (w : World), (Op.unary .not (.bool x)).run Tryz.prog w = .ok (.bool (!x)) w := fun _ _ => rfl
  have hbl := h.cells.choose_spec.2.2.2.2.2.2.1
  by_cases h0 : r.2.2 = 0
  · have H0 := hid h0
    have HB := hid hb
    clear h0 hb
    go_enter Tryz.func88, Tryz.ntmps88
    go_wp2_with fail
    refine (read_any S (fun k => k = w.heap.size + 1 + 1) b r 127 _ _ (fun r1 S1 w1 => LeavesL 3 1 (w.heap.size + 1 + 1) (w.heap.size + 1 + 1 + 1) r (pRising n r.1) ints r1 S1 w1) (((h.boxed _).boxed _).boxed _) H0.out (by intro w0; kernel_rfl) ?hc).mono ?_
    case hc =>
      intro nq
      refine (rising_inner S b r n (w.heap.size + 1) w.heap.size (w.heap.size + 1 + 1) _ ((((h.boxed _).boxed _).boxed _).keeps ((Keeps.refl (fun _ => False) _).drewN nq) (fun _ _ h => h)) H0.out (by exact (cells3n w _ _ _ _ _ _ _ 0).2.1) (by exact (cells3n w _ _ _ _ _ _ _ 0).1) (by exact (cells3n w _ _ _ _ _ _ _ 0).2.2.1) (by exact (cells3n w _ _ _ _ _ _ _ 0).2.2.2.2.2) (h.notNew (by omega)) (h.notNew (by omega)) (by omega) (by simp) (by simp; omega) HB.out).mono ?_
      rintro e w1 ⟨rfl, r1, S1, a1, a2, a3, a4⟩
      exact ⟨rfl, r1, S1, a1, ⟨a2.os, a2.tape, a2.output, a2.size, a2.block⟩, a3, by simpa using a4⟩
    rintro e w2 ⟨r1, w1, S0, S1, hl, hsame0, rfl, hg1, hk1, hr1, hsame⟩
    have he := hands_end (W := ((w.alloc _).alloc _).alloc _) H0.out rfl ((((Keeps.refl _ w).alloc _).alloc _).alloc _) (by omega) (by simpa using hl) hsame0 hg1 hk1 hr1
    by_cases h1 : r1.2.2 = 0
    · obtain ⟨v, hc, ⟨ao, len, cap, rfl⟩, hh⟩ := he.2 h1
      have hd : decide (r1.2.2 = 0) = true := decide_eq_true h1
      have HH := hid hh
      clear he hl hsame0 hsame hr1 hh h1
      go_wp2
      go_ret
      exact HH.out
    · have hh := he.1 h1
      have hd : decide (r1.2.2 = 0) = false := decide_eq_false h1
      have HH := hid hh
      clear he hl hsame0 hsame hr1 hh h1
      go_wp2
      go_ret
      exact HH.out
  · have HQ : Hid (rd (pRising n) [] r = ([], r)) := by simp [Hid, rd, h0]
    go_enter Tryz.func88, Tryz.ntmps88
    go_wp2_with fail
    refine (read_wrong S b r _ _ (((h.boxed _).boxed _).boxed _) h0).mono ?_
    rintro e w2 ⟨rfl, rfl⟩
    go_wp2
    go_ret
    rw [HQ.out]
    exact ⟨_, S, rfl, fun _ h => .inl h, (((Keeps.refl _ w).alloc _).alloc _).alloc _, ((h.boxed _).boxed _).boxed _, World.ownsRow_nil _ _ _ _, fun g hg => by cases hg⟩
end Go.Proofs.YtpccaodkgboefaaGreatDoor
