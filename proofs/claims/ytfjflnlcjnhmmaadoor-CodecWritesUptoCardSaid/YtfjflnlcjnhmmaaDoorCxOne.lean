/-
  Package codec: the Reader's methods that tell one thing: Byte, Num, Text.
-/
import Derived.Test.YtfjflnlcjnhmmaaDoorCxRead
namespace Go.Proofs.YtfjflnlcjnhmmaaDoor
open Go.RowKit

/-- a call that is whole or leaves the Reader where it was -/
def rd {α : Type} (p : List UInt8 → Except Int (α × List UInt8)) (zero : α) (r : RSt) : α × RSt :=
  if r.2.2 ≠ 0 then (zero, r) else match p r.1 with
  | .error e => (zero, (r.1, r.2.1, e))
  | .ok (a, l) => (a, (l, r.2.1 + (r.1.length - l.length), 0))

def pByte : List UInt8 → Except Int (Nat × List UInt8)
  | [] => .error 21
  | c :: l => .ok (c.toNat, l)
def pTextM (most : Int) (l : List UInt8) : Except Int (List UInt8 × List UInt8) := if most < 0 then .error 1 else pText most l
def pRaw (n : Int) (l : List UInt8) : Except Int (List UInt8 × List UInt8) := if n < 0 then .error 1 else if l.length < n.toNat then .error 21 else .ok (l.take n.toNat, l.drop n.toNat)

/-- what a closure leaves: the captured result, and the Reader -/
def Leaves1 {α : Type} (nb : Nat) (r : RSt) (p : Except Int (α × List UInt8)) (enc : α → Value) (zero : Value) (r1 : RSt) (w1 : World) : Prop :=
  ∃ v, w1.cell? ⟨nb, 0, none⟩ = some v ∧ w1.frozen? ⟨nb, 0, none⟩ = false ∧ Parsed r p v enc zero r1

theorem makeFunc_run (P : Program) (fn : Fn) (first cap : Array Value) (w : World) : (Instr.makeFunc fn first cap).run P w = .ok (.func fn first cap) w := rfl

theorem rd_back {α : Type} {r r1 : RSt} {p : List UInt8 → Except Int (α × List UInt8)} {zero : α} {v : Value} {enc : α → Value} (h0 : r.2.2 = 0) (h : Parsed r (p r.1) v enc (enc zero) r1) :
    v = enc (rd p zero r).1 ∧ rBack r r1 = (rd p zero r).2 := by
  unfold rd
  rw [if_neg (by simpa using h0)]
  cases hp : p r.1 with
  | error e =>
    rw [hp] at h
    obtain ⟨h1, h2, h3⟩ := h
    refine ⟨h1, ?_⟩
    simp only [rBack]
    rw [if_neg (by rw [h2]; exact h3), h2]
  | ok x =>
    obtain ⟨a, l⟩ := x
    rw [hp] at h
    obtain ⟨h1, h2, h3⟩ := h
    exact ⟨h1, by simp [rBack, h2]⟩

/-- the closure's last store: into its captured result -/
theorem stored_out {α : Type} {S S1 : Nat → Prop} {b nb : Nat} {w w1 : World} {r r1 : RSt} {p : Except Int (α × List UInt8)} {enc : α → Value} {zero old u : Value} (hg1 : Grows S S1 w w1) (hk1 : Keeps S w w1) (hr1 : RRep S1 w1 b r1)
    (hn1 : w1.cell? ⟨nb, 0, none⟩ = some old) (hf1 : w1.frozen? ⟨nb, 0, none⟩ = false) (hnS : ¬ S nb) (hlt : nb < w.heap.size) (hP : Parsed r p u enc zero r1) :
    ∃ r2 S2, Grows S S2 w (w1.setCell ⟨nb, 0, none⟩ u) ∧ Keeps (fun k => S k ∨ k = nb) w (w1.setCell ⟨nb, 0, none⟩ u) ∧ RRep S2 (w1.setCell ⟨nb, 0, none⟩ u) b r2 ∧ Leaves1 nb r p enc zero r2 (w1.setCell ⟨nb, 0, none⟩ u) := by
  refine ⟨r1, S1, fun k hk => orr (hg1 k hk) fun h => ⟨h.1, by simpa using h.2⟩, (hk1.mono fun _ _ h => .inl h).setCell (fun _ => .inr rfl) _, hr1.keeps (((Keeps.refl (fun k => k = nb) w1).setCell (fun _ => rfl) _)) ?_, u, World.cell?_setCell_same _ _ _ hn1, by rw [World.frozen?_setCell]; exact hf1, hP⟩
  intro k hk hkn
  subst hkn
  rcases hg1 _ hk with h | h
  · exact hnS h
  · omega

set_option maxRecDepth 100000 in
set_option maxHeartbeats 1000000 in
theorem byte_inner (S : Nat → Prop) (b : Nat) (r : RSt) (pb nb : Nat) (w : World) (h : RRep S w b r) (h0 : r.2.2 = 0) (hp : w.cell? ⟨pb, 0, none⟩ = some (.pointer (some ⟨b, 0, none⟩)))
    (hn : w.cell? ⟨nb, 0, none⟩ = some (.int .i64 0)) (hf : w.frozen? ⟨nb, 0, none⟩ = false) (hnS : ¬ S nb) (hlt : nb < w.heap.size) :
    Calls Tryd.prog 54 #[.pointer (some ⟨pb, 0, none⟩), .pointer (some ⟨nb, 0, none⟩)] w fun e w1 => e = .returned (.tuple #[]) ∧ ∃ r1 S1, Grows S S1 w w1 ∧ Keeps (fun k => S k ∨ k = nb) w w1 ∧ RRep S1 w1 b r1 ∧
      Leaves1 nb r (pByte r.1) (fun n => .int .i64 (n : Int)) (.int .i64 0) r1 w1 := by
  obtain ⟨rest, t, e0⟩ := r
  simp only at h0
  subst h0
  rcases rest with _ | ⟨c, l⟩
  · have hA : Hid (rTake ([], t, 0) 1 = ([], rRefuse ([], t, 0) 21)) := by simp [Hid, rTake]
    have hs : (str []).toList = [] := str_toList []
    go_enter Tryd.func54, Tryd.ntmps54
    go_wp2_with fail
    refine (rtake_any S b ([], t, 0) 1 _ (by omega) h).mono ?_
    rw [hA.out]
    rintro e w1 ⟨rfl, S1, hg1, hk1, hr1⟩
    have hn1 := (hk1.cell (p := ⟨nb, 0, none⟩) hlt hnS).trans hn
    go_wp2
    go_end0
    exact ⟨rfl, _, S1, hg1, hk1.mono fun _ _ h => .inl h, hr1, _, hn1, (hk1.frozen (p := ⟨nb, 0, none⟩) hlt hnS).trans hf, rfl, by simp [rRefuse, first], by decide⟩
  · have hs : (str [c]).toList.isEmpty = false := by rw [str_toList]; rfl
    have hs0 := str_one c
    have hs1 : (str [c]).size = 1 := str_size _
    have hc : c.toNat ≤ 255 := by have := c.toNat_lt; omega
    go_enter Tryd.func54, Tryd.ntmps54
    go_wp2_with fail
    refine (rtake_cons S b c l t _ h).mono ?_
    rintro e w1 ⟨rfl, S1, hg1, hk1, hr1, c2⟩
    have hn1 := (hk1.cell (p := ⟨nb, 0, none⟩) hlt hnS).trans hn
    have hf1 := (hk1.frozen (p := ⟨nb, 0, none⟩) hlt hnS).trans hf
    go_wp2
    go_end0
    exact ⟨rfl, stored_out hg1 hk1 hr1 hn1 hf1 hnS hlt ⟨rfl, by simp, by simp⟩⟩

/-- A pointer's and a variable's block of one cell, new. -/
theorem RRep.boxed {S : Nat → Prop} {w : World} {b : Nat} {r : RSt} (h : RRep S w b r) (o : Obj) : RRep S (w.alloc o) b r := h.fresh ((Keeps.refl _ w).alloc o)
theorem RRep.notNew {S : Nat → Prop} {w : World} {b : Nat} {r : RSt} (h : RRep S w b r) {k : Nat} (hk : w.heap.size ≤ k) : ¬ S k := fun h' => by have := (h.2.1 k h').2; omega

/-- the method around such a closure: the world in which 'read' is called, and what it hands out -/
theorem one_done {α : Type} {S1 : Nat → Prop} {b nb : Nat} {w' w1 : World} {r r1 : RSt} {p : List UInt8 → Except Int (α × List UInt8)} {enc : α → Value} {zero : α} (h0 : r.2.2 = 0) (hl : Leaves1 nb r (p r.1) enc (enc zero) r1 w1) (hne : nb ≠ b)
    (hk : ∀ k, k ≠ b → w'.heap[k]? = w1.heap[k]?) (hr : RRep S1 w' b (rBack r r1)) : w'.cell? ⟨nb, 0, none⟩ = some (enc (rd p zero r).1) ∧ w'.frozen? ⟨nb, 0, none⟩ = false ∧ RRep S1 w' b (rd p zero r).2 := by
  obtain ⟨v, hv, hf, hP⟩ := hl
  obtain ⟨h1, h2⟩ := rd_back (zero := zero) h0 hP
  exact ⟨by rw [World.cell?_of_block (w := w1) (hk nb hne), hv, h1], by rw [World.frozen?_of_block (w := w1) (hk nb hne), hf], by rw [← h2]; exact hr⟩

theorem Acts.boxes {S S1 : Nat → Prop} {b nb : Nat} {w W w2 : World} {q : RSt} (hW : Fresh w W) (hg1 : Grows S S1 W w2) (hk1 : Keeps (fun k => S k ∨ k = nb) W w2) (hnb : w.heap.size ≤ nb) (hnW : nb < W.heap.size) (hnS : ¬ S nb)
    (hr2 : RRep S1 w2 b q) (u : Value) : Acts S w (w2.setCell ⟨nb, 0, none⟩ u) fun S' => RRep S' (w2.setCell ⟨nb, 0, none⟩ u) b q := by
  have hsz := hW.size
  refine ⟨S1, fun k hk => orr (hg1 k hk) fun h => ⟨by omega, by simpa using h.2⟩, ((hW.mono fun _ _ h => h.elim).trans' hk1 fun i hi h => ?_).setCell (fun h => by simp only at h; omega) _, hr2.keeps ((Keeps.refl (fun k => k = nb) w2).setCell (fun _ => rfl) _) ?_⟩
  · rcases h with h | h
    · exact h
    · omega
  · intro k hk hkn
    subst hkn
    rcases hg1 _ hk with h | h
    · exact hnS h
    · omega

set_option maxRecDepth 100000 in
set_option maxHeartbeats 1000000 in
theorem rbyte_any (S : Nat → Prop) (b : Nat) (r : RSt) (w : World) (h : RRep S w b r) :
    Calls Tryd.prog 23 #[.pointer (some ⟨b, 0, none⟩)] w fun e w' => e = .returned (.int .i64 ((rd pByte 0 r).1 : Int)) ∧ Acts S w w' fun S' => RRep S' w' b (rd pByte 0 r).2 := by
  have hmf := makeFunc_run Tryd.prog
  have hbl := h.cells.choose_spec.2.2.2.2.2.2.1
  by_cases h0 : r.2.2 = 0
  · have H0 := hid h0
    clear h0
    go_enter Tryd.func23, Tryd.ntmps23
    go_wp2_with fail
    refine (read_any S (fun k => k = w.heap.size + 1) b r 54 _ _ (fun r1 _ w1 => Leaves1 (w.heap.size + 1) r (pByte r.1) (fun n => .int .i64 (n : Int)) (.int .i64 0) r1 w1) ((h.boxed _).boxed _) H0.out (by intro w0; kernel_rfl) ?hc).mono ?_
    case hc =>
      intro nq
      refine (byte_inner S b r w.heap.size (w.heap.size + 1) _ (((h.boxed _).boxed _).keeps ((Keeps.refl (fun _ => False) _).drewN nq) (fun _ _ h => h)) H0.out (by simp) (by simp) (by simp) (h.notNew (by omega)) (by simp)).mono ?_
      rintro e w1 ⟨rfl, r1, S1, a1, a2, a3, a4⟩
      exact ⟨rfl, r1, S1, a1, ⟨a2.os, a2.tape, a2.output, a2.size, a2.block⟩, a3, a4⟩
    rintro e w2 ⟨r1, w1, S0, S1, hl, _, rfl, hg1, hk1, hr1, hsame⟩
    obtain ⟨hcell, hfr, hr2⟩ := one_done (zero := 0) H0.out hl (by omega) hsame hr1
    clear hl hsame hr1 H0
    obtain ⟨q, hq⟩ : ∃ q, q = rd pByte 0 r := ⟨_, rfl⟩
    rw [← hq] at hcell hr2
    have HQ := hid hq
    clear hq
    go_wp2
    have hc3 := World.cell?_setCell_same _ _ (.int .i64 (q.1 : Int)) hcell
    refine bodyPost_ret (v := .int .i64 (q.1 : Int)) (by simp [results, Tryd.results23, go_sem, hc3]) rfl ?_
    rw [← HQ.out]
    exact ⟨rfl, .boxes (((Keeps.refl _ w).alloc _).alloc _) hg1 hk1 (by omega) (by simp) (h.notNew (by omega)) hr2 _⟩
  · have HQ : Hid (rd pByte 0 r = (0, r)) := by simp [Hid, rd, h0]
    go_enter Tryd.func23, Tryd.ntmps23
    go_wp2_with fail
    refine (read_wrong S b r _ _ ((h.boxed _).boxed _) h0).mono ?_
    rintro e w2 ⟨rfl, rfl⟩
    go_wp2
    refine bodyPost_ret (v := .int .i64 0) (by simp [results, Tryd.results23, go_sem]) rfl ?_
    rw [HQ.out]
    exact ⟨rfl, S, fun _ h => .inl h, ((Keeps.refl _ w).alloc _).alloc _, (h.boxed _).boxed _⟩

set_option maxRecDepth 100000 in
set_option maxHeartbeats 1000000 in
theorem num_inner (S : Nat → Prop) (b : Nat) (r : RSt) (pb nb : Nat) (w : World) (h : RRep S w b r) (h0 : r.2.2 = 0) (hp : w.cell? ⟨pb, 0, none⟩ = some (.pointer (some ⟨b, 0, none⟩)))
    (hn : w.cell? ⟨nb, 0, none⟩ = some (.int .i64 0)) (hf : w.frozen? ⟨nb, 0, none⟩ = false) (hnS : ¬ S nb) (hlt : nb < w.heap.size) :
    Calls Tryd.prog 57 #[.pointer (some ⟨pb, 0, none⟩), .pointer (some ⟨nb, 0, none⟩)] w fun e w1 => e = .returned (.tuple #[]) ∧ ∃ r1 S1, Grows S S1 w w1 ∧ Keeps (fun k => S k ∨ k = nb) w w1 ∧ RRep S1 w1 b r1 ∧
      Leaves1 nb r (pNum 0 0 r.1) (fun n => .int .i64 (n : Int)) (.int .i64 0) r1 w1 := by
  have H0 := hid h0
  clear h0
  go_enter Tryd.func57, Tryd.ntmps57
  go_wp2_with fail
  refine (num_any S b r _ h H0.out).mono ?_
  rintro e w1 ⟨v, r1, rfl, hP, S1, hg1, hk1, hr1⟩
  have hn1 := (hk1.cell (p := ⟨nb, 0, none⟩) hlt hnS).trans hn
  have hf1 := (hk1.frozen (p := ⟨nb, 0, none⟩) hlt hnS).trans hf
  obtain ⟨m, rfl⟩ : ∃ m, v = .int .i64 m := by
    cases hq : pNum 0 0 r.1 with
    | error e => rw [hq] at hP; exact ⟨_, hP.1⟩
    | ok x => rw [hq] at hP; exact ⟨_, hP.1⟩
  have HP := hid hP
  clear hP
  go_wp2
  go_end0
  exact ⟨rfl, stored_out hg1 hk1 hr1 hn1 hf1 hnS hlt HP.out⟩

set_option maxRecDepth 100000 in
set_option maxHeartbeats 1000000 in
theorem rnum_any (S : Nat → Prop) (b : Nat) (r : RSt) (w : World) (h : RRep S w b r) :
    Calls Tryd.prog 25 #[.pointer (some ⟨b, 0, none⟩)] w fun e w' => e = .returned (.int .i64 ((rd (pNum 0 0) 0 r).1 : Int)) ∧ Acts S w w' fun S' => RRep S' w' b (rd (pNum 0 0) 0 r).2 := by
  have hmf := makeFunc_run Tryd.prog
  have hbl := h.cells.choose_spec.2.2.2.2.2.2.1
  by_cases h0 : r.2.2 = 0
  · have H0 := hid h0
    clear h0
    go_enter Tryd.func25, Tryd.ntmps25
    go_wp2_with fail
    refine (read_any S (fun k => k = w.heap.size + 1) b r 57 _ _ (fun r1 _ w1 => Leaves1 (w.heap.size + 1) r (pNum 0 0 r.1) (fun n => .int .i64 (n : Int)) (.int .i64 0) r1 w1) ((h.boxed _).boxed _) H0.out (by intro w0; kernel_rfl) ?hc).mono ?_
    case hc =>
      intro nq
      refine (num_inner S b r w.heap.size (w.heap.size + 1) _ (((h.boxed _).boxed _).keeps ((Keeps.refl (fun _ => False) _).drewN nq) (fun _ _ h => h)) H0.out (by simp) (by simp) (by simp) (h.notNew (by omega)) (by simp)).mono ?_
      rintro e w1 ⟨rfl, r1, S1, a1, a2, a3, a4⟩
      exact ⟨rfl, r1, S1, a1, ⟨a2.os, a2.tape, a2.output, a2.size, a2.block⟩, a3, a4⟩
    rintro e w2 ⟨r1, w1, S0, S1, hl, _, rfl, hg1, hk1, hr1, hsame⟩
    obtain ⟨hcell, hfr, hr2⟩ := one_done (zero := 0) H0.out hl (by omega) hsame hr1
    clear hl hsame hr1 H0
    obtain ⟨q, hq⟩ : ∃ q, q = rd (pNum 0 0) 0 r := ⟨_, rfl⟩
    rw [← hq] at hcell hr2
    have HQ := hid hq
    clear hq
    go_wp2
    have hc3 := World.cell?_setCell_same _ _ (.int .i64 (q.1 : Int)) hcell
    refine bodyPost_ret (v := .int .i64 (q.1 : Int)) (by simp [results, Tryd.results25, go_sem, hc3]) rfl ?_
    rw [← HQ.out]
    exact ⟨rfl, .boxes (((Keeps.refl _ w).alloc _).alloc _) hg1 hk1 (by omega) (by simp) (h.notNew (by omega)) hr2 _⟩
  · have HQ : Hid (rd (pNum 0 0) 0 r = (0, r)) := by simp [Hid, rd, h0]
    go_enter Tryd.func25, Tryd.ntmps25
    go_wp2_with fail
    refine (read_wrong S b r _ _ ((h.boxed _).boxed _) h0).mono ?_
    rintro e w2 ⟨rfl, rfl⟩
    go_wp2
    refine bodyPost_ret (v := .int .i64 0) (by simp [results, Tryd.results25, go_sem]) rfl ?_
    rw [HQ.out]
    exact ⟨rfl, S, fun _ h => .inl h, ((Keeps.refl _ w).alloc _).alloc _, (h.boxed _).boxed _⟩
end Go.Proofs.YtfjflnlcjnhmmaaDoor
