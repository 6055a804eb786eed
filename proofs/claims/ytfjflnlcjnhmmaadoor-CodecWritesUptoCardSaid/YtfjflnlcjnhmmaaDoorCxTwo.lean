/-
  Package codec: the Reader's methods that tell a text: Text, Raw; what is left; what is told at the end; a new Reader, a new Writer.
-/
import Derived.Test.YtfjflnlcjnhmmaaDoorCxOne
namespace Go.Proofs.YtfjflnlcjnhmmaaDoor
open Go.RowKit

set_option maxRecDepth 100000 in
set_option maxHeartbeats 1000000 in
theorem txt_inner (S : Nat → Prop) (b : Nat) (r : RSt) (n : Int) (mb pb nb : Nat) (w : World) (h : RRep S w b r) (h0 : r.2.2 = 0) (hm : w.cell? ⟨mb, 0, none⟩ = some (.int .i64 n)) (hp : w.cell? ⟨pb, 0, none⟩ = some (.pointer (some ⟨b, 0, none⟩)))
    (hn : w.cell? ⟨nb, 0, none⟩ = some (.string (str []))) (hf : w.frozen? ⟨nb, 0, none⟩ = false) (hnS : ¬ S nb) (hlt : nb < w.heap.size) :
    Calls Tryd.prog 62 #[.pointer (some ⟨mb, 0, none⟩), .pointer (some ⟨pb, 0, none⟩), .pointer (some ⟨nb, 0, none⟩)] w fun e w1 => e = .returned (.tuple #[]) ∧ ∃ r1 S1, Grows S S1 w w1 ∧ Keeps (fun k => S k ∨ k = nb) w w1 ∧ RRep S1 w1 b r1 ∧
      Leaves1 nb r (pTextM n r.1) (fun s => .string (str s)) (.string (str [])) r1 w1 := by
  by_cases hneg : n < 0
  · have hP : Hid (pTextM n r.1 = .error 1) := by simp [Hid, pTextM, hneg]
    have H0 := hid h0
    clear h0
    go_enter Tryd.func62, Tryd.ntmps62
    go_wp2_with fail
    refine (rrefuse_any S b r 1 _ (by decide) h).mono ?_
    rintro e w1 ⟨rfl, S1, hg1, hk1, hr1⟩
    have hn1 := (hk1.cell (p := ⟨nb, 0, none⟩) hlt hnS).trans hn
    have hf1 := (hk1.frozen (p := ⟨nb, 0, none⟩) hlt hnS).trans hf
    go_wp2
    first | go_end0 | refine bodyPost_ret (results_none rfl _ _ _) rfl ?_
    refine ⟨rfl, _, S1, hg1, hk1.mono fun _ _ h => .inl h, hr1, _, hn1, hf1, ?_⟩
    rw [hP.out]
    exact ⟨rfl, by simp [rRefuse, first, H0.out], by decide⟩
  · have hPT : Hid (pTextM n r.1 = pText n r.1) := by simp [Hid, pTextM, hneg]
    have hpos : 0 ≤ n := by omega
    have H0 := hid h0
    clear h0
    go_enter Tryd.func62, Tryd.ntmps62
    go_wp2_with fail
    refine (text_any S b r n _ h H0.out hpos).mono ?_
    rintro e w1 ⟨v, r1, rfl, hP, S1, hg1, hk1, hr1⟩
    have hn1 := (hk1.cell (p := ⟨nb, 0, none⟩) hlt hnS).trans hn
    have hf1 := (hk1.frozen (p := ⟨nb, 0, none⟩) hlt hnS).trans hf
    obtain ⟨m, rfl⟩ : ∃ m, v = .string m := by
      cases hq : pText n r.1 with
      | error e => rw [hq] at hP; exact ⟨_, hP.1⟩
      | ok x => rw [hq] at hP; exact ⟨_, hP.1⟩
    rw [← hPT.out] at hP
    have HP := hid hP
    clear hP
    go_wp2
    go_end0
    exact ⟨rfl, stored_out hg1 hk1 hr1 hn1 hf1 hnS hlt HP.out⟩


set_option maxRecDepth 100000 in
set_option maxHeartbeats 1000000 in
theorem rtxt_any (S : Nat → Prop) (b : Nat) (r : RSt) (n : Int) (w : World) (h : RRep S w b r) :
    Calls Tryd.prog 29 #[.pointer (some ⟨b, 0, none⟩), .int .i64 n] w fun e w' => e = .returned (.string (str (rd (pTextM n) [] r).1)) ∧ Acts S w w' fun S' => RRep S' w' b (rd (pTextM n) [] r).2 := by
  have hmf := makeFunc_run Tryd.prog
  have hbl := h.cells.choose_spec.2.2.2.2.2.2.1
  by_cases h0 : r.2.2 = 0
  · have H0 := hid h0
    clear h0
    go_enter Tryd.func29, Tryd.ntmps29
    go_wp2_with fail
    refine (read_any S (fun k => k = w.heap.size + 1 + 1) b r 62 _ _ (fun r1 _ w1 => Leaves1 (w.heap.size + 1 + 1) r (pTextM n r.1) (fun s => .string (str s)) (.string (str [])) r1 w1) (((h.boxed _).boxed _).boxed _) H0.out (by intro w0; kernel_rfl) ?hc).mono ?_
    case hc =>
      intro nq
      refine (txt_inner S b r n (w.heap.size + 1) w.heap.size (w.heap.size + 1 + 1) _ ((((h.boxed _).boxed _).boxed _).keeps ((Keeps.refl (fun _ => False) _).drewN nq) (fun _ _ h => h)) H0.out (by exact (cells3n w _ _ _ _ _ _ _ 0).2.1) (by exact (cells3n w _ _ _ _ _ _ _ 0).1) (by exact (cells3n w _ _ _ _ _ _ _ 0).2.2.1) (by exact (cells3n w _ _ _ _ _ _ _ 0).2.2.2.2.2) (h.notNew (by omega)) (by simp)).mono ?_
      rintro e w1 ⟨rfl, r1, S1, a1, a2, a3, a4⟩
      exact ⟨rfl, r1, S1, a1, ⟨a2.os, a2.tape, a2.output, a2.size, a2.block⟩, a3, a4⟩
    rintro e w2 ⟨r1, w1, S0, S1, hl, _, rfl, hg1, hk1, hr1, hsame⟩
    obtain ⟨hcell, hfr, hr2⟩ := one_done (p := pTextM n) (zero := []) H0.out hl (by omega) hsame hr1
    clear hl hsame hr1 H0
    obtain ⟨q, hq⟩ : ∃ q, q = rd (pTextM n) [] r := ⟨_, rfl⟩
    rw [← hq] at hcell hr2
    have HQ := hid hq
    clear hq
    go_wp2
    have hc3 := World.cell?_setCell_same _ _ (.string (str q.1)) hcell
    refine bodyPost_ret (v := .string (str q.1)) (by simp [results, Tryd.results29, go_sem, hc3]) rfl ?_
    rw [← HQ.out]
    exact ⟨rfl, .boxes ((((Keeps.refl _ w).alloc _).alloc _).alloc _) hg1 hk1 (by omega) (by simp) (h.notNew (by omega)) hr2 _⟩
  · have HQ : Hid (rd (pTextM n) [] r = ([], r)) := by simp [Hid, rd, h0]
    go_enter Tryd.func29, Tryd.ntmps29
    go_wp2_with fail
    refine (read_wrong S b r _ _ (((h.boxed _).boxed _).boxed _) h0).mono ?_
    rintro e w2 ⟨rfl, rfl⟩
    go_wp2
    refine bodyPost_ret (v := .string (str [])) (by simp [results, Tryd.results29, go_sem]; rfl) rfl ?_
    rw [HQ.out]
    exact ⟨rfl, S, fun _ h => .inl h, (((Keeps.refl _ w).alloc _).alloc _).alloc _, ((h.boxed _).boxed _).boxed _⟩

set_option maxRecDepth 100000 in
set_option maxHeartbeats 1000000 in
theorem raw_inner (S : Nat → Prop) (b : Nat) (r : RSt) (n : Int) (mb pb nb : Nat) (w : World) (h : RRep S w b r) (h0 : r.2.2 = 0) (hm : w.cell? ⟨mb, 0, none⟩ = some (.int .i64 n)) (hp : w.cell? ⟨pb, 0, none⟩ = some (.pointer (some ⟨b, 0, none⟩)))
    (hn : w.cell? ⟨nb, 0, none⟩ = some (.string (str []))) (hf : w.frozen? ⟨nb, 0, none⟩ = false) (hnS : ¬ S nb) (hlt : nb < w.heap.size) (hmax : n ≤ 4611686018427387904) :
    Calls Tryd.prog 66 #[.pointer (some ⟨mb, 0, none⟩), .pointer (some ⟨pb, 0, none⟩), .pointer (some ⟨nb, 0, none⟩)] w fun e w1 => e = .returned (.tuple #[]) ∧ ∃ r1 S1, Grows S S1 w w1 ∧ Keeps (fun k => S k ∨ k = nb) w w1 ∧ RRep S1 w1 b r1 ∧
      Leaves1 nb r (pRaw n r.1) (fun s => .string (str s)) (.string (str [])) r1 w1 := by
  by_cases hneg : n < 0
  · have hP : Hid (pRaw n r.1 = .error 1) := by simp [Hid, pRaw, hneg]
    have H0 := hid h0
    clear h0
    go_enter Tryd.func66, Tryd.ntmps66
    go_wp2_with fail
    refine (rrefuse_any S b r 1 _ (by decide) h).mono ?_
    rintro e w1 ⟨rfl, S1, hg1, hk1, hr1⟩
    have hn1 := (hk1.cell (p := ⟨nb, 0, none⟩) hlt hnS).trans hn
    have hf1 := (hk1.frozen (p := ⟨nb, 0, none⟩) hlt hnS).trans hf
    go_wp2
    first | go_end0 | refine bodyPost_ret (results_none rfl _ _ _) rfl ?_
    refine ⟨rfl, _, S1, hg1, hk1.mono fun _ _ h => .inl h, hr1, _, hn1, hf1, ?_⟩
    rw [hP.out]
    exact ⟨rfl, by simp [rRefuse, first, H0.out], by decide⟩
  · obtain ⟨m, rfl⟩ := Int.eq_ofNat_of_zero_le (show 0 ≤ n by omega)
    have hP : Hid (pRaw m r.1 = if r.1.length < m then .error 21 else .ok (r.1.take m, r.1.drop m)) := by rw [Hid, pRaw, if_neg hneg]; rfl
    have hT : Hid (rTake r m = if r.1.length < m then ([], rRefuse r 21) else (r.1.take m, (r.1.drop m, r.2.1 + m, 0))) := by simp [Hid, rTake, h0]
    have H0 := hid h0
    clear h0
    go_enter Tryd.func66, Tryd.ntmps66
    go_wp2_with fail
    refine (rtake_any S b r m _ (by omega) h).mono ?_
    rintro e w1 ⟨rfl, S1, hg1, hk1, hr1⟩
    have hn1 := (hk1.cell (p := ⟨nb, 0, none⟩) hlt hnS).trans hn
    have hf1 := (hk1.frozen (p := ⟨nb, 0, none⟩) hlt hnS).trans hf
    have hlast : Hid (Parsed r (pRaw m r.1) (.string (str (rTake r m).1)) (fun s => .string (str s)) (.string (str [])) (rTake r m).2) := by
      unfold Hid
      rw [hP.out, hT.out]
      by_cases hl : r.1.length < m
      · rw [if_pos hl, if_pos hl]
        exact ⟨rfl, by simp [rRefuse, first, H0.out], by decide⟩
      · rw [if_neg hl, if_neg hl]
        exact ⟨rfl, by simp; omega, by simp⟩
    generalize rTake r m = q at *
    go_wp2
    go_end0
    exact ⟨rfl, stored_out hg1 hk1 hr1 hn1 hf1 hnS hlt hlast.out⟩


set_option maxRecDepth 100000 in
set_option maxHeartbeats 1000000 in
theorem rraw_any (S : Nat → Prop) (b : Nat) (r : RSt) (n : Int) (w : World) (h : RRep S w b r) (hmax : n ≤ 4611686018427387904) :
    Calls Tryd.prog 35 #[.pointer (some ⟨b, 0, none⟩), .int .i64 n] w fun e w' => e = .returned (.string (str (rd (pRaw n) [] r).1)) ∧ Acts S w w' fun S' => RRep S' w' b (rd (pRaw n) [] r).2 := by
  have hmf := makeFunc_run Tryd.prog
  have hbl := h.cells.choose_spec.2.2.2.2.2.2.1
  by_cases h0 : r.2.2 = 0
  · have H0 := hid h0
    clear h0
    go_enter Tryd.func35, Tryd.ntmps35
    go_wp2_with fail
    refine (read_any S (fun k => k = w.heap.size + 1 + 1) b r 66 _ _ (fun r1 _ w1 => Leaves1 (w.heap.size + 1 + 1) r (pRaw n r.1) (fun s => .string (str s)) (.string (str [])) r1 w1) (((h.boxed _).boxed _).boxed _) H0.out (by intro w0; kernel_rfl) ?hc).mono ?_
    case hc =>
      intro nq
      refine (raw_inner S b r n (w.heap.size + 1) w.heap.size (w.heap.size + 1 + 1) _ ((((h.boxed _).boxed _).boxed _).keeps ((Keeps.refl (fun _ => False) _).drewN nq) (fun _ _ h => h)) H0.out (by exact (cells3n w _ _ _ _ _ _ _ 0).2.1) (by exact (cells3n w _ _ _ _ _ _ _ 0).1) (by exact (cells3n w _ _ _ _ _ _ _ 0).2.2.1) (by exact (cells3n w _ _ _ _ _ _ _ 0).2.2.2.2.2) (h.notNew (by omega)) (by simp) hmax).mono ?_
      rintro e w1 ⟨rfl, r1, S1, a1, a2, a3, a4⟩
      exact ⟨rfl, r1, S1, a1, ⟨a2.os, a2.tape, a2.output, a2.size, a2.block⟩, a3, a4⟩
    rintro e w2 ⟨r1, w1, S0, S1, hl, _, rfl, hg1, hk1, hr1, hsame⟩
    obtain ⟨hcell, hfr, hr2⟩ := one_done (p := pRaw n) (zero := []) H0.out hl (by omega) hsame hr1
    clear hl hsame hr1 H0
    obtain ⟨q, hq⟩ : ∃ q, q = rd (pRaw n) [] r := ⟨_, rfl⟩
    rw [← hq] at hcell hr2
    have HQ := hid hq
    clear hq
    go_wp2
    have hc3 := World.cell?_setCell_same _ _ (.string (str q.1)) hcell
    refine bodyPost_ret (v := .string (str q.1)) (by simp [results, Tryd.results35, go_sem, hc3]) rfl ?_
    rw [← HQ.out]
    exact ⟨rfl, .boxes ((((Keeps.refl _ w).alloc _).alloc _).alloc _) hg1 hk1 (by omega) (by simp) (h.notNew (by omega)) hr2 _⟩
  · have HQ : Hid (rd (pRaw n) [] r = ([], r)) := by simp [Hid, rd, h0]
    go_enter Tryd.func35, Tryd.ntmps35
    go_wp2_with fail
    refine (read_wrong S b r _ _ (((h.boxed _).boxed _).boxed _) h0).mono ?_
    rintro e w2 ⟨rfl, rfl⟩
    go_wp2
    refine bodyPost_ret (v := .string (str [])) (by simp [results, Tryd.results35, go_sem]; rfl) rfl ?_
    rw [HQ.out]
    exact ⟨rfl, S, fun _ h => .inl h, (((Keeps.refl _ w).alloc _).alloc _).alloc _, ((h.boxed _).boxed _).boxed _⟩
end Go.Proofs.YtfjflnlcjnhmmaaDoor
