/-
  Package codec: the Reader's Hashes and Texts.
-/
import Derived.Test.YtpccaodkgboefaaGreatDoorCxElemsB
namespace Go.Proofs.YtpccaodkgboefaaGreatDoor
open Go.RowKit

theorem cells4 (w : World) (a b c d : Array Value) (ta tb tc td : TypeId) (o : Nat) :
    ((((w.alloc (.cells a ta)).alloc (.cells b tb)).alloc (.cells c tc)).alloc (.cells d td)).cell? ⟨w.heap.size, o, none⟩ = a[o]? ∧ ((((w.alloc (.cells a ta)).alloc (.cells b tb)).alloc (.cells c tc)).alloc (.cells d td)).cell? ⟨w.heap.size + 1, o, none⟩ = b[o]? ∧
    ((((w.alloc (.cells a ta)).alloc (.cells b tb)).alloc (.cells c tc)).alloc (.cells d td)).cell? ⟨w.heap.size + 1 + 1, o, none⟩ = c[o]? ∧ ((((w.alloc (.cells a ta)).alloc (.cells b tb)).alloc (.cells c tc)).alloc (.cells d td)).cell? ⟨w.heap.size + 1 + 1 + 1, o, none⟩ = d[o]? ∧
    ((((w.alloc (.cells a ta)).alloc (.cells b tb)).alloc (.cells c tc)).alloc (.cells d td)).frozen? ⟨w.heap.size + 1 + 1 + 1, o, none⟩ = false := by
  have h3 := cells3 w a b c ta tb tc o
  refine ⟨?_, ?_, ?_, ?_, ?_⟩
  · rw [World.cell?_alloc_past _ _ _ (by simp only [World.size_alloc]; try omega)]; exact h3.1
  · rw [World.cell?_alloc_past _ _ _ (by simp only [World.size_alloc]; try omega)]; exact h3.2.1
  · rw [World.cell?_alloc_past _ _ _ (by simp only [World.size_alloc]; try omega)]; exact h3.2.2.1
  · rw [World.cell?_alloc_at _ _ _ _ (by simp only [World.size_alloc]; try omega)]
  · rw [World.frozen?_alloc_at _ _ _ _ (by simp only [World.size_alloc]; try omega)]
theorem cells4n (w : World) (a b c d : Array Value) (ta tb tc td : TypeId) (n o : Nat) :
    (((((w.alloc (.cells a ta)).alloc (.cells b tb)).alloc (.cells c tc)).alloc (.cells d td)).drewN n).cell? ⟨w.heap.size, o, none⟩ = a[o]? ∧ (((((w.alloc (.cells a ta)).alloc (.cells b tb)).alloc (.cells c tc)).alloc (.cells d td)).drewN n).cell? ⟨w.heap.size + 1, o, none⟩ = b[o]? ∧
    (((((w.alloc (.cells a ta)).alloc (.cells b tb)).alloc (.cells c tc)).alloc (.cells d td)).drewN n).cell? ⟨w.heap.size + 1 + 1, o, none⟩ = c[o]? ∧ (((((w.alloc (.cells a ta)).alloc (.cells b tb)).alloc (.cells c tc)).alloc (.cells d td)).drewN n).cell? ⟨w.heap.size + 1 + 1 + 1, o, none⟩ = d[o]? ∧
    (((((w.alloc (.cells a ta)).alloc (.cells b tb)).alloc (.cells c tc)).alloc (.cells d td)).drewN n).frozen? ⟨w.heap.size + 1 + 1 + 1, o, none⟩ = false := cells4 w a b c d ta tb tc td o

set_option maxRecDepth 100000 in
set_option maxHeartbeats 1000000 in
theorem rhashes_any (S : Nat → Prop) (b : Nat) (r : RSt) (n : Int) (w : World) (h : RRep S w b r) (hb : n ≤ 1099511627776 ∨ r.1.length ≤ 1099511627776) :
    Calls Tryz.prog 132 #[.pointer (some ⟨b, 0, none⟩), .int .i64 n] w fun e w' => Hands 9 1 S b w w' (rd (pHashes n) [] r) texts e := by
  have hmf := makeFunc_run Tryz.prog
  have hnot : ∀ (x : Bool) (w : World), (Op.unary .not (.bool x)).run Tryz.prog w = .ok (.bool (!x)) w := fun _ _ => rfl
  have hbl := h.cells.choose_spec.2.2.2.2.2.2.1
  by_cases h0 : r.2.2 = 0
  · have H0 := hid h0
    have HB := hid hb
    clear h0 hb
    go_enter Tryz.func132, Tryz.ntmps132
    go_wp2_with fail
    refine (read_any S (fun k => k = w.heap.size + 1 + 1) b r 144 _ _ (fun r1 S1 w1 => LeavesL 9 1 (w.heap.size + 1 + 1) (w.heap.size + 1 + 1 + 1) r (pHashes n r.1) texts r1 S1 w1) (((h.boxed _).boxed _).boxed _) H0.out (by intro w0; kernel_rfl) ?hc).mono ?_
    case hc =>
      intro nq
      refine (hashes_inner S b r n (w.heap.size + 1) w.heap.size (w.heap.size + 1 + 1) _ ((((h.boxed _).boxed _).boxed _).keeps ((Keeps.refl (fun _ => False) _).drewN nq) (fun _ _ h => h)) H0.out (by exact (cells3n w _ _ _ _ _ _ _ 0).2.1) (by exact (cells3n w _ _ _ _ _ _ _ 0).1) (by exact (cells3n w _ _ _ _ _ _ _ 0).2.2.1) (by exact (cells3n w _ _ _ _ _ _ _ 0).2.2.2.2.2) (h.notNew (by omega)) (h.notNew (by omega)) (by omega) (by simp) (by simp; omega) HB.out).mono ?_
      rintro e w1 ⟨rfl, r1, S1, a1, a2, a3, a4⟩
      exact ⟨rfl, r1, S1, a1, ⟨a2.os, a2.tape, a2.output, a2.size, a2.block⟩, a3, by simpa using a4⟩
    rintro e w2 ⟨r1, w1, S0, S1, hl, hsame0, rfl, hg1, hk1, hr1, hsame⟩
    have he := hands_end (W := ((w.alloc _).alloc _).alloc _) H0.out rfl ((((Keeps.refl _ w).alloc _).alloc _).alloc _) (by omega) (by simpa using hl) hsame0 hg1 hk1 hr1
    by_cases h1 : r1.2.2 = 0
    · obtain ⟨v, hc, ⟨ao, len, cap, rfl⟩, hh⟩ := he.2 h1
      have hd : decide (r1.2.2 = 0) = true := decide_eq_true h1
      have HH := hid hh
      clear he hl hsame0 hsame hr1 hh h1
      go_wp2
      go_ret
      exact HH.out
    · have hh := he.1 h1
      have hd : decide (r1.2.2 = 0) = false := decide_eq_false h1
      have HH := hid hh
      clear he hl hsame0 hsame hr1 hh h1
      go_wp2
      go_ret
      exact HH.out
  · have HQ : Hid (rd (pHashes n) [] r = ([], r)) := by simp [Hid, rd, h0]
    go_enter Tryz.func132, Tryz.ntmps132
    go_wp2_with fail
    refine (read_wrong S b r _ _ (((h.boxed _).boxed _).boxed _) h0).mono ?_
    rintro e w2 ⟨rfl, rfl⟩
    go_wp2
    go_ret
    rw [HQ.out]
    exact ⟨_, S, rfl, fun _ h => .inl h, (((Keeps.refl _ w).alloc _).alloc _).alloc _, ((h.boxed _).boxed _).boxed _, World.ownsRow_nil _ _ _ _, fun g hg => by cases hg⟩
set_option maxRecDepth 100000 in
set_option maxHeartbeats 1000000 in
theorem rtexts_any (S : Nat → Prop) (b : Nat) (r : RSt) (n m : Int) (w : World) (h : RRep S w b r) (hb : n ≤ 1099511627776 ∨ r.1.length ≤ 1099511627776) :
    Calls Tryz.prog 86 #[.pointer (some ⟨b, 0, none⟩), .int .i64 n, .int .i64 m] w fun e w' => Hands 9 1 S b w w' (rd (pTexts n m) [] r) texts e := by
  have hmf := makeFunc_run Tryz.prog
  have hnot : ∀ (x : Bool) (w : World), (Op.unary .not (.bool x)).run Tryz.prog w = .ok (.bool (!x)) w := fun _ _ => rfl
  have hbl := h.cells.choose_spec.2.2.2.2.2.2.1
  by_cases h0 : r.2.2 = 0
  · have H0 := hid h0
    have HB := hid hb
    clear h0 hb
    go_enter Tryz.func86, Tryz.ntmps86
    go_wp2_with fail
    refine (read_any S (fun k => k = w.heap.size + 1 + 1 + 1) b r 121 _ _ (fun r1 S1 w1 => LeavesL 9 1 (w.heap.size + 1 + 1 + 1) (w.heap.size + 1 + 1 + 1 + 1) r (pTexts n m r.1) texts r1 S1 w1) ((((h.boxed _).boxed _).boxed _).boxed _) H0.out (by intro w0; kernel_rfl) ?hc).mono ?_
    case hc =>
      intro nq
      refine (texts_inner S b r n m (w.heap.size + 1) (w.heap.size + 1 + 1) w.heap.size (w.heap.size + 1 + 1 + 1) _ (((((h.boxed _).boxed _).boxed _).boxed _).keeps ((Keeps.refl (fun _ => False) _).drewN nq) (fun _ _ h => h)) H0.out (by exact (cells4n w _ _ _ _ _ _ _ _ _ 0).2.1) (by exact (cells4n w _ _ _ _ _ _ _ _ _ 0).2.2.1) (h.notNew (by omega)) (by omega) (by simp) (by exact (cells4n w _ _ _ _ _ _ _ _ _ 0).1) (by exact (cells4n w _ _ _ _ _ _ _ _ _ 0).2.2.2.1) (by exact (cells4n w _ _ _ _ _ _ _ _ _ 0).2.2.2.2) (h.notNew (by omega)) (h.notNew (by omega)) (by omega) (by simp) (by simp; omega) HB.out).mono ?_
      rintro e w1 ⟨rfl, r1, S1, a1, a2, a3, a4⟩
      exact ⟨rfl, r1, S1, a1, ⟨a2.os, a2.tape, a2.output, a2.size, a2.block⟩, a3, by simpa using a4⟩
    rintro e w2 ⟨r1, w1, S0, S1, hl, hsame0, rfl, hg1, hk1, hr1, hsame⟩
    have he := hands_end (W := (((w.alloc _).alloc _).alloc _).alloc _) H0.out rfl (((((Keeps.refl _ w).alloc _).alloc _).alloc _).alloc _) (by omega) (by simpa using hl) hsame0 hg1 hk1 hr1
    by_cases h1 : r1.2.2 = 0
    · obtain ⟨v, hc, ⟨ao, len, cap, rfl⟩, hh⟩ := he.2 h1
      have hd : decide (r1.2.2 = 0) = true := decide_eq_true h1
      have HH := hid hh
      clear he hl hsame0 hsame hr1 hh h1
      go_wp2
      go_ret
      exact HH.out
    · have hh := he.1 h1
      have hd : decide (r1.2.2 = 0) = false := decide_eq_false h1
      have HH := hid hh
      clear he hl hsame0 hsame hr1 hh h1
      go_wp2
      go_ret
      exact HH.out
  · have HQ : Hid (rd (pTexts n m) [] r = ([], r)) := by simp [Hid, rd, h0]
    go_enter Tryz.func86, Tryz.ntmps86
    go_wp2_with fail
    refine (read_wrong S b r _ _ ((((h.boxed _).boxed _).boxed _).boxed _) h0).mono ?_
    rintro e w2 ⟨rfl, rfl⟩
    go_wp2
    go_ret
    rw [HQ.out]
    exact ⟨_, S, rfl, fun _ h => .inl h, ((((Keeps.refl _ w).alloc _).alloc _).alloc _).alloc _, (((h.boxed _).boxed _).boxed _).boxed _, World.ownsRow_nil _ _ _ _, fun g hg => by cases hg⟩
end Go.Proofs.YtpccaodkgboefaaGreatDoor
