/-
  CodecWrites: the walk.
-/
import Derived.Test.YtfjflnlcjnhmmaaDoorXwStep
import Derived.Test.YtfjflnlcjnhmmaaDoorCxKnown
import Derived.BigQuiet
import Derived.Deep.RegionLaw
namespace Go.Proofs.YtfjflnlcjnhmmaaDoor
open Go.RowKit

/-- the script, as it came in: n steps -/
def ScriptAt (w : World) (v : Value) (n : Nat) : Prop :=
  ∃ ao cap, v = .slice ao n cap ∧ ∀ i : Nat, i < n → ∃ bb off, ao = some ⟨bb, off, none⟩ ∧ bb < w.heap.size ∧ ∃ (o : SOp) (lv tv : Value), o.Small ∧
    w.cell? ⟨bb, off + i * 8, none⟩ = some (.bool o.other) ∧ w.cell? ⟨bb, off + i * 8 + 1, none⟩ = some (.bool o.kept) ∧ w.cell? ⟨bb, off + i * 8 + 2, none⟩ = some (.int .i64 o.k) ∧ w.cell? ⟨bb, off + i * 8 + 3, none⟩ = some (.int .i64 o.n) ∧
    w.cell? ⟨bb, off + i * 8 + 4, none⟩ = some (.int .i64 o.m) ∧ w.cell? ⟨bb, off + i * 8 + 5, none⟩ = some (.string (str o.s)) ∧ w.cell? ⟨bb, off + i * 8 + 6, none⟩ = some lv ∧ w.cell? ⟨bb, off + i * 8 + 7, none⟩ = some tv ∧
    ListAt w lv (ints o.l) ∧ NilOr lv ∧ (o.l ≠ [] → ∀ g, lv.ownBlock = some g → g < w.heap.size) ∧ ListAt w tv (texts o.t) ∧ NilOr tv ∧ (o.t ≠ [] → ∀ g, tv.ownBlock = some g → g < w.heap.size)

set_option maxRecDepth 100000 in
set_option maxHeartbeats 1000000 in
theorem codecWrites_walk (v : Value) (n : Nat) (w : World) (hl : Laid w) (hs : ScriptAt w v n) (hn : n ≤ 9223372036854775807) :
    Calls Tryd.prog 6 #[v] w fun e w' => e = .returned (.bool true) ∧ Fresh w w' := by
  obtain ⟨ao, cap, rfl, hi⟩ := hs
  have HI := hid hi
  clear hi
  go_enter Tryd.func6, Tryd.ntmps6
  go_wp2_with fail
  refine (known_any w hl).mono ?_
  rintro e w1 ⟨rfl, f1⟩
  have l1 := hl.keeps f1 (fun h => h)
  go_wp2_with fail
  refine (newWriter_any w1 l1).mono ?_
  rintro e w2 ⟨a, rfl, f2, ha, ra⟩
  have l2 := l1.keeps f2 (fun h => h)
  go_wp2_with fail
  refine (xnew_any w2 l2).mono ?_
  rintro e w3 ⟨c, rfl, f3, hc, xc⟩
  have l3 := l2.keeps f3 (fun h => h)
  have ra3 := ra.keeps f3 (fun _ _ h => h)
  go_wp2_with fail
  have f4 : Fresh w3 (w3.alloc (.cells #[.pointer (some ⟨a, 0, none⟩), .pointer (some ⟨c, 0, none⟩)] 40)) := (Keeps.refl _ _).alloc _
  have h4 := heap_alloc_new w3 (.cells #[.pointer (some ⟨a, 0, none⟩), .pointer (some ⟨c, 0, none⟩)] 40)
  have s4 : (w3.alloc (.cells #[.pointer (some ⟨a, 0, none⟩), .pointer (some ⟨c, 0, none⟩)] 40)).heap.size = w3.heap.size + 1 := by simp
  obtain ⟨w4, hw4⟩ : ∃ w4, w4 = w3.alloc (.cells #[.pointer (some ⟨a, 0, none⟩), .pointer (some ⟨c, 0, none⟩)] 40) := ⟨_, rfl⟩
  rw [← hw4] at f4 h4 s4 ⊢
  clear hw4
  have l4 := l3.keeps f4 (fun h => h)
  refine (newWriter_any w4 l4).mono ?_
  rintro e w5 ⟨b, rfl, f5, hb, rb⟩
  have l5 := l4.keeps f5 (fun h => h)
  go_wp2_with fail
  refine (xnew_any w5 l5).mono ?_
  rintro e w6 ⟨d, rfl, f6, hd, xd⟩
  have l6 := l5.keeps f6 (fun h => h)
  have f46 := (f4.trans f5).trans f6
  have B0 : Both w a c b d w3.heap.size w6.heap.size (fun k => k = a) (fun k => k = b) (w6.alloc (.cells #[.pointer (some ⟨b, 0, none⟩), .pointer (some ⟨d, 0, none⟩)] 40)) ([], 0) ([], 0) ([], 0) ([], 0) := by
    have f7 : Fresh w6 (w6.alloc (.cells #[.pointer (some ⟨b, 0, none⟩), .pointer (some ⟨d, 0, none⟩)] 40)) := (Keeps.refl _ _).alloc _
    have f36 := f46.trans f7
    have z1 := f1.size
    have z2 := (ra.2.1 a rfl).2
    have z3 := xc.cells.2.2.2.2
    have z5 := (rb.2.1 b rfl).2
    have z6 := xd.cells.2.2.2.2
    have y2 := f2.size
    have y3 := f3.size
    have y5 := f5.size
    have y6 := f6.size
    exact ⟨(((f1.trans f2).trans f3).trans f36), ra3.keeps f36 (fun _ _ h => h), xc.keeps f36 (fun h => h), ⟨rfl, fun _ => rfl⟩, rb.keeps (f6.trans f7) (fun _ _ h => h), xd.keeps f7 (fun h => h), ⟨rfl, fun _ => rfl⟩,
      fun k hk => by subst hk; exact ⟨by omega, by omega, by omega, by omega, by omega, by omega⟩, fun k hk => by subst hk; exact ⟨by omega, by omega, by omega, by omega, by omega⟩, by omega,
      ((f5.trans f6).trans f7).at_ h4 (fun h => h), heap_alloc_new w6 _, l6.keeps f7 (fun h => h)⟩
  clear ra ra3 rb xc xd l1 l2 l3 l4 l5 l6 f1 f2 f3 f4 f5 f6 f46 h4 s4 ha hb hc hd
  have cA := cell_at B0.box1 0
  have cA1 := cell_at B0.box1 1
  have cB := cell_at B0.box2 0
  have cB1 := cell_at B0.box2 1
  have bA := lt_of_block B0.box1
  simp at cA cA1 cB cB1
  go_wp2
  clear cA cA1 cB cB1 bA
  go_loopw [6] (fun i wr => ∃ (k : Nat) (Sa Sb : Nat → Prop) (A X B Y : List UInt8 × Int), i = .int .i64 (k : Int) ∧ k ≤ 200 ∧ k ≤ n ∧ Both w a c b d w3.heap.size w6.heap.size Sa Sb wr A X B Y ∧
    A.1.length ≤ 25000000 * k ∧ X.1.length ≤ 25000000 * k ∧ B.1.length ≤ 25000000 * k ∧ Y.1.length ≤ 25000000 * k) (fun i _ => 200 - (intOf i).toNat)
  case atStart => exact ⟨0, _, _, _, _, _, _, rfl, by omega, by omega, B0, by simp, by simp, by simp, by simp⟩
  case round =>
    clear B0
    obtain ⟨k, Sa, Sb, A, X, B, Y, rfl, hk, hkn, hB, hA, hX, hB1, hY⟩ := hrel
    obtain ⟨pa, hpa⟩ : ∃ pa, pa = w3.heap.size := ⟨_, rfl⟩
    obtain ⟨pb, hpb⟩ : ∃ pb, pb = w6.heap.size := ⟨_, rfl⟩
    rw [← hpa, ← hpb] at hB
    rw [← hpa, ← hpb]
    clear hpa hpb
    have c0 := cell_at hB.box1 0
    have c1 := cell_at hB.box1 1
    have d0 := cell_at hB.box2 0
    have d1 := cell_at hB.box2 1
    have zpa := lt_of_block hB.box1
    have zpb := lt_of_block hB.box2
    simp at c0 c1 d0 d1
    by_cases hlt : k < n
    · by_cases h200 : k < 200
      · obtain ⟨bb, off, hao, hbb, o, lv, tv, hsm, e0, e1, e2, e3, e4, e5, e6, e7, hlv, hln, hlB, htv, htn, htB⟩ := HI.out k hlt
        have tr : ∀ (p : Addr) (v : Value), p.block < w.heap.size → w.cell? p = some v → wr.cell? p = some v := fun p v hp h => (hB.fresh.cell hp (fun h => h)).trans h
        replace e0 := tr _ _ hbb e0
        replace e1 := tr _ _ hbb e1
        replace e2 := tr _ _ hbb e2
        replace e3 := tr _ _ hbb e3
        replace e4 := tr _ _ hbb e4
        replace e5 := tr _ _ hbb e5
        replace e6 := tr _ _ hbb e6
        replace e7 := tr _ _ hbb e7
        subst hao
        have zb : bb < wr.heap.size := Nat.lt_of_lt_of_le hbb hB.fresh.size
        clear tr
        obtain ⟨oo, kb, ok, on, om, os, ol, ot⟩ := o
        simp only at e0 e1 e2 e3 e4 e5 hlv htv hlB htB
        cases oo with
        | false =>
          go_wp2_with fail
          obtain ⟨w8, hw8⟩ : ∃ w8, w8 = wr.alloc (.cells #[.pointer (some ⟨a, 0, none⟩), .pointer (some ⟨c, 0, none⟩)] 40) := ⟨_, rfl⟩
          have f8 : Fresh wr w8 := by rw [hw8]; exact (Keeps.refl _ _).alloc _
          have h8 : w8.heap[wr.heap.size]? = some (.cells #[.pointer (some ⟨a, 0, none⟩), .pointer (some ⟨c, 0, none⟩)] 40 (0, 0)) := by rw [hw8]; exact heap_alloc_new wr _
          rw [← hw8]
          clear hw8
          have g0 := cell_at h8 0
          have g1 := cell_at h8 1
          simp at g0 g1
          replace g0 : w8.drew.cell? ⟨wr.heap.size, 0, none⟩ = some (.pointer (some ⟨a, 0, none⟩)) := g0
          replace g1 : w8.drew.cell? ⟨wr.heap.size, 1, none⟩ = some (.pointer (some ⟨c, 0, none⟩)) := g1
          have tr : ∀ (p : Addr) (v : Value), p.block < wr.heap.size → wr.cell? p = some v → w8.drew.cell? p = some v := fun p v hp h => (f8.drew.cell hp (fun h => h)).trans h
          replace e0 := tr _ _ zb e0
          replace e1 := tr _ _ zb e1
          replace e2 := tr _ _ zb e2
          replace e3 := tr _ _ zb e3
          replace e4 := tr _ _ zb e4
          replace e5 := tr _ _ zb e5
          replace e6 := tr _ _ zb e6
          replace e7 := tr _ _ zb e7
          have B8 := hB.next f8.drew
          have hlv8 := hlv.keeps B8.fresh (fun _ _ h => h)
          have htv8 := htv.keeps B8.fresh (fun _ _ h => h)
          have hB8 : ∀ g, g < w.heap.size → g < w8.drew.heap.size ∧ ¬ Sa g ∧ g ≠ c := fun g hg => by
            have h1 := B8.fresh.size
            have h2 := B8.cs.1
            exact ⟨by omega, fun h => by have := (B8.na g h).1; omega, by omega⟩
          have hlB8 := fun h0 g hg => hB8 g (hlB h0 g hg)
          have htB8 := fun h0 g hg => hB8 g (htB h0 g hg)
          clear tr hB hB8 h8 c0 c1 d0 d1
          go_region_law (first | (go_simp; go_at_call 17; refine (step_any Sa a c A X ⟨false, kb, ok, on, om, os, ol, ot⟩ lv tv _ B8.wa B8.xa (fun h => (B8.na _ h).2.2.1 rfl) B8.laid B8.la hlv8 hln hlB8 htv8 htn htB8 hsm (by omega) (by omega)).mono ?_; rintro e w9 ⟨rfl, A', X', hst, hal, hA', hX'⟩; obtain ⟨S', B9⟩ := B8.stepped hst hal))
          all_goals
            clear B8 hst e0 e1 e2 e3 e4 e5 e6 e7 g0 g1
            go_wp2
            go_roundw
            case rel => refine ⟨k + 1, S', Sb, A', X', B, Y, by go_num, by omega, by omega, ?_, by omega, by omega, by omega, by omega⟩; exact B9
            case measure => simp [intOf]; omega
        | true =>
          go_wp2_with fail
          obtain ⟨w8, hw8⟩ : ∃ w8, w8 = wr.alloc (.cells #[.pointer (some ⟨b, 0, none⟩), .pointer (some ⟨d, 0, none⟩)] 40) := ⟨_, rfl⟩
          have f8 : Fresh wr w8 := by rw [hw8]; exact (Keeps.refl _ _).alloc _
          have h8 : w8.heap[wr.heap.size]? = some (.cells #[.pointer (some ⟨b, 0, none⟩), .pointer (some ⟨d, 0, none⟩)] 40 (0, 0)) := by rw [hw8]; exact heap_alloc_new wr _
          rw [← hw8]
          clear hw8
          have g0 := cell_at h8 0
          have g1 := cell_at h8 1
          simp at g0 g1
          replace g0 : w8.drew.cell? ⟨wr.heap.size, 0, none⟩ = some (.pointer (some ⟨b, 0, none⟩)) := g0
          replace g1 : w8.drew.cell? ⟨wr.heap.size, 1, none⟩ = some (.pointer (some ⟨d, 0, none⟩)) := g1
          have tr : ∀ (p : Addr) (v : Value), p.block < wr.heap.size → wr.cell? p = some v → w8.drew.cell? p = some v := fun p v hp h => (f8.drew.cell hp (fun h => h)).trans h
          replace e0 := tr _ _ zb e0
          replace e1 := tr _ _ zb e1
          replace e2 := tr _ _ zb e2
          replace e3 := tr _ _ zb e3
          replace e4 := tr _ _ zb e4
          replace e5 := tr _ _ zb e5
          replace e6 := tr _ _ zb e6
          replace e7 := tr _ _ zb e7
          have B8 := hB.swap.next f8.drew
          have hlv8 := hlv.keeps B8.fresh (fun _ _ h => h)
          have htv8 := htv.keeps B8.fresh (fun _ _ h => h)
          have hB8 : ∀ g, g < w.heap.size → g < w8.drew.heap.size ∧ ¬ Sb g ∧ g ≠ d := fun g hg => by
            have h1 := B8.fresh.size
            have h2 := B8.cs.1
            exact ⟨by omega, fun h => by have := (B8.na g h).1; omega, by omega⟩
          have hlB8 := fun h0 g hg => hB8 g (hlB h0 g hg)
          have htB8 := fun h0 g hg => hB8 g (htB h0 g hg)
          clear tr hB hB8 h8 c0 c1 d0 d1
          go_region_law (first | (go_simp; go_at_call 17; refine (step_any Sb b d B Y ⟨true, kb, ok, on, om, os, ol, ot⟩ lv tv _ B8.wa B8.xa (fun h => (B8.na _ h).2.2.1 rfl) B8.laid B8.la hlv8 hln hlB8 htv8 htn htB8 hsm (by omega) (by omega)).mono ?_; rintro e w9 ⟨rfl, A', X', hst, hal, hA', hX'⟩; obtain ⟨S', B9⟩ := B8.stepped hst hal))
          all_goals
            clear B8 hst e0 e1 e2 e3 e4 e5 e6 e7 g0 g1
            go_wp2
            go_roundw
            case rel => refine ⟨k + 1, Sa, S', A, X, A', X', by go_num, by omega, by omega, ?_, by omega, by omega, by omega, by omega⟩; exact B9.swap
            case measure => simp [intOf]; omega
      · go_wp2_with fail
        refine (wdone2_any Sa a A wr hB.laid hB.wa).mono ?_
        rw [hB.la.done]
        rintro e w8 ⟨rfl, f8⟩
        have B8 := hB.next f8
        have c0 := cell_at B8.box1 0
        have c1 := cell_at B8.box1 1
        simp at c0 c1
        go_wp2_with fail
        refine (xdone_any c X w8 B8.xa).mono ?_
        rintro e w9 ⟨rfl, f9⟩
        go_wp2
        go_ret
        exact ⟨rfl, B8.fresh.trans f9⟩
    · go_wp2_with fail
      refine (wdone2_any Sa a A wr hB.laid hB.wa).mono ?_
      rw [hB.la.done]
      rintro e w8 ⟨rfl, f8⟩
      have B8 := hB.next f8
      have c0 := cell_at B8.box1 0
      have c1 := cell_at B8.box1 1
      simp at c0 c1
      go_wp2_with fail
      refine (xdone_any c X w8 B8.xa).mono ?_
      rintro e w9 ⟨rfl, f9⟩
      go_wp2
      go_ret
      exact ⟨rfl, B8.fresh.trans f9⟩
end Go.Proofs.YtfjflnlcjnhmmaaDoor
