/-
  The program's shape: Inside, asked of the whole.
-/
import Derived.Test.YtgikabafaocemaaDoorMSpA
import Derived.Test.YtgikabafaocemaaDoorSpRun
namespace Go.Proofs.YtgikabafaocemaaDoor
open Go.RowKit Go.Shelf

attribute [local go_sem] Oper.semAt_some

/-- what a round that goes on keeps, a box apart -/
def KpC (rc : Nat) (A B : World) : Prop := A.heap.size ≤ B.heap.size ∧ ∀ q c e fr, q ≠ rc → A.heap[q]? = some (.cells c e fr) → B.heap[q]? = some (.cells c e fr)
theorem kpC_trans {rc : Nat} {A B C : World} (h : KpC rc A B) (k : KpC rc B C) : KpC rc A C := ⟨Nat.le_trans h.1 k.1, fun q c e fr hq hc => k.2 q c e fr hq (h.2 q c e fr hq hc)⟩
theorem kpC_fresh {rc : Nat} {A B : World} (f : Fresh A B) : KpC rc A B := ⟨f.size, fun _ _ _ _ _ hc => f.at_ hc (fun h => h)⟩

set_option maxRecDepth 100000 in
set_option maxHeartbeats 1000000 in
theorem way_any (n : Nat) (b e : Nat) (w : World) :
    Calls Tryd.prog 109 #[.int .i64 (n : Int), spanV (b, e)] w fun x w' =>
      x = .returned (.func (.func 125) #[] #[.pointer (some ⟨w.heap.size, 0, none⟩), .pointer (some ⟨w.heap.size + 1, 0, none⟩)]) ∧
        w' = (w.alloc (.cells #[.int .i64 (n : Int)] 3)).alloc (spanC b e) := by
  unfold spanV spanC
  go_enter Tryd.func109, Tryd.ntmps109
  go_wp2_with fail
  go_ret
  exact ⟨rfl, rfl⟩

theorem results_bool {fn : Func} {p : Tmp} (h : fn.results = #[.cell p 4]) (tmps : Array Value) (w : World) (g : Nat) (b : Bool)
    (hp : tmps.getD p undef = .pointer (some ⟨g, 0, none⟩)) (hg : w.cell? ⟨g, 0, none⟩ = some (.bool b)) :
    (results fn tmps).run Tryd.prog w = .ok (.bool b) w := by
  have hp' : tmps[p]?.getD undef = .pointer (some ⟨g, 0, none⟩) := by simpa using hp
  simp [results, h, hp', asAddr, loadVar, go_sem, hg]

abbrev TheWay (n : Nat) := { x : Nat × Nat // x = (0, n) }

set_option maxRecDepth 100000 in
set_option maxHeartbeats 2000000 in
theorem way1_in (l n tb wb rc k : Nat) (hk : 1 ≤ k) (J Jx : List (TheWay n) → World → Prop) (hn : 1 ≤ n) (hn2 : n ≤ 2199023255552)
    (hJ : ∀ s W W', J s W → W.grownBy W' none → J s W')
    (hY : ∀ m pre (x : TheWay n) W, J pre W → pre.length < 1 → YieldAt Fence.wide m Tryd.prog l #[spanV x.1] W fun e W' => (e = .returned (.bool true) ∧ J (pre ++ [x]) W' ∧ KpC rc W W') ∨ (e = .returned (.bool false) ∧ Jx (pre ++ [x]) W'))
    (W : World) (h0 : J [] W) (hrc : rc < W.heap.size) (hw : wb ≠ rc)
    (b1 : W.heap[tb]? = some (.cells #[.int .i64 (n : Int)] 3 (0, 0))) (b2 : W.heap[wb]? = some (spanC 0 n)) :
    CallsIn Fence.wide k Tryd.prog 125 #[.func (.yield l) #[] #[], .pointer (some ⟨tb, 0, none⟩), .pointer (some ⟨wb, 0, none⟩)] W fun x W' =>
      (∃ v, x = .returned v) ∧ ((∃ ys, ys ≠ [] ∧ J ys W') ∨ (∃ pre, True ∧ Jx pre W')) := by
  have t0 := cell_at b1 0
  simp at t0
  refine callsIn_of_wp Tryd.func125 rfl trivial ?_ rfl
  simp only [Tryd.ntmps125, List.size_toArray, List.length_cons, List.length_nil, Nat.reduceAdd, Nat.reduceSub, Array.replicate_succ, Array.replicate_zero, List.push_toArray, List.append_toArray, List.nil_append, List.cons_append]
  gi_wp2
  have fA : Fresh W (W.alloc (.cells #[.int .i64 0, .int .i64 (n : Int)] 24)) := (Keeps.refl _ _).alloc _
  have b4 := heap_alloc_new W (.cells #[.int .i64 0, .int .i64 (n : Int)] 24)
  have hne : W.heap.size ≠ rc := by omega
  have b2 := fA.at_ b2 (fun h => h)
  have hJ1 := hJ _ _ _ h0 fA.grownNone
  clear t0 b1
  generalize W.alloc (.cells #[.int .i64 0, .int .i64 (n : Int)] 24) = W1 at fA b4 b2 hJ1 ⊢
  generalize W.heap.size = p4 at b4 hne ⊢
  gi_loopw [] (fun wr => wr = W1) (fun _ => 0)
  case atStart => rfl
  case round =>
    subst hrel
    obtain ⟨fn, tmps, assign, body, hy, hR⟩ := hY (k - 1) [] ⟨(0, n), rfl⟩ wr hJ1 (by simp)
    unfold spanV at hy
    dsimp only at hy
    rw [show ((0 : Nat) : Int) = 0 from rfl] at hy
    unfold spanC at b2
    have p0 := cell_at b4 0
    have p1 := cell_at b4 1
    simp at p0 p1
    clear hY
    gi_wp2
    refine hR.mono ?_
    rintro e W3 (⟨rfl, hJ3, hk3⟩ | ⟨rfl, hJx3⟩)
    · have b4 := hk3.2 _ _ _ _ hne b4
      have b2 := hk3.2 _ _ _ _ hw b2
      have p0 := cell_at b4 0
      have p1 := cell_at b4 1
      have q0 := cell_at b2 0
      have q1 := cell_at b2 1
      simp at p0 p1 q0 q1
      by_cases h1 : n = 1
      · subst h1
        gi_wp2
        go_end0
        exact ⟨⟨_, rfl⟩, .inl ⟨_, by simp, hJ3⟩⟩
      · have hi1 : (1 : Int) < (n : Int) := by omega
        clear h1
        have hcall := halves_any 0 n (by omega) hn2 W3
        obtain ⟨g1, g2, g3⟩ := splitN_facts (n := n) (by omega)
        rw [Nat.sub_zero, Nat.zero_add] at hcall
        generalize splitN n = M at hcall g1 g2 g3
        unfold spanV at hcall
        have HC := hid hcall
        clear hcall
        have hlay : Hid (∀ w7, Fresh W3 w7 → ∀ X, (w7.alloc (.cells #[.int .i64 0, .int .i64 (M : Int)] 24)).alloc (.cells #[.int .i64 (M : Int), .int .i64 (n : Int)] 24) = X → X.cell? ⟨wb, 0, none⟩ = some (.int .i64 0) ∧ X.cell? ⟨wb, 1, none⟩ = some (.int .i64 (n : Int)) ∧ X.cell? ⟨w7.heap.size, 1, none⟩ = some (.int .i64 (M : Int)) ∧ X.cell? ⟨w7.heap.size + 1, 0, none⟩ = some (.int .i64 (M : Int)) ∧ Fresh W3 X) := fun w7 f7 X hX => by
          subst hX
          have kk := (f7.alloc (.cells #[.int .i64 0, .int .i64 (M : Int)] 24)).alloc (.cells #[.int .i64 (M : Int), .int .i64 (n : Int)] 24)
          have x5 := ((Keeps.refl (fun _ => False) _).alloc (.cells #[.int .i64 (M : Int), .int .i64 (n : Int)] 24)).at_ (heap_alloc_new w7 (.cells #[.int .i64 0, .int .i64 (M : Int)] 24)) (fun h => h)
          have x6 := heap_alloc_new (w7.alloc (.cells #[.int .i64 0, .int .i64 (M : Int)] 24)) (.cells #[.int .i64 (M : Int), .int .i64 (n : Int)] 24)
          rw [World.size_alloc] at x6
          refine ⟨(kk.cell (p := ⟨wb, 0, none⟩) (lt_of_block b2) (fun h => h)).trans q0, (kk.cell (p := ⟨wb, 1, none⟩) (lt_of_block b2) (fun h => h)).trans q1, (cell_at x5 1).trans rfl, (cell_at x6 0).trans rfl, kk⟩
        have hm1 : ¬ n ≤ M := by omega
        have hm2 : ¬ M ≤ 0 := by omega
        have hJw : Hid (∀ X, Fresh W3 X → J ([] ++ [⟨(0, n), rfl⟩]) X) := fun X f => hJ _ _ _ hJ3 f.grownNone
        gi_wp2_with (refine ⟨trivial, ?_⟩; gi_at_call 104; refine (CallsIn.inRound l (callsIn_wide.2 HC.out)).mono ?_; rintro e w7 ⟨rfl, f7⟩; obtain ⟨X, hX⟩ : ∃ X, (w7.alloc (.cells #[.int .i64 0, .int .i64 (M : Int)] 24)).alloc (.cells #[.int .i64 (M : Int), .int .i64 (n : Int)] 24) = X := ⟨_, rfl⟩; obtain ⟨x0, x1, x5, x6, kX⟩ := hlay.out w7 f7 X hX)
        refine bodyPost_ret (results_none rfl _ _ _) rfl ?_
        exact ⟨⟨_, rfl⟩, .inl ⟨_, by simp, hJw.out _ kX⟩⟩
    · gi_wp2
      go_end0
      exact ⟨⟨_, rfl⟩, .inr ⟨_, trivial, hJx3⟩⟩

theorem waySeq (n tb wb rc k : Nat) (W0 : World) (hn : 1 ≤ n) (hn2 : n ≤ 2199023255552) (hk : 1 ≤ k) (hrc : rc < W0.heap.size) (hw : wb ≠ rc)
    (b1 : W0.heap[tb]? = some (.cells #[.int .i64 (n : Int)] 3 (0, 0))) (b2 : W0.heap[wb]? = some (spanC 0 n)) :
    SeqStopsK Fence.wide k Tryd.prog 125 #[.pointer (some ⟨tb, 0, none⟩), .pointer (some ⟨wb, 0, none⟩)] (fun x : TheWay n => #[spanV x.1]) (KpC rc)
      (fun ys => ys ≠ []) (fun _ => True) 1 W0 := fun l J Jx W hW hJ _ hY h0 => by
  have fr : Fresh W0 W := (Keeps.of_below hW).mono (fun i hi h => by omega)
  exact way1_in l n tb wb rc k hk J Jx hn hn2 (fun s A B h1 h2 => hJ s A B none h1 h2 (fun r e => by cases e)) (fun m pre x W1 h1 h2 => yield_any m (hY pre x W1 h1 h2)) W h0 (Nat.lt_of_lt_of_le hrc fr.size) hw (fr.at_ b1 (fun h => h)) (fr.at_ b2 (fun h => h))

set_option maxRecDepth 100000 in
set_option maxHeartbeats 4000000 in
theorem inside_any (n : Nat) (h1 : 1 ≤ n) (h2 : n ≤ 1099511627776) (w : World) :
    Calls Tryd.prog 75 #[.int .i64 (n : Int), spanV (0, n)] w fun x w' => x = .returned (.bool true) ∧ Fresh w w' := by
  refine (callsIn_wide (n := 9)).1 (callsIn_of_wp_marks Tryd.func75 rfl trivial ?_ rfl)
  refine wpIn_wide.2 ?_
  simp only [Tryd.ntmps75, List.size_toArray, List.length_cons, List.length_nil, Nat.reduceAdd, Nat.reduceSub, Array.replicate_succ, Array.replicate_zero, List.push_toArray, List.append_toArray, List.nil_append, List.cons_append]
  have hw0 : ∀ X : World, Fresh ((w.alloc (spanC 0 n)).alloc (.cells #[.bool false] 4)) X → X.cell? ⟨w.heap.size, 0, none⟩ = some (.int .i64 0) ∧ X.cell? ⟨w.heap.size, 1, none⟩ = some (.int .i64 (n : Int)) := fun X f => by
    have := f.at_ (((Keeps.refl (fun _ => False) (w.alloc (spanC 0 n))).alloc (.cells #[.bool false] 4)).at_ (heap_alloc_new w (spanC 0 n)) (fun h => h)) (fun h => h)
    exact ⟨cell_at this 0, cell_at this 1⟩
  unfold spanC at hw0
  have hs := fun W => size_any (n : Int) W
  simp only [show decide (1 ≤ (n : Int) ∧ (n : Int) ≤ 1099511627776) = true by simp; omega] at hs
  have hwy := fun W => way_any n 0 n W
  have HS := hid hs
  have HW := hid hwy
  have HW0 := hid hw0
  clear hs hwy hw0
  unfold spanV spanC at *
  go_wp2_with (first
    | (go_at_call 62; refine (HS.out _).mono ?_; rintro e w1 ⟨rfl, rfl⟩; obtain ⟨x0, x1⟩ := HW0.out _ (Keeps.refl _ _))
    | (go_at_call 109; refine (HW.out _).mono ?_; rintro e w1 ⟨rfl, rfl⟩))
  clear x0 x1 HW0 HW HS
  have f6 : Fresh w ((((w.alloc (.cells #[.int .i64 0, .int .i64 (n : Int)] 24)).alloc (.cells #[.bool false] 4)).alloc (.cells #[.int .i64 (n : Int)] 3)).alloc (.cells #[.int .i64 0, .int .i64 (n : Int)] 24)) := ((((Keeps.refl _ _).alloc _).alloc _).alloc _).alloc _
  have hP : ((((w.alloc (.cells #[.int .i64 0, .int .i64 (n : Int)] 24)).alloc (.cells #[.bool false] 4)).alloc (.cells #[.int .i64 (n : Int)] 3)).alloc (.cells #[.int .i64 0, .int .i64 (n : Int)] 24)).heap[w.heap.size]? = _ := ((((Keeps.refl (fun _ => False) _).alloc _).alloc _).alloc _).at_ (heap_alloc_new w (.cells #[.int .i64 0, .int .i64 (n : Int)] 24)) (fun h => h)
  have hR : ((((w.alloc (.cells #[.int .i64 0, .int .i64 (n : Int)] 24)).alloc (.cells #[.bool false] 4)).alloc (.cells #[.int .i64 (n : Int)] 3)).alloc (.cells #[.int .i64 0, .int .i64 (n : Int)] 24)).heap[(w.alloc (.cells #[.int .i64 0, .int .i64 (n : Int)] 24)).heap.size]? = _ := (((Keeps.refl (fun _ => False) _).alloc _).alloc _).at_ (heap_alloc_new (w.alloc (.cells #[.int .i64 0, .int .i64 (n : Int)] 24)) (.cells #[.bool false] 4)) (fun h => h)
  have hT : ((((w.alloc (.cells #[.int .i64 0, .int .i64 (n : Int)] 24)).alloc (.cells #[.bool false] 4)).alloc (.cells #[.int .i64 (n : Int)] 3)).alloc (.cells #[.int .i64 0, .int .i64 (n : Int)] 24)).heap[((w.alloc (.cells #[.int .i64 0, .int .i64 (n : Int)] 24)).alloc (.cells #[.bool false] 4)).heap.size]? = _ := ((Keeps.refl (fun _ => False) _).alloc _).at_ (heap_alloc_new ((w.alloc (.cells #[.int .i64 0, .int .i64 (n : Int)] 24)).alloc (.cells #[.bool false] 4)) (.cells #[.int .i64 (n : Int)] 3)) (fun h => h)
  have hB := heap_alloc_new (((w.alloc (.cells #[.int .i64 0, .int .i64 (n : Int)] 24)).alloc (.cells #[.bool false] 4)).alloc (.cells #[.int .i64 (n : Int)] 3)) (.cells #[.int .i64 0, .int .i64 (n : Int)] 24)
  have hz : ((((w.alloc (.cells #[.int .i64 0, .int .i64 (n : Int)] 24)).alloc (.cells #[.bool false] 4)).alloc (.cells #[.int .i64 (n : Int)] 3)).alloc (.cells #[.int .i64 0, .int .i64 (n : Int)] 24)).heap.size = w.heap.size + 1 + 1 + 1 + 1 := by simp
  simp only [World.size_alloc] at hP hR hT hB
  generalize (((w.alloc (.cells #[.int .i64 0, .int .i64 (n : Int)] 24)).alloc (.cells #[.bool false] 4)).alloc (.cells #[.int .i64 (n : Int)] 3)).alloc (.cells #[.int .i64 0, .int .i64 (n : Int)] 24) = W6 at f6 hP hR hT hB hz ⊢
  obtain ⟨p, hp⟩ : ∃ p, w.heap.size = p := ⟨_, rfl⟩
  rw [hp] at hP hR hT hB hz ⊢
  have hseq := waySeq n (p + 1 + 1) (p + 1 + 1 + 1) (p + 1) (9 - 1) W6 h1 (by omega) (by decide) (by omega) (by omega) hT hB
  clear hT hB
  refine (wpIn_wide (n := 9)).1 ?_
  apply wpIn_rangeFunc_ownH (F := Fence.wide) (n := 9) (P := Tryd.prog) (α := TheWay n) rfl (by decide) (gf := 125) (lb := #[.pointer (some ⟨p + 1 + 1, 0, none⟩), .pointer (some ⟨p + 1 + 1 + 1, 0, none⟩)]) rfl trivial (enters_of Tryd.func125 (by kernel_rfl) rfl)
    hseq (fun h k => kpC_trans h k) (fun W' ll o o' hl ho hcc _ => ?hkb) (Below.refl _ _) (fun _ => rfl)
    (fun pre W' => pre = [] ∧ W'.heap[p + 1]? = some (.cells #[.bool false] 4 (0, 0)) ∧ Keeps (fun q => q = p + 1 ∨ W6.heap.size ≤ q) W6 W')
    (fun c pre W' => c = .ret ∧ W'.heap[p + 1]? = some (.cells #[.bool true] 4 (0, 0)) ∧ Keeps (fun q => q = p + 1 ∨ W6.heap.size ≤ q) W6 W')
    (fun pre A B row hs hg hr => ⟨hs.1, heap_grown hs.2.1 hg (fun r e => (hr r e).2), hs.2.2.grown hg (fun q e _ => .inr (hr q e).1)⟩)
    (fun c pre A B row hs hg hr => ⟨hs.1, heap_grown hs.2.1 hg (fun r e => (hr r e).2), hs.2.2.grown hg (fun q e _ => .inr (hr q e).1)⟩)
    ⟨rfl, hR, Keeps.refl _ _⟩
    (fun x a' W' => ∃ Bx, W6.heap.size ≤ Bx ∧ W'.heap[Bx]? = some (.cells #[.int .i64 0, .int .i64 (n : Int)] 24 (0, 0)) ∧ a' = { tmps := #[.int .i64 (n : Int), .agg #[.int .i64 0, .int .i64 (n : Int)], undef, .pointer (some ⟨p, 0, none⟩), .pointer (some ⟨p + 1, 0, none⟩), .pointer (some ⟨Bx, 0, none⟩), .int .i64 (n : Int), .bool true, .bool false, .bool false, .pointer (some ⟨p, 0, none⟩), .int .i64 0, .bool false, .bool false, .bool false, .pointer (some ⟨p, 0, none⟩), .int .i64 0, .pointer (some ⟨p, 1, none⟩), .int .i64 (n : Int), .bool false, .bool false, .bool false, .pointer (some ⟨p, 1, none⟩), .int .i64 (n : Int), .int .i64 (n : Int), .bool false, .bool false, .int .i64 (n : Int), .agg #[.int .i64 0, .int .i64 (n : Int)], .func (.func 125) #[] #[.pointer (some ⟨p + 1 + 1, 0, none⟩), .pointer (some ⟨p + 1 + 1 + 1, 0, none⟩)], .agg #[.int .i64 0, .int .i64 (n : Int)], undef, undef, undef], defers := [] })
    (fun x a' _ A B row hs hg hr => by
      obtain ⟨Bx, h1, h2, h3⟩ := hs
      exact ⟨Bx, h1, heap_grown h2 hg (fun r e => (hr r e).2), h3⟩)
  case hkb =>
    refine ⟨by simp, fun q c e fr hq hc => (World.putObj_heap_other (fun e => ?_)).trans hc⟩
    subst e
    rw [hc] at ho
    cases ho
    cases hcc
  case hassign =>
    rintro ll pre ⟨x, rfl⟩ W' K ⟨hpre, h1, h2⟩ hK
    unfold spanV
    gi_wp2
    have fx : Fresh W' (W'.alloc (.cells #[.int .i64 0, .int .i64 (n : Int)] 24)) := (Keeps.refl _ _).alloc _
    exact hK _ _ ((KeepsOthers.alloc _ _).from _) (kpC_fresh fx) ⟨hpre, fx.at_ h1 (fun h => h), h2.alloc _⟩ ⟨W'.heap.size, h2.size, heap_alloc_new _ _, rfl⟩
  case hbody =>
    rintro ll pre x a' W' hl hr ⟨rfl, hb, hk6⟩ ⟨Bx, hBx, hx, rfl⟩ hlt
    have hp6 := hk6.at_ hP (by have := lt_of_block hP; omega)
    have x0 := cell_at hx 0
    have x1 := cell_at hx 1
    have p0 := cell_at hp6 0
    have p1 := cell_at hp6 1
    have c0 := cell_at hb 0
    have z0 := free_at hb 0
    simp at x0 x1 p0 p1 c0 z0
    gi_wp2
    have hset : (W'.setCell ⟨p + 1, 0, none⟩ (.bool true)).heap[p + 1]? = some (.cells #[.bool true] 4 (0, 0)) := by
      have := heap_setCell_at hb 0 (.bool true)
      simpa using this
    exact ⟨(KeepsOthers.setCell _ _ _).from _, rfl, hset, Keeps.setCell (S := fun q => q = p + 1 ∨ W6.heap.size ≤ q) hk6 (p := ⟨p + 1, 0, none⟩) (fun _ => .inl rfl) _⟩
  case hdone =>
    rintro D ys W' hD hne ⟨h, -⟩ hDD
    exact absurd h hne
  case hstop =>
    rintro D c pre W' hD _ ⟨rfl, h1, h2⟩ hDD
    have c0 := cell_at h1 0
    simp at c0
    have fin : Fresh w (W'.putObj D (.deferred none)) := by
      have k7 : Keeps (fun q => q = p + 1 ∨ W6.heap.size ≤ q) W' (W'.putObj D (.deferred none)) := ⟨rfl, rfl, rfl, by simp, fun q hq hnq => World.putObj_heap_other (fun e => hnq (.inr (by omega)))⟩
      exact ((f6.mono (S' := fun q => q = p + 1 ∨ W6.heap.size ≤ q) (fun _ _ h => h.elim)).trans (h2.trans k7)).mono (fun i hi h => by omega)
    have c1 : (W'.putObj D (.deferred none)).cell? ⟨p + 1, 0, none⟩ = some (.bool true) := by
      have : (W'.putObj D (.deferred none)).heap[p + 1]? = W'.heap[p + 1]? := World.putObj_heap_other (fun e => by omega)
      exact (cell_at (this.trans h1) 0).trans rfl
    clear hseq
    gi_wp2
    refine ⟨by simp, .inl ⟨_, _, rfl, run_takeDeferred hDD, ?_⟩⟩
    exact ⟨_, results_bool rfl _ _ (p + 1) true rfl c1, rfl, fin⟩
end Go.Proofs.YtgikabafaocemaaDoor
