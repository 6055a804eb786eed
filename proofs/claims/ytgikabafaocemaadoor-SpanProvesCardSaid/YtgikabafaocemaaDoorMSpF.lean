/-
  The document's span: Told.
-/
import Derived.Test.YtgikabafaocemaaDoorMSpA
namespace Go.Proofs.YtgikabafaocemaaDoor
open Go.RowKit

/-- a list of spans in a block of its own, made since w -/
def OwnSpans (w w' : World) (v : Value) (l : List (Nat × Nat)) : Prop := w'.ownsRow 0 24 2 v l.length (spanCells l) ∧ (∀ g, v.ownBlock = some g → w.heap.size ≤ g) ∧ Fresh w w'

set_option maxRecDepth 100000 in
set_option maxHeartbeats 1000000 in
theorem told_out (rb re b e : Nat) (w : World) (hout : re ≤ b ∨ e ≤ rb) :
    Calls Tryd.prog 44 #[spanV (rb, re), .int .i64 (b : Int), .int .i64 (e : Int)] w fun x w' => ∃ v, x = .returned v ∧ OwnSpans w w' v [(b, e)] := by
  have f0 : Fresh w (w.alloc (spanC rb re)) := (Keeps.refl _ _).alloc _
  have f1 : Fresh w ((w.alloc (spanC rb re)).alloc (spanC b e)) := f0.alloc _
  have hb := heap_alloc_new (w.alloc (spanC rb re)) (spanC b e)
  have hb' : ((w.alloc (spanC rb re)).alloc (spanC b e)).heap[w.heap.size + 1]? = some (.cells #[.int .i64 (b : Int), .int .i64 (e : Int)] 24 (0, 0)) := by
    simp only [World.size_alloc] at hb
    exact hb
  have hro : ((w.alloc (spanC rb re)).alloc (spanC b e)).ownsRow 0 24 2 (.slice (some ⟨w.heap.size + 1, 0, none⟩) 1 1) 1 (spanCells [(b, e)]) := by
    refine ⟨rfl, .inr ⟨w.heap.size + 1, 1, _, rfl, Nat.zero_le _, hb', Nat.le_refl _, by unfold maxLen; omega, rfl, ?_⟩⟩
    simp [spanCells]
  have H : OwnSpans w ((w.alloc (spanC rb re)).alloc (spanC b e)) (.slice (some ⟨w.heap.size + 1, 0, none⟩) 1 1) [(b, e)] := ⟨hro, fun g hg => by simp [Value.ownBlock] at hg; omega, f1⟩
  have HH := hid H
  clear H hro f0 f1 hb hb'
  unfold spanC at HH
  unfold spanV
  by_cases h1 : re ≤ b
  · clear hout
    go_enter Tryd.func44, Tryd.ntmps44
    go_wp2_with fail
    go_ret
    exact ⟨_, rfl, HH.out⟩
  · have h2 : e ≤ rb := by omega
    clear hout
    go_enter Tryd.func44, Tryd.ntmps44
    go_wp2_with fail
    go_ret
    exact ⟨_, rfl, HH.out⟩

set_option maxRecDepth 100000 in
set_option maxHeartbeats 1000000 in
theorem told_every (rb re b e : Nat) (w : World) (n1 : ¬ re ≤ b) (n2 : ¬ e ≤ rb) (h1 : rb ≤ b) (h2 : e ≤ re) :
    Calls Tryd.prog 44 #[spanV (rb, re), .int .i64 (b : Int), .int .i64 (e : Int)] w fun x w' => ∃ v, x = .returned v ∧ OwnSpans w w' v [] := by
  have f0 : Fresh w (w.alloc (spanC rb re)) := (Keeps.refl _ _).alloc _
  have H : OwnSpans w (w.alloc (spanC rb re)) (.slice none 0 0) [] := ⟨World.ownsRow_nil _ _ _ _, fun g hg => by simp [Value.ownBlock] at hg, f0⟩
  have HH := hid H
  clear H f0
  unfold spanC at HH
  unfold spanV
  go_enter Tryd.func44, Tryd.ntmps44
  go_wp2_with fail
  go_ret
  exact ⟨_, rfl, HH.out⟩

theorem ownSpans_src {w w' : World} {v : Value} {l : List (Nat × Nat)} (h : OwnSpans w w' v l) {w'' : World} (f : Fresh w' w'') : Src Tryd.prog 2 60 v l.length (spanCells l) w'' := by
  have h1 := ownsRow_keeps h.1 f (fun _ _ h => h)
  have hone : ∀ u ∈ spanCells l, u.oneCell' = true := fun u hu => by
    simp only [spanCells, List.mem_flatMap] at hu
    obtain ⟨x, _, hu⟩ := hu
    simp at hu
    rcases hu with rfl | rfl <;> rfl
  obtain ⟨hl, ⟨rfl, h0⟩ | ⟨g, cap, cur, rfl, _, hb, hn, hm, hs, ht⟩⟩ := h1
  · have : l = [] := List.eq_nil_of_length_eq_zero h0
    subst this
    exact Src.ofNil w'' Tryd.underlying60 0
  · refine Src.ofSlice w'' Tryd.underlying60 _ _ cap (spanCells l) hl (fun j u hj => ?_) hone
    rw [addr_add0, cell_at hb]
    rw [← ht, List.getElem?_take] at hj
    split at hj
    · simpa using hj
    · cases hj

set_option maxRecDepth 100000 in
set_option maxHeartbeats 2000000 in
theorem told_fork (f rb re b e : Nat) (w : World) (n1 : ¬ re ≤ b) (n2 : ¬ e ≤ rb) (hin : ¬ (rb ≤ b ∧ e ≤ re)) (hbe : b + 2 ≤ e) (he : e ≤ 2199023255552) (hlen : (toldF (f + 1) rb re b e).length ≤ 1000000)
    (ih1 : ∀ w, Calls Tryd.prog 44 #[spanV (rb, re), .int .i64 (b : Int), .int .i64 ((b + splitN (e - b) : Nat) : Int)] w fun x w' => ∃ v, x = .returned v ∧ OwnSpans w w' v (toldF f rb re b (b + splitN (e - b))))
    (ih2 : ∀ w, Calls Tryd.prog 44 #[spanV (rb, re), .int .i64 ((b + splitN (e - b) : Nat) : Int), .int .i64 (e : Int)] w fun x w' => ∃ v, x = .returned v ∧ OwnSpans w w' v (toldF f rb re (b + splitN (e - b)) e)) :
    Calls Tryd.prog 44 #[spanV (rb, re), .int .i64 (b : Int), .int .i64 (e : Int)] w fun x w' => ∃ v, x = .returned v ∧ OwnSpans w w' v (toldF (f + 1) rb re b e) := by
  obtain ⟨i0, hi, hz0, hz1, hz2⟩ := info_parts Tryd.infoSpan
  rw [toldF_cut (by omega) hin] at hlen ⊢
  obtain ⟨g1, g2, g3⟩ := splitN_facts (n := e - b) (by omega)
  have hsp := fun w => split_any (e - b) (by omega) (by omega) w
  have hsub : ((e - b : Nat) : Int) = (e : Int) - (b : Int) := by omega
  rw [hsub] at hsp
  generalize splitN (e - b) = K0 at *
  obtain ⟨M, hM⟩ : ∃ M, b + K0 = M := ⟨_, rfl⟩
  rw [hM] at ih1 ih2 hlen ⊢
  generalize toldF f rb re b M = X at *
  generalize toldF f rb re M e = Y at *
  rw [List.length_append] at hlen
  have C1 := hid ih1
  have C2 := hid ih2
  have HSP := hid hsp
  clear ih1 ih2 hsp hsub
  have f0 : Fresh w (w.alloc (spanC rb re)) := (Keeps.refl _ _).alloc _
  have hb := heap_alloc_new w (spanC rb re)
  have hMi : (b : Int) + (K0 : Int) = (M : Int) := by omega
  have HIN := hid hin
  unfold spanC at *
  unfold spanV at *
  by_cases h1 : rb ≤ b
  · have h2 : ¬ e ≤ re := fun h => hin ⟨h1, h⟩
    clear hin
    go_enter Tryd.func44, Tryd.ntmps44
    go_wp2_with fail
    refine (HSP.out _).mono ?_
    rintro r w2 ⟨rfl, f2⟩
    have hb2 := f2.at_ hb (fun h => h)
    have f0 := f0.trans f2
    clear f2 hb HSP
    have c0 := cell_at hb2 0
    have c1 := cell_at hb2 1
    simp at c0 c1
    go_wp2_with fail
    refine (C1.out w2).mono ?_
    rintro r w3 ⟨v3, rfl, o3⟩
    have hb3 := o3.2.2.at_ hb2 (fun h => h)
    clear c0 c1
    have c0 := cell_at hb3 0
    have c1 := cell_at hb3 1
    simp at c0 c1
    obtain ⟨ao3, cp3, rfl⟩ := ownsRow_slice o3.1
    go_wp2_with fail
    refine (C2.out w3).mono ?_
    rintro r w4 ⟨v4, rfl, o4⟩
    have hrow := ownsRow_keeps o3.1 o4.2.2 (fun _ _ h => h)
    have hsrc := ownSpans_src o4 (Keeps.refl _ w4)
    obtain ⟨ao4, cp4, rfl⟩ := ownsRow_slice o4.1
    go_wp2_with (at_builtin; refine wpList_append_src rfl (.tmp 48) (.tmp 49) 60 60 rfl 24 i0 (.agg #[.int .i64 0, .int .i64 0]) 2 16 Tryd.underlying60 hi hz0 hz1 hz2 rfl (by decide) hrow _ Y.length (spanCells Y) rfl rfl hsrc (by unfold maxLen; omega) (by omega) ?_; intro v' w5 ha; obtain ⟨ao', cap', rfl⟩ := ownsRow_slice ha.row)
    go_ret
    refine ⟨_, rfl, ?_, fun g hg => ?_, ?_⟩
    · rw [List.length_append]
      have := ha.row
      rwa [show spanCells X ++ spanCells Y = spanCells (X ++ Y) by simp [spanCells]] at this
    · rcases ha.own g hg with h5 | h5
      · have := o3.2.1 g h5; have := f0.size; omega
      · have := h5.1; have := f0.size; have := o3.2.2.size; have := o4.2.2.size; omega
    · exact ((f0.trans o3.2.2).trans o4.2.2).trans' ha.keeps (fun q hq h => by have := o3.2.1 q h; have := f0.size; omega)
  · clear hin
    go_enter Tryd.func44, Tryd.ntmps44
    go_wp2_with fail
    refine (HSP.out _).mono ?_
    rintro r w2 ⟨rfl, f2⟩
    have hb2 := f2.at_ hb (fun h => h)
    have f0 := f0.trans f2
    clear f2 hb HSP
    have c0 := cell_at hb2 0
    have c1 := cell_at hb2 1
    simp at c0 c1
    go_wp2_with fail
    refine (C1.out w2).mono ?_
    rintro r w3 ⟨v3, rfl, o3⟩
    have hb3 := o3.2.2.at_ hb2 (fun h => h)
    clear c0 c1
    have c0 := cell_at hb3 0
    have c1 := cell_at hb3 1
    simp at c0 c1
    obtain ⟨ao3, cp3, rfl⟩ := ownsRow_slice o3.1
    go_wp2_with fail
    refine (C2.out w3).mono ?_
    rintro r w4 ⟨v4, rfl, o4⟩
    have hrow := ownsRow_keeps o3.1 o4.2.2 (fun _ _ h => h)
    have hsrc := ownSpans_src o4 (Keeps.refl _ w4)
    obtain ⟨ao4, cp4, rfl⟩ := ownsRow_slice o4.1
    go_wp2_with (at_builtin; refine wpList_append_src rfl (.tmp 48) (.tmp 49) 60 60 rfl 24 i0 (.agg #[.int .i64 0, .int .i64 0]) 2 16 Tryd.underlying60 hi hz0 hz1 hz2 rfl (by decide) hrow _ Y.length (spanCells Y) rfl rfl hsrc (by unfold maxLen; omega) (by omega) ?_; intro v' w5 ha; obtain ⟨ao', cap', rfl⟩ := ownsRow_slice ha.row)
    go_ret
    refine ⟨_, rfl, ?_, fun g hg => ?_, ?_⟩
    · rw [List.length_append]
      have := ha.row
      rwa [show spanCells X ++ spanCells Y = spanCells (X ++ Y) by simp [spanCells]] at this
    · rcases ha.own g hg with h5 | h5
      · have := o3.2.1 g h5; have := f0.size; omega
      · have := h5.1; have := f0.size; have := o3.2.2.size; have := o4.2.2.size; omega
    · exact ((f0.trans o3.2.2).trans o4.2.2).trans' ha.keeps (fun q hq h => by have := o3.2.1 q h; have := f0.size; omega)

theorem told_any (rb re : Nat) : ∀ (f b e : Nat) (w : World), b < e → e - b ≤ 2 ^ f → e ≤ 2199023255552 → f ≤ 100 →
    Calls Tryd.prog 44 #[spanV (rb, re), .int .i64 (b : Int), .int .i64 (e : Int)] w fun x w' => ∃ v, x = .returned v ∧ OwnSpans w w' v (toldF f rb re b e) := by
  intro f
  induction f with
  | zero =>
    intro b e w hbe hf he _
    have he1 : e = b + 1 := by simp at hf; omega
    by_cases hc : re ≤ b ∨ e ≤ rb
    · rw [toldF_out hc]
      exact told_out rb re b e w hc
    · rw [toldF_in 0 rb re b e (by omega) (by omega) hbe]
      exact told_every rb re b e w (by omega) (by omega) (by omega) (by omega)
  | succ f ih =>
    intro b e w hbe hf he hf1
    by_cases hc : re ≤ b ∨ e ≤ rb
    · rw [toldF_out hc]
      exact told_out rb re b e w hc
    by_cases hin : rb ≤ b ∧ e ≤ re
    · rw [toldF_in _ rb re b e hin.1 hin.2 hbe]
      exact told_every rb re b e w (by omega) (by omega) (by omega) (by omega)
    · obtain ⟨g1, g2, g3⟩ := splitN_facts (n := e - b) (by omega)
      have g4 := splitN_le (n := e - b) (f := f) (by omega) hf
      have hfew := toldF_few (f + 1) rb re b e hbe
      exact told_fork f rb re b e w (by omega) (by omega) hin (by omega) he (by omega) (fun w => ih b _ w (by omega) (by omega) (by omega) (by omega)) (fun w => ih _ e w (by omega) (by omega) (by omega) (by omega))
end Go.Proofs.YtgikabafaocemaaDoor
