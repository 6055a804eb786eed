/-
  The document's span: Told.
  The document's span: hash of a subtree.
  The document's span: hash of a subtree, all of it.
  The document's span: Root, out of range.
-/
import Derived.Test.YtgikabafaocemaaDoorMSpA
import Derived.Test.YtgikabafaocemaaDoorMSpC
import Derived.Test.YtgikabafaocemaaDoorSpRootA
namespace Go.Proofs.YtgikabafaocemaaDoor
open Go.RowKit

/-- a list of spans in a block of its own, made since w -/
def OwnSpans (w w' : World) (v : Value) (l : List (Nat × Nat)) : Prop := w'.ownsRow 0 24 2 v l.length (spanCells l) ∧ (∀ g, v.ownBlock = some g → w.heap.size ≤ g) ∧ Fresh w w'

set_option maxRecDepth 100000 in
set_option maxHeartbeats 1000000 in
theorem told_out (rb re b e : Nat) (w : World) (hout : re ≤ b ∨ e ≤ rb) :
    Calls Tryd.prog 44 #[spanV (rb, re), .int .i64 (b : Int), .int .i64 (e : Int)] w fun x w' => ∃ v, x = .returned v ∧ OwnSpans w w' v [(b, e)] := by
  have f0 : Fresh w (w.alloc (spanC rb re)) := (Keeps.refl _ _).alloc _
  have f1 : Fresh w ((w.alloc (spanC rb re)).alloc (spanC b e)) := f0.alloc _
  have hb := heap_alloc_new (w.alloc (spanC rb re)) (spanC b e)
  have hb' : ((w.alloc (spanC rb re)).alloc (spanC b e)).heap[w.heap.size + 1]? = some (.cells #[.int .i64 (b : Int), .int .i64 (e : Int)] 24 (0, 0)) := by
    simp only [World.size_alloc] at hb
    exact hb
  have hro : ((w.alloc (spanC rb re)).alloc (spanC b e)).ownsRow 0 24 2 (.slice (some ⟨w.heap.size + 1, 0, none⟩) 1 1) 1 (spanCells [(b, e)]) := by
    refine ⟨rfl, .inr ⟨w.heap.size + 1, 1, _, rfl, Nat.zero_le _, hb', Nat.le_refl _, by unfold maxLen; omega, rfl, ?_⟩⟩
    simp [spanCells]
  have H : OwnSpans w ((w.alloc (spanC rb re)).alloc (spanC b e)) (.slice (some ⟨w.heap.size + 1, 0, none⟩) 1 1) [(b, e)] := ⟨hro, fun g hg => by simp [Value.ownBlock] at hg; omega, f1⟩
  have HH := hid H
  clear H hro f0 f1 hb hb'
  unfold spanC at HH
  unfold spanV
  by_cases h1 : re ≤ b
  · clear hout
    go_enter Tryd.func44, Tryd.ntmps44
    go_wp2_with fail
    go_ret
    exact ⟨_, rfl, HH.out⟩
  · have h2 : e ≤ rb := by omega
    clear hout
    go_enter Tryd.func44, Tryd.ntmps44
    go_wp2_with fail
    go_ret
    exact ⟨_, rfl, HH.out⟩

set_option maxRecDepth 100000 in
set_option maxHeartbeats 1000000 in
theorem told_every (rb re b e : Nat) (w : World) (n1 : ¬ re ≤ b) (n2 : ¬ e ≤ rb) (h1 : rb ≤ b) (h2 : e ≤ re) :
    Calls Tryd.prog 44 #[spanV (rb, re), .int .i64 (b : Int), .int .i64 (e : Int)] w fun x w' => ∃ v, x = .returned v ∧ OwnSpans w w' v [] := by
  have f0 : Fresh w (w.alloc (spanC rb re)) := (Keeps.refl _ _).alloc _
  have H : OwnSpans w (w.alloc (spanC rb re)) (.slice none 0 0) [] := ⟨World.ownsRow_nil _ _ _ _, fun g hg => by simp [Value.ownBlock] at hg, f0⟩
  have HH := hid H
  clear H f0
  unfold spanC at HH
  unfold spanV
  go_enter Tryd.func44, Tryd.ntmps44
  go_wp2_with fail
  go_ret
  exact ⟨_, rfl, HH.out⟩

theorem ownSpans_src {w w' : World} {v : Value} {l : List (Nat × Nat)} (h : OwnSpans w w' v l) {w'' : World} (f : Fresh w' w'') : Src Tryd.prog 2 60 v l.length (spanCells l) w'' := by
  have h1 := ownsRow_keeps h.1 f (fun _ _ h => h)
  have hone : ∀ u ∈ spanCells l, u.oneCell' = true := fun u hu => by
    simp only [spanCells, List.mem_flatMap] at hu
    obtain ⟨x, _, hu⟩ := hu
    simp at hu
    rcases hu with rfl | rfl <;> rfl
  obtain ⟨hl, ⟨rfl, h0⟩ | ⟨g, cap, cur, rfl, _, hb, hn, hm, hs, ht⟩⟩ := h1
  · have : l = [] := List.eq_nil_of_length_eq_zero h0
    subst this
    exact Src.ofNil w'' Tryd.underlying60 0
  · refine Src.ofSlice w'' Tryd.underlying60 _ _ cap (spanCells l) hl (fun j u hj => ?_) hone
    rw [addr_add0, cell_at hb]
    rw [← ht, List.getElem?_take] at hj
    split at hj
    · simpa using hj
    · cases hj

set_option maxRecDepth 100000 in
set_option maxHeartbeats 2000000 in
theorem told_fork (f rb re b e : Nat) (w : World) (n1 : ¬ re ≤ b) (n2 : ¬ e ≤ rb) (hin : ¬ (rb ≤ b ∧ e ≤ re)) (hbe : b + 2 ≤ e) (he : e ≤ 2199023255552) (hlen : (toldF (f + 1) rb re b e).length ≤ 1000000)
    (ih1 : ∀ w, Calls Tryd.prog 44 #[spanV (rb, re), .int .i64 (b : Int), .int .i64 ((b + splitN (e - b) : Nat) : Int)] w fun x w' => ∃ v, x = .returned v ∧ OwnSpans w w' v (toldF f rb re b (b + splitN (e - b))))
    (ih2 : ∀ w, Calls Tryd.prog 44 #[spanV (rb, re), .int .i64 ((b + splitN (e - b) : Nat) : Int), .int .i64 (e : Int)] w fun x w' => ∃ v, x = .returned v ∧ OwnSpans w w' v (toldF f rb re (b + splitN (e - b)) e)) :
    Calls Tryd.prog 44 #[spanV (rb, re), .int .i64 (b : Int), .int .i64 (e : Int)] w fun x w' => ∃ v, x = .returned v ∧ OwnSpans w w' v (toldF (f + 1) rb re b e) := by
  obtain ⟨i0, hi, hz0, hz1, hz2⟩ := info_parts Tryd.infoSpan
  rw [toldF_cut (by omega) hin] at hlen ⊢
  obtain ⟨g1, g2, g3⟩ := splitN_facts (n := e - b) (by omega)
  have hsp := fun w => split_any (e - b) (by omega) (by omega) w
  have hsub : ((e - b : Nat) : Int) = (e : Int) - (b : Int) := by omega
  rw [hsub] at hsp
  generalize splitN (e - b) = K0 at *
  obtain ⟨M, hM⟩ : ∃ M, b + K0 = M := ⟨_, rfl⟩
  rw [hM] at ih1 ih2 hlen ⊢
  generalize toldF f rb re b M = X at *
  generalize toldF f rb re M e = Y at *
  rw [List.length_append] at hlen
  have C1 := hid ih1
  have C2 := hid ih2
  have HSP := hid hsp
  clear ih1 ih2 hsp hsub
  have f0 : Fresh w (w.alloc (spanC rb re)) := (Keeps.refl _ _).alloc _
  have hb := heap_alloc_new w (spanC rb re)
  have hMi : (b : Int) + (K0 : Int) = (M : Int) := by omega
  have HIN := hid hin
  unfold spanC at *
  unfold spanV at *
  by_cases h1 : rb ≤ b
  · have h2 : ¬ e ≤ re := fun h => hin ⟨h1, h⟩
    clear hin
    go_enter Tryd.func44, Tryd.ntmps44
    go_wp2_with fail
    refine (HSP.out _).mono ?_
    rintro r w2 ⟨rfl, f2⟩
    have hb2 := f2.at_ hb (fun h => h)
    have f0 := f0.trans f2
    clear f2 hb HSP
    have c0 := cell_at hb2 0
    have c1 := cell_at hb2 1
    simp at c0 c1
    go_wp2_with fail
    refine (C1.out w2).mono ?_
    rintro r w3 ⟨v3, rfl, o3⟩
    have hb3 := o3.2.2.at_ hb2 (fun h => h)
    clear c0 c1
    have c0 := cell_at hb3 0
    have c1 := cell_at hb3 1
    simp at c0 c1
    obtain ⟨ao3, cp3, rfl⟩ := ownsRow_slice o3.1
    go_wp2_with fail
    refine (C2.out w3).mono ?_
    rintro r w4 ⟨v4, rfl, o4⟩
    have hrow := ownsRow_keeps o3.1 o4.2.2 (fun _ _ h => h)
    have hsrc := ownSpans_src o4 (Keeps.refl _ w4)
    obtain ⟨ao4, cp4, rfl⟩ := ownsRow_slice o4.1
    go_wp2_with (at_builtin; refine wpList_append_src rfl (.tmp 48) (.tmp 49) 60 60 rfl 24 i0 (.agg #[.int .i64 0, .int .i64 0]) 2 16 Tryd.underlying60 hi hz0 hz1 hz2 rfl (by decide) hrow _ Y.length (spanCells Y) rfl rfl hsrc (by unfold maxLen; omega) (by omega) ?_; intro v' w5 ha; obtain ⟨ao', cap', rfl⟩ := ownsRow_slice ha.row)
    go_ret
    refine ⟨_, rfl, ?_, fun g hg => ?_, ?_⟩
    · rw [List.length_append]
      have := ha.row
      rwa [show spanCells X ++ spanCells Y = spanCells (X ++ Y) by simp [spanCells]] at this
    · rcases ha.own g hg with h5 | h5
      · have := o3.2.1 g h5; have := f0.size; omega
      · have := h5.1; have := f0.size; have := o3.2.2.size; have := o4.2.2.size; omega
    · exact ((f0.trans o3.2.2).trans o4.2.2).trans' ha.keeps (fun q hq h => by have := o3.2.1 q h; have := f0.size; omega)
  · clear hin
    go_enter Tryd.func44, Tryd.ntmps44
    go_wp2_with fail
    refine (HSP.out _).mono ?_
    rintro r w2 ⟨rfl, f2⟩
    have hb2 := f2.at_ hb (fun h => h)
    have f0 := f0.trans f2
    clear f2 hb HSP
    have c0 := cell_at hb2 0
    have c1 := cell_at hb2 1
    simp at c0 c1
    go_wp2_with fail
    refine (C1.out w2).mono ?_
    rintro r w3 ⟨v3, rfl, o3⟩
    have hb3 := o3.2.2.at_ hb2 (fun h => h)
    clear c0 c1
    have c0 := cell_at hb3 0
    have c1 := cell_at hb3 1
    simp at c0 c1
    obtain ⟨ao3, cp3, rfl⟩ := ownsRow_slice o3.1
    go_wp2_with fail
    refine (C2.out w3).mono ?_
    rintro r w4 ⟨v4, rfl, o4⟩
    have hrow := ownsRow_keeps o3.1 o4.2.2 (fun _ _ h => h)
    have hsrc := ownSpans_src o4 (Keeps.refl _ w4)
    obtain ⟨ao4, cp4, rfl⟩ := ownsRow_slice o4.1
    go_wp2_with (at_builtin; refine wpList_append_src rfl (.tmp 48) (.tmp 49) 60 60 rfl 24 i0 (.agg #[.int .i64 0, .int .i64 0]) 2 16 Tryd.underlying60 hi hz0 hz1 hz2 rfl (by decide) hrow _ Y.length (spanCells Y) rfl rfl hsrc (by unfold maxLen; omega) (by omega) ?_; intro v' w5 ha; obtain ⟨ao', cap', rfl⟩ := ownsRow_slice ha.row)
    go_ret
    refine ⟨_, rfl, ?_, fun g hg => ?_, ?_⟩
    · rw [List.length_append]
      have := ha.row
      rwa [show spanCells X ++ spanCells Y = spanCells (X ++ Y) by simp [spanCells]] at this
    · rcases ha.own g hg with h5 | h5
      · have := o3.2.1 g h5; have := f0.size; omega
      · have := h5.1; have := f0.size; have := o3.2.2.size; have := o4.2.2.size; omega
    · exact ((f0.trans o3.2.2).trans o4.2.2).trans' ha.keeps (fun q hq h => by have := o3.2.1 q h; have := f0.size; omega)

theorem told_any (rb re : Nat) : ∀ (f b e : Nat) (w : World), b < e → e - b ≤ 2 ^ f → e ≤ 2199023255552 → f ≤ 100 →
    Calls Tryd.prog 44 #[spanV (rb, re), .int .i64 (b : Int), .int .i64 (e : Int)] w fun x w' => ∃ v, x = .returned v ∧ OwnSpans w w' v (toldF f rb re b e) := by
  intro f
  induction f with
  | zero =>
    intro b e w hbe hf he _
    have he1 : e = b + 1 := by simp at hf; omega
    by_cases hc : re ≤ b ∨ e ≤ rb
    · rw [toldF_out hc]
      exact told_out rb re b e w hc
    · rw [toldF_in 0 rb re b e (by omega) (by omega) hbe]
      exact told_every rb re b e w (by omega) (by omega) (by omega) (by omega)
  | succ f ih =>
    intro b e w hbe hf he hf1
    by_cases hc : re ≤ b ∨ e ≤ rb
    · rw [toldF_out hc]
      exact told_out rb re b e w hc
    by_cases hin : rb ≤ b ∧ e ≤ re
    · rw [toldF_in _ rb re b e hin.1 hin.2 hbe]
      exact told_every rb re b e w (by omega) (by omega) (by omega) (by omega)
    · obtain ⟨g1, g2, g3⟩ := splitN_facts (n := e - b) (by omega)
      have g4 := splitN_le (n := e - b) (f := f) (by omega) hf
      have hfew := toldF_few (f + 1) rb re b e hbe
      exact told_fork f rb re b e w (by omega) (by omega) hin (by omega) he (by omega) (fun w => ih b _ w (by omega) (by omega) (by omega) (by omega)) (fun w => ih _ e w (by omega) (by omega) (by omega) (by omega))
end Go.Proofs.YtgikabafaocemaaDoor

namespace Go.Proofs.YtgikabafaocemaaDoor
open Go.RowKit

def refC (vh vl : Value) : Obj := .cells #[vh, vl] 146
/-- the document's walker as it stands -/
structure RefAt (w : World) (wb : Nat) (H L : List (List UInt8)) : Prop where
  at_ : ∃ vh vl, w.heap[wb]? = some (refC vh vl) ∧ ListBut wb w vh H ∧ ListBut wb w vl L
theorem RefAt.fresh {w w' : World} {wb : Nat} {H L : List (List UInt8)} (h : RefAt w wb H L) (f : Fresh w w') : RefAt w' wb H L := by
  obtain ⟨vh, vl, h1, h2, h3⟩ := h.at_
  exact ⟨⟨vh, vl, f.at_ h1 (fun h => h), h2.keeps (f.mono (fun _ _ h => h.elim)), h3.keeps (f.mono (fun _ _ h => h.elim))⟩⟩
theorem ref_set0 {w W : World} {wb : Nat} {vh vl v : Value} {H L : List (List UInt8)} (f0 : Fresh w W) (hwb : W.heap[wb]? = some (refC vh vl)) (hL : ListBut wb w vl L) (hH : ListBut wb w v H) :
    Keeps (fun q => q = wb) w (W.setCell ⟨wb, 0, .none⟩ v) ∧ RefAt (W.setCell ⟨wb, 0, .none⟩ v) wb H L := by
  have k : Keeps (fun q => q = wb) w (W.setCell ⟨wb, 0, .none⟩ v) := Keeps.setCell (S := fun q => q = wb) (f0.mono (fun _ _ h => h.elim)) (p := ⟨wb, 0, .none⟩) (fun _ => rfl) _
  have h2 := heap_setCell_at hwb 0 v
  exact ⟨k, ⟨v, vl, by simpa [refC] using h2, hH.keeps k, hL.keeps k⟩⟩
theorem ref_set1 {w W : World} {wb : Nat} {vh vl v : Value} {H L : List (List UInt8)} (f0 : Fresh w W) (hwb : W.heap[wb]? = some (refC vh vl)) (hH : ListBut wb w vh H) (hL : ListBut wb w v L) :
    Keeps (fun q => q = wb) w (W.setCell ⟨wb, 1, .none⟩ v) ∧ RefAt (W.setCell ⟨wb, 1, .none⟩ v) wb H L := by
  have k : Keeps (fun q => q = wb) w (W.setCell ⟨wb, 1, .none⟩ v) := Keeps.setCell (S := fun q => q = wb) (f0.mono (fun _ _ h => h.elim)) (p := ⟨wb, 1, .none⟩) (fun _ => rfl) _
  have h2 := heap_setCell_at hwb 1 v
  exact ⟨k, ⟨vh, v, by simpa [refC] using h2, hH.keeps k, hL.keeps k⟩⟩

set_option maxRecDepth 100000 in
set_option maxHeartbeats 2000000 in
theorem ref_out (rb re wb b e : Nat) (x : List UInt8) (H L : List (List UInt8)) (w : World) (hW : RefAt w wb (x :: H) L) (hout : e ≤ rb ∨ re ≤ b) :
    Calls Tryd.prog 92 #[.pointer (some ⟨wb, 0, none⟩), spanV (rb, re), .int .i64 (b : Int), .int .i64 (e : Int)] w fun r w' => r = .returned (.string (str x)) ∧ Keeps (fun q => q = wb) w w' ∧ RefAt w' wb H L := by
  obtain ⟨⟨vh, vl, hwb, hH, hL⟩⟩ := hW
  have f0 : Fresh w (w.alloc (spanC rb re)) := (Keeps.refl _ _).alloc _
  have hb := heap_alloc_new w (spanC rb re)
  have hwb1 := f0.at_ hwb (fun h => h)
  have hH0 := hH
  obtain ⟨ao, cap, rfl, hc, hk⟩ := hH
  obtain ⟨bb, off, rfl, hne, hbb, hcell⟩ := hk 0 x rfl
  have hcell := (f0.cell (p := ⟨bb, off + 0, none⟩) hbb (fun h => h)).trans hcell
  have hwl := lt_of_block hwb
  unfold spanC refC at *
  unfold spanV
  have hs := f0.size
  generalize hW1 : w.alloc (.cells #[.int .i64 (rb : Int), .int .i64 (re : Int)] 24) = W at f0 hb hwb1 hcell hs
  have c0 := cell_at hb 0
  have c1 := cell_at hb 1
  have d2 := cell_at hwb1 0
  have z2 := free_at hwb1 0
  simp at c0 c1 d2 hcell
  simp only [List.length_cons] at d2 hc hwb1 ⊢
  have HT := hid hH0.tail
  clear hk hH0
  have HFIN := hid (fun v (hv : ListBut wb w v H) => ref_set0 (L := L) f0 hwb1 hL hv)
  by_cases h1 : re ≤ b
  · clear hout
    go_enter Tryd.func92, Tryd.ntmps92
    go_wp2_with fail
    · rename_i hcap
      have hH0 : H = [] := List.eq_nil_of_length_eq_zero (by omega)
      subst hH0
      go_ret
      obtain ⟨k, q⟩ := HFIN.out _ ListBut.none
      exact ⟨rfl, k, q⟩
    · go_ret
      obtain ⟨k, q⟩ := HFIN.out _ HT.out
      exact ⟨rfl, k, q⟩
  · have h2 : e ≤ rb := by omega
    clear hout
    go_enter Tryd.func92, Tryd.ntmps92
    go_wp2_with fail
    · rename_i hcap
      have hH0 : H = [] := List.eq_nil_of_length_eq_zero (by omega)
      subst hH0
      go_ret
      obtain ⟨k, q⟩ := HFIN.out _ ListBut.none
      exact ⟨rfl, k, q⟩
    · go_ret
      obtain ⟨k, q⟩ := HFIN.out _ HT.out
      exact ⟨rfl, k, q⟩

set_option maxRecDepth 100000 in
set_option maxHeartbeats 2000000 in
theorem ref_leaf (rb re wb b e : Nat) (x : List UInt8) (H L : List (List UInt8)) (w : World) (hW : RefAt w wb H (x :: L)) (hb1 : rb ≤ b) (hb2 : b < re) (_hb3 : b ≤ 2199023255552) (he1 : e ≤ b + 1) (he2 : b < e) :
    Calls Tryd.prog 92 #[.pointer (some ⟨wb, 0, none⟩), spanV (rb, re), .int .i64 (b : Int), .int .i64 (e : Int)] w fun r w' => r = .returned (.string (str x)) ∧ Keeps (fun q => q = wb) w w' ∧ RefAt w' wb H L := by
  obtain ⟨⟨vh, vl, hwb, hH, hL⟩⟩ := hW
  have f0 : Fresh w (w.alloc (spanC rb re)) := (Keeps.refl _ _).alloc _
  have hb := heap_alloc_new w (spanC rb re)
  have hwb1 := f0.at_ hwb (fun h => h)
  have hL0 := hL
  obtain ⟨ao, cap, rfl, hc, hk⟩ := hL
  obtain ⟨bb, off, rfl, hne, hbb, hcell⟩ := hk 0 x rfl
  have hcell := (f0.cell (p := ⟨bb, off + 0, none⟩) hbb (fun h => h)).trans hcell
  have hwl := lt_of_block hwb
  unfold spanC refC at *
  unfold spanV
  have hs := f0.size
  generalize hW1 : w.alloc (.cells #[.int .i64 (rb : Int), .int .i64 (re : Int)] 24) = W at f0 hb hwb1 hcell hs
  have c0 := cell_at hb 0
  have c1 := cell_at hb 1
  have d3 := cell_at hwb1 1
  have z3 := free_at hwb1 1
  simp at c0 c1 d3 hcell
  simp only [List.length_cons] at d3 hc hwb1 ⊢
  have HT := hid hL0.tail
  clear hk hL0
  have HFIN := hid (fun v (hv : ListBut wb w v L) => ref_set1 (H := H) f0 hwb1 hH hv)
  have n1 : ¬ e ≤ rb := by omega
  have n2 : ¬ re ≤ b := by omega
  go_enter Tryd.func92, Tryd.ntmps92
  go_wp2_with fail
  · rename_i hcap
    have hH0 : L = [] := List.eq_nil_of_length_eq_zero (by omega)
    subst hH0
    go_ret
    obtain ⟨k, q⟩ := HFIN.out _ ListBut.none
    exact ⟨rfl, k, q⟩
  · go_ret
    obtain ⟨k, q⟩ := HFIN.out _ HT.out
    exact ⟨rfl, k, q⟩
end Go.Proofs.YtgikabafaocemaaDoor

namespace Go.Proofs.YtgikabafaocemaaDoor
open Go.RowKit

set_option maxRecDepth 100000 in
set_option maxHeartbeats 4000000 in
theorem ref_fork (f rb re wb b e : Nat) (H L : List (List UInt8)) (w : World) (hW : RefAt w wb H L) (n1 : ¬ e ≤ rb) (n2 : ¬ re ≤ b) (hbe : b + 2 ≤ e) (he : e ≤ 2199023255552)
    (ih : ∀ (b' e' : Nat) (H L : List (List UInt8)) (w : World), b' < e' → (b' = b ∧ e' = b + splitN (e - b) ∨ b' = b + splitN (e - b) ∧ e' = e) → RefAt w wb H L → (toldF f rb re b' e').length ≤ H.length → inRun rb re b' e' ≤ L.length → (∀ x ∈ H, x.length = 32) → (∀ x ∈ L, x.length = 32) →
      Calls Tryd.prog 92 #[.pointer (some ⟨wb, 0, none⟩), spanV (rb, re), .int .i64 (b' : Int), .int .i64 (e' : Int)] w fun r w' => r = .returned (.string (str (walkF f rb re b' e' H L).1)) ∧ Keeps (fun q => q = wb) w w' ∧ RefAt w' wb (walkF f rb re b' e' H L).2.1 (walkF f rb re b' e' H L).2.2)
    (hf : e - b ≤ 2 ^ (f + 1)) (hr : rb < re) (hT : (toldF (f + 1) rb re b e).length ≤ H.length) (hI : inRun rb re b e ≤ L.length) (hH : ∀ x ∈ H, x.length = 32) (hL : ∀ x ∈ L, x.length = 32) :
    Calls Tryd.prog 92 #[.pointer (some ⟨wb, 0, none⟩), spanV (rb, re), .int .i64 (b : Int), .int .i64 (e : Int)] w fun r w' => r = .returned (.string (str (walkF (f + 1) rb re b e H L).1)) ∧ Keeps (fun q => q = wb) w w' ∧ RefAt w' wb (walkF (f + 1) rb re b e H L).2.1 (walkF (f + 1) rb re b e H L).2.2 := by
  obtain ⟨g1, g2, g3⟩ := splitN_facts (n := e - b) (by omega)
  have g4 := splitN_le (n := e - b) (f := f) (by omega) hf
  rw [toldF_two (by omega) (by omega), List.length_append] at hT
  have hin := inRun_split (rb := rb) (re := re) (b := b) (k := b + splitN (e - b)) (e := e) (by omega) (by omega)
  obtain ⟨p1, p2⟩ := walkF_left f rb re b (b + splitN (e - b)) H L (by omega) (by omega) hr (by omega) (by omega)
  have hx := walkF_all f rb re b (b + splitN (e - b)) H L (by omega) (by omega) hr (by omega) (by omega) hH hL
  have hH2 : ∀ x ∈ (walkF f rb re b (b + splitN (e - b)) H L).2.1, x.length = 32 := fun x hx => hH x (by rw [p1] at hx; exact List.mem_of_mem_drop hx)
  have hL2 : ∀ x ∈ (walkF f rb re b (b + splitN (e - b)) H L).2.2, x.length = 32 := fun x hx => hL x (by rw [p2] at hx; exact List.mem_of_mem_drop hx)
  have hT2 : (toldF f rb re (b + splitN (e - b)) e).length ≤ (walkF f rb re b (b + splitN (e - b)) H L).2.1.length := by rw [p1, List.length_drop]; omega
  have hI2 : inRun rb re (b + splitN (e - b)) e ≤ (walkF f rb re b (b + splitN (e - b)) H L).2.2.length := by rw [p2, List.length_drop]; omega
  have hy := walkF_all f rb re (b + splitN (e - b)) e (walkF f rb re b (b + splitN (e - b)) H L).2.1 (walkF f rb re b (b + splitN (e - b)) H L).2.2 (by omega) (by omega) hr hT2 hI2 hH2 hL2
  have c1 := fun w hw => ih b (b + splitN (e - b)) H L w (by omega) (.inl ⟨rfl, rfl⟩) hw (by omega) (by omega) hH hL
  have c2 := fun w hw => ih (b + splitN (e - b)) e (walkF f rb re b (b + splitN (e - b)) H L).2.1 (walkF f rb re b (b + splitN (e - b)) H L).2.2 w (by omega) (.inr ⟨rfl, rfl⟩) hw hT2 hI2 hH2 hL2
  have hWF : walkF (f + 1) rb re b e H L = (nodeH (walkF f rb re b (b + splitN (e - b)) H L).1 (walkF f rb re (b + splitN (e - b)) e (walkF f rb re b (b + splitN (e - b)) H L).2.1 (walkF f rb re b (b + splitN (e - b)) H L).2.2).1, (walkF f rb re (b + splitN (e - b)) e (walkF f rb re b (b + splitN (e - b)) H L).2.1 (walkF f rb re b (b + splitN (e - b)) H L).2.2).2) := by
    rw [walkF, if_neg (by omega), if_neg (by omega)]
  rw [hWF]
  have hsp := fun w => split_any (e - b) (by omega) (by omega) w
  have hsub : ((e - b : Nat) : Int) = (e : Int) - (b : Int) := by omega
  rw [hsub] at hsp
  generalize splitN (e - b) = K0 at *
  obtain ⟨M, hM⟩ : ∃ M, b + K0 = M := ⟨_, rfl⟩
  rw [hM] at hx hy c1 c2 hWF hH2 hL2 hI2 hT2 hT hin p1 p2 ⊢
  generalize walkF f rb re b M H L = X at *
  generalize walkF f rb re M e X.2.1 X.2.2 = Y at *
  have C1 := hid c1
  have C2 := hid c2
  have HSP := hid hsp
  clear hsp hsub hWF c1 c2 ih hH hL hH2 hL2 p1 p2 hT hT2 hI hI2 hin hf
  obtain ⟨⟨vh, vl, hwb, hH, hL⟩⟩ := hW
  have f0 : Fresh w (w.alloc (spanC rb re)) := (Keeps.refl _ _).alloc _
  have hb := heap_alloc_new w (spanC rb re)
  have hwl := lt_of_block hwb
  have hW1 : RefAt (w.alloc (spanC rb re)) wb H L := RefAt.fresh ⟨⟨vh, vl, hwb, hH, hL⟩⟩ f0
  unfold spanC refC at *
  unfold spanV at *
  have hMi : (b : Int) + (K0 : Int) = (M : Int) := by omega
  go_enter Tryd.func92, Tryd.ntmps92
  go_wp2_with fail
  refine (HSP.out _).mono ?_
  rintro r w2 ⟨rfl, f2⟩
  have hb2 := f2.at_ hb (fun h => h)
  have hW2 := hW1.fresh f2
  have f0 := f0.trans f2
  clear f2 hb hW1 HSP
  have c0 := cell_at hb2 0
  have c1 := cell_at hb2 1
  simp at c0 c1
  go_wp2_with fail
  refine (C1.out w2 hW2).mono ?_
  rintro r w3 ⟨rfl, k3, hW3⟩
  have hb3 := k3.at_ hb2 (by omega)
  clear c0 c1
  have c0 := cell_at hb3 0
  have c1 := cell_at hb3 1
  simp at c0 c1
  go_wp2_with fail
  refine (C2.out w3 hW3).mono ?_
  rintro r w4 ⟨rfl, k4, hW4⟩
  go_wp2_with fail
  refine (refnode_any X.1 Y.1 hx hy w4).mono ?_
  rintro r w5 ⟨rfl, f5⟩
  go_wp2_with fail
  go_ret
  exact ⟨rfl, (f0.mono (fun _ _ h => h.elim)).trans ((k3.trans k4).trans (f5.mono (fun _ _ h => h.elim))), hW4.fresh f5⟩

theorem rhash_any (rb re wb : Nat) (hr : rb < re) : ∀ (f b e : Nat) (H L : List (List UInt8)) (w : World), b < e → e - b ≤ 2 ^ f → e ≤ 2199023255552 → RefAt w wb H L → (toldF f rb re b e).length ≤ H.length → inRun rb re b e ≤ L.length → (∀ x ∈ H, x.length = 32) → (∀ x ∈ L, x.length = 32) →
      Calls Tryd.prog 92 #[.pointer (some ⟨wb, 0, none⟩), spanV (rb, re), .int .i64 (b : Int), .int .i64 (e : Int)] w fun r w' => r = .returned (.string (str (walkF f rb re b e H L).1)) ∧ Keeps (fun q => q = wb) w w' ∧ RefAt w' wb (walkF f rb re b e H L).2.1 (walkF f rb re b e H L).2.2 := by
  have out : ∀ (f b e : Nat) (H L : List (List UInt8)) (w : World), (re ≤ b ∨ e ≤ rb) → RefAt w wb H L → (toldF f rb re b e).length ≤ H.length →
      Calls Tryd.prog 92 #[.pointer (some ⟨wb, 0, none⟩), spanV (rb, re), .int .i64 (b : Int), .int .i64 (e : Int)] w fun r w' => r = .returned (.string (str (walkF f rb re b e H L).1)) ∧ Keeps (fun q => q = wb) w w' ∧ RefAt w' wb (walkF f rb re b e H L).2.1 (walkF f rb re b e H L).2.2 := by
    intro f b e H L w hout hW hT
    have h1 : walkF f rb re b e H L = (H.headD [], H.tail, L) := by cases f <;> rw [walkF, if_pos hout]
    have h2 : toldF f rb re b e = [(b, e)] := by cases f <;> rw [toldF, if_pos hout]
    rw [h1]
    rw [h2] at hT
    cases H with
    | nil => simp at hT
    | cons x H => exact ref_out rb re wb b e x H L w hW (by omega)
  have leaf : ∀ (f b e : Nat) (H L : List (List UInt8)) (w : World), ¬ (re ≤ b ∨ e ≤ rb) → e = b + 1 → e ≤ 2199023255552 → RefAt w wb H L → inRun rb re b e ≤ L.length →
      Calls Tryd.prog 92 #[.pointer (some ⟨wb, 0, none⟩), spanV (rb, re), .int .i64 (b : Int), .int .i64 (e : Int)] w fun r w' => r = .returned (.string (str (walkF f rb re b e H L).1)) ∧ Keeps (fun q => q = wb) w w' ∧ RefAt w' wb (walkF f rb re b e H L).2.1 (walkF f rb re b e H L).2.2 := by
    intro f b e H L w hout he1 he hW hI
    have h1 : walkF f rb re b e H L = (L.headD [], H, L.tail) := by
      cases f
      · rw [walkF, if_neg hout]
      · rw [walkF, if_neg hout, if_pos (by omega)]
    rw [h1]
    cases L with
    | nil => simp [inRun] at hI; omega
    | cons x L => exact ref_leaf rb re wb b e x H L w hW (by omega) (by omega) (by omega) (by omega) (by omega)
  intro f
  induction f with
  | zero =>
    intro b e H L w hbe hf he hW hT hI hH hL
    by_cases hc : re ≤ b ∨ e ≤ rb
    · exact out 0 b e H L w hc hW hT
    · exact leaf 0 b e H L w hc (by simp at hf; omega) he hW hI
  | succ f ih =>
    intro b e H L w hbe hf he hW hT hI hH hL
    by_cases hc : re ≤ b ∨ e ≤ rb
    · exact out (f + 1) b e H L w hc hW hT
    by_cases h6 : e = b + 1
    · exact leaf (f + 1) b e H L w hc h6 he hW hI
    · obtain ⟨g1, g2, g3⟩ := splitN_facts (n := e - b) (by omega)
      have g4 := splitN_le (n := e - b) (f := f) (by omega) hf
      refine ref_fork f rb re wb b e H L w hW (by omega) (by omega) (by omega) he ?_ hf hr hT hI hH hL
      intro b' e' H' L' w' h1 h2 h3 h4 h5 h6' h7
      refine ih b' e' H' L' w' h1 ?_ ?_ h3 h4 h5 h6' h7
      · rcases h2 with ⟨rfl, rfl⟩ | ⟨rfl, rfl⟩ <;> omega
      · rcases h2 with ⟨rfl, rfl⟩ | ⟨rfl, rfl⟩ <;> omega
end Go.Proofs.YtgikabafaocemaaDoor

namespace Go.Proofs.YtgikabafaocemaaDoor
open Go.RowKit

set_option maxRecDepth 100000 in
set_option maxHeartbeats 2000000 in
theorem rroot_range (n b e : Int) (vh vl : Value) (H L : List (List UInt8)) (w : World) (h : n < 1 ∨ 1099511627776 < n ∨ b < 0 ∨ e ≤ b ∨ n < e) (hH : TextsAt w vh H) (hL : TextsAt w vl L) :
    Calls Tryd.prog 49 #[runV n b e vh, vl] w fun x w' => x = .returned (.tuple #[.string (str []), .int .i64 140]) ∧ Fresh w w' := by
  obtain ⟨ao, cap, rfl, -⟩ := hH
  obtain ⟨al, cal, rfl, -⟩ := hL
  have f0 : Fresh w (w.alloc (.cells #[.int .i64 n, .int .i64 b, .int .i64 e, .slice ao H.length cap] 41)) := (Keeps.refl _ _).alloc _
  have f1 := f0.alloc (.cells #[.int .i64 b, .int .i64 e] 24)
  have hr0 := ((Keeps.refl (fun _ => False) _).alloc (.cells #[.int .i64 b, .int .i64 e] 24)).at_ (heap_alloc_new w (.cells #[.int .i64 n, .int .i64 b, .int .i64 e, .slice ao H.length cap] 41)) (fun h => h)
  have hi := refrun_any n b e ((w.alloc (.cells #[.int .i64 n, .int .i64 b, .int .i64 e, .slice ao H.length cap] 41)).alloc (.cells #[.int .i64 b, .int .i64 e] 24))
  have HI := hid hi
  clear hi f0
  unfold runV
  by_cases h1 : n < 1
  · clear h
    go_enter Tryd.func49, Tryd.ntmps49
    go_wp2_with fail
    refine HI.out.mono ?_
    rintro x w1 ⟨rfl, fa⟩
    have hr1 := fa.at_ hr0 (fun h => h)
    have d0 := cell_at hr1 0
    simp at d0
    go_wp2_with fail
    go_ret2
    exact ⟨rfl, f1.trans fa⟩
  by_cases h2 : 1099511627776 < n
  · clear h
    go_enter Tryd.func49, Tryd.ntmps49
    go_wp2_with fail
    refine HI.out.mono ?_
    rintro x w1 ⟨rfl, fa⟩
    have hr1 := fa.at_ hr0 (fun h => h)
    have d0 := cell_at hr1 0
    simp at d0
    go_wp2_with fail
    go_ret2
    exact ⟨rfl, f1.trans fa⟩
  · rw [decide_eq_false (show ¬ (0 ≤ b ∧ b < e ∧ e ≤ n) by omega)] at HI
    clear h
    go_enter Tryd.func49, Tryd.ntmps49
    go_wp2_with fail
    refine HI.out.mono ?_
    rintro x w1 ⟨rfl, fa⟩
    have hr1 := fa.at_ hr0 (fun h => h)
    have d0 := cell_at hr1 0
    simp at d0
    go_wp2_with fail
    go_ret2
    exact ⟨rfl, f1.trans fa⟩
end Go.Proofs.YtgikabafaocemaaDoor
