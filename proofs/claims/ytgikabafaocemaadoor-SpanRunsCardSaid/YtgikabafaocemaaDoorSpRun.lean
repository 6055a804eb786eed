/-
  The program's shape: Run.
-/
import Derived.Test.YtgikabafaocemaaDoorMSpA
namespace Go.Proofs.YtgikabafaocemaaDoor
open Go.RowKit Go.Shelf

/-- a list of spans in memory, to be read -/
def SpansAt (w : World) (v : Value) (l : List (Nat × Nat)) : Prop :=
  ∃ ao cap, v = .slice ao l.length cap ∧ l.length ≤ cap ∧ ∀ (k : Nat) (x : Nat × Nat), l[k]? = some x → ∃ bb off, ao = some ⟨bb, off, none⟩ ∧ bb < w.heap.size ∧ w.cell? ⟨bb, off + k * 2, none⟩ = some (.int .i64 (x.1 : Int)) ∧ w.cell? ⟨bb, off + k * 2 + 1, none⟩ = some (.int .i64 (x.2 : Int))
theorem SpansAt.fresh {w w' : World} {v : Value} {l : List (Nat × Nat)} (h : SpansAt w v l) (f : Fresh w w') : SpansAt w' v l := by
  obtain ⟨ao, cap, rfl, hc, hk⟩ := h
  exact ⟨ao, cap, rfl, hc, fun k x hx => by
    obtain ⟨bb, off, e1, e2, e3, e4⟩ := hk k x hx
    exact ⟨bb, off, e1, Nat.lt_of_lt_of_le e2 f.size, (f.cell (p := ⟨bb, off + k * 2, none⟩) e2 (fun h => h)).trans e3, (f.cell (p := ⟨bb, off + k * 2 + 1, none⟩) e2 (fun h => h)).trans e4⟩⟩
theorem spanCells_at : ∀ (l : List (Nat × Nat)) (k : Nat) (x : Nat × Nat), l[k]? = some x → (spanCells l)[k * 2]? = some (.int .i64 (x.1 : Int)) ∧ (spanCells l)[k * 2 + 1]? = some (.int .i64 (x.2 : Int))
  | [], k, x, h => by simp at h
  | y :: l, 0, x, h => by simp at h; subst h; simp [spanCells]
  | y :: l, k + 1, x, h => by
    have := spanCells_at l k x (by simpa using h)
    have e : spanCells (y :: l) = [.int .i64 (y.1 : Int), .int .i64 (y.2 : Int)] ++ spanCells l := by simp [spanCells]
    rw [e, List.getElem?_append_right (by simp; omega), List.getElem?_append_right (by simp; omega)]
    have e1 : (k + 1) * 2 - [Value.int .i64 (y.1 : Int), .int .i64 (y.2 : Int)].length = k * 2 := by simp; omega
    have e2 : (k + 1) * 2 + 1 - [Value.int .i64 (y.1 : Int), .int .i64 (y.2 : Int)].length = k * 2 + 1 := by simp; omega
    rw [e1, e2]
    exact this
theorem spanCells_len (l : List (Nat × Nat)) : (spanCells l).length = l.length * 2 := by
  induction l with
  | nil => rfl
  | cons x l ih => rw [show spanCells (x :: l) = [.int .i64 (x.1 : Int), .int .i64 (x.2 : Int)] ++ spanCells l by simp [spanCells], List.length_append, ih]; simp; omega
theorem spansAt_row {w : World} {v : Value} {l : List (Nat × Nat)} (h : w.ownsRow 0 24 2 v l.length (spanCells l)) : SpansAt w v l := by
  obtain ⟨_, ⟨rfl, h0⟩ | ⟨g, cap, cur, rfl, _, hb, hn, hm, hs, ht⟩⟩ := h
  · exact ⟨none, 0, by rw [h0], by omega, fun k x hx => by have := (List.getElem?_eq_some_iff.1 hx).1; omega⟩
  · refine ⟨_, cap, rfl, hn, fun k x hx => ?_⟩
    have hk := (List.getElem?_eq_some_iff.1 hx).1
    obtain ⟨e1, e2⟩ := spanCells_at l k x hx
    rw [← ht, List.getElem?_take] at e1 e2
    refine ⟨g, 0, rfl, lt_of_block hb, ?_, ?_⟩
    · rw [cell_at hb]
      split at e1
      · simpa using e1
      · cases e1
    · rw [cell_at hb]
      split at e2
      · simpa using e2
      · cases e2
/-- the same list, with nothing behind it -/
theorem SpansAt.clip {w : World} {ao : Option Addr} {n cap : Nat} {l : List (Nat × Nat)} (h : SpansAt w (.slice ao n cap) l) : SpansAt w (.slice ao n n) l := by
  obtain ⟨ao', cap', e, hc, hk⟩ := h
  simp only [Value.slice.injEq] at e
  obtain ⟨rfl, rfl, rfl⟩ := e
  exact ⟨_, _, rfl, Nat.le_refl _, hk⟩

set_option maxRecDepth 100000 in
set_option maxHeartbeats 1000000 in
theorem collect_any (rb re b e sp lk xk f : Nat) (w : World) (hbe : b < e) (hf : e - b ≤ 2 ^ f) (he : e ≤ 2199023255552) (hlen : (toldF f rb re b e).length ≤ 1000000)
    (b1 : w.heap[sp]? = some (spanC rb re))
    (b2 : w.heap[lk]? = some (.cells #[.func (.func 65) #[] #[.pointer (some ⟨sp, 0, none⟩)]] 116 (0, 0)))
    (b3 : w.heap[xk]? = some (spanC b e)) :
    Calls Tryd.prog 63 #[.func (.func 102) #[] #[.pointer (some ⟨lk, 0, none⟩), .pointer (some ⟨xk, 0, none⟩)]] w fun x w' =>
      ∃ v, x = .returned v ∧ SpansAt w' v (toldF f rb re b e) ∧ Fresh w w' := by
  have h := appendSeq_any rb re b e sp lk xk f w hbe hf he hlen b1 b2 b3
  have H := hid h
  clear h
  go_enter Tryd.func63, Tryd.ntmps63
  go_wp2_with fail
  refine H.out.mono ?_
  rintro x w1 ⟨v, rfl, h1, h2, fa⟩
  go_wp2_with fail
  go_ret
  exact ⟨v, rfl, spansAt_row h1, fa⟩

set_option maxRecDepth 100000 in
set_option maxHeartbeats 1000000 in
theorem clipSpans_any (v : Value) (l : List (Nat × Nat)) (w : World) (h : SpansAt w v l) :
    Calls Tryd.prog 66 #[v] w fun x w' => ∃ v', x = .returned v' ∧ SpansAt w' v' l ∧ Fresh w w' := by
  have h0 := h
  obtain ⟨ao, cap, rfl, hc, -⟩ := h
  have H := hid h0.clip
  clear h0
  go_enter Tryd.func66, Tryd.ntmps66
  go_wp2_with fail
  go_ret
  exact ⟨_, rfl, H.out, Keeps.refl _ _⟩

set_option maxRecDepth 100000 in
set_option maxHeartbeats 1000000 in
theorem size_any (n : Int) (w : World) :
    Calls Tryd.prog 62 #[.int .i64 n] w fun x w' => x = .returned (.bool (decide (1 ≤ n ∧ n ≤ 1099511627776))) ∧ w = w' := by
  by_cases h1 : 1 ≤ n
  · by_cases h2 : n ≤ 1099511627776
    · have hd : Hid (decide (1 ≤ n ∧ n ≤ 1099511627776) = true) := by simp [Hid, h1, h2]
      go_enter Tryd.func62, Tryd.ntmps62
      go_wp2_with fail
      go_ret
      exact ⟨by rw [hd.out]; simp, rfl⟩
    · have hd : Hid (decide (1 ≤ n ∧ n ≤ 1099511627776) = false) := by simp [Hid, h2]
      go_enter Tryd.func62, Tryd.ntmps62
      go_wp2_with fail
      go_ret
      exact ⟨by simp; omega, rfl⟩
  · have hd : Hid (decide (1 ≤ n ∧ n ≤ 1099511627776) = false) := by simp [Hid, h1]
    go_enter Tryd.func62, Tryd.ntmps62
    go_wp2_with fail
    go_ret
    exact ⟨by simp; omega, rfl⟩

set_option maxRecDepth 100000 in
set_option maxHeartbeats 2000000 in
theorem run_good (n b e : Nat) (hbe : b < e) (hen : e ≤ n) (hn : n ≤ 1099511627776) (w : World) :
    Calls Tryd.prog 26 #[.int .i64 (n : Int), spanV (b, e)] w fun x w' => ∃ v, x = .returned (.tuple #[v, .int .i64 0]) ∧ SpansAt w' v (toldF 40 b e 0 n) ∧ Fresh w w' := by
  have f0 : Fresh w (w.alloc (spanC b e)) := (Keeps.refl _ _).alloc _
  have hb := heap_alloc_new w (spanC b e)
  have hsz := size_any n (w.alloc (spanC b e))
  have hd : decide (1 ≤ (n : Int) ∧ (n : Int) ≤ 1099511627776) = true := by simp; omega
  rw [hd] at hsz
  have hrest := rest_any 0 n w.heap.size (w.alloc (spanC b e))
  simp only [World.size_alloc] at hrest
  have hfew := toldF_few 40 b e 0 n (by omega)
  have hcol := fun (w1 : World) h1 h2 h3 => collect_any b e 0 n w.heap.size (w.heap.size + 1 + 1) (w.heap.size + 1) 40 w1 (by omega) (by omega) (by omega) (by omega) h1 h2 h3
  have hclip := fun v w1 h => clipSpans_any v (toldF 40 b e 0 n) w1 h
  obtain ⟨L, hL⟩ : ∃ L, toldF 40 b e 0 n = L := ⟨_, rfl⟩
  rw [hL] at hclip ⊢
  rw [hL] at hcol
  have HS := hid hsz
  have HR := hid hrest
  have HC := hid hcol
  have HP := hid hclip
  clear hsz hrest hcol hclip hd hfew hL
  unfold spanV spanC at *
  go_enter Tryd.func26, Tryd.ntmps26
  go_wp2_with fail
  refine HS.out.mono ?_
  rintro x w1 ⟨rfl, rfl⟩
  have c0 := cell_at hb 0
  have c1 := cell_at hb 1
  simp at c0 c1
  go_wp2_with fail
  refine HR.out.mono ?_
  rintro x w2 ⟨rfl, hw2⟩
  have q1 := heap_alloc_new (w.alloc (.cells #[.int .i64 (b : Int), .int .i64 (e : Int)] 24)) (.cells #[.int .i64 ((0 : Nat) : Int), .int .i64 (n : Int)] 24)
  have q2 := heap_alloc_new ((w.alloc (.cells #[.int .i64 (b : Int), .int .i64 (e : Int)] 24)).alloc (.cells #[.int .i64 ((0 : Nat) : Int), .int .i64 (n : Int)] 24)) (.cells #[.func (.func 65) #[] #[.pointer (some ⟨w.heap.size, 0, none⟩)]] 116)
  have q1 := ((Keeps.refl (fun _ => False) _).alloc (.cells #[.func (.func 65) #[] #[.pointer (some ⟨w.heap.size, 0, none⟩)]] 116)).at_ q1 (fun h => h)
  have f2 := (f0.alloc (.cells #[.int .i64 ((0 : Nat) : Int), .int .i64 (n : Int)] 24)).alloc (.cells #[.func (.func 65) #[] #[.pointer (some ⟨w.heap.size, 0, none⟩)]] 116)
  have q0 := (((Keeps.refl (fun _ => False) _).alloc (.cells #[.int .i64 ((0 : Nat) : Int), .int .i64 (n : Int)] 24)).alloc (.cells #[.func (.func 65) #[] #[.pointer (some ⟨w.heap.size, 0, none⟩)]] 116)).at_ hb (fun h => h)
  rw [← hw2] at q0 q1 q2 f2
  simp only [World.size_alloc] at q1 q2
  clear hw2 hb f0 c0 c1 HS HR
  go_wp2_with fail
  refine (HC.out w2 q0 q2 q1).mono ?_
  rintro x w3 ⟨v, rfl, h3, fa⟩
  have f3 := f2.trans fa
  have h3' := h3
  obtain ⟨ao, cap, rfl, -, -⟩ := h3'
  have HP3 := hid (HP.out _ w3 h3)
  clear q0 q1 q2 h3 fa f2 HC HP
  go_wp2_with fail
  refine HP3.out.mono ?_
  rintro x w4 ⟨v', rfl, h4, fa⟩
  go_wp2_with fail
  go_ret2
  exact ⟨v', rfl, h4, f3.trans fa⟩

set_option maxRecDepth 100000 in
set_option maxHeartbeats 2000000 in
theorem run_bad (n b e : Int) (h : n < 1 ∨ 1099511627776 < n ∨ b < 0 ∨ e ≤ b ∨ n < e) (w : World) :
    Calls Tryd.prog 26 #[.int .i64 n, .agg #[.int .i64 b, .int .i64 e]] w fun x w' => ∃ c : Int, x = .returned (.tuple #[.slice none 0 0, .int .i64 c]) ∧ c ≠ 0 ∧ Fresh w w' := by
  have f0 : Fresh w (w.alloc (spanC b e)) := (Keeps.refl _ _).alloc _
  have hb := heap_alloc_new w (spanC b e)
  have hsz := size_any n (w.alloc (spanC b e))
  have HS := hid hsz
  clear hsz
  unfold spanC at *
  have c0 := cell_at hb 0
  have c1 := cell_at hb 1
  by_cases h1 : 1 ≤ n ∧ n ≤ 1099511627776
  · rw [decide_eq_true h1] at HS
    obtain ⟨h2, h3⟩ := h1
    by_cases h4 : b < 0
    · clear h
      go_enter Tryd.func26, Tryd.ntmps26
      go_wp2_with fail
      refine HS.out.mono ?_
      rintro x w1 ⟨rfl, rfl⟩
      go_wp2_with fail
      go_ret2
      exact ⟨80, rfl, by decide, f0⟩
    by_cases h5 : e ≤ b
    · clear h
      go_enter Tryd.func26, Tryd.ntmps26
      go_wp2_with fail
      refine HS.out.mono ?_
      rintro x w1 ⟨rfl, rfl⟩
      go_wp2_with fail
      go_ret2
      exact ⟨80, rfl, by decide, f0⟩
    have h6 : n < e := by omega
    clear h
    go_enter Tryd.func26, Tryd.ntmps26
    go_wp2_with fail
    refine HS.out.mono ?_
    rintro x w1 ⟨rfl, rfl⟩
    go_wp2_with fail
    go_ret2
    exact ⟨80, rfl, by decide, f0⟩
  · rw [decide_eq_false h1] at HS
    clear h h1
    go_enter Tryd.func26, Tryd.ntmps26
    go_wp2_with fail
    refine HS.out.mono ?_
    rintro x w1 ⟨rfl, rfl⟩
    go_wp2_with fail
    go_ret2
    exact ⟨81, rfl, by decide, f0⟩
end Go.Proofs.YtgikabafaocemaaDoor
