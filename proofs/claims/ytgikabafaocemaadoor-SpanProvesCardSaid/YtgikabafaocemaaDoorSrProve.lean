/-
  The document's proof of a span.
-/
import Derived.Test.YtgikabafaocemaaDoorSrTree
import Derived.Test.YtgikabafaocemaaDoorSpProve
import Derived.Test.YtgikabafaocemaaDoorMSpF
namespace Go.Proofs.YtgikabafaocemaaDoor
open Go.RowKit Go.Maps

set_option maxRecDepth 100000 in
set_option maxHeartbeats 4000000 in
theorem rprove_good (B xb : Nat) (h : Int) (L : List (List UInt8)) (n b e : Nat) (w : World) (ht : DocTree B w xb h L) (h32 : all32P L) (hlen : L.length ≤ 4096) (hn : 1 ≤ n) (hnl : n ≤ L.length) (hbe : b < e) (hen : e ≤ n) :
    Calls Tryd.prog 15 #[.pointer (some ⟨xb, 0, none⟩), .int .i64 (n : Int), spanV (b, e)] w fun x w' => ∃ v, x = .returned (.tuple #[.agg #[.int .i64 (n : Int), .int .i64 (b : Int), .int .i64 (e : Int), v], .int .i64 0]) ∧ OwnTexts w.heap.size w' v (toldH L (toldF 40 b e 0 n)) ∧ Fresh w w' := by
  have hsz := fun W q => size7_any B xb h L W q
  have hI := fun W => refrun_any n b e W
  rw [decide_eq_true (show (0 ≤ (b : Int) ∧ (b : Int) < e ∧ (e : Int) ≤ n) by omega)] at hI
  have hrun := fun W => told_any b e 40 0 n W (by omega) (by omega) (by omega) (by omega)
  have hf0 : Fresh w ((w.alloc (spanC b e)).alloc (.cells #[.int .i64 0, .int .i64 0, .int .i64 0, .slice none 0 0] 41)) := ((Keeps.refl _ _).alloc _).alloc _
  have hb0 := ((Keeps.refl (fun _ => False) (w.alloc (spanC b e))).alloc (.cells #[.int .i64 0, .int .i64 0, .int .i64 0, .slice none 0 0] 41)).at_ (heap_alloc_new w (spanC b e)) (fun h => h)
  have hr0 := heap_alloc_new (w.alloc (spanC b e)) (.cells #[.int .i64 0, .int .i64 0, .int .i64 0, .slice none 0 0] 41)
  rw [World.size_alloc] at hr0
  have hT : ∀ (k : Nat) (x : Nat × Nat), (toldF 40 b e 0 n)[k]? = some x → x.1 < x.2 ∧ x.2 ≤ n := fun k x hx => (toldF_within 40 b e 0 n (by omega) (by omega) x (List.mem_of_getElem? hx)).2
  have hTl := toldF_few 40 b e 0 n (by omega)
  obtain ⟨T, hTe⟩ : ∃ T, toldF 40 b e 0 n = T := ⟨_, rfl⟩
  rw [hTe] at hrun hT hTl ⊢
  have HSZ := hid hsz
  have HI := hid hI
  have HRUN := hid hrun
  have HT := hid hT
  have HTL := hid hTl
  have HNL := hid hnl
  have q1 : ¬ (n : Int) < 1 := by omega
  have q2 : ¬ (L.length : Int) < (n : Int) := by omega
  clear hsz hI hrun hT hTl hTe hn hnl
  unfold spanV spanC at *
  go_enter Tryd.func15, Tryd.ntmps15
  have c0 := (cell_at hb0 0).trans (show _ = some (Value.int .i64 (b : Int)) from rfl)
  have c1 := (cell_at hb0 1).trans (show _ = some (Value.int .i64 (e : Int)) from rfl)
  go_wp2_with fail
  refine (HI.out _).mono ?_
  rintro x w1 ⟨rfl, f1⟩
  have f1' := hf0.trans f1
  have hb1 := f1.at_ hb0 (fun h => h)
  have hr1 := f1.at_ hr0 (fun h => h)
  go_wp2_with fail
  refine (HSZ.out _ (ht.fresh f1')).mono ?_
  rintro x w2 ⟨rfl, rfl⟩
  clear c0 c1
  have c0 := (cell_at hb1 0).trans (show _ = some (Value.int .i64 (b : Int)) from rfl)
  have c1 := (cell_at hb1 1).trans (show _ = some (Value.int .i64 (e : Int)) from rfl)
  have hsb := lt_of_block hb1
  go_wp2_with fail
  have fA : Fresh w (w1.alloc (.cells #[.int .i64 (n : Int), .int .i64 (b : Int), .int .i64 (e : Int), .slice none 0 0] 41)) := f1'.alloc _
  have fA1 := (Keeps.refl (fun _ => False) w1).alloc (.cells #[.int .i64 (n : Int), .int .i64 (b : Int), .int .i64 (e : Int), .slice none 0 0] 41)
  have hrb0 := heap_alloc_new w1 (.cells #[.int .i64 (n : Int), .int .i64 (b : Int), .int .i64 (e : Int), .slice none 0 0] 41)
  have hp60 := fA1.at_ hr1 (fun h => h)
  have hsA : (w1.alloc (.cells #[.int .i64 (n : Int), .int .i64 (b : Int), .int .i64 (e : Int), .slice none 0 0] 41)).heap.size = w1.heap.size + 1 := World.size_alloc _ _
  refine (HRUN.out _).mono ?_
  rintro x wR ⟨vt, rfl, hvt⟩
  have fR := fA.trans hvt.2.2
  have hrb := hvt.2.2.at_ hrb0 (fun h => h)
  have hp6 := hvt.2.2.at_ hp60 (fun h => h)
  have hvo := hvt.2.1
  have hks := spansAt_row hvt.1
  have h6rb : w.heap.size + 1 ≠ w1.heap.size := by have := lt_of_block hr1; omega
  have hlt3 := f1'.size
  obtain ⟨at', ct, rfl, hct, hks⟩ := hks
  obtain ⟨p6, hp6e⟩ : ∃ p6, w.heap.size + 1 = p6 := ⟨_, rfl⟩
  have hks : ∀ (k : Nat) (x : Nat × Nat), T[k]? = some x → ∃ bb off, at' = some ⟨bb, off, none⟩ ∧ bb ≠ w1.heap.size ∧ bb < wR.heap.size ∧ wR.cell? ⟨bb, off + k * 2, none⟩ = some (.int .i64 (x.1 : Int)) ∧ wR.cell? ⟨bb, off + k * 2 + 1, none⟩ = some (.int .i64 (x.2 : Int)) := fun k x hx => by
    obtain ⟨bb, off, e1, e2, e3, e4⟩ := hks k x hx
    exact ⟨bb, off, e1, by have := hvo bb (by rw [e1]; rfl); omega, e2, e3, e4⟩
  rw [hp6e] at hp6 h6rb ⊢
  have HP6 := hid hp6e
  have hp6l := lt_of_block hp6
  have hrbl := lt_of_block hrb
  generalize w1.heap.size = rb at hrb h6rb hlt3 hks hrbl ⊢
  clear hb0 hr0 hb1 hr1 f1 hf0 f1' c0 c1 fA fA1 hrb0 hp60 hsA hvt hvo hct hp6e hsb
  obtain ⟨i0, hi, hz0, hz1, hz2⟩ := info_parts Tryd.infoText
  have HKS := hid hks
  clear hks
  go_wp2_with fail
  go_loopw [11] (fun i wr => ∃ (k : Nat) (vk : Value), i = .int .i64 (k : Int) ∧ k ≤ T.length ∧ wr.ownsRow 0 9 1 vk (T.take k).length (texts (toldH L (T.take k))) ∧ (∀ g, vk.ownBlock = some g → wR.heap.size ≤ g) ∧ wr.heap[rb]? = some (.cells #[.int .i64 (n : Int), .int .i64 (b : Int), .int .i64 (e : Int), vk] 41 (0, 0)) ∧ Keeps (fun q => q = rb) wR wr) (fun i _ => T.length - (intOf i).toNat)
  case atStart => exact ⟨0, .slice none 0 0, rfl, Nat.zero_le _, ⟨rfl, .inl ⟨rfl, rfl⟩⟩, fun g hg => (by simp [Value.ownBlock] at hg), hrb, Keeps.refl _ _⟩
  case round =>
    obtain ⟨k, vk, rfl, hk, hrow, hown, hrbk, kR⟩ := hrel
    have hkR := kR.size
    have fr : Fresh w wr := fR.trans' kR (fun q hq e => by omega)
    have hp6k := kR.at_ hp6 h6rb
    by_cases hlt : k < T.length
    · obtain ⟨x, hx⟩ : ∃ x, T[k]? = some x := ⟨T[k], by simp⟩
      obtain ⟨bb, off, rfl, hbr, hbb, hc1, hc2⟩ := HKS.out k x hx
      have hc1 := (kR.cell (p := ⟨bb, off + k * 2, none⟩) hbb hbr).trans hc1
      have hc2 := (kR.cell (p := ⟨bb, off + k * 2 + 1, none⟩) hbb hbr).trans hc2
      have hbb : bb < wr.heap.size := by omega
      obtain ⟨x1, x2⟩ := x
      have hxT := HT.out k _ hx
      simp only at hxT hc1 hc2
      have hq2 : x2 ≤ L.length := by have := HNL.out; omega
      have hpart := fun W q1 (q2 : x2 ≤ L.length) => part7_any B xb h L x1 x2 W q1 h32 hlen hxT.1 q2
      have hlti : (k : Int) < (T.length : Int) := by omega
      have hki : (k : Int) ≤ 100 := by have := HTL.out; omega
      have hTk : T.take (k + 1) = T.take k ++ [(x1, x2)] := by rw [List.take_add_one, hx]; rfl
      have hpush : toldH L (T.take (k + 1)) = toldH L (T.take k) ++ [hashL (sl L x1 x2)] := by rw [hTk]; simp [toldH]
      have hlk : (T.take k).length = k := by rw [List.length_take]; omega
      have hlk1 : (T.take (k + 1)).length = k + 1 := by rw [List.length_take]; omega
      rw [hlk] at hrow
      obtain ⟨PV, hPV⟩ : ∃ PV, hashL (sl L x1 x2) = PV := ⟨_, rfl⟩
      rw [hPV] at hpart hpush
      have HPART := hid hpart
      have HQ2 := hid hq2
      have HPUSH := hid hpush
      have HLK1 := hid hlk1
      have HLT := hid hlt
      have HX := hid hx
      clear hq2 hpart hpush hlk hlk1 hTk hPV hlt hx
      unfold spanV at HPART
      obtain ⟨aok, cpk, rfl⟩ := ownsRow_slice hrow
      have fa := fr
      have fa' := Keeps.refl (fun _ => False) wr
      have HR := hid hrbk
      have HP := hid hp6k
      clear hrbk hp6k
      go_wp2_with fail
      refine (HPART.out _ (ht.fresh fa) HQ2.out).mono ?_
      rintro x w4 ⟨rfl, f4⟩
      have f4' := fa'.trans f4
      have hrow4 := ownsRow_keeps hrow f4' (fun _ _ h => h)
      have hr4 := f4'.at_ HR.out (fun h => h)
      have hp4 := f4'.at_ HP.out (fun h => h)
      have c3 := (cell_at hr4 3).trans (show _ = some (Value.slice aok k cpk) from rfl)
      have hrl := lt_of_block hr4
      have hpl := lt_of_block hp4
      have HR4 := hid hr4
      have HP4 := hid hp4
      clear hr4 hp4
      go_wp2_with (at_builtin; refine wpList_push rfl (.tmp 55) (.tmp 57) 26 rfl 9 i0 (.string ⟨#[]⟩) 16 Tryd.underlying26 hi hz0 hz1 hz2 rfl w4 hrow4 _ (by rfl) (by rfl) rfl (by have := HTL.out; have := HLT.out; omega) (by have := HTL.out; have := HLT.out; unfold maxLen; omega) ?_)
      intro v5 w5 ha
      obtain ⟨ao5, cp5, rfl⟩ := ownsRow_slice ha.row
      have nrb : (Value.slice aok k cpk).ownBlock ≠ some rb := fun e => by have := hown rb e; omega
      have np6 : (Value.slice aok k cpk).ownBlock ≠ some p6 := fun e => by have := hown p6 e; omega
      have hr5 := ha.keeps.at_ HR4.out nrb
      have hp5 := ha.keeps.at_ HP4.out np6
      have z3 := free_at hr5 3
      have y3 := (cell_at hr5 3).trans (show _ = some (Value.slice aok k cpk) from rfl)
      have HR5 := hid hr5
      clear hr5 c3
      go_wp2_with fail
      have hr6 := heap_setCell_at HR5.out 3 (.slice ao5 (k + 1) cp5)
      have kS : Keeps (fun q => q = rb) w5 (w5.setCell ⟨rb, 3, none⟩ (.slice ao5 (k + 1) cp5)) := (Keeps.refl (fun q => q = rb) w5).setCell (p := ⟨rb, 3, none⟩) (fun _ => rfl) _
      have hnb : ∀ g, (Value.slice ao5 (k + 1) cp5).ownBlock = some g → wR.heap.size ≤ g := fun g hg => by
        rcases ha.own g hg with z | z
        · exact hown g z
        · have := f4'.size; omega
      have kR6 : Keeps (fun q => q = rb) wR (w5.setCell ⟨rb, 3, none⟩ (.slice ao5 (k + 1) cp5)) := (((kR.trans (f4'.mono (fun _ _ h => h.elim))).trans' ha.keeps (fun q hq e => by have := hown q e; omega))).trans kS
      have hrow6 : (w5.setCell ⟨rb, 3, none⟩ (.slice ao5 (k + 1) cp5)).ownsRow 0 9 1 (.slice ao5 (k + 1) cp5) (T.take (k + 1)).length (texts (toldH L (T.take (k + 1)))) := by
        rw [HLK1.out, HPUSH.out, texts_snoc]
        exact ownsRow_setCell_ne ha.row (fun e => by have := hnb rb e; omega) _
      go_roundw
      case rel => exact ⟨k + 1, _, by simp, HLT.out, hrow6, hnb, hr6, kR6⟩
      case measure => have := HLT.out; simp [intOf]; omega
    · have hkT : k = T.length := by omega
      have hnlt : ¬ (k : Int) < (T.length : Int) := by omega
      have hkl : (T.take k).length = (toldH L T).length := by rw [hkT, List.take_length]; simp [toldH]
      have hTk : T.take k = T := by rw [hkT, List.take_length]
      rw [hkl, hTk] at hrow
      obtain ⟨aok, cpk, rfl⟩ := ownsRow_slice hrow
      have hle := row_le hrow
      have c3 := (cell_at hrbk 3).trans (show _ = some (Value.slice aok (toldH L T).length cpk) from rfl)
      have e0 := (cell_at hrbk 0).trans (show _ = some (Value.int .i64 (n : Int)) from rfl)
      have e1 := (cell_at hrbk 1).trans (show _ = some (Value.int .i64 (b : Int)) from rfl)
      have e2 := (cell_at hrbk 2).trans (show _ = some (Value.int .i64 (e : Int)) from rfl)
      have hrl := lt_of_block hrbk
      have hpl := lt_of_block hp6k
      have d0 := (cell_at hp6k 0).trans (show _ = some (Value.int .i64 0) from rfl)
      have d1 := (cell_at hp6k 1).trans (show _ = some (Value.int .i64 0) from rfl)
      have d2 := (cell_at hp6k 2).trans (show _ = some (Value.int .i64 0) from rfl)
      have d3 := (cell_at hp6k 3).trans (show _ = some (Value.slice none 0 0) from rfl)
      have y0 := free_at hp6k 0
      have y1 := free_at hp6k 1
      have y2 := free_at hp6k 2
      have y3 := free_at hp6k 3
      have HP := hid hp6k
      clear hkl hTk hlt hk hkT hrbk hp6k hle
      go_wp2_with fail
      have r2 := heap_setCell_at (heap_setCell_at (heap_setCell_at (heap_setCell_at HP.out 0 (.int .i64 (n : Int))) 1 (.int .i64 (b : Int))) 2 (.int .i64 (e : Int))) 3 (.slice aok (toldH L T).length cpk)
      refine bodyPost_ret (results_row2 rfl _ _ p6 41 _ (0, 0) _ rfl (by exact r2) Tryd.underlying41 rfl (by kernel_rfl)) rfl ?_
      have kS := (((((Keeps.refl (fun q => q = p6) wr)).setCell (p := ⟨p6, 0, none⟩) (fun _ => rfl) (.int .i64 (n : Int))).setCell (p := ⟨p6, 1, none⟩) (fun _ => rfl) (.int .i64 (b : Int))).setCell (p := ⟨p6, 2, none⟩) (fun _ => rfl) (.int .i64 (e : Int))).setCell (p := ⟨p6, 3, none⟩) (fun _ => rfl) (.slice aok (toldH L T).length cpk)
      refine ⟨_, rfl, ⟨?_, fun g hg => by have := hown g hg; have := fR.size; omega⟩, ?_⟩
      · exact ownsRow_keeps hrow kS (fun q hq e => by have := hown q hq; omega)
      · exact fr.trans' kS (fun q hq e => by have := HP6.out; omega)

set_option maxRecDepth 100000 in
set_option maxHeartbeats 2000000 in
theorem rprove_bad (B xb : Nat) (h : Int) (L : List (List UInt8)) (n b e : Int) (w : World) (ht : DocTree B w xb h L) (hbad : n < 1 ∨ (L.length : Int) < n ∨ ¬ (0 ≤ b ∧ b < e ∧ e ≤ n)) :
    Calls Tryd.prog 15 #[.pointer (some ⟨xb, 0, none⟩), .int .i64 n, .agg #[.int .i64 b, .int .i64 e]] w fun x w' => x = .returned (.tuple #[.agg #[.int .i64 0, .int .i64 0, .int .i64 0, .slice none 0 0], .int .i64 140]) ∧ Fresh w w' := by
  have hsz := fun W q => size7_any B xb h L W q
  have hI := fun W => refrun_any n b e W
  have hf0 : Fresh w ((w.alloc (spanC b e)).alloc (.cells #[.int .i64 0, .int .i64 0, .int .i64 0, .slice none 0 0] 41)) := ((Keeps.refl _ _).alloc _).alloc _
  have hb0 := ((Keeps.refl (fun _ => False) (w.alloc (spanC b e))).alloc (.cells #[.int .i64 0, .int .i64 0, .int .i64 0, .slice none 0 0] 41)).at_ (heap_alloc_new w (spanC b e)) (fun h => h)
  have hr0 := heap_alloc_new (w.alloc (spanC b e)) (.cells #[.int .i64 0, .int .i64 0, .int .i64 0, .slice none 0 0] 41)
  rw [World.size_alloc] at hr0
  have HSZ := hid hsz
  have HI := hid hI
  have HW := hid (show w.heap.size + 1 ≥ w.heap.size by omega)
  obtain ⟨p6, hp6e⟩ : ∃ p6, w.heap.size + 1 = p6 := ⟨_, rfl⟩
  rw [hp6e] at hr0 HW
  have HP6 := hid hp6e
  obtain ⟨R, hR⟩ : ∃ R, decide (0 ≤ b ∧ b < e ∧ e ≤ n) = R := ⟨_, rfl⟩
  rw [hR] at HI
  have HR := hid hR
  obtain ⟨LN, hLN⟩ : ∃ LN : Nat, L.length = LN := ⟨_, rfl⟩
  rw [hLN] at HSZ hbad
  clear hsz hI hR hp6e hLN
  unfold spanC at *
  have c0 := (cell_at hb0 0).trans (show _ = some (Value.int .i64 b) from rfl)
  have c1 := (cell_at hb0 1).trans (show _ = some (Value.int .i64 e) from rfl)
  have hw3 : n < 1 ∨ (¬ n < 1 ∧ (LN : Int) < n) ∨ (¬ n < 1 ∧ ¬ (LN : Int) < n ∧ R = false) := by
    have := HR.out
    by_cases h1 : n < 1
    · exact .inl h1
    · by_cases h2 : (LN : Int) < n
      · exact .inr (.inl ⟨h1, h2⟩)
      · refine .inr (.inr ⟨h1, h2, ?_⟩)
        rw [← this]
        exact decide_eq_false (by omega)
  clear hbad
  rcases hw3 with h1 | ⟨h1, h2⟩ | ⟨h1, h2, rfl⟩
  · go_enter Tryd.func15, Tryd.ntmps15
    go_wp2_with fail
    refine (HI.out _).mono ?_
    rintro x w1 ⟨rfl, f1⟩
    have hp1 := f1.at_ hr0 (fun h => h)
    have d0 := (cell_at hp1 0).trans (show _ = some (Value.int .i64 0) from rfl)
    have d1 := (cell_at hp1 1).trans (show _ = some (Value.int .i64 0) from rfl)
    have d2 := (cell_at hp1 2).trans (show _ = some (Value.int .i64 0) from rfl)
    have d3 := (cell_at hp1 3).trans (show _ = some (Value.slice none 0 0) from rfl)
    have y0 := free_at hp1 0
    have y1 := free_at hp1 1
    have y2 := free_at hp1 2
    have y3 := free_at hp1 3
    have hpl := lt_of_block hp1
    have HP := hid hp1
    clear hp1
    (try rw [HP6.out])
    go_wp2_with fail
    have kS := (((((Keeps.refl (fun q => q = p6) w1)).setCell (p := ⟨p6, 0, none⟩) (fun _ => rfl) (.int .i64 0)).setCell (p := ⟨p6, 1, none⟩) (fun _ => rfl) (.int .i64 0)).setCell (p := ⟨p6, 2, none⟩) (fun _ => rfl) (.int .i64 0)).setCell (p := ⟨p6, 3, none⟩) (fun _ => rfl) (.slice none 0 0)
    have r2 := heap_setCell_at (heap_setCell_at (heap_setCell_at (heap_setCell_at HP.out 0 (.int .i64 0)) 1 (.int .i64 0)) 2 (.int .i64 0)) 3 (.slice none 0 0)
    have r2 := heap_setCell_at (heap_setCell_at (heap_setCell_at (heap_setCell_at HP.out 0 (.int .i64 0)) 1 (.int .i64 0)) 2 (.int .i64 0)) 3 (.slice none 0 0)
    refine bodyPost_ret (results_row2 rfl _ _ p6 41 _ (0, 0) _ rfl (by exact r2) Tryd.underlying41 rfl (by kernel_rfl)) rfl ⟨rfl, ?_⟩
    exact (hf0.trans f1).trans' kS (fun q hq e => by have := HP6.out; omega)
  · go_enter Tryd.func15, Tryd.ntmps15
    go_wp2_with fail
    refine (HI.out _).mono ?_
    rintro x w1 ⟨rfl, f1⟩
    have hp1 := f1.at_ hr0 (fun h => h)
    have d0 := (cell_at hp1 0).trans (show _ = some (Value.int .i64 0) from rfl)
    have d1 := (cell_at hp1 1).trans (show _ = some (Value.int .i64 0) from rfl)
    have d2 := (cell_at hp1 2).trans (show _ = some (Value.int .i64 0) from rfl)
    have d3 := (cell_at hp1 3).trans (show _ = some (Value.slice none 0 0) from rfl)
    have y0 := free_at hp1 0
    have y1 := free_at hp1 1
    have y2 := free_at hp1 2
    have y3 := free_at hp1 3
    have hpl := lt_of_block hp1
    have HP := hid hp1
    clear hp1
    (try rw [HP6.out])
    go_wp2_with fail
    refine (HSZ.out _ (ht.fresh (hf0.trans f1))).mono ?_
    rintro x w2 ⟨rfl, rfl⟩
    go_wp2_with fail
    have kS := (((((Keeps.refl (fun q => q = p6) w1)).setCell (p := ⟨p6, 0, none⟩) (fun _ => rfl) (.int .i64 0)).setCell (p := ⟨p6, 1, none⟩) (fun _ => rfl) (.int .i64 0)).setCell (p := ⟨p6, 2, none⟩) (fun _ => rfl) (.int .i64 0)).setCell (p := ⟨p6, 3, none⟩) (fun _ => rfl) (.slice none 0 0)
    have r2 := heap_setCell_at (heap_setCell_at (heap_setCell_at (heap_setCell_at HP.out 0 (.int .i64 0)) 1 (.int .i64 0)) 2 (.int .i64 0)) 3 (.slice none 0 0)
    have r2 := heap_setCell_at (heap_setCell_at (heap_setCell_at (heap_setCell_at HP.out 0 (.int .i64 0)) 1 (.int .i64 0)) 2 (.int .i64 0)) 3 (.slice none 0 0)
    refine bodyPost_ret (results_row2 rfl _ _ p6 41 _ (0, 0) _ rfl (by exact r2) Tryd.underlying41 rfl (by kernel_rfl)) rfl ⟨rfl, ?_⟩
    exact (hf0.trans f1).trans' kS (fun q hq e => by have := HP6.out; omega)
  · go_enter Tryd.func15, Tryd.ntmps15
    go_wp2_with fail
    refine (HI.out _).mono ?_
    rintro x w1 ⟨rfl, f1⟩
    have hp1 := f1.at_ hr0 (fun h => h)
    have d0 := (cell_at hp1 0).trans (show _ = some (Value.int .i64 0) from rfl)
    have d1 := (cell_at hp1 1).trans (show _ = some (Value.int .i64 0) from rfl)
    have d2 := (cell_at hp1 2).trans (show _ = some (Value.int .i64 0) from rfl)
    have d3 := (cell_at hp1 3).trans (show _ = some (Value.slice none 0 0) from rfl)
    have y0 := free_at hp1 0
    have y1 := free_at hp1 1
    have y2 := free_at hp1 2
    have y3 := free_at hp1 3
    have hpl := lt_of_block hp1
    have HP := hid hp1
    clear hp1
    (try rw [HP6.out])
    go_wp2_with fail
    refine (HSZ.out _ (ht.fresh (hf0.trans f1))).mono ?_
    rintro x w2 ⟨rfl, rfl⟩
    go_wp2_with fail
    have kS := (((((Keeps.refl (fun q => q = p6) w1)).setCell (p := ⟨p6, 0, none⟩) (fun _ => rfl) (.int .i64 0)).setCell (p := ⟨p6, 1, none⟩) (fun _ => rfl) (.int .i64 0)).setCell (p := ⟨p6, 2, none⟩) (fun _ => rfl) (.int .i64 0)).setCell (p := ⟨p6, 3, none⟩) (fun _ => rfl) (.slice none 0 0)
    have r2 := heap_setCell_at (heap_setCell_at (heap_setCell_at (heap_setCell_at HP.out 0 (.int .i64 0)) 1 (.int .i64 0)) 2 (.int .i64 0)) 3 (.slice none 0 0)
    have r2 := heap_setCell_at (heap_setCell_at (heap_setCell_at (heap_setCell_at HP.out 0 (.int .i64 0)) 1 (.int .i64 0)) 2 (.int .i64 0)) 3 (.slice none 0 0)
    refine bodyPost_ret (results_row2 rfl _ _ p6 41 _ (0, 0) _ rfl (by exact r2) Tryd.underlying41 rfl (by kernel_rfl)) rfl ⟨rfl, ?_⟩
    exact (hf0.trans f1).trans' kS (fun q hq e => by have := HP6.out; omega)
end Go.Proofs.YtgikabafaocemaaDoor
