/-
  The program's span: Prove of a span that is there.
-/
import Derived.Test.YtgikabafaocemaaDoorTlRoot
import Derived.Test.YtgikabafaocemaaDoorSpRun
import Derived.Test.YtgikabafaocemaaDoorMSpA
namespace Go.Proofs.YtgikabafaocemaaDoor
open Go.RowKit Go.Maps

/-- a list that was made since, cut to its length -/
def ClipRow (w w' : World) (v : Value) (l : List (List UInt8)) : Prop :=
  ∃ ao cap, w'.ownsRow 0 9 1 (.slice ao l.length cap) l.length (texts l) ∧ (∀ g, (Value.slice ao l.length cap).ownBlock = some g → w.heap.size ≤ g) ∧ v = .slice ao l.length l.length
theorem ClipRow.at_ {w w' : World} {v : Value} {l : List (List UInt8)} (h : ClipRow w w' v l) : TextsAt w' v l := by
  obtain ⟨ao, cap, h1, -, rfl⟩ := h
  obtain ⟨ao', cap', e, hk⟩ := OwnTexts_at h1
  simp only [Value.slice.injEq] at e
  obtain ⟨rfl, -, rfl⟩ := e
  exact ⟨ao, l.length, rfl, hk⟩
theorem ClipRow.fresh {w w' w'' : World} {v : Value} {l : List (List UInt8)} (h : ClipRow w w' v l) (f : Fresh w' w'') : ClipRow w w'' v l := by
  obtain ⟨ao, cap, h1, h2, h3⟩ := h
  exact ⟨ao, cap, ownsRow_keeps h1 f (fun _ _ h => h), h2, h3⟩

set_option maxRecDepth 100000 in
set_option maxHeartbeats 1000000 in
theorem clipTexts_any (ao : Option Addr) (n cap : Nat) (w : World) (hc : n ≤ cap) :
    Calls Tryd.prog 41 #[.slice ao n cap] w fun x w' => x = .returned (.slice ao n n) ∧ Fresh w w' := by
  go_enter Tryd.func41, Tryd.ntmps41
  go_wp2_with fail
  go_ret
  exact ⟨rfl, Keeps.refl _ _⟩
theorem row_le {w : World} {n cap : Nat} {ao : Option Addr} {xs : List Value} {e : TypeId} (h : w.ownsRow 0 e 1 (.slice ao n cap) n xs) : n ≤ cap := by
  obtain ⟨_, ⟨e, h0⟩ | ⟨g, cap', cur, e, _, _, hn, _⟩⟩ := h
  · simp only [Value.slice.injEq] at e; omega
  · simp only [Value.slice.injEq] at e
    omega

set_option maxRecDepth 100000 in
set_option maxHeartbeats 4000000 in
theorem pprove_good (S : Nat → Prop) (tb h : Nat) (L : List (List UInt8)) (n b e : Nat) (w : World) (ht : TileTree S w tb h L) (hd : Dig w) (hn : 1 ≤ n) (hnl : n ≤ L.length) (hbe : b < e) (hen : e ≤ n) :
    Calls Tryd.prog 14 #[.pointer (some ⟨tb, 0, none⟩), .int .i64 (n : Int), spanV (b, e)] w fun x w' => ∃ v, x = .returned (.tuple #[.agg #[.int .i64 (n : Int), .int .i64 (b : Int), .int .i64 (e : Int), v], .int .i64 0]) ∧ ClipRow w w' v (toldH L (toldF 40 b e 0 n)) ∧ Fresh w w' := by
  have hlen := ht.len
  have hsz := fun W q => tlsize_any S tb h L W q
  have hI := fun W => isRun_any n b e W
  rw [decide_eq_true (show (0 ≤ (b : Int) ∧ (b : Int) < e ∧ (e : Int) ≤ n) by omega)] at hI
  have hrun := fun W => run_good n b e hbe hen (by omega) W
  have hf0 : Fresh w ((w.alloc (spanC b e)).alloc (.cells #[.int .i64 0, .int .i64 0, .int .i64 0, .slice none 0 0] 41)) := ((Keeps.refl _ _).alloc _).alloc _
  have hb0 := ((Keeps.refl (fun _ => False) (w.alloc (spanC b e))).alloc (.cells #[.int .i64 0, .int .i64 0, .int .i64 0, .slice none 0 0] 41)).at_ (heap_alloc_new w (spanC b e)) (fun h => h)
  have hr0 := heap_alloc_new (w.alloc (spanC b e)) (.cells #[.int .i64 0, .int .i64 0, .int .i64 0, .slice none 0 0] 41)
  rw [World.size_alloc] at hr0
  have hT : ∀ (k : Nat) (x : Nat × Nat), (toldF 40 b e 0 n)[k]? = some x → x.1 < x.2 ∧ x.2 ≤ n := fun k x hx => (toldF_within 40 b e 0 n (by omega) (by omega) x (List.mem_of_getElem? hx)).2
  have hTl := toldF_few 40 b e 0 n (by omega)
  obtain ⟨T, hTe⟩ : ∃ T, toldF 40 b e 0 n = T := ⟨_, rfl⟩
  rw [hTe] at hrun hT hTl ⊢
  have HSZ := hid hsz
  have HI := hid hI
  have HRUN := hid hrun
  have HT := hid hT
  have HTL := hid hTl
  have HNL := hid hnl
  have q1 : ¬ (n : Int) < 1 := by omega
  have q2 : ¬ (L.length : Int) < (n : Int) := by omega
  clear hsz hI hrun hT hTl hTe hlen hn hnl
  unfold spanV spanC at *
  go_enter Tryd.func14, Tryd.ntmps14
  go_wp2_with fail
  refine (HSZ.out _ (ht.fresh hf0)).mono ?_
  rintro x w1 ⟨rfl, f1⟩
  have f1' := hf0.trans f1
  have hb1 := f1.at_ hb0 (fun h => h)
  have hr1 := f1.at_ hr0 (fun h => h)
  have c0 := (cell_at hb1 0).trans (show _ = some (Value.int .i64 (b : Int)) from rfl)
  have c1 := (cell_at hb1 1).trans (show _ = some (Value.int .i64 (e : Int)) from rfl)
  go_wp2_with fail
  refine (HI.out _).mono ?_
  rintro x w2 ⟨rfl, f2⟩
  have f2' := f1'.trans f2
  have hb2 := f2.at_ hb1 (fun h => h)
  have hr2 := f2.at_ hr1 (fun h => h)
  clear c0 c1
  have c0 := (cell_at hb2 0).trans (show _ = some (Value.int .i64 (b : Int)) from rfl)
  have c1 := (cell_at hb2 1).trans (show _ = some (Value.int .i64 (e : Int)) from rfl)
  go_wp2_with fail
  refine (HRUN.out _).mono ?_
  rintro x w3 ⟨vt, rfl, hvt, f3⟩
  have f3' := f2'.trans f3
  have hb3 := f3.at_ hb2 (fun h => h)
  have hr3 := f3.at_ hr2 (fun h => h)
  clear c0 c1
  have c0 := (cell_at hb3 0).trans (show _ = some (Value.int .i64 (b : Int)) from rfl)
  have c1 := (cell_at hb3 1).trans (show _ = some (Value.int .i64 (e : Int)) from rfl)
  obtain ⟨at', ct, rfl, hct, hks⟩ := hvt
  clear hb0 hr0 hb1 hr1 hb2 hr2 f1 f2 hf0 f1' f2'
  go_wp2_with fail
  have fR : Fresh w (w3.alloc (.cells #[.int .i64 (n : Int), .int .i64 (b : Int), .int .i64 (e : Int), .slice none 0 0] 41)) := f3'.alloc _
  have hrb := heap_alloc_new w3 (.cells #[.int .i64 (n : Int), .int .i64 (b : Int), .int .i64 (e : Int), .slice none 0 0] 41)
  have hp6 := ((Keeps.refl (fun _ => False) w3).alloc (.cells #[.int .i64 (n : Int), .int .i64 (b : Int), .int .i64 (e : Int), .slice none 0 0] 41)).at_ hr3 (fun h => h)
  have hks : ∀ (k : Nat) (x : Nat × Nat), T[k]? = some x → ∃ bb off, at' = some ⟨bb, off, none⟩ ∧ bb < w3.heap.size ∧ (w3.alloc (.cells #[.int .i64 (n : Int), .int .i64 (b : Int), .int .i64 (e : Int), .slice none 0 0] 41)).cell? ⟨bb, off + k * 2, none⟩ = some (.int .i64 (x.1 : Int)) ∧ (w3.alloc (.cells #[.int .i64 (n : Int), .int .i64 (b : Int), .int .i64 (e : Int), .slice none 0 0] 41)).cell? ⟨bb, off + k * 2 + 1, none⟩ = some (.int .i64 (x.2 : Int)) := fun k x hx => by
    obtain ⟨bb, off, e1, e2, e3, e4⟩ := hks k x hx
    have fal := (Keeps.refl (fun _ => False) w3).alloc (.cells #[.int .i64 (n : Int), .int .i64 (b : Int), .int .i64 (e : Int), .slice none 0 0] 41)
    exact ⟨bb, off, e1, e2, (fal.cell (p := ⟨bb, off + k * 2, none⟩) e2 (fun h => h)).trans e3, (fal.cell (p := ⟨bb, off + k * 2 + 1, none⟩) e2 (fun h => h)).trans e4⟩
  have hsR : (w3.alloc (.cells #[.int .i64 (n : Int), .int .i64 (b : Int), .int .i64 (e : Int), .slice none 0 0] 41)).heap.size = w3.heap.size + 1 := World.size_alloc _ _
  have hlt3 := f3'.size
  have h6rb : w.heap.size + 1 ≠ w3.heap.size := by have := lt_of_block hr3; omega
  obtain ⟨p6, hp6e⟩ : ∃ p6, w.heap.size + 1 = p6 := ⟨_, rfl⟩
  rw [hp6e] at hp6 h6rb ⊢
  have HP6 := hid hp6e
  generalize w3.alloc (.cells #[.int .i64 (n : Int), .int .i64 (b : Int), .int .i64 (e : Int), .slice none 0 0] 41) = wR at fR hrb hp6 hks hsR ⊢
  generalize w3.heap.size = rb at hrb h6rb hlt3 hks hsR ⊢
  have hrbl := lt_of_block hrb
  have hp6l := lt_of_block hp6
  obtain ⟨i0, hi, hz0, hz1, hz2⟩ := info_parts Tryd.infoText
  have HKS := hid hks
  clear hks hct f3 f3' hb3 hr3 c0 c1 hp6e
  go_loopw [44] (fun i wr => ∃ (k : Nat) (vk : Value), i = .int .i64 (k : Int) ∧ k ≤ T.length ∧ wr.ownsRow 0 9 1 vk (T.take k).length (texts (toldH L (T.take k))) ∧ (∀ g, vk.ownBlock = some g → wR.heap.size ≤ g) ∧ wr.heap[rb]? = some (.cells #[.int .i64 (n : Int), .int .i64 (b : Int), .int .i64 (e : Int), vk] 41 (0, 0)) ∧ Keeps (fun q => q = rb) wR wr) (fun i _ => T.length - (intOf i).toNat)
  case atStart => exact ⟨0, .slice none 0 0, rfl, Nat.zero_le _, ⟨rfl, .inl ⟨rfl, rfl⟩⟩, fun g hg => (by simp [Value.ownBlock] at hg), hrb, Keeps.refl _ _⟩
  case round =>
    obtain ⟨k, vk, rfl, hk, hrow, hown, hrbk, kR⟩ := hrel
    have hkR := kR.size
    have fr : Fresh w wr := fR.trans' kR (fun q hq e => by omega)
    have hp6k := kR.at_ hp6 h6rb
    by_cases hlt : k < T.length
    · obtain ⟨x, hx⟩ : ∃ x, T[k]? = some x := ⟨T[k], by simp⟩
      obtain ⟨bb, off, rfl, hbb, hc1, hc2⟩ := HKS.out k x hx
      have hc1 := (kR.cell (p := ⟨bb, off + k * 2, none⟩) (show bb < wR.heap.size by omega) (show ¬ bb = rb by omega)).trans hc1
      have hc2 := (kR.cell (p := ⟨bb, off + k * 2 + 1, none⟩) (show bb < wR.heap.size by omega) (show ¬ bb = rb by omega)).trans hc2
      have hbb : bb < wr.heap.size := by omega
      obtain ⟨x1, x2⟩ := x
      have hxT := HT.out k _ hx
      simp only at hxT hc1 hc2
      have hpart := fun W q1 q2 => tlpart_any S tb h L x1 x2 W hxT.1 (by have := HNL.out; omega) q1 q2
      have hlti : (k : Int) < (T.length : Int) := by omega
      have hki : (k : Int) ≤ 100 := by have := HTL.out; omega
      have hTk : T.take (k + 1) = T.take k ++ [(x1, x2)] := by rw [List.take_add_one, hx]; rfl
      have hpush : toldH L (T.take (k + 1)) = toldH L (T.take k) ++ [hashL (sl L x1 x2)] := by rw [hTk]; simp [toldH]
      have hlk : (T.take k).length = k := by rw [List.length_take]; omega
      have hlk1 : (T.take (k + 1)).length = k + 1 := by rw [List.length_take]; omega
      rw [hlk] at hrow
      obtain ⟨PV, hPV⟩ : ∃ PV, hashL (sl L x1 x2) = PV := ⟨_, rfl⟩
      rw [hPV] at hpart hpush
      have HPART := hid hpart
      have HPUSH := hid hpush
      have HLK1 := hid hlk1
      have HLT := hid hlt
      have HX := hid hx
      clear hpart hpush hlk hlk1 hTk hPV hlt hx
      unfold spanV at HPART
      obtain ⟨aok, cpk, rfl⟩ := ownsRow_slice hrow
      have fa := fr.alloc (.cells #[.int .i64 (x1 : Int), .int .i64 (x2 : Int)] 24)
      have fa' := (Keeps.refl (fun _ => False) wr).alloc (.cells #[.int .i64 (x1 : Int), .int .i64 (x2 : Int)] 24)
      have HR := hid hrbk
      have HP := hid hp6k
      clear hrbk hp6k
      go_wp2_with fail
      refine (HPART.out _ (ht.fresh fa) (hd.fresh fa)).mono ?_
      rintro x w4 ⟨rfl, f4⟩
      have f4' := fa'.trans f4
      have hrow4 := ownsRow_keeps hrow f4' (fun _ _ h => h)
      have hr4 := f4'.at_ HR.out (fun h => h)
      have hp4 := f4'.at_ HP.out (fun h => h)
      have c3 := (cell_at hr4 3).trans (show _ = some (Value.slice aok k cpk) from rfl)
      have hrl := lt_of_block hr4
      have hpl := lt_of_block hp4
      have HR4 := hid hr4
      have HP4 := hid hp4
      clear hr4 hp4
      go_wp2_with (at_builtin; refine wpList_push rfl (.tmp 55) (.tmp 57) 26 rfl 9 i0 (.string ⟨#[]⟩) 16 Tryd.underlying26 hi hz0 hz1 hz2 rfl w4 hrow4 _ (by rfl) (by rfl) rfl (by have := HTL.out; have := HLT.out; omega) (by have := HTL.out; have := HLT.out; unfold maxLen; omega) ?_)
      intro v5 w5 ha
      obtain ⟨ao5, cp5, rfl⟩ := ownsRow_slice ha.row
      have nrb : (Value.slice aok k cpk).ownBlock ≠ some rb := fun e => by have := hown rb e; omega
      have np6 : (Value.slice aok k cpk).ownBlock ≠ some p6 := fun e => by have := hown p6 e; omega
      have hr5 := ha.keeps.at_ HR4.out nrb
      have hp5 := ha.keeps.at_ HP4.out np6
      have z3 := free_at hr5 3
      have y3 := (cell_at hr5 3).trans (show _ = some (Value.slice aok k cpk) from rfl)
      have HR5 := hid hr5
      clear hr5 c3
      go_wp2_with fail
      have hr6 := heap_setCell_at HR5.out 3 (.slice ao5 (k + 1) cp5)
      have kS : Keeps (fun q => q = rb) w5 (w5.setCell ⟨rb, 3, none⟩ (.slice ao5 (k + 1) cp5)) := (Keeps.refl (fun q => q = rb) w5).setCell (p := ⟨rb, 3, none⟩) (fun _ => rfl) _
      have hnb : ∀ g, (Value.slice ao5 (k + 1) cp5).ownBlock = some g → wR.heap.size ≤ g := fun g hg => by
        rcases ha.own g hg with z | z
        · exact hown g z
        · have := f4'.size; omega
      have kR6 : Keeps (fun q => q = rb) wR (w5.setCell ⟨rb, 3, none⟩ (.slice ao5 (k + 1) cp5)) := (((kR.trans (f4'.mono (fun _ _ h => h.elim))).trans' ha.keeps (fun q hq e => by have := hown q e; omega))).trans kS
      have hrow6 : (w5.setCell ⟨rb, 3, none⟩ (.slice ao5 (k + 1) cp5)).ownsRow 0 9 1 (.slice ao5 (k + 1) cp5) (T.take (k + 1)).length (texts (toldH L (T.take (k + 1)))) := by
        rw [HLK1.out, HPUSH.out, texts_snoc]
        exact ownsRow_setCell_ne ha.row (fun e => by have := hnb rb e; omega) _
      go_roundw
      case rel => exact ⟨k + 1, _, by simp, HLT.out, hrow6, hnb, hr6, kR6⟩
      case measure => have := HLT.out; simp [intOf]; omega
    · have hkT : k = T.length := by omega
      have hnlt : ¬ (k : Int) < (T.length : Int) := by omega
      have hkl : (T.take k).length = (toldH L T).length := by rw [hkT, List.take_length]; simp [toldH]
      have hTk : T.take k = T := by rw [hkT, List.take_length]
      rw [hkl, hTk] at hrow
      obtain ⟨aok, cpk, rfl⟩ := ownsRow_slice hrow
      have hle := row_le hrow
      have HLE := hid hle
      have hcl := fun W => clipTexts_any aok (toldH L T).length cpk W HLE.out
      have HCL := hid hcl
      have c3 := (cell_at hrbk 3).trans (show _ = some (Value.slice aok (toldH L T).length cpk) from rfl)
      have HR := hid hrbk
      have HP := hid hp6k
      clear hcl hkl hTk hlt hk hkT hrbk hp6k hle
      go_wp2_with fail
      refine (HCL.out _).mono ?_
      rintro x w4 ⟨rfl, f4⟩
      have hr4 := f4.at_ HR.out (fun h => h)
      have hp4 := f4.at_ HP.out (fun h => h)
      have HR4 := hid hr4
      have c3 := (cell_at hr4 3).trans (show _ = some (Value.slice aok (toldH L T).length cpk) from rfl)
      have z3 := free_at hr4 3
      have hrl := lt_of_block hr4
      have hpl := lt_of_block hp4
      have d0 := (cell_at hp4 0).trans (show _ = some (Value.int .i64 0) from rfl)
      have d1 := (cell_at hp4 1).trans (show _ = some (Value.int .i64 0) from rfl)
      have d2 := (cell_at hp4 2).trans (show _ = some (Value.int .i64 0) from rfl)
      have d3 := (cell_at hp4 3).trans (show _ = some (Value.slice none 0 0) from rfl)
      have e0 := (cell_at hr4 0).trans (show _ = some (Value.int .i64 (n : Int)) from rfl)
      have e1 := (cell_at hr4 1).trans (show _ = some (Value.int .i64 (b : Int)) from rfl)
      have e2 := (cell_at hr4 2).trans (show _ = some (Value.int .i64 (e : Int)) from rfl)
      have y0 := free_at hp4 0
      have y1 := free_at hp4 1
      have y2 := free_at hp4 2
      have y3 := free_at hp4 3
      have HP4 := hid hp4
      clear hr4 hp4
      go_wp2_with fail
      have kS : Keeps (fun q => q = rb) w4 (w4.setCell ⟨rb, 3, none⟩ (.slice aok (toldH L T).length (toldH L T).length)) := (Keeps.refl (fun q => q = rb) w4).setCell (p := ⟨rb, 3, none⟩) (fun _ => rfl) _
      have hp5 := kS.at_ HP4.out (fun e => h6rb e)
      have r2 := heap_setCell_at (heap_setCell_at (heap_setCell_at (heap_setCell_at hp5 0 (.int .i64 (n : Int))) 1 (.int .i64 (b : Int))) 2 (.int .i64 (e : Int))) 3 (.slice aok (toldH L T).length (toldH L T).length)
      refine bodyPost_ret (results_row2 rfl _ _ p6 41 _ (0, 0) _ rfl (by exact r2) Tryd.underlying41 rfl (by kernel_rfl)) rfl ?_
      refine ⟨_, rfl, ?_, ?_⟩
      · refine ⟨aok, cpk, ?_, fun g hg => by have := hown g hg; have := fR.size; omega, rfl⟩
        exact ownsRow_keeps (ownsRow_keeps hrow f4 (fun _ _ h => h)) (((((kS.mono (fun q _ e => .inl e)).setCell (S := fun q => q = rb ∨ q = p6) (p := ⟨p6, 0, none⟩) (fun _ => .inr rfl) _).setCell (p := ⟨p6, 1, none⟩) (fun _ => .inr rfl) _).setCell (p := ⟨p6, 2, none⟩) (fun _ => .inr rfl) _).setCell (p := ⟨p6, 3, none⟩) (fun _ => .inr rfl) _) (fun q hq e => by have := hown q hq; omega)
      · exact (fr.trans f4).trans' (((((kS.mono (fun q _ e => .inl e)).setCell (S := fun q => q = rb ∨ q = p6) (p := ⟨p6, 0, none⟩) (fun _ => .inr rfl) _).setCell (p := ⟨p6, 1, none⟩) (fun _ => .inr rfl) _).setCell (p := ⟨p6, 2, none⟩) (fun _ => .inr rfl) _).setCell (p := ⟨p6, 3, none⟩) (fun _ => .inr rfl) _) (fun q hq e => by have := HP6.out; omega)
end Go.Proofs.YtgikabafaocemaaDoor
