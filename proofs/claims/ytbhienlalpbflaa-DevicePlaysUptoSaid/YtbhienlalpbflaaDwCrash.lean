/-
  The law's 'crash': what is kept is lent, both devices crash.
-/
import Derived.Test.YtbhienlalpbflaaDwLent
namespace Go.Proofs.Ytbhienlalpbflaa
open Go.RowKit Go.Maps

set_option maxRecDepth 100000 in
set_option maxHeartbeats 8000000 in
theorem side_crash (B ob n N i d x : Nat) (c : Nat → Nat) (w : World) (v : WV) (f : Nat → St) (kv : Value) (ks : List (Int × Int)) (h : DW B c w ob v f f n N) (hi : v.ss[i]? = some (d, x)) (hn : n ≤ 90000) (hk : KeepsAt w kv ks) (hkb : 0 < ks.length → ∀ a m cp, kv = .slice (some a) m cp → a.block < w.heap.size → c a.block = 0) (hkl : ks.length ≤ 10000000) (hkw : ∀ k ∈ ks, (Lit.int .i64 k.1).wf = true ∧ (Lit.int .i64 k.2).wf = true) :
    Calls Try.prog 43 #[.agg #[.pointer (some ⟨d, 0, none⟩), .pointer (some ⟨x, 0, none⟩)], kv] w fun e w' => e = .returned (.bool true) ∧ (∃ s, DW B c w' ob v (updt f i s) (updt f i s) n N) ∧ Keeps (fun q => c q = 12 + 2 * i ∨ c q = 13 + 2 * i) w w' := by
  obtain ⟨j0, hj, hy0, hy1, hy2⟩ := info_parts Try.infoKeep
  have hi5 : i < 5 := by have := (List.getElem?_eq_some_iff.1 hi).1; have := h.vw.few; omega
  have hil : i < v.ss.length := (List.getElem?_eq_some_iff.1 hi).1
  obtain ⟨w1, hw1⟩ : ∃ w1, w.alloc (.cells #[.pointer (some ⟨d, 0, none⟩), .pointer (some ⟨x, 0, none⟩)] 53) = w1 := ⟨_, rfl⟩
  have f1 : Fresh w w1 := by rw [← hw1]; exact (Keeps.refl _ _).alloc _
  have hb1 : w1.heap[w.heap.size]? = some (.cells #[.pointer (some ⟨d, 0, none⟩), .pointer (some ⟨x, 0, none⟩)] 53 (0, 0)) := by rw [← hw1]; exact heap_alloc_new w _
  have hs1 : w1.heap.size = w.heap.size + 1 := by rw [← hw1]; simp
  obtain ⟨w2, hw2⟩ : ∃ w2, w1.alloc (ksC (List.replicate (ks.length + 8) (0, 0))) = w2 := ⟨_, rfl⟩
  have hmk : (Instr.makeSlice 49 (.int .i64 ((ks.length : Int) + 8)) (.int .i64 ((ks.length : Int) + 8))).run Try.prog w1 = .ok (.slice (some ⟨w1.heap.size, 0, none⟩) (ks.length + 8) (ks.length + 8)) w2 := by
    have := run_make w1 49 71 j0 (.agg #[.int .i64 0, .int .i64 0]) Try.underlying49 hj hy0 .i64 .i64 ((ks.length : Int) + 8) ((ks.length : Int) + 8) (by omega) (by omega) (by rw [hy2]; omega) (by omega)
    rw [hy1, show ((ks.length : Int) + 8).toNat = ks.length + 8 by omega] at this
    rw [this, ← hw2]
    congr 2
    unfold ksC
    congr 1
    exact made_keeps _
  have f2 : Fresh w1 w2 := by rw [← hw2]; exact (Keeps.refl _ _).alloc _
  obtain ⟨g, hgn⟩ : ∃ g, w1.heap.size = g := ⟨_, rfl⟩
  have hg0 : w2.heap[g]? = some (ksC (List.replicate (ks.length + 8) (0, 0))) := by rw [← hw2, ← hgn]; exact heap_alloc_new w1 _
  rw [hgn] at hmk
  obtain ⟨u, w3, hcopy, k3, hg3⟩ := copy_keeps w2 g kv ks (ks.length + 8) hg0 rfl (hk.fresh (f1.trans f2))
  have hgw : w.heap.size < g := by omega
  have f3 : Fresh w w3 := (f1.trans f2).trans' k3 fun q hq e => by have e : q = g := e; omega
  have hc3 := h.fresh f3
  obtain ⟨s, hs⟩ : ∃ s, f i = s := ⟨_, rfl⟩
  have hd := hc3.vw.dev i (d, x) hi
  have hok := h.vw.okd i hil
  rw [hs] at hd hok
  have hk3 := hk.fresh f3
  have hcg : c g = 0 := h.unborn g (by omega)
  have hcb : c w.heap.size = 0 := h.unborn _ (Nat.le_refl _)
  have hg3l := lt_of_block hg3
  have hb3 := k3.at_ (f2.at_ hb1 (fun h => h)) (fun e => by have e : w.heap.size = g := e; omega)
  have hown3 : KeepsAt w3 (.slice (some ⟨g, 0, none⟩) ks.length (ks.length + 8)) ks := ksC_at hg3 (by simp) rfl
  have HDC : Hid (∀ W, Fresh w3 W → Calls Try.prog 26 #[.pointer (some ⟨d, 0, none⟩), .slice (some ⟨g, 0, none⟩) ks.length (ks.length + 8)] W fun e w' => e = .returned (.int .i64 (crSt s ks).1) ∧ DevAt (fun q => c q = 12 + 2 * i) w' d (crSt s ks).2 n ∧ Keeps (fun q => c q = 12 + 2 * i) W w') := fun W f => dcrash _ d n s W _ ks (hd.fresh f) hok (by omega) (hown3.fresh f) (by omega) hkw
  have hlo : (ks.length : Int) ≤ 10000000 := by omega
  obtain ⟨ao, cap, rfl, hkc⟩ := hk
  have x0 := cell_at hb3 0
  have x1 := cell_at hb3 1
  simp at x0 x1
  have H3 := hid hc3
  have HG3 := hid hg3
  have HB3 := hid hb3
  have HF3 := hid f3
  have HI := hid hi
  have HKB := hid hkb
  have HK3 := hid hk3
  have HOK := hid hok
  have HS := hid hs
  have HUN := hid h.unborn
  have hks : ∀ k x, ks[k]? = some x → ∃ bb off, ao = some ⟨bb, off, none⟩ ∧ bb < w.heap.size := fun k x hx => by
    obtain ⟨bb, off, e1, e2, _⟩ := hkc k x hx
    exact ⟨bb, off, e1, e2⟩
  rw [← hw1] at hmk
  have hle8 : (ks.length : Int) ≤ (ks.length : Int) + 8 := by omega
  have HGW := hid (And.intro hgw (And.intro hcg hcb))
  clear h hi hkb hkw hk3 hc3 hd hok hs hg3 hg0 hb3 hown3 hb1 f1 f2 f3 k3 hkc hw1 hs1 hgn hy0 hy1 hy2 hj hgw hcg hcb hw2
  go_enter Try.func43, Try.ntmps43
  go_wp2_with (at_builtin; refine wpList_copy_to w2 rfl (.tmp 14) (.tmp 15) 49 49 rfl _ _ (by rfl) (by rfl) hcopy ?_)
  clear hcopy hmk
  go_wp2_with fail
  go_region_law (first | (go_simp; go_at_call 26; refine (HDC.out _ (by first | exact Keeps.refl _ _ | exact (Keeps.refl _ _).drew)).mono ?_; rintro e w4 ⟨rfl, hd4, k4⟩; have hw4 : DW B c w4 ob v (updt f i (crSt s ks).2) f n N ∧ Keeps (fun q => c q = 12 + 2 * i) w3 w4 := (by
      have k44 : Keeps (fun q => c q = 12 + 2 * i) w3 w4 := (by first | exact k4 | exact ((Keeps.refl _ w3).drew).trans k4)
      exact ⟨H3.out.setDev HI.out k44 hd4 (crSt_ok HOK.out ks) (Nat.le_refl _), k44⟩); clear hd4 k4))
  all_goals
    have HW4 := hid hw4
    clear hw4
    have y1 := (HW4.out.2.cell (p := ⟨w.heap.size, 1, none⟩) (lt_of_block HB3.out) (fun e => by have := HGW.out.2.2; have e : c w.heap.size = 12 + 2 * i := e; omega)).trans x1
    clear x0 x1
    have hvb : 0 < ks.length → ∀ a m cp, (Value.slice ao ks.length cap) = .slice (some a) m cp → ¬ c a.block = 13 + 2 * i := fun h0 a m cp e => by
      by_cases hq : a.block < w.heap.size
      · rw [HKB.out h0 a m cp e hq]; omega
      · rw [HUN.out _ (by omega)]; omega
    have hk4 := HK3.out.keeps HW4.out.2 (fun h0 a m cp e _ => by
      by_cases hq : a.block < w.heap.size
      · rw [HKB.out h0 a m cp e hq]; omega
      · rw [HUN.out _ (by omega)]; omega)
    have hx4 := HW4.out.1.vw.ref i (d, x) HI.out
    rw [HS.out] at hx4
    have HXC := hid (xcrash _ x s w4 _ ks hx4 HOK.out hk4 hvb (by omega))
    have HK4 := hid hk4
    clear hk4 hx4 hvb
    go_wp2_with fail
    refine HXC.out.mono ?_
    rintro e w5 ⟨rfl, hx5, k5⟩
    have h5 := HW4.out.1.setRef HI.out k5 hx5 (crSt_ok HOK.out ks)
    have k35 : Keeps (fun q => c q = 12 + 2 * i ∨ c q = 13 + 2 * i) w3 w5 := (HW4.out.2.mono fun _ _ e => .inl e).trans (k5.mono fun _ _ e => .inr e)
    have hk5 := HK3.out.keeps k35 (fun h0 a m cp e _ => by
      by_cases hq : a.block < w.heap.size
      · rw [HKB.out h0 a m cp e hq]; omega
      · rw [HUN.out _ (by omega)]; omega)
    have hg5 := k35.at_ HG3.out (fun e => by have := HGW.out.2.1; omega)
    have H5 := hid (And.intro h5 ((HF3.out.mono fun _ _ h => h.elim).trans k35))
    have HK5 := hid hk5
    have HG5 := hid hg5
    clear y1 hx5 k5 h5 k35 hk5 hg5 HXC HK4 HW4
    obtain ⟨ev, hev⟩ : ∃ ev, (crSt s ks).1 = ev := ⟨_, rfl⟩
    rw [hev]
    clear hev
    go_wp2_with fail
    go_loopw [8] (fun ii wr => ∃ j : Nat, ii = .int .i64 (j : Int) ∧ j ≤ ks.length + 8 ∧ Fresh w5 wr) (fun ii _ => ks.length + 8 - (intOf ii).toNat)
    case atStart => exact ⟨0, rfl, Nat.zero_le _, Keeps.refl _ _⟩
    case round =>
      obtain ⟨j, rfl, hj, fr⟩ := hrel
      by_cases hlt : j < ks.length + 8
      · have hjI : (j : Int) < (ks.length : Int) + 8 := by omega
        have hgr := fr.at_ HG5.out (fun h => h)
        have fa : Fresh wr (wr.alloc (.cells #[.int .i64 0, .int .i64 0] 71)) := (Keeps.refl _ wr).alloc _
        have hbox := heap_at_alloc (w := wr) (c := #[.int .i64 0, .int .i64 0]) (e := 71) rfl
        by_cases hlk : j < ks.length
        · obtain ⟨⟨N', b'⟩, hx⟩ : ∃ y, ks[j]? = some y := ⟨ks[j], by simp⟩
          obtain ⟨q1, q2⟩ := ksC_cell hgr (k := j) (x := (N', b')) (by rw [List.getElem?_append_left hlk]; exact hx)
          obtain ⟨ao5, cap5, e5, hkc5⟩ := HK5.out.fresh fr
          simp only [Value.slice.injEq] at e5
          obtain ⟨rfl, -, rfl⟩ := e5
          obtain ⟨bk, offk, rfl, hbk, hk1, hk2⟩ := hkc5 j (N', b') hx
          have hk1a := (fa.cell (p := ⟨bk, offk + j * 2, none⟩) hbk (fun h => h)).trans hk1
          have hk2a := (fa.cell (p := ⟨bk, offk + j * 2 + 1, none⟩) hbk (fun h => h)).trans hk2
          have hgl := lt_of_block hgr
          simp only at hk1a hk2a
          obtain ⟨W6, hW6, f6, z0, z1⟩ : ∃ W6, wr.alloc (.cells #[.int .i64 N', .int .i64 b'] 71) = W6 ∧ Fresh wr W6 ∧ W6.cell? ⟨wr.heap.size, 0, none⟩ = some (.int .i64 N') ∧ W6.cell? ⟨wr.heap.size, 1, none⟩ = some (.int .i64 b') := by
            have hb2 := heap_at_alloc (w := wr) (c := #[.int .i64 N', .int .i64 b']) (e := 71) rfl
            refine ⟨_, rfl, (Keeps.refl _ wr).alloc _, ?_, ?_⟩
            · rw [cell_at hb2]; rfl
            · rw [cell_at hb2]; rfl
          have r1 := (f6.cell (p := ⟨g, j * 2, none⟩) hgl (fun h => h)).trans q1
          have r2 := (f6.cell (p := ⟨g, j * 2 + 1, none⟩) hgl (fun h => h)).trans q2
          simp only at r1 r2
          clear hx q1 q2 hk1 hk2 hkc5 hgr fa hbox hgl
          go_wp2_with fail
          (try rw [hW6])
          clear hk1a hk2a hW6
          go_quiet (fail)
          go_wp2_with fail
          go_roundw
          case rel => exact ⟨j + 1, by go_num, by omega, (fr.trans f6).drewN _⟩
          case measure => simp [intOf]; omega
        · obtain ⟨q1, q2⟩ := ksC_cell hgr (k := j) (x := (0, 0)) (by rw [List.getElem?_append_right (by omega), List.getElem?_replicate, if_pos (by omega)])
          have hgl := lt_of_block hgr
          have q1a := (fa.cell (p := ⟨g, j * 2, none⟩) hgl (fun h => h)).trans q1
          have q2a := (fa.cell (p := ⟨g, j * 2 + 1, none⟩) hgl (fun h => h)).trans q2
          simp only at q1a q2a
          have z0 : (wr.alloc (.cells #[.int .i64 0, .int .i64 0] 71)).cell? ⟨wr.heap.size, 0, none⟩ = some (.int .i64 0) := by rw [cell_at hbox 0]; rfl
          have z1 : (wr.alloc (.cells #[.int .i64 0, .int .i64 0] 71)).cell? ⟨wr.heap.size, 1, none⟩ = some (.int .i64 0) := by rw [cell_at hbox 1]; rfl
          have hjn : ¬ (j : Int) < (ks.length : Int) := by omega
          clear q1 q2 hgr hbox hgl
          go_wp2_with fail
          obtain ⟨W6, hW6⟩ : ∃ W6, wr.alloc (.cells #[.int .i64 0, .int .i64 0] 71) = W6 := ⟨_, rfl⟩
          rw [hW6] at fa q1a q2a z0 z1 ⊢
          clear hW6
          go_quiet (fail)
          go_wp2_with fail
          go_roundw
          case rel => exact ⟨j + 1, by go_num, by omega, (fr.trans fa).drewN _⟩
          case measure => simp [intOf]; omega
      · obtain rfl : j = ks.length + 8 := by omega
        have hD := hid (H5.out.1.fresh fr)
        have hK := hid (H5.out.2.trans (fr.mono fun _ _ h => h.elim))
        have hjI : ¬ (((ks.length + 8 : Nat) : Int) < (ks.length : Int) + 8) := by omega
        go_wp2_with fail
        go_ret
        exact ⟨by simp, ⟨_, hD.out⟩, hK.out⟩
end Go.Proofs.Ytbhienlalpbflaa
