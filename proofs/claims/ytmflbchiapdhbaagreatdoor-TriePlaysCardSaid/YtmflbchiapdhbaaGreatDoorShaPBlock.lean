/-
  The program's block: a state behind 64 bytes.
-/
import Derived.Test.YtmflbchiapdhbaaGreatDoorMShaB
import Derived.StillTailTactics
namespace Go.Proofs.YtmflbchiapdhbaaGreatDoor
open Go.RowKit

theorem turned_still (x n : Nat) (hx : x < 4294967296) (hn : 1 ≤ n) (hn2 : n < 32) (w : World) :
    Calls Tryz.prog 73 #[.int .u32 (x : Int), .int .i64 (n : Int)] w fun e w' => e = .returned (.int .u32 (rot x n : Int)) ∧ w' = w :=
  (turned_any x n w hx hn hn2).mono fun _ _ h => ⟨h.1, h.2.symm⟩
set_option maxRecDepth 100000 in
set_option maxHeartbeats 4000000 in
theorem pblock_any (v : Eight) (hv : v.ok) (b : List UInt8) (hb : b.length = 64) (n : Int) (g : Nat) (w : World) (hT : TabLaid w) (_hgn : 3 ≤ g) (hg : w.heap[g]? = some (.cells (hcells v b n) 112 (0, 0))) :
    Calls Tryz.prog 59 #[.pointer (some ⟨g, 0, none⟩), .pointer (some ⟨g, 8, none⟩)] w fun e w' => e = .returned (.tuple #[]) ∧ Keeps (fun k => k = g) w w' ∧ w'.heap[g]? = some (.cells (hcells (shaBlock v b) b n) 112 (0, 0)) := by
  have hglt := lt_of_block hg
  go_enter Tryz.func59, Tryz.ntmps59
  go_wp2_with fail
  go_loopw [15] (fun i wr => ∃ (t : Nat) (ws : List Nat), i = .int .i64 (t : Int) ∧ t ≤ 64 ∧ ws.length = 64 ∧ (∀ j, j < t → ws.getD j 0 = word b j) ∧ wr.heap[w.heap.size]? = some (.cells (words .u32 ws) 135 (0, 0)) ∧
    wr.heap[g]? = some (.cells (hcells v b n) 112 (0, 0)) ∧ Fresh w wr) (fun i _ => 64 - (intOf i).toNat)
  case atStart =>
    have k1 : Fresh w (w.alloc (.cells (words .u32 (List.replicate 64 0)) 135)) := (Keeps.refl _ _).alloc _
    exact ⟨0, List.replicate 64 0, rfl, by omega, by simp, fun j hj => by omega, heap_alloc_new w _, k1.at_ hg (fun h => h), k1⟩
  case round =>
    obtain ⟨t, ws, rfl, ht, hwl, HWS, hwb, hgb, hf⟩ := hrel
    by_cases h64 : t < 64
    · have hcw := words_cell hwb (j := t) (by omega)
      have hfw := free_at hwb t
      by_cases h16 : t < 16
      · have y0 : (4 * (t : Int)).toNat = 4 * t := by omega
        have y1 : (4 * (t : Int) + 1).toNat = 4 * t + 1 := by omega
        have y2 : (4 * (t : Int) + 2).toNat = 4 * t + 2 := by omega
        have y3 : (4 * (t : Int) + 3).toNat = 4 * t + 3 := by omega
        have x0 : 4 * (t : Int) < 64 := by omega
        have x1 : 4 * (t : Int) + 1 < 64 := by omega
        have x2 : 4 * (t : Int) + 2 < 64 := by omega
        have x3 : 4 * (t : Int) + 3 < 64 := by omega
        have b0 : wr.drew.cell? ⟨g, 8 + 4 * t, none⟩ = some (.int .u8 ((byteAt b (4 * t)).toNat : Int)) := by show wr.cell? _ = _; rw [cell_at hgb, hcells_rest (by omega)]; rfl
        have b1 : wr.drew.cell? ⟨g, 8 + (4 * t + 1), none⟩ = some (.int .u8 ((byteAt b (4 * t + 1)).toNat : Int)) := by show wr.cell? _ = _; rw [cell_at hgb, hcells_rest (by omega)]; rfl
        have b2 : wr.drew.cell? ⟨g, 8 + (4 * t + 2), none⟩ = some (.int .u8 ((byteAt b (4 * t + 2)).toNat : Int)) := by show wr.cell? _ = _; rw [cell_at hgb, hcells_rest (by omega)]; rfl
        have b3 : wr.drew.cell? ⟨g, 8 + (4 * t + 3), none⟩ = some (.int .u8 ((byteAt b (4 * t + 3)).toNat : Int)) := by show wr.cell? _ = _; rw [cell_at hgb, hcells_rest (by omega)]; rfl
        have hcwd : wr.drew.cell? ⟨w.heap.size, t, none⟩ = some (.int .u32 (ws.getD t 0 : Int)) := hcw
        have hfwd : wr.drew.frozen? ⟨w.heap.size, t, none⟩ = false := hfw
        go_wp2_with fail
        have e : (byteAt b (4 * t)).toNat * 16777216 + (byteAt b (4 * t + 1)).toNat * 65536 + (byteAt b (4 * t + 2)).toNat * 256 + (byteAt b (4 * t + 3)).toNat = word b t := by rw [word_first h16]; rfl
        have E := ube_expr (byteAt b (4 * t)) (byteAt b (4 * t + 1)) (byteAt b (4 * t + 2)) (byteAt b (4 * t + 3))
        rw [e] at E
        have HE := hid E
        clear e E
        go_region
        rw [HE.out]
        all_goals
          go_wp2
          go_roundw
          case rel =>
            refine ⟨t + 1, ws.set t (word b t), by go_num, by omega, by simpa using hwl, set_lt (by omega) HWS, ?_, ?_, ?_⟩
            · rw [← words_set]; exact heap_setCell_at hwb t _
            · exact (heap_setCell_ne wr ⟨w.heap.size, t, none⟩ _ _ (by simp only; omega)).trans hgb
            · exact (hf.setCell (p := ⟨w.heap.size, t, none⟩) (fun h => by simp only at h; omega) _).drew
          case measure => simp [intOf]; omega
      · have z2 : ((t : Int) - 2).toNat = t - 2 := by omega
        have z7 : ((t : Int) - 7).toNat = t - 7 := by omega
        have z15 : ((t : Int) - 15).toNat = t - 15 := by omega
        have z16 : ((t : Int) - 16).toNat = t - 16 := by omega
        obtain ⟨x, hx⟩ : ∃ x, x = word b (t - 2) := ⟨_, rfl⟩
        obtain ⟨y, hy⟩ : ∃ y, y = word b (t - 15) := ⟨_, rfl⟩
        obtain ⟨p, hp⟩ : ∃ p, p = word b (t - 7) := ⟨_, rfl⟩
        obtain ⟨q, hq⟩ : ∃ q, q = word b (t - 16) := ⟨_, rfl⟩
        have hx32 : x < 4294967296 := by rw [hx]; exact word_lt _ _
        have hy32 : y < 4294967296 := by rw [hy]; exact word_lt _ _
        have hp32 : p < 4294967296 := by rw [hp]; exact word_lt _ _
        have hq32 : q < 4294967296 := by rw [hq]; exact word_lt _ _
        have c2 : wr.cell? ⟨w.heap.size, t - 2, none⟩ = some (.int .u32 (x : Int)) := by rw [words_cell hwb (by omega), HWS _ (by omega), ← hx]
        have c15 : wr.cell? ⟨w.heap.size, t - 15, none⟩ = some (.int .u32 (y : Int)) := by rw [words_cell hwb (by omega), HWS _ (by omega), ← hy]
        have c7 : wr.cell? ⟨w.heap.size, t - 7, none⟩ = some (.int .u32 (p : Int)) := by rw [words_cell hwb (by omega), HWS _ (by omega), ← hp]
        have c16 : wr.cell? ⟨w.heap.size, t - 16, none⟩ = some (.int .u32 (q : Int)) := by rw [words_cell hwb (by omega), HWS _ (by omega), ← hq]
        have b2 : (t : Int) - 2 < 64 := by omega
        have b7 : (t : Int) - 7 < 64 := by omega
        have b15 : (t : Int) - 15 < 64 := by omega
        have b16 : (t : Int) - 16 < 64 := by omega
        have a2 : 0 ≤ (t : Int) - 2 := by omega
        have a7 : 0 ≤ (t : Int) - 7 := by omega
        have a15 : 0 ≤ (t : Int) - 15 := by omega
        have a16 : 0 ≤ (t : Int) - 16 := by omega
        have hgoal : Hid ((small1 x + p + small0 y + q) % 4294967296 = word b t) := by rw [Hid, word_next (t := t) (by omega), hx, hy, hp, hq]
        clear hx hy hp hq
        go_wp2_with fail
        go_quiet (fail)
        generalize hw5 : wr.drewN _ = w5
        have hH : w5.heap = wr.heap := by rw [← hw5]; rfl
        have tr : ∀ j v, wr.cell? ⟨w.heap.size, j, none⟩ = some v → w5.drew.cell? ⟨w.heap.size, j, none⟩ = some v := fun j v h => (World.cell?_of_block (w := wr) (w' := w5.drew) (by show w5.heap[_]? = _; rw [hH])).trans h
        have d7 := tr _ _ c7
        have d16 := tr _ _ c16
        have dt := tr _ _ hcw
        have dfz : w5.drew.frozen? ⟨w.heap.size, t, none⟩ = false := (World.frozen?_of_block (w := wr) (w' := w5.drew) (by show w5.heap[_]? = _; rw [hH])).trans hfw
        have hwb4 : w5.drew.heap[w.heap.size]? = some (.cells (words .u32 ws) 135 (0, 0)) := by show w5.heap[_]? = _; rw [hH]; exact hwb
        have hgb4 : w5.drew.heap[g]? = some (.cells (hcells v b n) 112 (0, 0)) := by show w5.heap[_]? = _; rw [hH]; exact hgb
        have hf4 : Fresh w w5.drew := by rw [← hw5]; exact (hf.drewN _).drew
        have H1 := usmall1_expr hx32
        have H0 := usmall0_expr hy32
        have hs1 := small1_lt hx32
        have hs0 := small0_lt hy32
        have v7 : IntKind.i64.wrap ((t : Int) - 7) = (t : Int) - 7 := by rw [IntKind.wrap_i64]; omega
        have v16 : IntKind.i64.wrap ((t : Int) - 16) = (t : Int) - 16 := by rw [IntKind.wrap_i64]; omega
        generalize small1 x = s1 at *
        generalize small0 y = s0 at *
        clear tr c2 c15 c7 c16 hH hcw hfw hwb hgb hf hw5
        go_wp2_with fail
        have l7 : (7 : Int) ≤ (t : Int) := by omega
        have l16 : (16 : Int) ≤ (t : Int) := by omega
        have d7' : ({ w5 with drawn := w5.drawn + 1 } : World).cell? ⟨w.heap.size, t - 7, none⟩ = some (.int .u32 (p : Int)) := d7
        have d16' : ({ w5 with drawn := w5.drawn + 1 } : World).cell? ⟨w.heap.size, t - 16, none⟩ = some (.int .u32 (q : Int)) := d16
        go_still_tail 29, (by kernel_rfl)
        still_call (turned_still x 17 hx32 (by decide) (by decide) _)
        repeat still_step
        still_call (turned_still x 19 hx32 (by decide) (by decide) _)
        repeat still_step
        still_call (turned_still y 7 hy32 (by decide) (by decide) _)
        repeat still_step
        still_call (turned_still y 18 hy32 (by decide) (by decide) _)
        repeat still_step
        try refine wpStill_nil ?_
        change wpList _ _ _ _ _ w5.drew
        generalize w5.drew = w6 at *
        go_wp2
        go_roundw
        case rel =>
          have E : ((s1 : Int) + (p : Int) + (s0 : Int) + (q : Int)) % 4294967296 = ((word b t : Nat) : Int) := by rw [← hgoal.out]; omega
          rw [E]
          refine ⟨t + 1, ws.set t (word b t), by go_num, by omega, by simpa using hwl, set_lt (by omega) HWS, ?_, ?_, ?_⟩
          · rw [← words_set]; exact heap_setCell_at hwb4 t _
          · exact (heap_setCell_ne w6 ⟨w.heap.size, t, none⟩ _ _ (by simp only; omega)).trans hgb4
          · exact (hf4.setCell (p := ⟨w.heap.size, t, none⟩) (fun h => by simp only at h; omega) _)
        case measure => simp [intOf]; omega
    · have ht64 : t = 64 := by omega
      rw [ht64] at HWS
      generalize t = t0 at *
      obtain ⟨va, vb, vc, vd, ve, vf, vg, vh⟩ := v
      have h0 := cell_at hgb 0
      have h1 := cell_at hgb 1
      have h2 := cell_at hgb 2
      have h3 := cell_at hgb 3
      have h4 := cell_at hgb 4
      have h5 := cell_at hgb 5
      have h6 := cell_at hgb 6
      have h7 := cell_at hgb 7
      rw [hcells_state (by decide)] at h0 h1 h2 h3 h4 h5 h6 h7
      simp only [Eight.list, List.getD_cons_zero, List.getD_cons_succ] at h0 h1 h2 h3 h4 h5 h6 h7
      have hTr := hT.keeps hf (fun h => h)
      have hglt1 := lt_of_block hgb
      have hwlt1 := lt_of_block hwb
      have hg0 := World.block_lt_of_cell? w _ (hT 0 (by decide))
      simp only at hg0
      clear ht hg ht64
      go_wp2
      clear h64
      generalize hzv : wr.heap.size = zv
      have k1 : Fresh wr (wr.alloc (.cells #[.int .u32 va, .int .u32 vb, .int .u32 vc, .int .u32 vd, .int .u32 ve, .int .u32 vf, .int .u32 vg, .int .u32 vh] 109)) := (Keeps.refl _ _).alloc _
      go_loopw [100] (fun i w9 => ∃ (t : Nat), i = .int .i64 (t : Int) ∧ t ≤ 64 ∧ w9.heap[w.heap.size]? = some (.cells (words .u32 ws) 135 (0, 0)) ∧
        w9.heap[g]? = some (.cells (hcells ⟨va, vb, vc, vd, ve, vf, vg, vh⟩ b n) 112 (0, 0)) ∧
        w9.heap[zv]? = some (.cells (words .u32 (roundsOf b ⟨va, vb, vc, vd, ve, vf, vg, vh⟩ t).list) 109 (0, 0)) ∧ Fresh w w9) (fun i _ => 64 - (intOf i).toNat)
      case atStart => exact ⟨0, rfl, by omega, k1.at_ hwb (fun h => h), k1.at_ hgb (fun h => h), by rw [← hzv]; exact heap_alloc_new wr _, hf.trans k1⟩
      case round =>
        rw [hzv] at hglt1 hwlt1
        clear h0 h1 h2 h3 h4 h5 h6 h7 k1 hwb hgb hTr hzv hf
        obtain ⟨t, rfl, ht, hwb, hgb, hvb, hf⟩ := hrel
        have huok := roundsOf_ok (b := b) hv t
        by_cases h64 : t < 64
        · have hnext : Hid (roundsOf b ⟨va, vb, vc, vd, ve, vf, vg, vh⟩ (t + 1) = (roundsOf b ⟨va, vb, vc, vd, ve, vf, vg, vh⟩ t).next (kAt t) (word b t)) := rfl
          generalize hu : roundsOf b ⟨va, vb, vc, vd, ve, vf, vg, vh⟩ t = u at hvb huok hnext
          obtain ⟨ua, ub, uc, ud, ue, uf, ug, uh⟩ := u
          obtain ⟨b1, b2, b3, b4, b5, b6, b7, b8⟩ := huok
          simp only at b1 b2 b3 b4 b5 b6 b7 b8
          clear hu
          have hvb' : wr.heap[zv]? = some (.cells #[.int .u32 ua, .int .u32 ub, .int .u32 uc, .int .u32 ud, .int .u32 ue, .int .u32 uf, .int .u32 ug, .int .u32 uh] 109 (0, 0)) := hvb
          have c0 := cell_at hvb' 0
          have c1 := cell_at hvb' 1
          have c2 := cell_at hvb' 2
          have c3 := cell_at hvb' 3
          have c4 := cell_at hvb' 4
          have c5 := cell_at hvb' 5
          have c6 := cell_at hvb' 6
          have c7 := cell_at hvb' 7
          simp at c0 c1 c2 c3 c4 c5 c6 c7
          obtain ⟨k, hk⟩ : ∃ k, k = kAt t := ⟨_, rfl⟩
          obtain ⟨x, hx⟩ : ∃ x, x = word b t := ⟨_, rfl⟩
          have hk32 : k < 4294967296 := by rw [hk]; exact kAt_lt t
          have hx32 : x < 4294967296 := by rw [hx]; exact word_lt _ _
          have ck : wr.cell? ⟨1, t, none⟩ = some (.int .u32 (k : Int)) := by rw [(hT.keeps hf (fun h => h)) t h64, hk]
          have cx : wr.cell? ⟨w.heap.size, t, none⟩ = some (.int .u32 (x : Int)) := by rw [words_cell hwb (by omega), HWS t h64, hx]
          have hB1 := big1_lt ue
          have hB0 := big0_lt ua
          have hCH := choose_lt (f := uf) (g := ug) b5
          have hM := most_lt (b := ub) (c := uc) b1 b2
          have H1 := ubig1_expr ue
          have H4 := ubig0_expr ua
          have H5 := umost_expr b1 b2 b3
          have hnew : Hid ((⟨ua, ub, uc, ud, ue, uf, ug, uh⟩ : Eight).next k x = ⟨((uh + big1 ue + choose ue uf ug + k + x) % 4294967296 + (big0 ua + most ua ub uc) % 4294967296) % 4294967296, ua, ub, uc, (ud + (uh + big1 ue + choose ue uf ug + k + x) % 4294967296) % 4294967296, ue, uf, ug⟩) := rfl
          rw [← hk, ← hx] at hnext
          generalize big1 ue = B1 at *
          generalize big0 ua = B0 at *
          generalize most ua ub uc = M at *
          clear hk hx
          go_wp2_with fail
          go_quiet (fail)
          go_wp2_with fail
          generalize hw5 : wr.drewN _ = w5
          have hH5 : w5.heap = wr.heap := by rw [← hw5]; rfl
          have hf5 : Fresh w w5.drew := by rw [← hw5]; exact (hf.drewN _).drew
          have tr5 : ∀ (p : Addr) v, wr.cell? p = some v → w5.drew.cell? p = some v := fun p v h => (World.cell?_of_block (w := wr) (w' := w5.drew) (by show w5.heap[_]? = _; rw [hH5])).trans h
          have e0 := tr5 _ _ c0
          have e1 := tr5 _ _ c1
          have e2 := tr5 _ _ c2
          have e3 := tr5 _ _ c3
          have e4 := tr5 _ _ c4
          have e5 := tr5 _ _ c5
          have e6 := tr5 _ _ c6
          have e7 := tr5 _ _ c7
          have ek := tr5 _ _ ck
          have ex := tr5 _ _ cx
          have hvb5 : w5.drew.heap[zv]? = some (.cells #[.int .u32 ua, .int .u32 ub, .int .u32 uc, .int .u32 ud, .int .u32 ue, .int .u32 uf, .int .u32 ug, .int .u32 uh] 109 (0, 0)) := by show w5.heap[_]? = _; rw [hH5]; exact hvb'
          have hwb5 : w5.drew.heap[w.heap.size]? = some (.cells (words .u32 ws) 135 (0, 0)) := by show w5.heap[_]? = _; rw [hH5]; exact hwb
          have hgb5 : w5.drew.heap[g]? = some (.cells (hcells ⟨va, vb, vc, vd, ve, vf, vg, vh⟩ b n) 112 (0, 0)) := by show w5.heap[_]? = _; rw [hH5]; exact hgb
          clear tr5 hH5 hw5 c0 c1 c2 c3 c4 c5 c6 c7 ck cx hvb hvb' hwb hgb hf
          refine wp_region_still_lit (by kernel_rfl) (by kernel_rfl) ?_
          repeat still_step
          still_call (turned_still ue 6 b5 (by decide) (by decide) _)
          repeat still_step
          still_call (turned_still ue 11 b5 (by decide) (by decide) _)
          repeat still_step
          still_call (turned_still ue 25 b5 (by decide) (by decide) _)
          repeat still_step
          try refine wpStill_nil ?_
          rw [ux_expr b5 b6 b7]
          obtain ⟨X, hX⟩ : ∃ X, X = (uh + B1 + choose ue uf ug + k + x) % 4294967296 := ⟨_, rfl⟩
          obtain ⟨Y, hY⟩ : ∃ Y, Y = (B0 + M) % 4294967296 := ⟨_, rfl⟩
          have hY2 : IntKind.u32.wrap ((B0 : Int) + (M : Int)) = (Y : Int) := by rw [uy_expr, hY]
          obtain ⟨NA, hNA⟩ : ∃ NA, NA = (X + Y) % 4294967296 := ⟨_, rfl⟩
          obtain ⟨NE, hNE⟩ : ∃ NE, NE = (ud + X) % 4294967296 := ⟨_, rfl⟩
          rw [Hid, ← hX, ← hY, ← hNA, ← hNE] at hnew
          have HNEW := hid hnew
          have hA2 : ((X : Int) + (Y : Int)) % 4294967296 = (NA : Int) := by omega
          have hE2 : ((ud : Int) + (X : Int)) % 4294967296 = (NE : Int) := by omega
          have hX32 : X < 4294967296 := by omega
          have hY32 : Y < 4294967296 := by omega
          rw [← hX]
          change Exit.then _ _ _ _ w5.drew
          generalize w5.drew = w6 at *
          have f0 : w6.drew.cell? ⟨zv, 0, none⟩ = _ := e0
          have f1 : w6.drew.cell? ⟨zv, 1, none⟩ = _ := e1
          have f2 : w6.drew.cell? ⟨zv, 2, none⟩ = _ := e2
          have f3 : w6.drew.cell? ⟨zv, 3, none⟩ = _ := e3
          have f5 : w6.drew.cell? ⟨zv, 5, none⟩ = _ := e5
          have f6 : w6.drew.cell? ⟨zv, 6, none⟩ = _ := e6
          clear hX hY hNA hNE hnew H1 ek ex hB1 hCH
          go_wp2_with fail
          refine wp_region_still_lit (by kernel_rfl) (by kernel_rfl) ?_
          repeat still_step
          still_call (turned_still ua 2 b1 (by decide) (by decide) _)
          repeat still_step
          still_call (turned_still ua 13 b1 (by decide) (by decide) _)
          repeat still_step
          still_call (turned_still ua 22 b1 (by decide) (by decide) _)
          repeat still_step
          try refine wpStill_nil ?_

          change Exit.then _ _ _ _ w6.drew
          have hvb6 : w6.drew.heap[zv]? = _ := hvb5
          have hwb6 : w6.drew.heap[w.heap.size]? = _ := hwb5
          have hgb6 : w6.drew.heap[g]? = _ := hgb5
          have hf6 := hf5.drew
          generalize w6.drew = w7 at *
          clear e0 e1 e2 e3 e4 e5 e6 e7 hvb5 hwb5 hgb5 hf5
          go_upto_region 16 with (fail)

          go_wp2_with (first | (refine wpList_store_row rfl 109 (.tmp 8) (.tmp 178) rfl zv _ rfl rfl 109 _ hvb6 (by rw [Tryz.sizeState]; rfl) (by rfl) (ints8_one _ _ _ _ _ _ _ _ _) ?_))
          go_roundw
          case rel =>
            refine ⟨t + 1, by go_num, by omega, (setRow_other _ _ _ _ (by omega)).trans hwb6, (setRow_other _ _ _ _ (by omega)).trans hgb6, ?_, ?_⟩
            · rw [hnext.out, HNEW.out]
              exact setRow_heap _ _ _ _ _ _ hvb6
            · exact hf6.trans' (setRow_keeps _) fun i hi h => by omega
          case measure => simp [intOf]; omega
        · have ht64 : t = 64 := by omega
          rw [ht64] at hvb huok
          have hfin : Hid (shaBlock ⟨va, vb, vc, vd, ve, vf, vg, vh⟩ b = Eight.add ⟨va, vb, vc, vd, ve, vf, vg, vh⟩ (roundsOf b ⟨va, vb, vc, vd, ve, vf, vg, vh⟩ 64)) := rfl
          generalize roundsOf b ⟨va, vb, vc, vd, ve, vf, vg, vh⟩ 64 = u at hvb huok hfin
          have hv8 : (Eight.list ⟨va, vb, vc, vd, ve, vf, vg, vh⟩).length = 8 := rfl
          have hu8 : u.list.length = 8 := rfl
          have hvlt := eight_lt hv
          have hult := eight_lt huok
          have hgb' : wr.heap[g]? = some (.cells (hcellsL (mixed (Eight.list ⟨va, vb, vc, vd, ve, vf, vg, vh⟩) u.list 0) b n) 112 (0, 0)) := hgb
          have hadd := mixed_all ⟨va, vb, vc, vd, ve, vf, vg, vh⟩ u
          rw [← hfin.out] at hadd
          have HADD := hid hadd
          have hcl : Hid (hcells (shaBlock ⟨va, vb, vc, vd, ve, vf, vg, vh⟩ b) b n = hcellsL (shaBlock ⟨va, vb, vc, vd, ve, vf, vg, vh⟩ b).list b n) := rfl
          have hkf : Keeps (fun k => k = g) w wr := hf.mono fun _ _ h => h.elim
          clear ht hgb hadd hfin hwb HWS hf ht64
          generalize Eight.list ⟨va, vb, vc, vd, ve, vf, vg, vh⟩ = L0 at hv8 hvlt hgb' HADD
          generalize hLU : u.list = LU at hu8 hult hgb' HADD hvb
          clear hLU
          go_wp2
          clear h64
          go_loopw [180] (fun i w9 => ∃ (t : Nat), i = .int .i64 (t : Int) ∧ t ≤ 8 ∧ w9.heap[g]? = some (.cells (hcellsL (mixed L0 LU t) b n) 112 (0, 0)) ∧
            w9.heap[zv]? = some (.cells (words .u32 LU) 109 (0, 0)) ∧ Keeps (fun k => k = g) w w9) (fun i _ => 8 - (intOf i).toNat)
          case atStart => exact ⟨0, rfl, by omega, hgb', hvb, hkf⟩
          case round =>
            clear hgb' hvb hkf
            obtain ⟨t, rfl, ht, hgb, hvb, hkf⟩ := hrel
            by_cases h8 : t < 8
            · obtain ⟨p, hp⟩ : ∃ p, p = L0.getD t 0 := ⟨_, rfl⟩
              obtain ⟨q, hq⟩ : ∃ q, q = LU.getD t 0 := ⟨_, rfl⟩
              have hp32 : p < 4294967296 := by rw [hp]; exact hvlt t
              have hq32 : q < 4294967296 := by rw [hq]; exact hult t
              have cp : wr.drew.cell? ⟨g, t, none⟩ = some (.int .u32 (p : Int)) := by
                show wr.cell? _ = _
                rw [cell_at hgb, hcellsL_at (by rw [mixed_len]; omega), mixed_at h8, ← hp]
              have cq : wr.drew.cell? ⟨zv, t, none⟩ = some (.int .u32 (q : Int)) := by
                have := words_cell hvb (j := t) (by omega)
                rw [← hq] at this
                exact this
              have fp : wr.drew.frozen? ⟨g, t, none⟩ = false := free_at hgb t
              have hgbd : wr.drew.heap[g]? = some (.cells (hcellsL (mixed L0 LU t) b n) 112 (0, 0)) := hgb
              have hvbd : wr.drew.heap[zv]? = some (.cells (words .u32 LU) 109 (0, 0)) := hvb
              have hkd : Keeps (fun k => k = g) w wr.drew := hkf.drew
              have hst : Hid ((mixed L0 LU t).set t ((p + q) % 4294967296) = mixed L0 LU (t + 1)) := by rw [Hid, hp, hq]; exact mixed_set h8 hv8
              obtain ⟨z, hz⟩ : ∃ z, z = (p + q) % 4294967296 := ⟨_, rfl⟩
              rw [← hz] at hst
              have E : ((p : Int) + (q : Int)) % 4294967296 = (z : Int) := by omega
              clear hp hq hz hgb hvb hkf
              go_wp2_with fail
              go_region
              all_goals
                go_wp2
                go_roundw
                case rel =>
                  refine ⟨t + 1, by go_num, by omega, ?_, ?_, ?_⟩
                  · rw [← hst.out, ← hcellsL_set (by rw [mixed_len]; exact h8)]; exact heap_setCell_at hgbd t _
                  · exact (heap_setCell_ne wr.drew ⟨g, t, none⟩ _ _ (by simp only; omega)).trans hvbd
                  · exact Keeps.setCell (S := fun k => k = g) hkd (p := ⟨g, t, none⟩) (fun _ => rfl) _
                case measure => simp [intOf]; omega
            · have h8' : t = 8 := by omega
              rw [h8', HADD.out] at hgb
              go_wp2
              go_end0
              exact ⟨rfl, hkf, by rw [hcl.out]; exact hgb⟩
end Go.Proofs.YtmflbchiapdhbaaGreatDoor
