/-
  The document's block: a state behind 64 bytes.
-/
import Derived.Test.YtmflbchiapdhbaaGreatDoorMShaA
import Derived.BigRegion
namespace Go.Proofs.YtmflbchiapdhbaaGreatDoor
open Go.RowKit

theorem set_lt {ws : List Nat} {f : Nat → Nat} {t : Nat} (ht : t < ws.length) (h : ∀ j, j < t → ws.getD j 0 = f j) : ∀ j, j < t + 1 → (ws.set t (f t)).getD j 0 = f j := by
  intro j hj
  by_cases e : j = t
  · subst e; simp [List.getD, ht]
  · rw [← h j (by omega), List.getD, List.getD, List.getElem?_set_ne (by omega)]

set_option maxRecDepth 100000 in
set_option maxHeartbeats 4000000 in
theorem block_any (v : Eight) (hv : v.ok) (b : List UInt8) (hb : b.length = 64) (w : World) :
    Calls Tryz.prog 62 #[.agg (words .i64 v.list), .string (str b)] w fun e w' => e = .returned (.agg (words .i64 (shaBlock v b).list)) ∧ Fresh w w' := by
  have hsz := str_size b
  rw [hb] at hsz
  obtain ⟨va, vb, vc, vd, ve, vf, vg, vh⟩ := v
  have HW : Hid (words .i64 (Eight.list ⟨va, vb, vc, vd, ve, vf, vg, vh⟩) = #[.int .i64 va, .int .i64 vb, .int .i64 vc, .int .i64 vd, .int .i64 ve, .int .i64 vf, .int .i64 vg, .int .i64 vh]) := rfl
  rw [HW.out]
  go_enter Tryz.func62, Tryz.ntmps62
  go_upto_region 2 with (fail)
  go_wp2_with fail
  go_loopw [6] (fun i wr => ∃ (t : Nat) (ws : List Nat), i = .int .i64 (t : Int) ∧ t ≤ 64 ∧ ws.length = 64 ∧ (∀ j, j < t → ws.getD j 0 = word b j) ∧ wr.heap[w.heap.size + 1 + 1]? = some (.cells (words .i64 ws) 137 (0, 0)) ∧
    wr.heap[w.heap.size]? = some (.cells #[.int .i64 va, .int .i64 vb, .int .i64 vc, .int .i64 vd, .int .i64 ve, .int .i64 vf, .int .i64 vg, .int .i64 vh] 115 (0, 0)) ∧
    wr.heap[w.heap.size + 1]? = some (.cells (words .i64 (List.replicate 8 0)) 115 (0, 0)) ∧ Fresh w wr) (fun i _ => 64 - (intOf i).toNat)
  case atStart =>
    refine ⟨0, List.replicate 64 0, rfl, by omega, by simp, fun j hj => by omega, ?_, ?_, ?_, ((Keeps.refl _ _).alloc _).alloc _ |>.alloc _⟩
    · have := heap_alloc_new ((w.alloc (.cells #[.int .i64 va, .int .i64 vb, .int .i64 vc, .int .i64 vd, .int .i64 ve, .int .i64 vf, .int .i64 vg, .int .i64 vh] 115)).alloc (.cells (words .i64 (List.replicate 8 0)) 115)) (.cells (words .i64 (List.replicate 64 0)) 137)
      simp only [World.size_alloc] at this
      exact this
    · rw [Below.heap_alloc _ _ _ (by simp; omega), Below.heap_alloc _ _ _ (by simp)]
      exact heap_alloc_new w _
    · rw [Below.heap_alloc _ _ _ (by simp)]
      have := heap_alloc_new (w.alloc (.cells #[.int .i64 va, .int .i64 vb, .int .i64 vc, .int .i64 vd, .int .i64 ve, .int .i64 vf, .int .i64 vg, .int .i64 vh] 115)) (.cells (words .i64 (List.replicate 8 0)) 115)
      simp only [World.size_alloc] at this
      exact this
  case round =>
    obtain ⟨t, ws, rfl, ht, hwl, HWS, hwb, hhb, hrb, hf⟩ := hrel
    by_cases h64 : t < 64
    · have hcw := words_cell hwb (j := t) (by omega)
      have hfw := free_at hwb t
      by_cases h16 : t < 16
      · have i0 := byte_idx (b := b) (j := 4 * t)
        have i1 := byte_idx (b := b) (j := 4 * t + 1)
        have i2 := byte_idx (b := b) (j := 4 * t + 2)
        have i3 := byte_idx (b := b) (j := 4 * t + 3)
        have x0 : 4 * (t : Int) < 64 := by omega
        have x1 : 4 * (t : Int) + 1 < 64 := by omega
        have x2 : 4 * (t : Int) + 2 < 64 := by omega
        have x3 : 4 * (t : Int) + 3 < 64 := by omega
        have y0 : (4 * (t : Int)).toNat = 4 * t := by omega
        have y1 : (4 * (t : Int) + 1).toNat = 4 * t + 1 := by omega
        have y2 : (4 * (t : Int) + 2).toNat = 4 * t + 2 := by omega
        have y3 : (4 * (t : Int) + 3).toNat = 4 * t + 3 := by omega
        have hcwd : wr.drew.cell? ⟨w.heap.size + 1 + 1, t, none⟩ = some (.int .i64 (ws.getD t 0 : Int)) := hcw
        have hfwd : wr.drew.frozen? ⟨w.heap.size + 1 + 1, t, none⟩ = false := hfw
        go_wp2_with fail
        have e : (byteAt b (4 * t)).toNat * 16777216 + (byteAt b (4 * t + 1)).toNat * 65536 + (byteAt b (4 * t + 2)).toNat * 256 + (byteAt b (4 * t + 3)).toNat = word b t := by rw [word_first h16]; rfl
        have E := be_expr (byteAt b (4 * t)) (byteAt b (4 * t + 1)) (byteAt b (4 * t + 2)) (byteAt b (4 * t + 3))
        rw [e] at E
        have HE := hid E
        clear e E
        go_region
        rw [HE.out]
        all_goals
          go_wp2
          go_roundw
          case rel =>
            refine ⟨t + 1, ws.set t (word b t), by go_num, by omega, by simpa using hwl, set_lt (by omega) HWS, ?_, ?_, ?_, ?_⟩
            · rw [← words_set]; exact heap_setCell_at hwb t _
            · exact (heap_setCell_ne wr ⟨w.heap.size + 1 + 1, t, none⟩ _ _ (by simp only; omega)).trans hhb
            · exact (heap_setCell_ne wr ⟨w.heap.size + 1 + 1, t, none⟩ _ _ (by simp only; omega)).trans hrb
            · exact (hf.setCell (p := ⟨w.heap.size + 1 + 1, t, none⟩) (fun h => by simp only at h; omega) _).drew
          case measure => simp [intOf]; omega
      · have z2 : ((t : Int) - 2).toNat = t - 2 := by omega
        have z7 : ((t : Int) - 7).toNat = t - 7 := by omega
        have z15 : ((t : Int) - 15).toNat = t - 15 := by omega
        have z16 : ((t : Int) - 16).toNat = t - 16 := by omega
        obtain ⟨x, hx⟩ : ∃ x, x = word b (t - 2) := ⟨_, rfl⟩
        obtain ⟨y, hy⟩ : ∃ y, y = word b (t - 15) := ⟨_, rfl⟩
        obtain ⟨p, hp⟩ : ∃ p, p = word b (t - 7) := ⟨_, rfl⟩
        obtain ⟨q, hq⟩ : ∃ q, q = word b (t - 16) := ⟨_, rfl⟩
        have hx32 : x < 4294967296 := by rw [hx]; exact word_lt _ _
        have hy32 : y < 4294967296 := by rw [hy]; exact word_lt _ _
        have hp32 : p < 4294967296 := by rw [hp]; exact word_lt _ _
        have hq32 : q < 4294967296 := by rw [hq]; exact word_lt _ _
        have c2 : wr.cell? ⟨w.heap.size + 1 + 1, t - 2, none⟩ = some (.int .i64 (x : Int)) := by rw [words_cell hwb (by omega), HWS _ (by omega), ← hx]
        have c15 : wr.cell? ⟨w.heap.size + 1 + 1, t - 15, none⟩ = some (.int .i64 (y : Int)) := by rw [words_cell hwb (by omega), HWS _ (by omega), ← hy]
        have c7 : wr.cell? ⟨w.heap.size + 1 + 1, t - 7, none⟩ = some (.int .i64 (p : Int)) := by rw [words_cell hwb (by omega), HWS _ (by omega), ← hp]
        have c16 : wr.cell? ⟨w.heap.size + 1 + 1, t - 16, none⟩ = some (.int .i64 (q : Int)) := by rw [words_cell hwb (by omega), HWS _ (by omega), ← hq]
        have b2 : (t : Int) - 2 < 64 := by omega
        have b7 : (t : Int) - 7 < 64 := by omega
        have b15 : (t : Int) - 15 < 64 := by omega
        have b16 : (t : Int) - 16 < 64 := by omega
        have a2 : 0 ≤ (t : Int) - 2 := by omega
        have a7 : 0 ≤ (t : Int) - 7 := by omega
        have a15 : 0 ≤ (t : Int) - 15 := by omega
        have a16 : 0 ≤ (t : Int) - 16 := by omega
        have hgoal : Hid ((small1 x + p + small0 y + q) % 4294967296 = word b t) := by rw [Hid, word_next (t := t) (by omega), hx, hy, hp, hq]
        clear hx hy hp hq
        go_wp2_with fail
        refine (ror_any x 17 _ hx32 (by decide) (by decide)).mono ?_
        rintro e w1 ⟨rfl, k1, hw1⟩
        have Q1 : Quiet wr w1 := ⟨k1, hw1⟩
        clear hw1
        go_wp2_with fail
        refine (ror_any x 19 _ hx32 (by decide) (by decide)).mono ?_
        rintro e w2 ⟨rfl, k2, hw2⟩
        have Q2 := Q1.trans ⟨k2, hw2⟩
        clear hw2 Q1
        go_wp2_with fail
        rw [small1_expr hx32]
        refine (ror_any y 7 _ hy32 (by decide) (by decide)).mono ?_
        rintro e w3 ⟨rfl, k3, hw3⟩
        have Q3 := Q2.trans ⟨k3, hw3⟩
        clear hw3 Q2
        go_wp2_with fail
        refine (ror_any y 18 _ hy32 (by decide) (by decide)).mono ?_
        rintro e w4 ⟨rfl, k4, hw4⟩
        have Q4 := Q3.trans ⟨k4, hw4⟩
        clear hw4 Q3 k1 k2 k3 k4
        have hH := Q4.heap
        have tr : ∀ j v, wr.cell? ⟨w.heap.size + 1 + 1, j, none⟩ = some v → w4.drew.cell? ⟨w.heap.size + 1 + 1, j, none⟩ = some v := fun j v h => (World.cell?_of_block (w := wr) (w' := w4.drew) (by show w4.heap[_]? = _; rw [hH])).trans h
        have d7 := tr _ _ c7
        have d16 := tr _ _ c16
        have dt := tr _ _ hcw
        have dfz : w4.drew.frozen? ⟨w.heap.size + 1 + 1, t, none⟩ = false := (World.frozen?_of_block (w := wr) (w' := w4.drew) (by show w4.heap[_]? = _; rw [hH])).trans hfw
        have hwb4 : w4.drew.heap[w.heap.size + 1 + 1]? = some (.cells (words .i64 ws) 137 (0, 0)) := by show w4.heap[_]? = _; rw [hH]; exact hwb
        have hhb4 : w4.drew.heap[w.heap.size]? = some (.cells #[.int .i64 va, .int .i64 vb, .int .i64 vc, .int .i64 vd, .int .i64 ve, .int .i64 vf, .int .i64 vg, .int .i64 vh] 115 (0, 0)) := by show w4.heap[_]? = _; rw [hH]; exact hhb
        have hrb4 : w4.drew.heap[w.heap.size + 1]? = some (.cells (words .i64 (List.replicate 8 0)) 115 (0, 0)) := by show w4.heap[_]? = _; rw [hH]; exact hrb
        have hf4 : Fresh w w4.drew := (hf.trans Q4.fresh).drew
        have hs1 := small1_lt hx32
        have hs0 := small0_lt hy32
        clear tr c2 c15 c7 c16 hH Q4 hcw hfw hwb hhb hrb hf
        go_wp2_with fail
        rw [small0_expr hy32]
        clear hx32 hy32
        generalize small1 x = s1 at hs1 hgoal ⊢
        generalize small0 y = s0 at hs0 hgoal ⊢
        have E := and_low (n := s1 + p + s0 + q) (by omega)
        rw [hgoal.out] at E
        simp only [Int.natCast_add] at E
        have HE := hid E
        clear E
        go_region
        rw [HE.out]
        all_goals
          go_wp2
          go_roundw
          case rel =>
            refine ⟨t + 1, ws.set t (word b t), by go_num, by omega, by simpa using hwl, set_lt (by omega) HWS, ?_, ?_, ?_, ?_⟩
            · rw [← words_set]; exact heap_setCell_at hwb4 t _
            · exact (heap_setCell_ne w4.drew ⟨w.heap.size + 1 + 1, t, none⟩ _ _ (by simp only; omega)).trans hhb4
            · exact (heap_setCell_ne w4.drew ⟨w.heap.size + 1 + 1, t, none⟩ _ _ (by simp only; omega)).trans hrb4
            · exact (hf4.setCell (p := ⟨w.heap.size + 1 + 1, t, none⟩) (fun h => by simp only at h; omega) _)
          case measure => simp [intOf]; omega
    · have ht64 : t = 64 := by omega
      subst ht64
      clear h64 ht
      go_wp2_with fail
      refine (rounds_any _).mono ?_
      rintro e w1 ⟨rfl, f1⟩
      have hwb1 := f1.at_ hwb (fun h => h)
      have hhb1 := f1.at_ hhb (fun h => h)
      have hrb1 := f1.at_ hrb (fun h => h)
      have hf1 := hf.trans f1
      have hsz1 := lt_of_block hwb1
      have hsz0 := lt_of_block hhb1
      clear hwb hhb hrb hf f1
      have c0 := cell_at hhb1 0
      have c1 := cell_at hhb1 1
      have c2 := cell_at hhb1 2
      have c3 := cell_at hhb1 3
      have c4 := cell_at hhb1 4
      have c5 := cell_at hhb1 5
      have c6 := cell_at hhb1 6
      have c7 := cell_at hhb1 7
      simp at c0 c1 c2 c3 c4 c5 c6 c7
      go_wp2_with (first | (refine wpList_store_row rfl 137 (.tmp 11) (.tmp 100) rfl w1.heap.size (words .i64 kTab) rfl rfl 137 _ (heap_alloc_last w1 _) (by rw [Tryz.sizeTab]; rfl) (by rfl) (words_one _ _) ?_; rw [World.setRow_alloc_new]))
      clear c0 c1 c2 c3 c4 c5 c6 c7
      go_loopw [13] (fun i wr => ∃ (t : Nat), i = .int .i64 (t : Int) ∧ t ≤ 64 ∧ wr.heap[w.heap.size + 1 + 1]? = some (.cells (words .i64 ws) 137 (0, 0)) ∧
        wr.heap[w.heap.size]? = some (.cells #[.int .i64 va, .int .i64 vb, .int .i64 vc, .int .i64 vd, .int .i64 ve, .int .i64 vf, .int .i64 vg, .int .i64 vh] 115 (0, 0)) ∧
        wr.heap[w.heap.size + 1]? = some (.cells (words .i64 (List.replicate 8 0)) 115 (0, 0)) ∧ wr.heap[w1.heap.size]? = some (.cells (words .i64 kTab) 137 (0, 0)) ∧
        wr.heap[w1.heap.size + 1]? = some (.cells (words .i64 (roundsOf b ⟨va, vb, vc, vd, ve, vf, vg, vh⟩ t).list) 115 (0, 0)) ∧ Fresh w wr) (fun i _ => 64 - (intOf i).toNat)
      case atStart =>
        have k1 : Fresh w1 ((w1.alloc (.cells (words .i64 kTab) 137)).alloc (.cells #[.int .i64 va, .int .i64 vb, .int .i64 vc, .int .i64 vd, .int .i64 ve, .int .i64 vf, .int .i64 vg, .int .i64 vh] 115)) := ((Keeps.refl _ _).alloc _).alloc _
        refine ⟨0, rfl, by omega, k1.at_ hwb1 (fun h => h), k1.at_ hhb1 (fun h => h), k1.at_ hrb1 (fun h => h), ?_, ?_, hf1.trans k1⟩
        · rw [Below.heap_alloc _ _ _ (by simp)]
          exact heap_alloc_new w1 _
        · have := heap_alloc_new (w1.alloc (.cells (words .i64 kTab) 137)) (.cells #[.int .i64 va, .int .i64 vb, .int .i64 vc, .int .i64 vd, .int .i64 ve, .int .i64 vf, .int .i64 vg, .int .i64 vh] 115)
          simp only [World.size_alloc] at this
          exact this
      case round =>
        clear hwb1 hhb1 hrb1 hf1
        obtain ⟨t, rfl, ht, hwb, hhb, hrb, hkb, hvb, hf⟩ := hrel
        have huok := roundsOf_ok (b := b) hv t
        by_cases h64 : t < 64
        · have hnext : Hid (roundsOf b ⟨va, vb, vc, vd, ve, vf, vg, vh⟩ (t + 1) = (roundsOf b ⟨va, vb, vc, vd, ve, vf, vg, vh⟩ t).next (kAt t) (word b t)) := rfl
          generalize hu : roundsOf b ⟨va, vb, vc, vd, ve, vf, vg, vh⟩ t = u at hvb huok hnext
          obtain ⟨ua, ub, uc, ud, ue, uf, ug, uh⟩ := u
          obtain ⟨b1, b2, b3, b4, b5, b6, b7, b8⟩ := huok
          simp only at b1 b2 b3 b4 b5 b6 b7 b8
          clear hu
          have hvb' : wr.heap[w1.heap.size + 1]? = some (.cells #[.int .i64 ua, .int .i64 ub, .int .i64 uc, .int .i64 ud, .int .i64 ue, .int .i64 uf, .int .i64 ug, .int .i64 uh] 115 (0, 0)) := hvb
          have c0 := cell_at hvb' 0
          have c1 := cell_at hvb' 1
          have c2 := cell_at hvb' 2
          have c3 := cell_at hvb' 3
          have c4 := cell_at hvb' 4
          have c5 := cell_at hvb' 5
          have c6 := cell_at hvb' 6
          have c7 := cell_at hvb' 7
          simp at c0 c1 c2 c3 c4 c5 c6 c7
          obtain ⟨k, hk⟩ : ∃ k, k = kAt t := ⟨_, rfl⟩
          obtain ⟨x, hx⟩ : ∃ x, x = word b t := ⟨_, rfl⟩
          have hk32 : k < 4294967296 := by rw [hk]; exact kAt_lt t
          have hx32 : x < 4294967296 := by rw [hx]; exact word_lt _ _
          have ck : wr.cell? ⟨w1.heap.size, t, none⟩ = some (.int .i64 (k : Int)) := by rw [words_cell hkb (by simpa [kTab] using h64), hk]; rfl
          have cx : wr.cell? ⟨w.heap.size + 1 + 1, t, none⟩ = some (.int .i64 (x : Int)) := by rw [words_cell hwb (by omega), HWS t h64, hx]
          have hB1 := big1_lt ue
          have hB0 := big0_lt ua
          have hCH := choose_lt (f := uf) (g := ug) b5
          have hM := most_lt (b := ub) (c := uc) b1 b2
          have H1 := big1_expr ue
          have H2 := choose_expr b5 b6 b7
          have H4 := big0_expr ua
          have H5 := most_expr b1 b2 b3
          have hnew : Hid ((⟨ua, ub, uc, ud, ue, uf, ug, uh⟩ : Eight).next k x = ⟨((uh + big1 ue + choose ue uf ug + k + x) % 4294967296 + (big0 ua + most ua ub uc) % 4294967296) % 4294967296, ua, ub, uc, (ud + (uh + big1 ue + choose ue uf ug + k + x) % 4294967296) % 4294967296, ue, uf, ug⟩) := rfl
          rw [← hk, ← hx] at hnext
          generalize big1 ue = B1 at *
          generalize choose ue uf ug = CH at *
          generalize big0 ua = B0 at *
          generalize most ua ub uc = M at *
          have H3 := and_low (n := uh + B1 + CH + k + x) (by omega)
          have H6 := and_low (n := B0 + M) (by omega)
          obtain ⟨X, hX⟩ : ∃ X, X = (uh + B1 + CH + k + x) % 4294967296 := ⟨_, rfl⟩
          obtain ⟨Y, hY⟩ : ∃ Y, Y = (B0 + M) % 4294967296 := ⟨_, rfl⟩
          have hX32 : X < 4294967296 := by omega
          have hY32 : Y < 4294967296 := by omega
          have H7 := and_low (n := X + Y) (by omega)
          have H8 := and_low (n := ud + X) (by omega)
          rw [← hX] at H3
          rw [← hY] at H6
          rw [Hid, ← hX, ← hY] at hnew
          obtain ⟨NA, hNA⟩ : ∃ NA, NA = (X + Y) % 4294967296 := ⟨_, rfl⟩
          obtain ⟨NE, hNE⟩ : ∃ NE, NE = (ud + X) % 4294967296 := ⟨_, rfl⟩
          rw [← hNA] at H7 hnew
          rw [← hNE] at H8 hnew
          have HNEW := hid hnew
          simp only [Int.natCast_add] at H3 H6 H7 H8
          clear hk hx hX hY hNA hNE hnew
          go_wp2_with fail
          refine (ror_any ue 6 _ b5 (by decide) (by decide)).mono ?_
          rintro e w2 ⟨rfl, k2, hw2⟩
          have Q2 : Quiet wr w2 := ⟨k2, hw2⟩
          clear hw2
          go_wp2_with fail
          refine (ror_any ue 11 _ b5 (by decide) (by decide)).mono ?_
          rintro e w3 ⟨rfl, k3, hw3⟩
          have Q3 := Q2.trans ⟨k3, hw3⟩
          clear hw3 Q2
          go_wp2_with fail
          refine (ror_any ue 25 _ b5 (by decide) (by decide)).mono ?_
          rintro e w4 ⟨rfl, k4, hw4⟩
          have Q4 := Q3.trans ⟨k4, hw4⟩
          clear hw4 Q3 k2 k3 k4
          have hH4 := Q4.heap
          have tr4 : ∀ (p : Addr) v, wr.cell? p = some v → w4.cell? p = some v := fun p v h => (World.cell?_of_block (w := wr) (w' := w4) (by rw [hH4])).trans h
          have e0 := tr4 _ _ c0
          have e1 := tr4 _ _ c1
          have e2 := tr4 _ _ c2
          have e3 := tr4 _ _ c3
          have e4 := tr4 _ _ c4
          have e5 := tr4 _ _ c5
          have e6 := tr4 _ _ c6
          have e7 := tr4 _ _ c7
          have ek := tr4 _ _ ck
          have ex := tr4 _ _ cx
          clear tr4 ck cx
          go_wp2_with fail
          go_quiet (fail)
          go_wp2_with fail
          refine (ror_any ua 2 _ b1 (by decide) (by decide)).mono ?_
          rintro e w5 ⟨rfl, k5, hw5⟩
          have Q5 : Quiet wr w5 := Q4.trans (Quiet.trans ⟨_, rfl⟩ ⟨k5, hw5⟩)
          clear hw5 e0 e1 e2 e3 e4 e5 e6 e7 ek ex hH4 Q4
          go_wp2_with fail
          refine (ror_any ua 13 _ b1 (by decide) (by decide)).mono ?_
          rintro e w6 ⟨rfl, k6, hw6⟩
          have Q6 := Q5.trans ⟨k6, hw6⟩
          clear hw6 Q5
          go_wp2_with fail
          refine (ror_any ua 22 _ b1 (by decide) (by decide)).mono ?_
          rintro e w7 ⟨rfl, k7, hw7⟩
          have Q7 := Q6.trans ⟨k7, hw7⟩
          clear hw7 Q6 k5 k6 k7
          have hH7 := Q7.heap
          have tr7 : ∀ (p : Addr) v, wr.cell? p = some v → w7.cell? p = some v := fun p v h => (World.cell?_of_block (w := wr) (w' := w7) (by rw [hH7])).trans h
          have e0 := tr7 _ _ c0
          have e1 := tr7 _ _ c1
          have e2 := tr7 _ _ c2
          have e3 := tr7 _ _ c3
          have e4 := tr7 _ _ c4
          have e5 := tr7 _ _ c5
          have e6 := tr7 _ _ c6
          have e7 := tr7 _ _ c7
          have hvb7 : w7.heap[w1.heap.size + 1]? = some (.cells #[.int .i64 ua, .int .i64 ub, .int .i64 uc, .int .i64 ud, .int .i64 ue, .int .i64 uf, .int .i64 ug, .int .i64 uh] 115 (0, 0)) := by rw [hH7]; exact hvb'
          have hwb7 : w7.heap[w.heap.size + 1 + 1]? = some (.cells (words .i64 ws) 137 (0, 0)) := by rw [hH7]; exact hwb
          have hhb7 : w7.heap[w.heap.size]? = some (.cells #[.int .i64 va, .int .i64 vb, .int .i64 vc, .int .i64 vd, .int .i64 ve, .int .i64 vf, .int .i64 vg, .int .i64 vh] 115 (0, 0)) := by rw [hH7]; exact hhb
          have hrb7 : w7.heap[w.heap.size + 1]? = some (.cells (words .i64 (List.replicate 8 0)) 115 (0, 0)) := by rw [hH7]; exact hrb
          have hkb7 : w7.heap[w1.heap.size]? = some (.cells (words .i64 kTab) 137 (0, 0)) := by rw [hH7]; exact hkb
          have hf7 := hf.trans Q7.fresh
          clear tr7 hH7 Q7 hvb hvb' hwb hhb hrb hkb hf c0 c1 c2 c3 c4 c5 c6 c7
          go_upto_region 25 with (fail)
          go_wp2_with (first | (refine wpList_store_row rfl 115 (.tmp 12) (.tmp 189) rfl (w1.heap.size + 1) _ rfl rfl 115 _ hvb7 (by rw [Tryz.sizeEight]; rfl) (by rfl) (ints8_one _ _ _ _ _ _ _ _ _) ?_))
          go_roundw
          case rel =>
            have hs0 : w.heap.size + 1 + 1 < w7.heap.size := lt_of_block hwb7
            refine ⟨t + 1, by go_num, by omega, (setRow_other _ _ _ _ (by omega)).trans hwb7, (setRow_other _ _ _ _ (by omega)).trans hhb7, (setRow_other _ _ _ _ (by omega)).trans hrb7, (setRow_other _ _ _ _ (by omega)).trans hkb7, ?_, ?_⟩
            · rw [hnext.out, HNEW.out]
              exact setRow_heap _ _ _ _ _ _ hvb7
            · refine hf7.trans' ⟨rfl, rfl, rfl, by simp, fun i hi hn => setRow_other _ _ _ _ (fun h => hn h)⟩ (S' := fun k => k = w1.heap.size + 1) fun i hi h => ?_
              first | omega | (simp only at h; omega)
          case measure => simp [intOf]; omega
        · have ht64 : t = 64 := by omega
          subst ht64
          have huok := roundsOf_ok (b := b) hv 64
          have hfin : Hid (shaBlock ⟨va, vb, vc, vd, ve, vf, vg, vh⟩ b = Eight.add ⟨va, vb, vc, vd, ve, vf, vg, vh⟩ (roundsOf b ⟨va, vb, vc, vd, ve, vf, vg, vh⟩ 64)) := rfl
          generalize roundsOf b ⟨va, vb, vc, vd, ve, vf, vg, vh⟩ 64 = u at hvb huok hfin
          have hv8 : (Eight.list ⟨va, vb, vc, vd, ve, vf, vg, vh⟩).length = 8 := rfl
          have hu8 : u.list.length = 8 := rfl
          have hvlt := eight_lt hv
          have hult := eight_lt huok
          have hhb' : wr.heap[w.heap.size]? = some (.cells (words .i64 (mixed (Eight.list ⟨va, vb, vc, vd, ve, vf, vg, vh⟩) u.list 0)) 115 (0, 0)) := hhb
          have hadd := mixed_all ⟨va, vb, vc, vd, ve, vf, vg, vh⟩ u
          rw [← hfin.out] at hadd
          have HADD := hid hadd
          have hzw : w.heap.size + 1 < w1.heap.size := by omega
          clear h64 ht hhb hadd hfin hwb hkb HWS
          generalize Eight.list ⟨va, vb, vc, vd, ve, vf, vg, vh⟩ = L0 at hv8 hvlt hhb' HADD HW
          generalize hLU : u.list = LU at hu8 hult hhb' HADD hvb
          clear hLU
          go_wp2
          go_loopw [22] (fun i w9 => ∃ (t : Nat), i = .int .i64 (t : Int) ∧ t ≤ 8 ∧ w9.heap[w.heap.size]? = some (.cells (words .i64 (mixed L0 LU t)) 115 (0, 0)) ∧
            w9.heap[w.heap.size + 1]? = some (.cells (words .i64 (List.replicate 8 0)) 115 (0, 0)) ∧ w9.heap[w1.heap.size + 1]? = some (.cells (words .i64 LU) 115 (0, 0)) ∧ Fresh w w9) (fun i _ => 8 - (intOf i).toNat)
          case atStart => exact ⟨0, rfl, by omega, hhb', hrb, hvb, hf⟩
          case round =>
            clear hhb' hrb hvb hf
            obtain ⟨t, rfl, ht, hhb, hrb, hvb, hf⟩ := hrel
            by_cases h8 : t < 8
            · obtain ⟨p, hp⟩ : ∃ p, p = L0.getD t 0 := ⟨_, rfl⟩
              obtain ⟨q, hq⟩ : ∃ q, q = LU.getD t 0 := ⟨_, rfl⟩
              have hp32 : p < 4294967296 := by rw [hp]; exact hvlt t
              have hq32 : q < 4294967296 := by rw [hq]; exact hult t
              have cp : wr.drew.cell? ⟨w.heap.size, t, none⟩ = some (.int .i64 (p : Int)) := by
                have := words_cell hhb (j := t) (by rw [mixed_len]; omega)
                rw [mixed_at h8, ← hp] at this
                exact this
              have cq : wr.drew.cell? ⟨w1.heap.size + 1, t, none⟩ = some (.int .i64 (q : Int)) := by
                have := words_cell hvb (j := t) (by omega)
                rw [← hq] at this
                exact this
              have fp : wr.drew.frozen? ⟨w.heap.size, t, none⟩ = false := free_at hhb t
              have hhbd : wr.drew.heap[w.heap.size]? = some (.cells (words .i64 (mixed L0 LU t)) 115 (0, 0)) := hhb
              have hrbd : wr.drew.heap[w.heap.size + 1]? = some (.cells (words .i64 (List.replicate 8 0)) 115 (0, 0)) := hrb
              have hvbd : wr.drew.heap[w1.heap.size + 1]? = some (.cells (words .i64 LU) 115 (0, 0)) := hvb
              have hfd : Fresh w wr.drew := hf.drew
              have E := and_low (n := p + q) (by omega)
              have hst : Hid ((mixed L0 LU t).set t ((p + q) % 4294967296) = mixed L0 LU (t + 1)) := by rw [Hid, hp, hq]; exact mixed_set h8 hv8
              obtain ⟨z, hz⟩ : ∃ z, z = (p + q) % 4294967296 := ⟨_, rfl⟩
              rw [← hz] at E hst
              simp only [Int.natCast_add] at E
              clear hp hq hz hhb hrb hvb hf
              go_wp2_with fail
              go_region
              all_goals
                go_wp2
                go_roundw
                case rel =>
                  refine ⟨t + 1, by go_num, by omega, ?_, ?_, ?_, ?_⟩
                  · rw [← hst.out, ← words_set]; exact heap_setCell_at hhbd t _
                  · exact (heap_setCell_ne wr.drew ⟨w.heap.size, t, none⟩ _ _ (by simp only; omega)).trans hrbd
                  · exact (heap_setCell_ne wr.drew ⟨w.heap.size, t, none⟩ _ _ (by simp only; omega)).trans hvbd
                  · exact hfd.setCell (p := ⟨w.heap.size, t, none⟩) (fun h => by simp only at h; omega) _
                case measure => simp [intOf]; omega
            · have h8' : t = 8 := by omega
              subst h8'
              rw [HADD.out] at hhb
              generalize hS : shaBlock ⟨va, vb, vc, vd, ve, vf, vg, vh⟩ b = S at hhb
              have HS := hid hS
              obtain ⟨sa, sb, sc, sd, se, sf, sg, sh⟩ := S
              have hhb2 : wr.heap[w.heap.size]? = some (.cells #[.int .i64 sa, .int .i64 sb, .int .i64 sc, .int .i64 sd, .int .i64 se, .int .i64 sf, .int .i64 sg, .int .i64 sh] 115 (0, 0)) := hhb
              have c0 := cell_at hhb2 0
              have c1 := cell_at hhb2 1
              have c2 := cell_at hhb2 2
              have c3 := cell_at hhb2 3
              have c4 := cell_at hhb2 4
              have c5 := cell_at hhb2 5
              have c6 := cell_at hhb2 6
              have c7 := cell_at hhb2 7
              simp at c0 c1 c2 c3 c4 c5 c6 c7
              clear hS hhb hhb2 h8 hvlt hult
              go_upto_region 30 with (fail)
              go_wp2_with (first | (refine wpList_store_row rfl 115 (.tmp 4) (.tmp 204) rfl (w.heap.size + 1) _ rfl rfl 115 _ hrb (by rw [Tryz.sizeEight]; rfl) (by rfl) (ints8_one _ _ _ _ _ _ _ _ _) ?_))
              refine bodyPost_ret (v := .agg (words .i64 (shaBlock ⟨va, vb, vc, vd, ve, vf, vg, vh⟩ b).list)) ?_ rfl ⟨rfl, ?_⟩
              · rw [HS.out]
                have hl := run_loadVar_row (P := Tryz.prog) (wr.setRow (w.heap.size + 1) #[.int .i64 sa, .int .i64 sb, .int .i64 sc, .int .i64 sd, .int .i64 se, .int .i64 sf, .int .i64 sg, .int .i64 sh]) (w.heap.size + 1) 115 115 _ (0, 0) (.array 8 3) (setRow_heap _ _ _ _ _ _ hrb) (by kernel_rfl) rfl (by rw [Tryz.sizeEight]; rfl)
                simp [results, Tryz.results62, Act.put, Result.andThen]
                exact hl
              · refine hf.trans' ⟨rfl, rfl, rfl, by simp, fun i hi hn => setRow_other _ _ _ _ (fun h => hn h)⟩ (S' := fun k => k = w.heap.size + 1) fun i hi h => ?_
                first | omega | (simp only at h; omega)
end Go.Proofs.YtmflbchiapdhbaaGreatDoor
