/-
  The law's step: Pending. Printed by gen_dwplay.py.
  The law's step: Pages. Printed by gen_dwplay.py.
  The law's step: Crash. Printed by gen_dwplay.py.
  The law's step: Reload. Printed by gen_dwplay.py.
-/
import Derived.Test.YtbhienlalpbflaaDwPlayP
namespace Go.Proofs.Ytbhienlalpbflaa
open Go.RowKit Go.Maps

set_option maxRecDepth 100000 in
set_option maxHeartbeats 8000000 in
theorem play_pending (B ob n N : Nat) (c : Nat → Nat) (w : World) (v : WV) (f : Nat → St) (h : DW B c w ob v f f n N) (on m : Int) (s : List UInt8) (ko : Option Addr) (kc : Nat) (ks : List (Int × Int)) (hp : PlayIn B n N w on m s ko kc ks) :
    Calls Try.prog 18 #[.pointer (some ⟨ob, 0, none⟩), opV 6 on m s (.slice ko ks.length kc)] w fun e w' => e = .returned (.bool true) ∧ Aft B w' ob (n + 1) (N + 2) ∧ Keeps (fun q => B ≤ q) w w' := by
  obtain ⟨hn, hN, hks, hkB, hkl, hkw, hon, hon2, hm, hm2, hs⟩ := hp
  obtain ⟨al, cl, elv⟩ := ownsRow_slice h.vw.row
  obtain ⟨w1, hw1⟩ : ∃ w1, w.alloc (.cells #[.int .i64 6, .int .i64 on, .int .i64 m, .string (str s), .slice ko ks.length kc] 51) = w1 := ⟨_, rfl⟩
  have f1 : Fresh w w1 := by rw [← hw1]; exact (Keeps.refl _ _).alloc _
  have hb1 : w1.heap[w.heap.size]? = some (.cells #[.int .i64 6, .int .i64 on, .int .i64 m, .string (str s), .slice ko ks.length kc] 51 (0, 0)) := by rw [← hw1]; exact heap_alloc_new w _
  obtain ⟨xb, hxb⟩ : ∃ xb, w.heap.size = xb := ⟨_, rfl⟩
  rw [hxb] at hb1
  have HMK := hid fun W => makes_other ob W 6 on m s ko ks.length kc (by first | decide | assumption) (by first | decide | assumption)
  have x0 : w1.cell? ⟨xb, 0, none⟩ = some (.int .i64 6) := (cell_at hb1 0).trans rfl
  have x1 : w1.cell? ⟨xb, 1, none⟩ = some (.int .i64 on) := (cell_at hb1 1).trans rfl
  have x2 : w1.cell? ⟨xb, 2, none⟩ = some (.int .i64 m) := (cell_at hb1 2).trans rfl
  have x3 : w1.cell? ⟨xb, 3, none⟩ = some (.string (str s)) := (cell_at hb1 3).trans rfl
  have x4 : w1.cell? ⟨xb, 4, none⟩ = some (.slice ko ks.length kc) := (cell_at hb1 4).trans rfl
  have H := hid h
  have HF1 := hid f1
  have HB1 := hid hb1
  have HKS := hid hks
  have HXB := hid hxb
  clear h f1 hb1 hks
  unfold opV
  go_enter Try.func18, Try.ntmps18
  go_wp2_with fail
  (try rw [hw1])
  (try rw [hxb])
  clear hw1 hxb
  refine (HMK.out _).mono ?_
  rintro e w2 ⟨rfl, f2⟩
  have F2 := hid (HF1.out.trans f2)
  have H2 := hid (H.out.fresh F2.out)
  have hb2 := f2.at_ HB1.out (fun h => h)
  have HB2 := hid hb2
  have c0 := (cell_at H2.out.box 0).trans (show _ = some (Value.slice al v.ss.length cl) from congrArg some elv)
  clear f2 hb2 x0 x1 x2 x3 x4 HMK HB1
  by_cases h0 : v.ss.length = 0
  · have h0I : (v.ss.length : Int) = 0 := by omega
    have h0n : ((v.ss.length : Int) == 0) = true := by simp [h0]
    have HA := hid (And.intro (show Aft B w2 ob (n + 1) (N + 2) from ⟨_, _, _, H2.out.more (Nat.le_succ _) (by omega)⟩) (F2.out.mono (S' := fun q => B ≤ q) fun _ _ h => h.elim))
    go_wp2_with fail
    go_ret
    exact ⟨by first | rfl | simp, HA.out.1, HA.out.2⟩
  · have h0I : ¬ (v.ss.length : Int) = 0 := by omega
    have h0n : ((v.ss.length : Int) == 0) = false := by simp [h0]
    obtain ⟨i, hi, hi2⟩ := picked on v.ss.length (by omega)
    obtain ⟨⟨d, x⟩, hss⟩ : ∃ y, v.ss[i]? = some y := ⟨v.ss[i], by simp⟩
    have hfew := H2.out.vw.few
    have HPK := hid fun W => pick_any on v.ss.length W (by omega) (by omega) hon hon2
    rw [hi] at HPK
    have hrow2 : w2.ownsRow 0 53 2 (.slice al v.ss.length cl) v.ss.length (sideCells v.ss) := by rw [← elv]; exact H2.out.vw.row
    obtain ⟨gs, eal, hgs, hgc⟩ := ownsRow_cells hrow2 (by omega)
    subst eal
    obtain ⟨g0, g1⟩ := sideCells_at v.ss i (d, x) hss
    have g0 := hgc _ _ g0
    have g1 := hgc _ _ g1
    have o1 := (cell_at HB2.out 1).trans (show _ = some (Value.int .i64 on) from rfl)
    have HTF : Hid (∀ W, Fresh w2 W → W.cell? ⟨ob, 0, none⟩ = some (.slice (some ⟨gs, 0, none⟩) v.ss.length cl) ∧ W.cell? ⟨xb, 1, none⟩ = some (.int .i64 on) ∧ W.cell? ⟨gs, i * 2, none⟩ = some (.pointer (some ⟨d, 0, none⟩)) ∧ W.cell? ⟨gs, i * 2 + 1, none⟩ = some (.pointer (some ⟨x, 0, none⟩))) := fun W f =>
      ⟨(f.cell (p := ⟨ob, 0, none⟩) (lt_of_block H2.out.box) (fun h => h)).trans c0, (f.cell (p := ⟨xb, 1, none⟩) (lt_of_block HB2.out) (fun h => h)).trans o1, (f.cell (p := ⟨gs, i * 2, none⟩) hgs (fun h => h)).trans g0, (f.cell (p := ⟨gs, i * 2 + 1, none⟩) hgs (fun h => h)).trans g1⟩
    have hi5 : i < 5 := by omega
    have hiI : (i : Int) < (v.ss.length : Int) := by omega
    have hi0 : (0 : Int) ≤ (i : Int) := by omega
    have HSS := hid hss
    clear hrow2 hgc g0 g1 o1 hss hi
    go_wp2_with fail
    clear c0
    go_cut [7] (fun s7 wx => s7 = .pointer (some ⟨w2.heap.size, 0, none⟩) ∧ wx.heap[w2.heap.size]? = some (.cells #[.pointer (some ⟨d, 0, none⟩), .pointer (some ⟨x, 0, none⟩)] 53 (0, 0)) ∧ Fresh w2 wx)
    case first =>
      refine wp_region_keep 16 (fun w' => w'.cell? ⟨ob, 0, none⟩ = some (.slice (some ⟨gs, 0, none⟩) v.ss.length cl) ∧ w'.cell? ⟨xb, 1, none⟩ = some (.int .i64 on) ∧ w'.cell? ⟨gs, i * 2, none⟩ = some (.pointer (some ⟨d, 0, none⟩)) ∧ w'.cell? ⟨gs, i * 2 + 1, none⟩ = some (.pointer (some ⟨x, 0, none⟩))) (fun _ => True) (fun _ => true) (by kernel_rfl) (by kernel_rfl) ?_
      (try (change wpKeep _ _ _ _ _ _ _ _ _ _ (World.drew _)))
      refine wpKeep_takeT (i := 0) (oi := ⟨some 41, _, _, _, _, _⟩) (v := ?_) rfl (by kernel_rfl) (by kernel_rfl) (by kernel_rfl) (by kernel_rfl) (fun _ _ _ h => h) (Or.inl ⟨by rfl, ?_⟩) (HTF.out _ (Keeps.refl _ _).drew) (fun _ => trivial) ?_
      rotate_left
      · intro w' hT
        obtain ⟨t1, t2, t3, t4⟩ := hT
        go_simp
        (try rw [if_pos (by omega)])
        (try with_reducible rfl)
      rotate_left
      (try simp only [Act.put, List.setIfInBounds_toArray, List.set_cons_zero, List.set_cons_succ])
      refine wpKeep_takeT (i := 1) (oi := ⟨some 42, _, _, _, _, _⟩) (v := ?_) rfl (by kernel_rfl) (by kernel_rfl) (by kernel_rfl) (by kernel_rfl) (fun _ _ _ h => h) (Or.inl ⟨by rfl, ?_⟩) (HTF.out _ (Keeps.refl _ _).drew) (fun _ => trivial) ?_
      rotate_left
      · intro w' hT
        obtain ⟨t1, t2, t3, t4⟩ := hT
        go_simp
        (try rw [if_pos (by omega)])
        (try with_reducible rfl)
      rotate_left
      (try simp only [Act.put, List.setIfInBounds_toArray, List.set_cons_zero, List.set_cons_succ])
      refine wpKeep_takeT (i := 2) (oi := ⟨some 43, _, _, _, _, _⟩) (v := ?_) rfl (by kernel_rfl) (by kernel_rfl) (by kernel_rfl) (by kernel_rfl) (fun _ _ _ h => h) (Or.inl ⟨by rfl, ?_⟩) (HTF.out _ (Keeps.refl _ _).drew) (fun _ => trivial) ?_
      rotate_left
      · intro w' hT
        obtain ⟨t1, t2, t3, t4⟩ := hT
        go_simp
        (try rw [if_pos (by omega)])
        (try with_reducible rfl)
      rotate_left
      (try simp only [Act.put, List.setIfInBounds_toArray, List.set_cons_zero, List.set_cons_succ])
      refine wpKeep_takeT (i := 3) (oi := ⟨some 44, _, _, _, _, _⟩) (v := ?_) rfl (by kernel_rfl) (by kernel_rfl) (by kernel_rfl) (by kernel_rfl) (fun _ _ _ h => h) (Or.inl ⟨by rfl, ?_⟩) (HTF.out _ (Keeps.refl _ _).drew) (fun _ => trivial) ?_
      rotate_left
      · intro w' hT
        obtain ⟨t1, t2, t3, t4⟩ := hT
        go_simp
        (try rw [if_pos (by omega)])
        (try with_reducible rfl)
      rotate_left
      (try simp only [Act.put, List.setIfInBounds_toArray, List.set_cons_zero, List.set_cons_succ])
      refine wpKeep_takeT (i := 4) (oi := ⟨some 45, _, _, _, _, _⟩) (v := ?_) rfl (by kernel_rfl) (by kernel_rfl) (by kernel_rfl) (by kernel_rfl) (fun _ _ _ h => h) (Or.inl ⟨by rfl, ?_⟩) (HTF.out _ (Keeps.refl _ _).drew) (fun _ => trivial) ?_
      rotate_left
      · intro w' hT
        obtain ⟨t1, t2, t3, t4⟩ := hT
        go_simp
        (try rw [if_pos (by omega)])
        (try with_reducible rfl)
      rotate_left
      (try simp only [Act.put, List.setIfInBounds_toArray, List.set_cons_zero, List.set_cons_succ])
      refine wpKeep_takeT (i := 5) (oi := ⟨some 46, _, _, _, _, _⟩) (v := ?_) rfl (by kernel_rfl) (by kernel_rfl) (by kernel_rfl) (by kernel_rfl) (fun _ _ _ h => h) (Or.inl ⟨by rfl, ?_⟩) (HTF.out _ (Keeps.refl _ _).drew) (fun _ => trivial) ?_
      rotate_left
      · intro w' hT
        obtain ⟨t1, t2, t3, t4⟩ := hT
        go_simp
        (try rw [if_pos (by omega)])
        (try with_reducible rfl)
      rotate_left
      (try simp only [Act.put, List.setIfInBounds_toArray, List.set_cons_zero, List.set_cons_succ])
      refine wpKeep_takeT (i := 6) (oi := ⟨some 47, _, _, _, _, _⟩) (v := ?_) rfl (by kernel_rfl) (by kernel_rfl) (by kernel_rfl) (by kernel_rfl) (fun _ _ _ h => h) (Or.inl ⟨by rfl, ?_⟩) (HTF.out _ (Keeps.refl _ _).drew) (fun _ => trivial) ?_
      rotate_left
      · intro w' hT
        obtain ⟨t1, t2, t3, t4⟩ := hT
        go_simp
        (try rw [if_pos (by omega)])
        (try with_reducible rfl)
      rotate_left
      (try simp only [Act.put, List.setIfInBounds_toArray, List.set_cons_zero, List.set_cons_succ])
      refine wpKeep_takeT (i := 7) (oi := ⟨some 48, _, _, _, _, _⟩) (v := ?_) rfl (by kernel_rfl) (by kernel_rfl) (by kernel_rfl) (by kernel_rfl) (fun _ _ _ h => h) (Or.inl ⟨by rfl, ?_⟩) (HTF.out _ (Keeps.refl _ _).drew) (fun _ => trivial) ?_
      rotate_left
      · intro w' hT
        obtain ⟨t1, t2, t3, t4⟩ := hT
        go_simp
        (try rw [if_pos (by omega)])
        (try with_reducible rfl)
      rotate_left
      (try simp only [Act.put, List.setIfInBounds_toArray, List.set_cons_zero, List.set_cons_succ])
      refine wpKeep_takeT (i := 8) (oi := ⟨some 49, _, _, _, _, _⟩) (v := ?_) rfl (by kernel_rfl) (by kernel_rfl) (by kernel_rfl) (by kernel_rfl) (fun _ _ _ h => h) (Or.inl ⟨by rfl, ?_⟩) (HTF.out _ (Keeps.refl _ _).drew) (fun _ => trivial) ?_
      rotate_left
      · intro w' hT
        obtain ⟨t1, t2, t3, t4⟩ := hT
        go_simp
        (try rw [if_pos (by omega)])
        (try with_reducible rfl)
      rotate_left
      (try simp only [Act.put, List.setIfInBounds_toArray, List.set_cons_zero, List.set_cons_succ])
      refine wpKeep_takeT (i := 9) (oi := ⟨some 50, _, _, _, _, _⟩) (v := ?_) rfl (by kernel_rfl) (by kernel_rfl) (by kernel_rfl) (by kernel_rfl) (fun _ _ _ h => h) (Or.inl ⟨by rfl, ?_⟩) (HTF.out _ (Keeps.refl _ _).drew) (fun _ => trivial) ?_
      rotate_left
      · intro w' hT
        obtain ⟨t1, t2, t3, t4⟩ := hT
        go_simp
        (try rw [if_pos (by omega)])
        (try with_reducible rfl)
      rotate_left
      (try simp only [Act.put, List.setIfInBounds_toArray, List.set_cons_zero, List.set_cons_succ])
      refine wpKeep_takeT (i := 10) (oi := ⟨some 51, _, _, _, _, _⟩) (v := ?_) rfl (by kernel_rfl) (by kernel_rfl) (by kernel_rfl) (by kernel_rfl) (fun _ _ _ h => h) (Or.inl ⟨by rfl, ?_⟩) (HTF.out _ (Keeps.refl _ _).drew) (fun _ => trivial) ?_
      rotate_left
      · intro w' hT
        obtain ⟨t1, t2, t3, t4⟩ := hT
        go_simp
        (try rw [if_pos (by omega)])
        (try with_reducible rfl)
      rotate_left
      (try simp only [Act.put, List.setIfInBounds_toArray, List.set_cons_zero, List.set_cons_succ])
      refine wpKeep_ready (rs := [11, 14]) (by kernel_rfl) (by simp) ?_
      refine AllKeep.cons (o := ⟨some 52, _, _, _, _, _⟩) rfl (fun Kq hK => ?_) (AllKeep.cons (o := ⟨some 7, _, _, _, _, _⟩) rfl (fun Kq hK => ?_) AllKeep.nil)
      · as_aux_lemma =>
        go_simp
        go_at_call 9
        refine (HPK.out _).mono ?_
        rintro e _ ⟨rfl, rfl⟩
        refine hK.out _ _ (HTF.out _ (Keeps.refl _ _).drew) (fun _ => trivial) ?_
        clear hK Kq
        (try simp only [Act.put, List.setIfInBounds_toArray, List.set_cons_zero, List.set_cons_succ])
        refine wpKeep_takeT (i := 12) (oi := ⟨some 53, _, _, _, _, _⟩) (v := ?_) rfl (by kernel_rfl) (by kernel_rfl) (by kernel_rfl) (by kernel_rfl) (fun _ _ _ h => h) (Or.inl ⟨by rfl, ?_⟩) (HTF.out _ (Keeps.refl _ _).drew) (fun _ => trivial) ?_
        rotate_left
        · intro w' hT
          obtain ⟨t1, t2, t3, t4⟩ := hT
          go_simp
          (try rw [if_pos (by omega)])
          (try with_reducible rfl)
        rotate_left
        (try simp only [Act.put, List.setIfInBounds_toArray, List.set_cons_zero, List.set_cons_succ])
        refine wpKeep_takeT (i := 13) (oi := ⟨some 54, _, _, _, _, _⟩) (v := ?_) rfl (by kernel_rfl) (by kernel_rfl) (by kernel_rfl) (by kernel_rfl) (fun _ _ _ h => h) (Or.inl ⟨by rfl, ?_⟩) (HTF.out _ (Keeps.refl _ _).drew) (fun _ => trivial) ?_
        rotate_left
        · intro w' hT
          obtain ⟨t1, t2, t3, t4⟩ := hT
          go_simp
          (try rw [if_pos (by omega)])
          (try with_reducible rfl)
        rotate_left
        (try simp only [Act.put, List.setIfInBounds_toArray, List.set_cons_zero, List.set_cons_succ])
        refine wpKeep_ready (rs := [14]) (by kernel_rfl) (by simp) ?_
        refine AllKeep.cons (o := ⟨some 7, _, _, _, _, _⟩) rfl (fun Kq hK => ?_) AllKeep.nil
        go_simp
        refine hK.out _ _ (HTF.out _ ((Keeps.refl _ _).drew.alloc _)) (fun _ => trivial) ?_
        clear hK Kq
        (try simp only [Act.put, List.setIfInBounds_toArray, List.set_cons_zero, List.set_cons_succ])
        refine wpKeep_ready (rs := [15]) (by kernel_rfl) (by simp) ?_
        refine AllKeep.cons (o := ⟨none, _, _, _, _, _⟩) rfl (fun Kq hK => ?_) AllKeep.nil
        go_simp
        refine hK.out _ _ (HTF.out _ ((Keeps.refl _ _).drew.alloc _)) (fun _ => trivial) ?_
        clear hK Kq
        (try simp only [Act.put, List.setIfInBounds_toArray, List.set_cons_zero, List.set_cons_succ])
        refine wpKeep_done (by kernel_rfl) ?_ _
        go_wp2
        go_meet
        exact ⟨rfl, heap_at_alloc rfl, (Keeps.refl _ _).drew.alloc _⟩
      · as_aux_lemma =>
        go_simp
        refine hK.out _ _ (HTF.out _ ((Keeps.refl _ _).drew.alloc _)) (fun _ => trivial) ?_
        clear hK Kq
        (try simp only [Act.put, List.setIfInBounds_toArray, List.set_cons_zero, List.set_cons_succ])
        refine wpKeep_ready (rs := [11]) (by kernel_rfl) (by simp) ?_
        refine AllKeep.cons (o := ⟨some 52, _, _, _, _, _⟩) rfl (fun Kq hK => ?_) AllKeep.nil
        go_simp
        go_at_call 9
        refine (HPK.out _).mono ?_
        rintro e _ ⟨rfl, rfl⟩
        refine hK.out _ _ (HTF.out _ ((Keeps.refl _ _).drew.alloc _)) (fun _ => trivial) ?_
        clear hK Kq
        (try simp only [Act.put, List.setIfInBounds_toArray, List.set_cons_zero, List.set_cons_succ])
        refine wpKeep_takeT (i := 12) (oi := ⟨some 53, _, _, _, _, _⟩) (v := ?_) rfl (by kernel_rfl) (by kernel_rfl) (by kernel_rfl) (by kernel_rfl) (fun _ _ _ h => h) (Or.inl ⟨by rfl, ?_⟩) (HTF.out _ ((Keeps.refl _ _).drew.alloc _)) (fun _ => trivial) ?_
        rotate_left
        · intro w' hT
          obtain ⟨t1, t2, t3, t4⟩ := hT
          go_simp
          (try rw [if_pos (by omega)])
          (try with_reducible rfl)
        rotate_left
        (try simp only [Act.put, List.setIfInBounds_toArray, List.set_cons_zero, List.set_cons_succ])
        refine wpKeep_takeT (i := 13) (oi := ⟨some 54, _, _, _, _, _⟩) (v := ?_) rfl (by kernel_rfl) (by kernel_rfl) (by kernel_rfl) (by kernel_rfl) (fun _ _ _ h => h) (Or.inl ⟨by rfl, ?_⟩) (HTF.out _ ((Keeps.refl _ _).drew.alloc _)) (fun _ => trivial) ?_
        rotate_left
        · intro w' hT
          obtain ⟨t1, t2, t3, t4⟩ := hT
          go_simp
          (try rw [if_pos (by omega)])
          (try with_reducible rfl)
        rotate_left
        (try simp only [Act.put, List.setIfInBounds_toArray, List.set_cons_zero, List.set_cons_succ])
        refine wpKeep_ready (rs := [15]) (by kernel_rfl) (by simp) ?_
        refine AllKeep.cons (o := ⟨none, _, _, _, _, _⟩) rfl (fun Kq hK => ?_) AllKeep.nil
        go_simp
        refine hK.out _ _ (HTF.out _ ((Keeps.refl _ _).drew.alloc _)) (fun _ => trivial) ?_
        clear hK Kq
        (try simp only [Act.put, List.setIfInBounds_toArray, List.set_cons_zero, List.set_cons_succ])
        refine wpKeep_done (by kernel_rfl) ?_ _
        go_wp2
        go_meet
        exact ⟨rfl, heap_at_alloc rfl, (Keeps.refl _ _).drew.alloc _⟩
    case rest =>
      as_aux_lemma =>
      obtain ⟨rfl, hsb, f3⟩ := hcut
      obtain ⟨W4, rfl⟩ : ∃ W4, W4 = wc := ⟨_, rfl⟩
      have F4 := hid (F2.out.trans f3)
      have H4 := hid (H2.out.fresh f3)
      have hxb4 := f3.at_ HB2.out (fun h => h)
      have hcx : c xb = 0 := H.out.unborn xb (by rw [HXB.out]; exact Nat.le_refl _)
      have hcs : c w2.heap.size = 0 := H.out.unborn _ F2.out.size
      obtain ⟨sb, hsbn⟩ : ∃ sb, w2.heap.size = sb := ⟨_, rfl⟩
      rw [hsbn] at hsb hcs ⊢
      have HPB : Hid (∀ (S : Nat → Prop) (W : World), Keeps S W4 W → (∀ g, S g → g < W4.heap.size → c g ≠ 0) → W.cell? ⟨xb, 0, none⟩ = some (.int .i64 6) ∧ W.cell? ⟨xb, 2, none⟩ = some (.int .i64 m) ∧ W.cell? ⟨xb, 3, none⟩ = some (.string (str s)) ∧ W.cell? ⟨xb, 4, none⟩ = some (.slice ko ks.length kc) ∧ W.cell? ⟨sb, 0, none⟩ = some (.pointer (some ⟨d, 0, none⟩)) ∧ W.cell? ⟨sb, 1, none⟩ = some (.pointer (some ⟨x, 0, none⟩))) := fun S W k hS => by
        have b1 := k.at_ hxb4 (fun e => hS _ e (lt_of_block hxb4) hcx)
        have b2 := k.at_ hsb (fun e => hS _ e (lt_of_block hsb) hcs)
        exact ⟨(cell_at b1 0).trans rfl, (cell_at b1 2).trans rfl, (cell_at b1 3).trans rfl, (cell_at b1 4).trans rfl, (cell_at b2 0).trans rfl, (cell_at b2 1).trans rfl⟩
      have HDV := hid (H4.out.vw.dev i (d, x) HSS.out)
      have HRF := hid (H4.out.vw.ref i (d, x) HSS.out)
      have HOK := hid (H4.out.vw.okd i hi2)
      have HKB := hid (F4.out.mono (S' := fun q => B ≤ q) fun _ _ h => h.elim)
      obtain ⟨x0, x2, x3, x4, s0, s1⟩ := HPB.out (fun _ => False) W4 (Keeps.refl _ _) (fun _ h => h.elim)
      clear hsb f3 hxb4 hcx hcs hsbn HTF HPK hgs F2 H2 HB2 HF1 H HXB
      have HR := hid fun W (g : Fresh W4 W) => dpend _ d n (f i) W (HDV.out.fresh g) HOK.out
      have HX := hid fun W (g : Fresh W4 W) => xpend _ x (f i) W (HRF.out.fresh g) HOK.out
      have hfresh := H4.out.unborn
      have HUN := hid hfresh
      have hsz := H4.out.size
      obtain ⟨pl, hpl⟩ : ∃ pl, pdSt (f i) = pl := ⟨_, rfl⟩
      rw [hpl] at HR HX
      have hpll : pl.length ≤ 4096 := by
        rw [← hpl]
        rw [pdSt_len]; have := told_le (f i).f (f i).l.length; have := HOK.out.ll; omega
      clear hpl hfresh
      go_wp2_with fail
      refine (HR.out _ (Keeps.refl _ _)).mono ?_
      rintro e w5 ⟨va, ya, rfl, ca, ra, na, f5⟩
      have F5 := hid f5
      obtain ⟨y0, y2, y3, y4, t0, t1⟩ := HPB.out _ w5 f5 (fun _ h => h.elim)
      clear x0 x2 x3 x4 s0 s1 f5
      go_wp2_with fail
      refine (HR.out _ F5.out).mono ?_
      rintro e w6 ⟨vb, yb, rfl, cb, rb, nb, f6⟩
      have F6 := hid (F5.out.trans f6)
      have ra6 := ownsRow_keeps ra f6 (fun _ _ h => h)
      have na2 : ∀ g, ya.ownBlock = some g → g < w5.heap.size := fun g hg => (ra.lt g hg).2
      have s65 := f6.size
      obtain ⟨x0, x2, x3, x4, s0, s1⟩ := HPB.out _ w6 F6.out (fun _ h => h.elim)
      clear y0 y2 y3 y4 t0 t1 f6 ra HR
      go_wp2_with fail
      refine (HX.out _ F6.out).mono ?_
      rintro e w7 ⟨vx, rfl, rx, nx, f7⟩
      have F7 := hid (F6.out.trans f7)
      have ra7 := ownsRow_keeps ra6 f7 (fun _ _ h => h)
      have rb7 := ownsRow_keeps rb f7 (fun _ _ h => h)
      clear x0 x2 x3 x4 s0 s1 ra6 f7
      have nb2 : ∀ g, yb.ownBlock = some g → g < w6.heap.size := fun g hg => (rb.lt g hg).2
      clear rb
      obtain ⟨xo, xc, rfl⟩ := ownsRow_slice rx
      have HSAME := hid (sameWrites_same _ _ pl w7 ya _ _ _ ca Clip.same ra7 rfl rx rfl (by omega))
      go_wp2_with fail
      refine HSAME.out.mono ?_
      rintro e w8 ⟨rfl, f8⟩
      have F8 := hid (F7.out.trans f8)
      obtain ⟨x0, x2, x3, x4, s0, s1⟩ := HPB.out _ w8 F8.out (fun _ h => h.elim)
      have ra8 := ownsRow_keeps ra7 f8 (fun _ _ h => h)
      have rb8 := ownsRow_keeps rb7 f8 (fun _ _ h => h)
      clear HSAME f8 ra7 rb7 rx nx
      go_wp2_with fail
      refine (HX.out _ F8.out).mono ?_
      rintro e w9 ⟨vx, rfl, rx, nx, f9⟩
      have F9 := hid (F8.out.trans f9)
      have ra9 := ownsRow_keeps ra8 f9 (fun _ _ h => h)
      have rb9 := ownsRow_keeps rb8 f9 (fun _ _ h => h)
      clear x0 x2 x3 x4 s0 s1 ra8 rb8 f9 HX
      obtain ⟨xo2, xc2, rfl⟩ := ownsRow_slice rx
      have HSAME := hid (sameWrites_same _ _ pl w9 yb _ _ _ cb Clip.same rb9 rfl rx rfl (by omega))
      go_wp2_with fail
      refine HSAME.out.mono ?_
      rintro e w10 ⟨rfl, f10⟩
      have F10 := hid (F9.out.trans f10)
      have h10 := H4.out.fresh F10.out
      have ra10 := ownsRow_keeps ra9 f10 (fun _ _ h => h)
      have rb10 := ownsRow_keeps rb9 f10 (fun _ _ h => h)
      have hva := fun g hg => (⟨by have := na g hg; omega, HUN.out g (by have := na g hg; omega)⟩ : B ≤ g ∧ c g = 0)
      have HOUT := hid (writes_w B ob n N c w10 v f f va ya pl h10 (by omega) ca ra10 hva hpll)
      have HH := hid (And.intro h10 (And.intro rb10 (HKB.out.trans (F10.out.mono fun _ _ h => h.elim))))
      have s10 := (F10.out.size)
      have s910 := F10.out.size
      clear HSAME f10 ra9 rb9 rx nx ra10 rb10 h10 hva
      go_wp2_with fail
      refine HOUT.out.mono ?_
      rintro e w11 ⟨rfl, c11, v11, hd11, k11, hc11⟩
      have kB11 : Keeps (fun q => B ≤ q) w10 w11 := HH.out.1.owns k11 fun g e _ => by omega
      have hnbB : ∀ g, yb.ownBlock = some g → B ≤ g ∧ c g = 0 ∧ g < w10.heap.size ∧ ya.ownBlock ≠ some g := fun g hg => by
        have q1 := nb g hg
        have q2 := (HH.out.2.1.lt g hg).2
        refine ⟨by have := F5.out.size; omega, HUN.out g (by have := F5.out.size; omega), q2, fun e => ?_⟩
        have := na2 g e
        omega
      have rb11 := ownsRow_keeps HH.out.2.1 k11 (fun g hg e => by have := (hnbB g hg).2.1; omega)
      have hvb := fun g hg => (⟨(hnbB g hg).1, by rw [hc11 g (hnbB g hg).2.2.1 (hnbB g hg).2.2.2]; exact (hnbB g hg).2.1⟩ : B ≤ g ∧ c11 g = 0)
      have HOUT2 := hid (writes_w B ob n (N + 1) c11 w11 v11 f f vb yb pl hd11 (by omega) cb rb11 hvb hpll)
      have HH2 := hid (And.intro hd11 (HH.out.2.2.trans kB11))
      clear hd11 k11 hc11 kB11 hnbB rb11 hvb HOUT
      go_wp2_with fail
      refine HOUT2.out.mono ?_
      rintro e w12 ⟨rfl, c12, v12, hd12, k12, hc12⟩
      have HA := hid (And.intro (show Aft B w12 ob (n + 1) (N + 2) from ⟨c12, v12, f, hd12.more (Nat.le_succ _) (Nat.le_refl _)⟩) (HH2.out.2.trans (HH2.out.1.owns k12 fun g e _ => by omega)))
      clear hd12 k12 hc12 HOUT2
      go_wp2_with fail
      go_ret
      exact ⟨by first | rfl | simp, HA.out.1, HA.out.2⟩
end Go.Proofs.Ytbhienlalpbflaa

namespace Go.Proofs.Ytbhienlalpbflaa
open Go.RowKit Go.Maps

set_option maxRecDepth 100000 in
set_option maxHeartbeats 8000000 in
theorem play_pages (B ob n N : Nat) (c : Nat → Nat) (w : World) (v : WV) (f : Nat → St) (h : DW B c w ob v f f n N) (on m : Int) (s : List UInt8) (ko : Option Addr) (kc : Nat) (ks : List (Int × Int)) (hp : PlayIn B n N w on m s ko kc ks) :
    Calls Try.prog 18 #[.pointer (some ⟨ob, 0, none⟩), opV 7 on m s (.slice ko ks.length kc)] w fun e w' => e = .returned (.bool true) ∧ Aft B w' ob (n + 1) (N + 2) ∧ Keeps (fun q => B ≤ q) w w' := by
  obtain ⟨hn, hN, hks, hkB, hkl, hkw, hon, hon2, hm, hm2, hs⟩ := hp
  obtain ⟨al, cl, elv⟩ := ownsRow_slice h.vw.row
  obtain ⟨w1, hw1⟩ : ∃ w1, w.alloc (.cells #[.int .i64 7, .int .i64 on, .int .i64 m, .string (str s), .slice ko ks.length kc] 51) = w1 := ⟨_, rfl⟩
  have f1 : Fresh w w1 := by rw [← hw1]; exact (Keeps.refl _ _).alloc _
  have hb1 : w1.heap[w.heap.size]? = some (.cells #[.int .i64 7, .int .i64 on, .int .i64 m, .string (str s), .slice ko ks.length kc] 51 (0, 0)) := by rw [← hw1]; exact heap_alloc_new w _
  obtain ⟨xb, hxb⟩ : ∃ xb, w.heap.size = xb := ⟨_, rfl⟩
  rw [hxb] at hb1
  have HMK := hid fun W => makes_other ob W 7 on m s ko ks.length kc (by first | decide | assumption) (by first | decide | assumption)
  have x0 : w1.cell? ⟨xb, 0, none⟩ = some (.int .i64 7) := (cell_at hb1 0).trans rfl
  have x1 : w1.cell? ⟨xb, 1, none⟩ = some (.int .i64 on) := (cell_at hb1 1).trans rfl
  have x2 : w1.cell? ⟨xb, 2, none⟩ = some (.int .i64 m) := (cell_at hb1 2).trans rfl
  have x3 : w1.cell? ⟨xb, 3, none⟩ = some (.string (str s)) := (cell_at hb1 3).trans rfl
  have x4 : w1.cell? ⟨xb, 4, none⟩ = some (.slice ko ks.length kc) := (cell_at hb1 4).trans rfl
  have H := hid h
  have HF1 := hid f1
  have HB1 := hid hb1
  have HKS := hid hks
  have HXB := hid hxb
  clear h f1 hb1 hks
  unfold opV
  go_enter Try.func18, Try.ntmps18
  go_wp2_with fail
  (try rw [hw1])
  (try rw [hxb])
  clear hw1 hxb
  refine (HMK.out _).mono ?_
  rintro e w2 ⟨rfl, f2⟩
  have F2 := hid (HF1.out.trans f2)
  have H2 := hid (H.out.fresh F2.out)
  have hb2 := f2.at_ HB1.out (fun h => h)
  have HB2 := hid hb2
  have c0 := (cell_at H2.out.box 0).trans (show _ = some (Value.slice al v.ss.length cl) from congrArg some elv)
  clear f2 hb2 x0 x1 x2 x3 x4 HMK HB1
  by_cases h0 : v.ss.length = 0
  · have h0I : (v.ss.length : Int) = 0 := by omega
    have h0n : ((v.ss.length : Int) == 0) = true := by simp [h0]
    have HA := hid (And.intro (show Aft B w2 ob (n + 1) (N + 2) from ⟨_, _, _, H2.out.more (Nat.le_succ _) (by omega)⟩) (F2.out.mono (S' := fun q => B ≤ q) fun _ _ h => h.elim))
    go_wp2_with fail
    go_ret
    exact ⟨by first | rfl | simp, HA.out.1, HA.out.2⟩
  · have h0I : ¬ (v.ss.length : Int) = 0 := by omega
    have h0n : ((v.ss.length : Int) == 0) = false := by simp [h0]
    obtain ⟨i, hi, hi2⟩ := picked on v.ss.length (by omega)
    obtain ⟨⟨d, x⟩, hss⟩ : ∃ y, v.ss[i]? = some y := ⟨v.ss[i], by simp⟩
    have hfew := H2.out.vw.few
    have HPK := hid fun W => pick_any on v.ss.length W (by omega) (by omega) hon hon2
    rw [hi] at HPK
    have hrow2 : w2.ownsRow 0 53 2 (.slice al v.ss.length cl) v.ss.length (sideCells v.ss) := by rw [← elv]; exact H2.out.vw.row
    obtain ⟨gs, eal, hgs, hgc⟩ := ownsRow_cells hrow2 (by omega)
    subst eal
    obtain ⟨g0, g1⟩ := sideCells_at v.ss i (d, x) hss
    have g0 := hgc _ _ g0
    have g1 := hgc _ _ g1
    have o1 := (cell_at HB2.out 1).trans (show _ = some (Value.int .i64 on) from rfl)
    have HTF : Hid (∀ W, Fresh w2 W → W.cell? ⟨ob, 0, none⟩ = some (.slice (some ⟨gs, 0, none⟩) v.ss.length cl) ∧ W.cell? ⟨xb, 1, none⟩ = some (.int .i64 on) ∧ W.cell? ⟨gs, i * 2, none⟩ = some (.pointer (some ⟨d, 0, none⟩)) ∧ W.cell? ⟨gs, i * 2 + 1, none⟩ = some (.pointer (some ⟨x, 0, none⟩))) := fun W f =>
      ⟨(f.cell (p := ⟨ob, 0, none⟩) (lt_of_block H2.out.box) (fun h => h)).trans c0, (f.cell (p := ⟨xb, 1, none⟩) (lt_of_block HB2.out) (fun h => h)).trans o1, (f.cell (p := ⟨gs, i * 2, none⟩) hgs (fun h => h)).trans g0, (f.cell (p := ⟨gs, i * 2 + 1, none⟩) hgs (fun h => h)).trans g1⟩
    have hi5 : i < 5 := by omega
    have hiI : (i : Int) < (v.ss.length : Int) := by omega
    have hi0 : (0 : Int) ≤ (i : Int) := by omega
    have HSS := hid hss
    clear hrow2 hgc g0 g1 o1 hss hi
    go_wp2_with fail
    clear c0
    go_cut [7] (fun s7 wx => s7 = .pointer (some ⟨w2.heap.size, 0, none⟩) ∧ wx.heap[w2.heap.size]? = some (.cells #[.pointer (some ⟨d, 0, none⟩), .pointer (some ⟨x, 0, none⟩)] 53 (0, 0)) ∧ Fresh w2 wx)
    case first =>
      refine wp_region_keep 16 (fun w' => w'.cell? ⟨ob, 0, none⟩ = some (.slice (some ⟨gs, 0, none⟩) v.ss.length cl) ∧ w'.cell? ⟨xb, 1, none⟩ = some (.int .i64 on) ∧ w'.cell? ⟨gs, i * 2, none⟩ = some (.pointer (some ⟨d, 0, none⟩)) ∧ w'.cell? ⟨gs, i * 2 + 1, none⟩ = some (.pointer (some ⟨x, 0, none⟩))) (fun _ => True) (fun _ => true) (by kernel_rfl) (by kernel_rfl) ?_
      (try (change wpKeep _ _ _ _ _ _ _ _ _ _ (World.drew _)))
      refine wpKeep_takeT (i := 0) (oi := ⟨some 41, _, _, _, _, _⟩) (v := ?_) rfl (by kernel_rfl) (by kernel_rfl) (by kernel_rfl) (by kernel_rfl) (fun _ _ _ h => h) (Or.inl ⟨by rfl, ?_⟩) (HTF.out _ (Keeps.refl _ _).drew) (fun _ => trivial) ?_
      rotate_left
      · intro w' hT
        obtain ⟨t1, t2, t3, t4⟩ := hT
        go_simp
        (try rw [if_pos (by omega)])
        (try with_reducible rfl)
      rotate_left
      (try simp only [Act.put, List.setIfInBounds_toArray, List.set_cons_zero, List.set_cons_succ])
      refine wpKeep_takeT (i := 1) (oi := ⟨some 42, _, _, _, _, _⟩) (v := ?_) rfl (by kernel_rfl) (by kernel_rfl) (by kernel_rfl) (by kernel_rfl) (fun _ _ _ h => h) (Or.inl ⟨by rfl, ?_⟩) (HTF.out _ (Keeps.refl _ _).drew) (fun _ => trivial) ?_
      rotate_left
      · intro w' hT
        obtain ⟨t1, t2, t3, t4⟩ := hT
        go_simp
        (try rw [if_pos (by omega)])
        (try with_reducible rfl)
      rotate_left
      (try simp only [Act.put, List.setIfInBounds_toArray, List.set_cons_zero, List.set_cons_succ])
      refine wpKeep_takeT (i := 2) (oi := ⟨some 43, _, _, _, _, _⟩) (v := ?_) rfl (by kernel_rfl) (by kernel_rfl) (by kernel_rfl) (by kernel_rfl) (fun _ _ _ h => h) (Or.inl ⟨by rfl, ?_⟩) (HTF.out _ (Keeps.refl _ _).drew) (fun _ => trivial) ?_
      rotate_left
      · intro w' hT
        obtain ⟨t1, t2, t3, t4⟩ := hT
        go_simp
        (try rw [if_pos (by omega)])
        (try with_reducible rfl)
      rotate_left
      (try simp only [Act.put, List.setIfInBounds_toArray, List.set_cons_zero, List.set_cons_succ])
      refine wpKeep_takeT (i := 3) (oi := ⟨some 44, _, _, _, _, _⟩) (v := ?_) rfl (by kernel_rfl) (by kernel_rfl) (by kernel_rfl) (by kernel_rfl) (fun _ _ _ h => h) (Or.inl ⟨by rfl, ?_⟩) (HTF.out _ (Keeps.refl _ _).drew) (fun _ => trivial) ?_
      rotate_left
      · intro w' hT
        obtain ⟨t1, t2, t3, t4⟩ := hT
        go_simp
        (try rw [if_pos (by omega)])
        (try with_reducible rfl)
      rotate_left
      (try simp only [Act.put, List.setIfInBounds_toArray, List.set_cons_zero, List.set_cons_succ])
      refine wpKeep_takeT (i := 4) (oi := ⟨some 45, _, _, _, _, _⟩) (v := ?_) rfl (by kernel_rfl) (by kernel_rfl) (by kernel_rfl) (by kernel_rfl) (fun _ _ _ h => h) (Or.inl ⟨by rfl, ?_⟩) (HTF.out _ (Keeps.refl _ _).drew) (fun _ => trivial) ?_
      rotate_left
      · intro w' hT
        obtain ⟨t1, t2, t3, t4⟩ := hT
        go_simp
        (try rw [if_pos (by omega)])
        (try with_reducible rfl)
      rotate_left
      (try simp only [Act.put, List.setIfInBounds_toArray, List.set_cons_zero, List.set_cons_succ])
      refine wpKeep_takeT (i := 5) (oi := ⟨some 46, _, _, _, _, _⟩) (v := ?_) rfl (by kernel_rfl) (by kernel_rfl) (by kernel_rfl) (by kernel_rfl) (fun _ _ _ h => h) (Or.inl ⟨by rfl, ?_⟩) (HTF.out _ (Keeps.refl _ _).drew) (fun _ => trivial) ?_
      rotate_left
      · intro w' hT
        obtain ⟨t1, t2, t3, t4⟩ := hT
        go_simp
        (try rw [if_pos (by omega)])
        (try with_reducible rfl)
      rotate_left
      (try simp only [Act.put, List.setIfInBounds_toArray, List.set_cons_zero, List.set_cons_succ])
      refine wpKeep_takeT (i := 6) (oi := ⟨some 47, _, _, _, _, _⟩) (v := ?_) rfl (by kernel_rfl) (by kernel_rfl) (by kernel_rfl) (by kernel_rfl) (fun _ _ _ h => h) (Or.inl ⟨by rfl, ?_⟩) (HTF.out _ (Keeps.refl _ _).drew) (fun _ => trivial) ?_
      rotate_left
      · intro w' hT
        obtain ⟨t1, t2, t3, t4⟩ := hT
        go_simp
        (try rw [if_pos (by omega)])
        (try with_reducible rfl)
      rotate_left
      (try simp only [Act.put, List.setIfInBounds_toArray, List.set_cons_zero, List.set_cons_succ])
      refine wpKeep_takeT (i := 7) (oi := ⟨some 48, _, _, _, _, _⟩) (v := ?_) rfl (by kernel_rfl) (by kernel_rfl) (by kernel_rfl) (by kernel_rfl) (fun _ _ _ h => h) (Or.inl ⟨by rfl, ?_⟩) (HTF.out _ (Keeps.refl _ _).drew) (fun _ => trivial) ?_
      rotate_left
      · intro w' hT
        obtain ⟨t1, t2, t3, t4⟩ := hT
        go_simp
        (try rw [if_pos (by omega)])
        (try with_reducible rfl)
      rotate_left
      (try simp only [Act.put, List.setIfInBounds_toArray, List.set_cons_zero, List.set_cons_succ])
      refine wpKeep_takeT (i := 8) (oi := ⟨some 49, _, _, _, _, _⟩) (v := ?_) rfl (by kernel_rfl) (by kernel_rfl) (by kernel_rfl) (by kernel_rfl) (fun _ _ _ h => h) (Or.inl ⟨by rfl, ?_⟩) (HTF.out _ (Keeps.refl _ _).drew) (fun _ => trivial) ?_
      rotate_left
      · intro w' hT
        obtain ⟨t1, t2, t3, t4⟩ := hT
        go_simp
        (try rw [if_pos (by omega)])
        (try with_reducible rfl)
      rotate_left
      (try simp only [Act.put, List.setIfInBounds_toArray, List.set_cons_zero, List.set_cons_succ])
      refine wpKeep_takeT (i := 9) (oi := ⟨some 50, _, _, _, _, _⟩) (v := ?_) rfl (by kernel_rfl) (by kernel_rfl) (by kernel_rfl) (by kernel_rfl) (fun _ _ _ h => h) (Or.inl ⟨by rfl, ?_⟩) (HTF.out _ (Keeps.refl _ _).drew) (fun _ => trivial) ?_
      rotate_left
      · intro w' hT
        obtain ⟨t1, t2, t3, t4⟩ := hT
        go_simp
        (try rw [if_pos (by omega)])
        (try with_reducible rfl)
      rotate_left
      (try simp only [Act.put, List.setIfInBounds_toArray, List.set_cons_zero, List.set_cons_succ])
      refine wpKeep_takeT (i := 10) (oi := ⟨some 51, _, _, _, _, _⟩) (v := ?_) rfl (by kernel_rfl) (by kernel_rfl) (by kernel_rfl) (by kernel_rfl) (fun _ _ _ h => h) (Or.inl ⟨by rfl, ?_⟩) (HTF.out _ (Keeps.refl _ _).drew) (fun _ => trivial) ?_
      rotate_left
      · intro w' hT
        obtain ⟨t1, t2, t3, t4⟩ := hT
        go_simp
        (try rw [if_pos (by omega)])
        (try with_reducible rfl)
      rotate_left
      (try simp only [Act.put, List.setIfInBounds_toArray, List.set_cons_zero, List.set_cons_succ])
      refine wpKeep_ready (rs := [11, 14]) (by kernel_rfl) (by simp) ?_
      refine AllKeep.cons (o := ⟨some 52, _, _, _, _, _⟩) rfl (fun Kq hK => ?_) (AllKeep.cons (o := ⟨some 7, _, _, _, _, _⟩) rfl (fun Kq hK => ?_) AllKeep.nil)
      · as_aux_lemma =>
        go_simp
        go_at_call 9
        refine (HPK.out _).mono ?_
        rintro e _ ⟨rfl, rfl⟩
        refine hK.out _ _ (HTF.out _ (Keeps.refl _ _).drew) (fun _ => trivial) ?_
        clear hK Kq
        (try simp only [Act.put, List.setIfInBounds_toArray, List.set_cons_zero, List.set_cons_succ])
        refine wpKeep_takeT (i := 12) (oi := ⟨some 53, _, _, _, _, _⟩) (v := ?_) rfl (by kernel_rfl) (by kernel_rfl) (by kernel_rfl) (by kernel_rfl) (fun _ _ _ h => h) (Or.inl ⟨by rfl, ?_⟩) (HTF.out _ (Keeps.refl _ _).drew) (fun _ => trivial) ?_
        rotate_left
        · intro w' hT
          obtain ⟨t1, t2, t3, t4⟩ := hT
          go_simp
          (try rw [if_pos (by omega)])
          (try with_reducible rfl)
        rotate_left
        (try simp only [Act.put, List.setIfInBounds_toArray, List.set_cons_zero, List.set_cons_succ])
        refine wpKeep_takeT (i := 13) (oi := ⟨some 54, _, _, _, _, _⟩) (v := ?_) rfl (by kernel_rfl) (by kernel_rfl) (by kernel_rfl) (by kernel_rfl) (fun _ _ _ h => h) (Or.inl ⟨by rfl, ?_⟩) (HTF.out _ (Keeps.refl _ _).drew) (fun _ => trivial) ?_
        rotate_left
        · intro w' hT
          obtain ⟨t1, t2, t3, t4⟩ := hT
          go_simp
          (try rw [if_pos (by omega)])
          (try with_reducible rfl)
        rotate_left
        (try simp only [Act.put, List.setIfInBounds_toArray, List.set_cons_zero, List.set_cons_succ])
        refine wpKeep_ready (rs := [14]) (by kernel_rfl) (by simp) ?_
        refine AllKeep.cons (o := ⟨some 7, _, _, _, _, _⟩) rfl (fun Kq hK => ?_) AllKeep.nil
        go_simp
        refine hK.out _ _ (HTF.out _ ((Keeps.refl _ _).drew.alloc _)) (fun _ => trivial) ?_
        clear hK Kq
        (try simp only [Act.put, List.setIfInBounds_toArray, List.set_cons_zero, List.set_cons_succ])
        refine wpKeep_ready (rs := [15]) (by kernel_rfl) (by simp) ?_
        refine AllKeep.cons (o := ⟨none, _, _, _, _, _⟩) rfl (fun Kq hK => ?_) AllKeep.nil
        go_simp
        refine hK.out _ _ (HTF.out _ ((Keeps.refl _ _).drew.alloc _)) (fun _ => trivial) ?_
        clear hK Kq
        (try simp only [Act.put, List.setIfInBounds_toArray, List.set_cons_zero, List.set_cons_succ])
        refine wpKeep_done (by kernel_rfl) ?_ _
        go_wp2
        go_meet
        exact ⟨rfl, heap_at_alloc rfl, (Keeps.refl _ _).drew.alloc _⟩
      · as_aux_lemma =>
        go_simp
        refine hK.out _ _ (HTF.out _ ((Keeps.refl _ _).drew.alloc _)) (fun _ => trivial) ?_
        clear hK Kq
        (try simp only [Act.put, List.setIfInBounds_toArray, List.set_cons_zero, List.set_cons_succ])
        refine wpKeep_ready (rs := [11]) (by kernel_rfl) (by simp) ?_
        refine AllKeep.cons (o := ⟨some 52, _, _, _, _, _⟩) rfl (fun Kq hK => ?_) AllKeep.nil
        go_simp
        go_at_call 9
        refine (HPK.out _).mono ?_
        rintro e _ ⟨rfl, rfl⟩
        refine hK.out _ _ (HTF.out _ ((Keeps.refl _ _).drew.alloc _)) (fun _ => trivial) ?_
        clear hK Kq
        (try simp only [Act.put, List.setIfInBounds_toArray, List.set_cons_zero, List.set_cons_succ])
        refine wpKeep_takeT (i := 12) (oi := ⟨some 53, _, _, _, _, _⟩) (v := ?_) rfl (by kernel_rfl) (by kernel_rfl) (by kernel_rfl) (by kernel_rfl) (fun _ _ _ h => h) (Or.inl ⟨by rfl, ?_⟩) (HTF.out _ ((Keeps.refl _ _).drew.alloc _)) (fun _ => trivial) ?_
        rotate_left
        · intro w' hT
          obtain ⟨t1, t2, t3, t4⟩ := hT
          go_simp
          (try rw [if_pos (by omega)])
          (try with_reducible rfl)
        rotate_left
        (try simp only [Act.put, List.setIfInBounds_toArray, List.set_cons_zero, List.set_cons_succ])
        refine wpKeep_takeT (i := 13) (oi := ⟨some 54, _, _, _, _, _⟩) (v := ?_) rfl (by kernel_rfl) (by kernel_rfl) (by kernel_rfl) (by kernel_rfl) (fun _ _ _ h => h) (Or.inl ⟨by rfl, ?_⟩) (HTF.out _ ((Keeps.refl _ _).drew.alloc _)) (fun _ => trivial) ?_
        rotate_left
        · intro w' hT
          obtain ⟨t1, t2, t3, t4⟩ := hT
          go_simp
          (try rw [if_pos (by omega)])
          (try with_reducible rfl)
        rotate_left
        (try simp only [Act.put, List.setIfInBounds_toArray, List.set_cons_zero, List.set_cons_succ])
        refine wpKeep_ready (rs := [15]) (by kernel_rfl) (by simp) ?_
        refine AllKeep.cons (o := ⟨none, _, _, _, _, _⟩) rfl (fun Kq hK => ?_) AllKeep.nil
        go_simp
        refine hK.out _ _ (HTF.out _ ((Keeps.refl _ _).drew.alloc _)) (fun _ => trivial) ?_
        clear hK Kq
        (try simp only [Act.put, List.setIfInBounds_toArray, List.set_cons_zero, List.set_cons_succ])
        refine wpKeep_done (by kernel_rfl) ?_ _
        go_wp2
        go_meet
        exact ⟨rfl, heap_at_alloc rfl, (Keeps.refl _ _).drew.alloc _⟩
    case rest =>
      as_aux_lemma =>
      obtain ⟨rfl, hsb, f3⟩ := hcut
      obtain ⟨W4, rfl⟩ : ∃ W4, W4 = wc := ⟨_, rfl⟩
      have F4 := hid (F2.out.trans f3)
      have H4 := hid (H2.out.fresh f3)
      have hxb4 := f3.at_ HB2.out (fun h => h)
      have hcx : c xb = 0 := H.out.unborn xb (by rw [HXB.out]; exact Nat.le_refl _)
      have hcs : c w2.heap.size = 0 := H.out.unborn _ F2.out.size
      obtain ⟨sb, hsbn⟩ : ∃ sb, w2.heap.size = sb := ⟨_, rfl⟩
      rw [hsbn] at hsb hcs ⊢
      have HPB : Hid (∀ (S : Nat → Prop) (W : World), Keeps S W4 W → (∀ g, S g → g < W4.heap.size → c g ≠ 0) → W.cell? ⟨xb, 0, none⟩ = some (.int .i64 7) ∧ W.cell? ⟨xb, 2, none⟩ = some (.int .i64 m) ∧ W.cell? ⟨xb, 3, none⟩ = some (.string (str s)) ∧ W.cell? ⟨xb, 4, none⟩ = some (.slice ko ks.length kc) ∧ W.cell? ⟨sb, 0, none⟩ = some (.pointer (some ⟨d, 0, none⟩)) ∧ W.cell? ⟨sb, 1, none⟩ = some (.pointer (some ⟨x, 0, none⟩))) := fun S W k hS => by
        have b1 := k.at_ hxb4 (fun e => hS _ e (lt_of_block hxb4) hcx)
        have b2 := k.at_ hsb (fun e => hS _ e (lt_of_block hsb) hcs)
        exact ⟨(cell_at b1 0).trans rfl, (cell_at b1 2).trans rfl, (cell_at b1 3).trans rfl, (cell_at b1 4).trans rfl, (cell_at b2 0).trans rfl, (cell_at b2 1).trans rfl⟩
      have HDV := hid (H4.out.vw.dev i (d, x) HSS.out)
      have HRF := hid (H4.out.vw.ref i (d, x) HSS.out)
      have HOK := hid (H4.out.vw.okd i hi2)
      have HKB := hid (F4.out.mono (S' := fun q => B ≤ q) fun _ _ h => h.elim)
      obtain ⟨x0, x2, x3, x4, s0, s1⟩ := HPB.out (fun _ => False) W4 (Keeps.refl _ _) (fun _ h => h.elim)
      clear hsb f3 hxb4 hcx hcs hsbn HTF HPK hgs F2 H2 HB2 HF1 H HXB
      have HR := hid fun W (g : Fresh W4 W) => dpages _ d n (f i) W (HDV.out.fresh g) HOK.out
      have HX := hid fun W (g : Fresh W4 W) => xpages _ x (f i) W (HRF.out.fresh g) HOK.out
      have hfresh := H4.out.unborn
      have HUN := hid hfresh
      have hsz := H4.out.size
      obtain ⟨pl, hpl⟩ : ∃ pl, (f i).l = pl := ⟨_, rfl⟩
      rw [hpl] at HR HX
      have hpll : pl.length ≤ 4096 := by
        rw [← hpl]
        exact HOK.out.ll
      clear hpl hfresh
      go_wp2_with fail
      refine (HR.out _ (Keeps.refl _ _)).mono ?_
      rintro e w5 ⟨va, ya, rfl, ca, ⟨ra, na⟩, f5⟩
      have F5 := hid f5
      obtain ⟨y0, y2, y3, y4, t0, t1⟩ := HPB.out _ w5 f5 (fun _ h => h.elim)
      clear x0 x2 x3 x4 s0 s1 f5
      go_wp2_with fail
      refine (HR.out _ F5.out).mono ?_
      rintro e w6 ⟨vb, yb, rfl, cb, ⟨rb, nb⟩, f6⟩
      have F6 := hid (F5.out.trans f6)
      have ra6 := ownsRow_keeps ra f6 (fun _ _ h => h)
      have na2 : ∀ g, ya.ownBlock = some g → g < w5.heap.size := fun g hg => (ra.lt g hg).2
      have s65 := f6.size
      obtain ⟨x0, x2, x3, x4, s0, s1⟩ := HPB.out _ w6 F6.out (fun _ h => h.elim)
      clear y0 y2 y3 y4 t0 t1 f6 ra HR
      go_wp2_with fail
      refine (HX.out _ F6.out).mono ?_
      rintro e w7 ⟨vx, rfl, ⟨rx, nx⟩, f7⟩
      have F7 := hid (F6.out.trans f7)
      have ra7 := ownsRow_keeps ra6 f7 (fun _ _ h => h)
      have rb7 := ownsRow_keeps rb f7 (fun _ _ h => h)
      clear x0 x2 x3 x4 s0 s1 ra6 f7
      have nb2 : ∀ g, yb.ownBlock = some g → g < w6.heap.size := fun g hg => (rb.lt g hg).2
      clear rb
      obtain ⟨xo, xc, rfl⟩ := ownsRow_slice rx
      have HSAME := hid (same_same _ _ pl w7 ya _ ca Clip.same ra7 rx (by omega))
      go_wp2_with fail
      refine HSAME.out.mono ?_
      rintro e w8 ⟨rfl, f8⟩
      have F8 := hid (F7.out.trans f8)
      obtain ⟨x0, x2, x3, x4, s0, s1⟩ := HPB.out _ w8 F8.out (fun _ h => h.elim)
      have ra8 := ownsRow_keeps ra7 f8 (fun _ _ h => h)
      have rb8 := ownsRow_keeps rb7 f8 (fun _ _ h => h)
      clear HSAME f8 ra7 rb7 rx nx
      go_wp2_with fail
      refine (HX.out _ F8.out).mono ?_
      rintro e w9 ⟨vx, rfl, ⟨rx, nx⟩, f9⟩
      have F9 := hid (F8.out.trans f9)
      have ra9 := ownsRow_keeps ra8 f9 (fun _ _ h => h)
      have rb9 := ownsRow_keeps rb8 f9 (fun _ _ h => h)
      clear x0 x2 x3 x4 s0 s1 ra8 rb8 f9 HX
      obtain ⟨xo2, xc2, rfl⟩ := ownsRow_slice rx
      have HSAME := hid (same_same _ _ pl w9 yb _ cb Clip.same rb9 rx (by omega))
      go_wp2_with fail
      refine HSAME.out.mono ?_
      rintro e w10 ⟨rfl, f10⟩
      have F10 := hid (F9.out.trans f10)
      have h10 := H4.out.fresh F10.out
      have ra10 := ownsRow_keeps ra9 f10 (fun _ _ h => h)
      have rb10 := ownsRow_keeps rb9 f10 (fun _ _ h => h)
      have hva := fun g hg => (⟨by have := na g hg; omega, HUN.out g (by have := na g hg; omega)⟩ : B ≤ g ∧ c g = 0)
      have HOUT := hid (pages_w B ob n N c w10 v f f va ya pl h10 (by omega) ca ra10 hva hpll)
      have HH := hid (And.intro h10 (And.intro rb10 (HKB.out.trans (F10.out.mono fun _ _ h => h.elim))))
      have s10 := (F10.out.size)
      have s910 := F10.out.size
      clear HSAME f10 ra9 rb9 rx nx ra10 rb10 h10 hva
      go_wp2_with fail
      refine HOUT.out.mono ?_
      rintro e w11 ⟨rfl, c11, v11, hd11, k11, hc11⟩
      have kB11 : Keeps (fun q => B ≤ q) w10 w11 := HH.out.1.owns k11 fun g e _ => by omega
      have hnbB : ∀ g, yb.ownBlock = some g → B ≤ g ∧ c g = 0 ∧ g < w10.heap.size ∧ ya.ownBlock ≠ some g := fun g hg => by
        have q1 := nb g hg
        have q2 := (HH.out.2.1.lt g hg).2
        refine ⟨by have := F5.out.size; omega, HUN.out g (by have := F5.out.size; omega), q2, fun e => ?_⟩
        have := na2 g e
        omega
      have rb11 := ownsRow_keeps HH.out.2.1 k11 (fun g hg e => by have := (hnbB g hg).2.1; omega)
      have hvb := fun g hg => (⟨(hnbB g hg).1, by rw [hc11 g (hnbB g hg).2.2.1 (hnbB g hg).2.2.2]; exact (hnbB g hg).2.1⟩ : B ≤ g ∧ c11 g = 0)
      have HOUT2 := hid (pages_w B ob n (N + 1) c11 w11 v11 f f vb yb pl hd11 (by omega) cb rb11 hvb hpll)
      have HH2 := hid (And.intro hd11 (HH.out.2.2.trans kB11))
      clear hd11 k11 hc11 kB11 hnbB rb11 hvb HOUT
      go_wp2_with fail
      refine HOUT2.out.mono ?_
      rintro e w12 ⟨rfl, c12, v12, hd12, k12, hc12⟩
      have HA := hid (And.intro (show Aft B w12 ob (n + 1) (N + 2) from ⟨c12, v12, f, hd12.more (Nat.le_succ _) (Nat.le_refl _)⟩) (HH2.out.2.trans (HH2.out.1.owns k12 fun g e _ => by omega)))
      clear hd12 k12 hc12 HOUT2
      go_wp2_with fail
      go_ret
      exact ⟨by first | rfl | simp, HA.out.1, HA.out.2⟩
end Go.Proofs.Ytbhienlalpbflaa

namespace Go.Proofs.Ytbhienlalpbflaa
open Go.RowKit Go.Maps

set_option maxRecDepth 100000 in
set_option maxHeartbeats 8000000 in
theorem play_crash (B ob n N : Nat) (c : Nat → Nat) (w : World) (v : WV) (f : Nat → St) (h : DW B c w ob v f f n N) (on m : Int) (s : List UInt8) (ko : Option Addr) (kc : Nat) (ks : List (Int × Int)) (hp : PlayIn B n N w on m s ko kc ks) :
    Calls Try.prog 18 #[.pointer (some ⟨ob, 0, none⟩), opV 8 on m s (.slice ko ks.length kc)] w fun e w' => e = .returned (.bool true) ∧ Aft B w' ob (n + 1) (N + 2) ∧ Keeps (fun q => B ≤ q) w w' := by
  obtain ⟨hn, hN, hks, hkB, hkl, hkw, hon, hon2, hm, hm2, hs⟩ := hp
  obtain ⟨al, cl, elv⟩ := ownsRow_slice h.vw.row
  obtain ⟨w1, hw1⟩ : ∃ w1, w.alloc (.cells #[.int .i64 8, .int .i64 on, .int .i64 m, .string (str s), .slice ko ks.length kc] 51) = w1 := ⟨_, rfl⟩
  have f1 : Fresh w w1 := by rw [← hw1]; exact (Keeps.refl _ _).alloc _
  have hb1 : w1.heap[w.heap.size]? = some (.cells #[.int .i64 8, .int .i64 on, .int .i64 m, .string (str s), .slice ko ks.length kc] 51 (0, 0)) := by rw [← hw1]; exact heap_alloc_new w _
  obtain ⟨xb, hxb⟩ : ∃ xb, w.heap.size = xb := ⟨_, rfl⟩
  rw [hxb] at hb1
  have HMK := hid fun W => makes_other ob W 8 on m s ko ks.length kc (by first | decide | assumption) (by first | decide | assumption)
  have x0 : w1.cell? ⟨xb, 0, none⟩ = some (.int .i64 8) := (cell_at hb1 0).trans rfl
  have x1 : w1.cell? ⟨xb, 1, none⟩ = some (.int .i64 on) := (cell_at hb1 1).trans rfl
  have x2 : w1.cell? ⟨xb, 2, none⟩ = some (.int .i64 m) := (cell_at hb1 2).trans rfl
  have x3 : w1.cell? ⟨xb, 3, none⟩ = some (.string (str s)) := (cell_at hb1 3).trans rfl
  have x4 : w1.cell? ⟨xb, 4, none⟩ = some (.slice ko ks.length kc) := (cell_at hb1 4).trans rfl
  have H := hid h
  have HF1 := hid f1
  have HB1 := hid hb1
  have HKS := hid hks
  have HXB := hid hxb
  clear h f1 hb1 hks
  unfold opV
  go_enter Try.func18, Try.ntmps18
  go_wp2_with fail
  (try rw [hw1])
  (try rw [hxb])
  clear hw1 hxb
  refine (HMK.out _).mono ?_
  rintro e w2 ⟨rfl, f2⟩
  have F2 := hid (HF1.out.trans f2)
  have H2 := hid (H.out.fresh F2.out)
  have hb2 := f2.at_ HB1.out (fun h => h)
  have HB2 := hid hb2
  have c0 := (cell_at H2.out.box 0).trans (show _ = some (Value.slice al v.ss.length cl) from congrArg some elv)
  clear f2 hb2 x0 x1 x2 x3 x4 HMK HB1
  by_cases h0 : v.ss.length = 0
  · have h0I : (v.ss.length : Int) = 0 := by omega
    have h0n : ((v.ss.length : Int) == 0) = true := by simp [h0]
    have HA := hid (And.intro (show Aft B w2 ob (n + 1) (N + 2) from ⟨_, _, _, H2.out.more (Nat.le_succ _) (by omega)⟩) (F2.out.mono (S' := fun q => B ≤ q) fun _ _ h => h.elim))
    go_wp2_with fail
    go_ret
    exact ⟨by first | rfl | simp, HA.out.1, HA.out.2⟩
  · have h0I : ¬ (v.ss.length : Int) = 0 := by omega
    have h0n : ((v.ss.length : Int) == 0) = false := by simp [h0]
    obtain ⟨i, hi, hi2⟩ := picked on v.ss.length (by omega)
    obtain ⟨⟨d, x⟩, hss⟩ : ∃ y, v.ss[i]? = some y := ⟨v.ss[i], by simp⟩
    have hfew := H2.out.vw.few
    have HPK := hid fun W => pick_any on v.ss.length W (by omega) (by omega) hon hon2
    rw [hi] at HPK
    have hrow2 : w2.ownsRow 0 53 2 (.slice al v.ss.length cl) v.ss.length (sideCells v.ss) := by rw [← elv]; exact H2.out.vw.row
    obtain ⟨gs, eal, hgs, hgc⟩ := ownsRow_cells hrow2 (by omega)
    subst eal
    obtain ⟨g0, g1⟩ := sideCells_at v.ss i (d, x) hss
    have g0 := hgc _ _ g0
    have g1 := hgc _ _ g1
    have o1 := (cell_at HB2.out 1).trans (show _ = some (Value.int .i64 on) from rfl)
    have HTF : Hid (∀ W, Fresh w2 W → W.cell? ⟨ob, 0, none⟩ = some (.slice (some ⟨gs, 0, none⟩) v.ss.length cl) ∧ W.cell? ⟨xb, 1, none⟩ = some (.int .i64 on) ∧ W.cell? ⟨gs, i * 2, none⟩ = some (.pointer (some ⟨d, 0, none⟩)) ∧ W.cell? ⟨gs, i * 2 + 1, none⟩ = some (.pointer (some ⟨x, 0, none⟩))) := fun W f =>
      ⟨(f.cell (p := ⟨ob, 0, none⟩) (lt_of_block H2.out.box) (fun h => h)).trans c0, (f.cell (p := ⟨xb, 1, none⟩) (lt_of_block HB2.out) (fun h => h)).trans o1, (f.cell (p := ⟨gs, i * 2, none⟩) hgs (fun h => h)).trans g0, (f.cell (p := ⟨gs, i * 2 + 1, none⟩) hgs (fun h => h)).trans g1⟩
    have hi5 : i < 5 := by omega
    have hiI : (i : Int) < (v.ss.length : Int) := by omega
    have hi0 : (0 : Int) ≤ (i : Int) := by omega
    have HSS := hid hss
    clear hrow2 hgc g0 g1 o1 hss hi
    go_wp2_with fail
    clear c0
    go_cut [7] (fun s7 wx => s7 = .pointer (some ⟨w2.heap.size, 0, none⟩) ∧ wx.heap[w2.heap.size]? = some (.cells #[.pointer (some ⟨d, 0, none⟩), .pointer (some ⟨x, 0, none⟩)] 53 (0, 0)) ∧ Fresh w2 wx)
    case first =>
      refine wp_region_keep 16 (fun w' => w'.cell? ⟨ob, 0, none⟩ = some (.slice (some ⟨gs, 0, none⟩) v.ss.length cl) ∧ w'.cell? ⟨xb, 1, none⟩ = some (.int .i64 on) ∧ w'.cell? ⟨gs, i * 2, none⟩ = some (.pointer (some ⟨d, 0, none⟩)) ∧ w'.cell? ⟨gs, i * 2 + 1, none⟩ = some (.pointer (some ⟨x, 0, none⟩))) (fun _ => True) (fun _ => true) (by kernel_rfl) (by kernel_rfl) ?_
      (try (change wpKeep _ _ _ _ _ _ _ _ _ _ (World.drew _)))
      refine wpKeep_takeT (i := 0) (oi := ⟨some 41, _, _, _, _, _⟩) (v := ?_) rfl (by kernel_rfl) (by kernel_rfl) (by kernel_rfl) (by kernel_rfl) (fun _ _ _ h => h) (Or.inl ⟨by rfl, ?_⟩) (HTF.out _ (Keeps.refl _ _).drew) (fun _ => trivial) ?_
      rotate_left
      · intro w' hT
        obtain ⟨t1, t2, t3, t4⟩ := hT
        go_simp
        (try rw [if_pos (by omega)])
        (try with_reducible rfl)
      rotate_left
      (try simp only [Act.put, List.setIfInBounds_toArray, List.set_cons_zero, List.set_cons_succ])
      refine wpKeep_takeT (i := 1) (oi := ⟨some 42, _, _, _, _, _⟩) (v := ?_) rfl (by kernel_rfl) (by kernel_rfl) (by kernel_rfl) (by kernel_rfl) (fun _ _ _ h => h) (Or.inl ⟨by rfl, ?_⟩) (HTF.out _ (Keeps.refl _ _).drew) (fun _ => trivial) ?_
      rotate_left
      · intro w' hT
        obtain ⟨t1, t2, t3, t4⟩ := hT
        go_simp
        (try rw [if_pos (by omega)])
        (try with_reducible rfl)
      rotate_left
      (try simp only [Act.put, List.setIfInBounds_toArray, List.set_cons_zero, List.set_cons_succ])
      refine wpKeep_takeT (i := 2) (oi := ⟨some 43, _, _, _, _, _⟩) (v := ?_) rfl (by kernel_rfl) (by kernel_rfl) (by kernel_rfl) (by kernel_rfl) (fun _ _ _ h => h) (Or.inl ⟨by rfl, ?_⟩) (HTF.out _ (Keeps.refl _ _).drew) (fun _ => trivial) ?_
      rotate_left
      · intro w' hT
        obtain ⟨t1, t2, t3, t4⟩ := hT
        go_simp
        (try rw [if_pos (by omega)])
        (try with_reducible rfl)
      rotate_left
      (try simp only [Act.put, List.setIfInBounds_toArray, List.set_cons_zero, List.set_cons_succ])
      refine wpKeep_takeT (i := 3) (oi := ⟨some 44, _, _, _, _, _⟩) (v := ?_) rfl (by kernel_rfl) (by kernel_rfl) (by kernel_rfl) (by kernel_rfl) (fun _ _ _ h => h) (Or.inl ⟨by rfl, ?_⟩) (HTF.out _ (Keeps.refl _ _).drew) (fun _ => trivial) ?_
      rotate_left
      · intro w' hT
        obtain ⟨t1, t2, t3, t4⟩ := hT
        go_simp
        (try rw [if_pos (by omega)])
        (try with_reducible rfl)
      rotate_left
      (try simp only [Act.put, List.setIfInBounds_toArray, List.set_cons_zero, List.set_cons_succ])
      refine wpKeep_takeT (i := 4) (oi := ⟨some 45, _, _, _, _, _⟩) (v := ?_) rfl (by kernel_rfl) (by kernel_rfl) (by kernel_rfl) (by kernel_rfl) (fun _ _ _ h => h) (Or.inl ⟨by rfl, ?_⟩) (HTF.out _ (Keeps.refl _ _).drew) (fun _ => trivial) ?_
      rotate_left
      · intro w' hT
        obtain ⟨t1, t2, t3, t4⟩ := hT
        go_simp
        (try rw [if_pos (by omega)])
        (try with_reducible rfl)
      rotate_left
      (try simp only [Act.put, List.setIfInBounds_toArray, List.set_cons_zero, List.set_cons_succ])
      refine wpKeep_takeT (i := 5) (oi := ⟨some 46, _, _, _, _, _⟩) (v := ?_) rfl (by kernel_rfl) (by kernel_rfl) (by kernel_rfl) (by kernel_rfl) (fun _ _ _ h => h) (Or.inl ⟨by rfl, ?_⟩) (HTF.out _ (Keeps.refl _ _).drew) (fun _ => trivial) ?_
      rotate_left
      · intro w' hT
        obtain ⟨t1, t2, t3, t4⟩ := hT
        go_simp
        (try rw [if_pos (by omega)])
        (try with_reducible rfl)
      rotate_left
      (try simp only [Act.put, List.setIfInBounds_toArray, List.set_cons_zero, List.set_cons_succ])
      refine wpKeep_takeT (i := 6) (oi := ⟨some 47, _, _, _, _, _⟩) (v := ?_) rfl (by kernel_rfl) (by kernel_rfl) (by kernel_rfl) (by kernel_rfl) (fun _ _ _ h => h) (Or.inl ⟨by rfl, ?_⟩) (HTF.out _ (Keeps.refl _ _).drew) (fun _ => trivial) ?_
      rotate_left
      · intro w' hT
        obtain ⟨t1, t2, t3, t4⟩ := hT
        go_simp
        (try rw [if_pos (by omega)])
        (try with_reducible rfl)
      rotate_left
      (try simp only [Act.put, List.setIfInBounds_toArray, List.set_cons_zero, List.set_cons_succ])
      refine wpKeep_takeT (i := 7) (oi := ⟨some 48, _, _, _, _, _⟩) (v := ?_) rfl (by kernel_rfl) (by kernel_rfl) (by kernel_rfl) (by kernel_rfl) (fun _ _ _ h => h) (Or.inl ⟨by rfl, ?_⟩) (HTF.out _ (Keeps.refl _ _).drew) (fun _ => trivial) ?_
      rotate_left
      · intro w' hT
        obtain ⟨t1, t2, t3, t4⟩ := hT
        go_simp
        (try rw [if_pos (by omega)])
        (try with_reducible rfl)
      rotate_left
      (try simp only [Act.put, List.setIfInBounds_toArray, List.set_cons_zero, List.set_cons_succ])
      refine wpKeep_takeT (i := 8) (oi := ⟨some 49, _, _, _, _, _⟩) (v := ?_) rfl (by kernel_rfl) (by kernel_rfl) (by kernel_rfl) (by kernel_rfl) (fun _ _ _ h => h) (Or.inl ⟨by rfl, ?_⟩) (HTF.out _ (Keeps.refl _ _).drew) (fun _ => trivial) ?_
      rotate_left
      · intro w' hT
        obtain ⟨t1, t2, t3, t4⟩ := hT
        go_simp
        (try rw [if_pos (by omega)])
        (try with_reducible rfl)
      rotate_left
      (try simp only [Act.put, List.setIfInBounds_toArray, List.set_cons_zero, List.set_cons_succ])
      refine wpKeep_takeT (i := 9) (oi := ⟨some 50, _, _, _, _, _⟩) (v := ?_) rfl (by kernel_rfl) (by kernel_rfl) (by kernel_rfl) (by kernel_rfl) (fun _ _ _ h => h) (Or.inl ⟨by rfl, ?_⟩) (HTF.out _ (Keeps.refl _ _).drew) (fun _ => trivial) ?_
      rotate_left
      · intro w' hT
        obtain ⟨t1, t2, t3, t4⟩ := hT
        go_simp
        (try rw [if_pos (by omega)])
        (try with_reducible rfl)
      rotate_left
      (try simp only [Act.put, List.setIfInBounds_toArray, List.set_cons_zero, List.set_cons_succ])
      refine wpKeep_takeT (i := 10) (oi := ⟨some 51, _, _, _, _, _⟩) (v := ?_) rfl (by kernel_rfl) (by kernel_rfl) (by kernel_rfl) (by kernel_rfl) (fun _ _ _ h => h) (Or.inl ⟨by rfl, ?_⟩) (HTF.out _ (Keeps.refl _ _).drew) (fun _ => trivial) ?_
      rotate_left
      · intro w' hT
        obtain ⟨t1, t2, t3, t4⟩ := hT
        go_simp
        (try rw [if_pos (by omega)])
        (try with_reducible rfl)
      rotate_left
      (try simp only [Act.put, List.setIfInBounds_toArray, List.set_cons_zero, List.set_cons_succ])
      refine wpKeep_ready (rs := [11, 14]) (by kernel_rfl) (by simp) ?_
      refine AllKeep.cons (o := ⟨some 52, _, _, _, _, _⟩) rfl (fun Kq hK => ?_) (AllKeep.cons (o := ⟨some 7, _, _, _, _, _⟩) rfl (fun Kq hK => ?_) AllKeep.nil)
      · as_aux_lemma =>
        go_simp
        go_at_call 9
        refine (HPK.out _).mono ?_
        rintro e _ ⟨rfl, rfl⟩
        refine hK.out _ _ (HTF.out _ (Keeps.refl _ _).drew) (fun _ => trivial) ?_
        clear hK Kq
        (try simp only [Act.put, List.setIfInBounds_toArray, List.set_cons_zero, List.set_cons_succ])
        refine wpKeep_takeT (i := 12) (oi := ⟨some 53, _, _, _, _, _⟩) (v := ?_) rfl (by kernel_rfl) (by kernel_rfl) (by kernel_rfl) (by kernel_rfl) (fun _ _ _ h => h) (Or.inl ⟨by rfl, ?_⟩) (HTF.out _ (Keeps.refl _ _).drew) (fun _ => trivial) ?_
        rotate_left
        · intro w' hT
          obtain ⟨t1, t2, t3, t4⟩ := hT
          go_simp
          (try rw [if_pos (by omega)])
          (try with_reducible rfl)
        rotate_left
        (try simp only [Act.put, List.setIfInBounds_toArray, List.set_cons_zero, List.set_cons_succ])
        refine wpKeep_takeT (i := 13) (oi := ⟨some 54, _, _, _, _, _⟩) (v := ?_) rfl (by kernel_rfl) (by kernel_rfl) (by kernel_rfl) (by kernel_rfl) (fun _ _ _ h => h) (Or.inl ⟨by rfl, ?_⟩) (HTF.out _ (Keeps.refl _ _).drew) (fun _ => trivial) ?_
        rotate_left
        · intro w' hT
          obtain ⟨t1, t2, t3, t4⟩ := hT
          go_simp
          (try rw [if_pos (by omega)])
          (try with_reducible rfl)
        rotate_left
        (try simp only [Act.put, List.setIfInBounds_toArray, List.set_cons_zero, List.set_cons_succ])
        refine wpKeep_ready (rs := [14]) (by kernel_rfl) (by simp) ?_
        refine AllKeep.cons (o := ⟨some 7, _, _, _, _, _⟩) rfl (fun Kq hK => ?_) AllKeep.nil
        go_simp
        refine hK.out _ _ (HTF.out _ ((Keeps.refl _ _).drew.alloc _)) (fun _ => trivial) ?_
        clear hK Kq
        (try simp only [Act.put, List.setIfInBounds_toArray, List.set_cons_zero, List.set_cons_succ])
        refine wpKeep_ready (rs := [15]) (by kernel_rfl) (by simp) ?_
        refine AllKeep.cons (o := ⟨none, _, _, _, _, _⟩) rfl (fun Kq hK => ?_) AllKeep.nil
        go_simp
        refine hK.out _ _ (HTF.out _ ((Keeps.refl _ _).drew.alloc _)) (fun _ => trivial) ?_
        clear hK Kq
        (try simp only [Act.put, List.setIfInBounds_toArray, List.set_cons_zero, List.set_cons_succ])
        refine wpKeep_done (by kernel_rfl) ?_ _
        go_wp2
        go_meet
        exact ⟨rfl, heap_at_alloc rfl, (Keeps.refl _ _).drew.alloc _⟩
      · as_aux_lemma =>
        go_simp
        refine hK.out _ _ (HTF.out _ ((Keeps.refl _ _).drew.alloc _)) (fun _ => trivial) ?_
        clear hK Kq
        (try simp only [Act.put, List.setIfInBounds_toArray, List.set_cons_zero, List.set_cons_succ])
        refine wpKeep_ready (rs := [11]) (by kernel_rfl) (by simp) ?_
        refine AllKeep.cons (o := ⟨some 52, _, _, _, _, _⟩) rfl (fun Kq hK => ?_) AllKeep.nil
        go_simp
        go_at_call 9
        refine (HPK.out _).mono ?_
        rintro e _ ⟨rfl, rfl⟩
        refine hK.out _ _ (HTF.out _ ((Keeps.refl _ _).drew.alloc _)) (fun _ => trivial) ?_
        clear hK Kq
        (try simp only [Act.put, List.setIfInBounds_toArray, List.set_cons_zero, List.set_cons_succ])
        refine wpKeep_takeT (i := 12) (oi := ⟨some 53, _, _, _, _, _⟩) (v := ?_) rfl (by kernel_rfl) (by kernel_rfl) (by kernel_rfl) (by kernel_rfl) (fun _ _ _ h => h) (Or.inl ⟨by rfl, ?_⟩) (HTF.out _ ((Keeps.refl _ _).drew.alloc _)) (fun _ => trivial) ?_
        rotate_left
        · intro w' hT
          obtain ⟨t1, t2, t3, t4⟩ := hT
          go_simp
          (try rw [if_pos (by omega)])
          (try with_reducible rfl)
        rotate_left
        (try simp only [Act.put, List.setIfInBounds_toArray, List.set_cons_zero, List.set_cons_succ])
        refine wpKeep_takeT (i := 13) (oi := ⟨some 54, _, _, _, _, _⟩) (v := ?_) rfl (by kernel_rfl) (by kernel_rfl) (by kernel_rfl) (by kernel_rfl) (fun _ _ _ h => h) (Or.inl ⟨by rfl, ?_⟩) (HTF.out _ ((Keeps.refl _ _).drew.alloc _)) (fun _ => trivial) ?_
        rotate_left
        · intro w' hT
          obtain ⟨t1, t2, t3, t4⟩ := hT
          go_simp
          (try rw [if_pos (by omega)])
          (try with_reducible rfl)
        rotate_left
        (try simp only [Act.put, List.setIfInBounds_toArray, List.set_cons_zero, List.set_cons_succ])
        refine wpKeep_ready (rs := [15]) (by kernel_rfl) (by simp) ?_
        refine AllKeep.cons (o := ⟨none, _, _, _, _, _⟩) rfl (fun Kq hK => ?_) AllKeep.nil
        go_simp
        refine hK.out _ _ (HTF.out _ ((Keeps.refl _ _).drew.alloc _)) (fun _ => trivial) ?_
        clear hK Kq
        (try simp only [Act.put, List.setIfInBounds_toArray, List.set_cons_zero, List.set_cons_succ])
        refine wpKeep_done (by kernel_rfl) ?_ _
        go_wp2
        go_meet
        exact ⟨rfl, heap_at_alloc rfl, (Keeps.refl _ _).drew.alloc _⟩
    case rest =>
      as_aux_lemma =>
      obtain ⟨rfl, hsb, f3⟩ := hcut
      obtain ⟨W4, rfl⟩ : ∃ W4, W4 = wc := ⟨_, rfl⟩
      have F4 := hid (F2.out.trans f3)
      have H4 := hid (H2.out.fresh f3)
      have hxb4 := f3.at_ HB2.out (fun h => h)
      have hcx : c xb = 0 := H.out.unborn xb (by rw [HXB.out]; exact Nat.le_refl _)
      have hcs : c w2.heap.size = 0 := H.out.unborn _ F2.out.size
      obtain ⟨sb, hsbn⟩ : ∃ sb, w2.heap.size = sb := ⟨_, rfl⟩
      rw [hsbn] at hsb hcs ⊢
      have HPB : Hid (∀ (S : Nat → Prop) (W : World), Keeps S W4 W → (∀ g, S g → g < W4.heap.size → c g ≠ 0) → W.cell? ⟨xb, 0, none⟩ = some (.int .i64 8) ∧ W.cell? ⟨xb, 2, none⟩ = some (.int .i64 m) ∧ W.cell? ⟨xb, 3, none⟩ = some (.string (str s)) ∧ W.cell? ⟨xb, 4, none⟩ = some (.slice ko ks.length kc) ∧ W.cell? ⟨sb, 0, none⟩ = some (.pointer (some ⟨d, 0, none⟩)) ∧ W.cell? ⟨sb, 1, none⟩ = some (.pointer (some ⟨x, 0, none⟩))) := fun S W k hS => by
        have b1 := k.at_ hxb4 (fun e => hS _ e (lt_of_block hxb4) hcx)
        have b2 := k.at_ hsb (fun e => hS _ e (lt_of_block hsb) hcs)
        exact ⟨(cell_at b1 0).trans rfl, (cell_at b1 2).trans rfl, (cell_at b1 3).trans rfl, (cell_at b1 4).trans rfl, (cell_at b2 0).trans rfl, (cell_at b2 1).trans rfl⟩
      have HDV := hid (H4.out.vw.dev i (d, x) HSS.out)
      have HRF := hid (H4.out.vw.ref i (d, x) HSS.out)
      have HOK := hid (H4.out.vw.okd i hi2)
      have HKB := hid (F4.out.mono (S' := fun q => B ≤ q) fun _ _ h => h.elim)
      obtain ⟨x0, x2, x3, x4, s0, s1⟩ := HPB.out (fun _ => False) W4 (Keeps.refl _ _) (fun _ h => h.elim)
      clear hsb f3 hxb4 hcx hcs hsbn HTF HPK hgs F2 H2 HB2 HF1 H HXB
      have HCR := hid (side_crash B ob n N i d x c W4 v f (.slice ko ks.length kc) ks H4.out HSS.out (by omega) (HKS.out.fresh F4.out) (fun h0 a mm cp e _ => H4.out.low _ (hkB h0 a (by simp only [Value.slice.injEq] at e; exact e.1))) hkl hkw)
      go_wp2_with fail
      refine HCR.out.mono ?_
      rintro e w5 ⟨rfl, ⟨st, h5⟩, k5⟩
      have HA := hid (And.intro (show Aft B w5 ob (n + 1) (N + 2) from ⟨_, _, _, h5.more (Nat.le_succ _) (by omega)⟩) (HKB.out.trans (H4.out.owns k5 fun g e _ => by rcases e with e | e <;> omega)))
      clear x0 x2 x3 x4 s0 s1 h5 k5 HCR
      go_wp2_with fail
      go_ret
      exact ⟨by first | rfl | simp, HA.out.1, HA.out.2⟩
end Go.Proofs.Ytbhienlalpbflaa

namespace Go.Proofs.Ytbhienlalpbflaa
open Go.RowKit Go.Maps

set_option maxRecDepth 100000 in
set_option maxHeartbeats 8000000 in
theorem play_reload (B ob n N : Nat) (c : Nat → Nat) (w : World) (v : WV) (f : Nat → St) (h : DW B c w ob v f f n N) (on m : Int) (s : List UInt8) (ko : Option Addr) (kc : Nat) (ks : List (Int × Int)) (hp : PlayIn B n N w on m s ko kc ks) :
    Calls Try.prog 18 #[.pointer (some ⟨ob, 0, none⟩), opV 10 on m s (.slice ko ks.length kc)] w fun e w' => e = .returned (.bool true) ∧ Aft B w' ob (n + 1) (N + 2) ∧ Keeps (fun q => B ≤ q) w w' := by
  obtain ⟨hn, hN, hks, hkB, hkl, hkw, hon, hon2, hm, hm2, hs⟩ := hp
  obtain ⟨al, cl, elv⟩ := ownsRow_slice h.vw.row
  obtain ⟨w1, hw1⟩ : ∃ w1, w.alloc (.cells #[.int .i64 10, .int .i64 on, .int .i64 m, .string (str s), .slice ko ks.length kc] 51) = w1 := ⟨_, rfl⟩
  have f1 : Fresh w w1 := by rw [← hw1]; exact (Keeps.refl _ _).alloc _
  have hb1 : w1.heap[w.heap.size]? = some (.cells #[.int .i64 10, .int .i64 on, .int .i64 m, .string (str s), .slice ko ks.length kc] 51 (0, 0)) := by rw [← hw1]; exact heap_alloc_new w _
  obtain ⟨xb, hxb⟩ : ∃ xb, w.heap.size = xb := ⟨_, rfl⟩
  rw [hxb] at hb1
  have HMK := hid fun W => makes_other ob W 10 on m s ko ks.length kc (by first | decide | assumption) (by first | decide | assumption)
  have x0 : w1.cell? ⟨xb, 0, none⟩ = some (.int .i64 10) := (cell_at hb1 0).trans rfl
  have x1 : w1.cell? ⟨xb, 1, none⟩ = some (.int .i64 on) := (cell_at hb1 1).trans rfl
  have x2 : w1.cell? ⟨xb, 2, none⟩ = some (.int .i64 m) := (cell_at hb1 2).trans rfl
  have x3 : w1.cell? ⟨xb, 3, none⟩ = some (.string (str s)) := (cell_at hb1 3).trans rfl
  have x4 : w1.cell? ⟨xb, 4, none⟩ = some (.slice ko ks.length kc) := (cell_at hb1 4).trans rfl
  have H := hid h
  have HF1 := hid f1
  have HB1 := hid hb1
  have HKS := hid hks
  have HXB := hid hxb
  clear h f1 hb1 hks
  unfold opV
  go_enter Try.func18, Try.ntmps18
  go_wp2_with fail
  (try rw [hw1])
  (try rw [hxb])
  clear hw1 hxb
  refine (HMK.out _).mono ?_
  rintro e w2 ⟨rfl, f2⟩
  have F2 := hid (HF1.out.trans f2)
  have H2 := hid (H.out.fresh F2.out)
  have hb2 := f2.at_ HB1.out (fun h => h)
  have HB2 := hid hb2
  have c0 := (cell_at H2.out.box 0).trans (show _ = some (Value.slice al v.ss.length cl) from congrArg some elv)
  clear f2 hb2 x0 x1 x2 x3 x4 HMK HB1
  by_cases h0 : v.ss.length = 0
  · have h0I : (v.ss.length : Int) = 0 := by omega
    have h0n : ((v.ss.length : Int) == 0) = true := by simp [h0]
    have HA := hid (And.intro (show Aft B w2 ob (n + 1) (N + 2) from ⟨_, _, _, H2.out.more (Nat.le_succ _) (by omega)⟩) (F2.out.mono (S' := fun q => B ≤ q) fun _ _ h => h.elim))
    go_wp2_with fail
    go_ret
    exact ⟨by first | rfl | simp, HA.out.1, HA.out.2⟩
  · have h0I : ¬ (v.ss.length : Int) = 0 := by omega
    have h0n : ((v.ss.length : Int) == 0) = false := by simp [h0]
    obtain ⟨i, hi, hi2⟩ := picked on v.ss.length (by omega)
    obtain ⟨⟨d, x⟩, hss⟩ : ∃ y, v.ss[i]? = some y := ⟨v.ss[i], by simp⟩
    have hfew := H2.out.vw.few
    have HPK := hid fun W => pick_any on v.ss.length W (by omega) (by omega) hon hon2
    rw [hi] at HPK
    have hrow2 : w2.ownsRow 0 53 2 (.slice al v.ss.length cl) v.ss.length (sideCells v.ss) := by rw [← elv]; exact H2.out.vw.row
    obtain ⟨gs, eal, hgs, hgc⟩ := ownsRow_cells hrow2 (by omega)
    subst eal
    obtain ⟨g0, g1⟩ := sideCells_at v.ss i (d, x) hss
    have g0 := hgc _ _ g0
    have g1 := hgc _ _ g1
    have o1 := (cell_at HB2.out 1).trans (show _ = some (Value.int .i64 on) from rfl)
    have HTF : Hid (∀ W, Fresh w2 W → W.cell? ⟨ob, 0, none⟩ = some (.slice (some ⟨gs, 0, none⟩) v.ss.length cl) ∧ W.cell? ⟨xb, 1, none⟩ = some (.int .i64 on) ∧ W.cell? ⟨gs, i * 2, none⟩ = some (.pointer (some ⟨d, 0, none⟩)) ∧ W.cell? ⟨gs, i * 2 + 1, none⟩ = some (.pointer (some ⟨x, 0, none⟩))) := fun W f =>
      ⟨(f.cell (p := ⟨ob, 0, none⟩) (lt_of_block H2.out.box) (fun h => h)).trans c0, (f.cell (p := ⟨xb, 1, none⟩) (lt_of_block HB2.out) (fun h => h)).trans o1, (f.cell (p := ⟨gs, i * 2, none⟩) hgs (fun h => h)).trans g0, (f.cell (p := ⟨gs, i * 2 + 1, none⟩) hgs (fun h => h)).trans g1⟩
    have hi5 : i < 5 := by omega
    have hiI : (i : Int) < (v.ss.length : Int) := by omega
    have hi0 : (0 : Int) ≤ (i : Int) := by omega
    have HSS := hid hss
    clear hrow2 hgc g0 g1 o1 hss hi
    go_wp2_with fail
    clear c0
    go_cut [7] (fun s7 wx => s7 = .pointer (some ⟨w2.heap.size, 0, none⟩) ∧ wx.heap[w2.heap.size]? = some (.cells #[.pointer (some ⟨d, 0, none⟩), .pointer (some ⟨x, 0, none⟩)] 53 (0, 0)) ∧ Fresh w2 wx)
    case first =>
      refine wp_region_keep 16 (fun w' => w'.cell? ⟨ob, 0, none⟩ = some (.slice (some ⟨gs, 0, none⟩) v.ss.length cl) ∧ w'.cell? ⟨xb, 1, none⟩ = some (.int .i64 on) ∧ w'.cell? ⟨gs, i * 2, none⟩ = some (.pointer (some ⟨d, 0, none⟩)) ∧ w'.cell? ⟨gs, i * 2 + 1, none⟩ = some (.pointer (some ⟨x, 0, none⟩))) (fun _ => True) (fun _ => true) (by kernel_rfl) (by kernel_rfl) ?_
      (try (change wpKeep _ _ _ _ _ _ _ _ _ _ (World.drew _)))
      refine wpKeep_takeT (i := 0) (oi := ⟨some 41, _, _, _, _, _⟩) (v := ?_) rfl (by kernel_rfl) (by kernel_rfl) (by kernel_rfl) (by kernel_rfl) (fun _ _ _ h => h) (Or.inl ⟨by rfl, ?_⟩) (HTF.out _ (Keeps.refl _ _).drew) (fun _ => trivial) ?_
      rotate_left
      · intro w' hT
        obtain ⟨t1, t2, t3, t4⟩ := hT
        go_simp
        (try rw [if_pos (by omega)])
        (try with_reducible rfl)
      rotate_left
      (try simp only [Act.put, List.setIfInBounds_toArray, List.set_cons_zero, List.set_cons_succ])
      refine wpKeep_takeT (i := 1) (oi := ⟨some 42, _, _, _, _, _⟩) (v := ?_) rfl (by kernel_rfl) (by kernel_rfl) (by kernel_rfl) (by kernel_rfl) (fun _ _ _ h => h) (Or.inl ⟨by rfl, ?_⟩) (HTF.out _ (Keeps.refl _ _).drew) (fun _ => trivial) ?_
      rotate_left
      · intro w' hT
        obtain ⟨t1, t2, t3, t4⟩ := hT
        go_simp
        (try rw [if_pos (by omega)])
        (try with_reducible rfl)
      rotate_left
      (try simp only [Act.put, List.setIfInBounds_toArray, List.set_cons_zero, List.set_cons_succ])
      refine wpKeep_takeT (i := 2) (oi := ⟨some 43, _, _, _, _, _⟩) (v := ?_) rfl (by kernel_rfl) (by kernel_rfl) (by kernel_rfl) (by kernel_rfl) (fun _ _ _ h => h) (Or.inl ⟨by rfl, ?_⟩) (HTF.out _ (Keeps.refl _ _).drew) (fun _ => trivial) ?_
      rotate_left
      · intro w' hT
        obtain ⟨t1, t2, t3, t4⟩ := hT
        go_simp
        (try rw [if_pos (by omega)])
        (try with_reducible rfl)
      rotate_left
      (try simp only [Act.put, List.setIfInBounds_toArray, List.set_cons_zero, List.set_cons_succ])
      refine wpKeep_takeT (i := 3) (oi := ⟨some 44, _, _, _, _, _⟩) (v := ?_) rfl (by kernel_rfl) (by kernel_rfl) (by kernel_rfl) (by kernel_rfl) (fun _ _ _ h => h) (Or.inl ⟨by rfl, ?_⟩) (HTF.out _ (Keeps.refl _ _).drew) (fun _ => trivial) ?_
      rotate_left
      · intro w' hT
        obtain ⟨t1, t2, t3, t4⟩ := hT
        go_simp
        (try rw [if_pos (by omega)])
        (try with_reducible rfl)
      rotate_left
      (try simp only [Act.put, List.setIfInBounds_toArray, List.set_cons_zero, List.set_cons_succ])
      refine wpKeep_takeT (i := 4) (oi := ⟨some 45, _, _, _, _, _⟩) (v := ?_) rfl (by kernel_rfl) (by kernel_rfl) (by kernel_rfl) (by kernel_rfl) (fun _ _ _ h => h) (Or.inl ⟨by rfl, ?_⟩) (HTF.out _ (Keeps.refl _ _).drew) (fun _ => trivial) ?_
      rotate_left
      · intro w' hT
        obtain ⟨t1, t2, t3, t4⟩ := hT
        go_simp
        (try rw [if_pos (by omega)])
        (try with_reducible rfl)
      rotate_left
      (try simp only [Act.put, List.setIfInBounds_toArray, List.set_cons_zero, List.set_cons_succ])
      refine wpKeep_takeT (i := 5) (oi := ⟨some 46, _, _, _, _, _⟩) (v := ?_) rfl (by kernel_rfl) (by kernel_rfl) (by kernel_rfl) (by kernel_rfl) (fun _ _ _ h => h) (Or.inl ⟨by rfl, ?_⟩) (HTF.out _ (Keeps.refl _ _).drew) (fun _ => trivial) ?_
      rotate_left
      · intro w' hT
        obtain ⟨t1, t2, t3, t4⟩ := hT
        go_simp
        (try rw [if_pos (by omega)])
        (try with_reducible rfl)
      rotate_left
      (try simp only [Act.put, List.setIfInBounds_toArray, List.set_cons_zero, List.set_cons_succ])
      refine wpKeep_takeT (i := 6) (oi := ⟨some 47, _, _, _, _, _⟩) (v := ?_) rfl (by kernel_rfl) (by kernel_rfl) (by kernel_rfl) (by kernel_rfl) (fun _ _ _ h => h) (Or.inl ⟨by rfl, ?_⟩) (HTF.out _ (Keeps.refl _ _).drew) (fun _ => trivial) ?_
      rotate_left
      · intro w' hT
        obtain ⟨t1, t2, t3, t4⟩ := hT
        go_simp
        (try rw [if_pos (by omega)])
        (try with_reducible rfl)
      rotate_left
      (try simp only [Act.put, List.setIfInBounds_toArray, List.set_cons_zero, List.set_cons_succ])
      refine wpKeep_takeT (i := 7) (oi := ⟨some 48, _, _, _, _, _⟩) (v := ?_) rfl (by kernel_rfl) (by kernel_rfl) (by kernel_rfl) (by kernel_rfl) (fun _ _ _ h => h) (Or.inl ⟨by rfl, ?_⟩) (HTF.out _ (Keeps.refl _ _).drew) (fun _ => trivial) ?_
      rotate_left
      · intro w' hT
        obtain ⟨t1, t2, t3, t4⟩ := hT
        go_simp
        (try rw [if_pos (by omega)])
        (try with_reducible rfl)
      rotate_left
      (try simp only [Act.put, List.setIfInBounds_toArray, List.set_cons_zero, List.set_cons_succ])
      refine wpKeep_takeT (i := 8) (oi := ⟨some 49, _, _, _, _, _⟩) (v := ?_) rfl (by kernel_rfl) (by kernel_rfl) (by kernel_rfl) (by kernel_rfl) (fun _ _ _ h => h) (Or.inl ⟨by rfl, ?_⟩) (HTF.out _ (Keeps.refl _ _).drew) (fun _ => trivial) ?_
      rotate_left
      · intro w' hT
        obtain ⟨t1, t2, t3, t4⟩ := hT
        go_simp
        (try rw [if_pos (by omega)])
        (try with_reducible rfl)
      rotate_left
      (try simp only [Act.put, List.setIfInBounds_toArray, List.set_cons_zero, List.set_cons_succ])
      refine wpKeep_takeT (i := 9) (oi := ⟨some 50, _, _, _, _, _⟩) (v := ?_) rfl (by kernel_rfl) (by kernel_rfl) (by kernel_rfl) (by kernel_rfl) (fun _ _ _ h => h) (Or.inl ⟨by rfl, ?_⟩) (HTF.out _ (Keeps.refl _ _).drew) (fun _ => trivial) ?_
      rotate_left
      · intro w' hT
        obtain ⟨t1, t2, t3, t4⟩ := hT
        go_simp
        (try rw [if_pos (by omega)])
        (try with_reducible rfl)
      rotate_left
      (try simp only [Act.put, List.setIfInBounds_toArray, List.set_cons_zero, List.set_cons_succ])
      refine wpKeep_takeT (i := 10) (oi := ⟨some 51, _, _, _, _, _⟩) (v := ?_) rfl (by kernel_rfl) (by kernel_rfl) (by kernel_rfl) (by kernel_rfl) (fun _ _ _ h => h) (Or.inl ⟨by rfl, ?_⟩) (HTF.out _ (Keeps.refl _ _).drew) (fun _ => trivial) ?_
      rotate_left
      · intro w' hT
        obtain ⟨t1, t2, t3, t4⟩ := hT
        go_simp
        (try rw [if_pos (by omega)])
        (try with_reducible rfl)
      rotate_left
      (try simp only [Act.put, List.setIfInBounds_toArray, List.set_cons_zero, List.set_cons_succ])
      refine wpKeep_ready (rs := [11, 14]) (by kernel_rfl) (by simp) ?_
      refine AllKeep.cons (o := ⟨some 52, _, _, _, _, _⟩) rfl (fun Kq hK => ?_) (AllKeep.cons (o := ⟨some 7, _, _, _, _, _⟩) rfl (fun Kq hK => ?_) AllKeep.nil)
      · as_aux_lemma =>
        go_simp
        go_at_call 9
        refine (HPK.out _).mono ?_
        rintro e _ ⟨rfl, rfl⟩
        refine hK.out _ _ (HTF.out _ (Keeps.refl _ _).drew) (fun _ => trivial) ?_
        clear hK Kq
        (try simp only [Act.put, List.setIfInBounds_toArray, List.set_cons_zero, List.set_cons_succ])
        refine wpKeep_takeT (i := 12) (oi := ⟨some 53, _, _, _, _, _⟩) (v := ?_) rfl (by kernel_rfl) (by kernel_rfl) (by kernel_rfl) (by kernel_rfl) (fun _ _ _ h => h) (Or.inl ⟨by rfl, ?_⟩) (HTF.out _ (Keeps.refl _ _).drew) (fun _ => trivial) ?_
        rotate_left
        · intro w' hT
          obtain ⟨t1, t2, t3, t4⟩ := hT
          go_simp
          (try rw [if_pos (by omega)])
          (try with_reducible rfl)
        rotate_left
        (try simp only [Act.put, List.setIfInBounds_toArray, List.set_cons_zero, List.set_cons_succ])
        refine wpKeep_takeT (i := 13) (oi := ⟨some 54, _, _, _, _, _⟩) (v := ?_) rfl (by kernel_rfl) (by kernel_rfl) (by kernel_rfl) (by kernel_rfl) (fun _ _ _ h => h) (Or.inl ⟨by rfl, ?_⟩) (HTF.out _ (Keeps.refl _ _).drew) (fun _ => trivial) ?_
        rotate_left
        · intro w' hT
          obtain ⟨t1, t2, t3, t4⟩ := hT
          go_simp
          (try rw [if_pos (by omega)])
          (try with_reducible rfl)
        rotate_left
        (try simp only [Act.put, List.setIfInBounds_toArray, List.set_cons_zero, List.set_cons_succ])
        refine wpKeep_ready (rs := [14]) (by kernel_rfl) (by simp) ?_
        refine AllKeep.cons (o := ⟨some 7, _, _, _, _, _⟩) rfl (fun Kq hK => ?_) AllKeep.nil
        go_simp
        refine hK.out _ _ (HTF.out _ ((Keeps.refl _ _).drew.alloc _)) (fun _ => trivial) ?_
        clear hK Kq
        (try simp only [Act.put, List.setIfInBounds_toArray, List.set_cons_zero, List.set_cons_succ])
        refine wpKeep_ready (rs := [15]) (by kernel_rfl) (by simp) ?_
        refine AllKeep.cons (o := ⟨none, _, _, _, _, _⟩) rfl (fun Kq hK => ?_) AllKeep.nil
        go_simp
        refine hK.out _ _ (HTF.out _ ((Keeps.refl _ _).drew.alloc _)) (fun _ => trivial) ?_
        clear hK Kq
        (try simp only [Act.put, List.setIfInBounds_toArray, List.set_cons_zero, List.set_cons_succ])
        refine wpKeep_done (by kernel_rfl) ?_ _
        go_wp2
        go_meet
        exact ⟨rfl, heap_at_alloc rfl, (Keeps.refl _ _).drew.alloc _⟩
      · as_aux_lemma =>
        go_simp
        refine hK.out _ _ (HTF.out _ ((Keeps.refl _ _).drew.alloc _)) (fun _ => trivial) ?_
        clear hK Kq
        (try simp only [Act.put, List.setIfInBounds_toArray, List.set_cons_zero, List.set_cons_succ])
        refine wpKeep_ready (rs := [11]) (by kernel_rfl) (by simp) ?_
        refine AllKeep.cons (o := ⟨some 52, _, _, _, _, _⟩) rfl (fun Kq hK => ?_) AllKeep.nil
        go_simp
        go_at_call 9
        refine (HPK.out _).mono ?_
        rintro e _ ⟨rfl, rfl⟩
        refine hK.out _ _ (HTF.out _ ((Keeps.refl _ _).drew.alloc _)) (fun _ => trivial) ?_
        clear hK Kq
        (try simp only [Act.put, List.setIfInBounds_toArray, List.set_cons_zero, List.set_cons_succ])
        refine wpKeep_takeT (i := 12) (oi := ⟨some 53, _, _, _, _, _⟩) (v := ?_) rfl (by kernel_rfl) (by kernel_rfl) (by kernel_rfl) (by kernel_rfl) (fun _ _ _ h => h) (Or.inl ⟨by rfl, ?_⟩) (HTF.out _ ((Keeps.refl _ _).drew.alloc _)) (fun _ => trivial) ?_
        rotate_left
        · intro w' hT
          obtain ⟨t1, t2, t3, t4⟩ := hT
          go_simp
          (try rw [if_pos (by omega)])
          (try with_reducible rfl)
        rotate_left
        (try simp only [Act.put, List.setIfInBounds_toArray, List.set_cons_zero, List.set_cons_succ])
        refine wpKeep_takeT (i := 13) (oi := ⟨some 54, _, _, _, _, _⟩) (v := ?_) rfl (by kernel_rfl) (by kernel_rfl) (by kernel_rfl) (by kernel_rfl) (fun _ _ _ h => h) (Or.inl ⟨by rfl, ?_⟩) (HTF.out _ ((Keeps.refl _ _).drew.alloc _)) (fun _ => trivial) ?_
        rotate_left
        · intro w' hT
          obtain ⟨t1, t2, t3, t4⟩ := hT
          go_simp
          (try rw [if_pos (by omega)])
          (try with_reducible rfl)
        rotate_left
        (try simp only [Act.put, List.setIfInBounds_toArray, List.set_cons_zero, List.set_cons_succ])
        refine wpKeep_ready (rs := [15]) (by kernel_rfl) (by simp) ?_
        refine AllKeep.cons (o := ⟨none, _, _, _, _, _⟩) rfl (fun Kq hK => ?_) AllKeep.nil
        go_simp
        refine hK.out _ _ (HTF.out _ ((Keeps.refl _ _).drew.alloc _)) (fun _ => trivial) ?_
        clear hK Kq
        (try simp only [Act.put, List.setIfInBounds_toArray, List.set_cons_zero, List.set_cons_succ])
        refine wpKeep_done (by kernel_rfl) ?_ _
        go_wp2
        go_meet
        exact ⟨rfl, heap_at_alloc rfl, (Keeps.refl _ _).drew.alloc _⟩
    case rest =>
      as_aux_lemma =>
      obtain ⟨rfl, hsb, f3⟩ := hcut
      obtain ⟨W4, rfl⟩ : ∃ W4, W4 = wc := ⟨_, rfl⟩
      have F4 := hid (F2.out.trans f3)
      have H4 := hid (H2.out.fresh f3)
      have hxb4 := f3.at_ HB2.out (fun h => h)
      have hcx : c xb = 0 := H.out.unborn xb (by rw [HXB.out]; exact Nat.le_refl _)
      have hcs : c w2.heap.size = 0 := H.out.unborn _ F2.out.size
      obtain ⟨sb, hsbn⟩ : ∃ sb, w2.heap.size = sb := ⟨_, rfl⟩
      rw [hsbn] at hsb hcs ⊢
      have HPB : Hid (∀ (S : Nat → Prop) (W : World), Keeps S W4 W → (∀ g, S g → g < W4.heap.size → c g ≠ 0) → W.cell? ⟨xb, 0, none⟩ = some (.int .i64 10) ∧ W.cell? ⟨xb, 2, none⟩ = some (.int .i64 m) ∧ W.cell? ⟨xb, 3, none⟩ = some (.string (str s)) ∧ W.cell? ⟨xb, 4, none⟩ = some (.slice ko ks.length kc) ∧ W.cell? ⟨sb, 0, none⟩ = some (.pointer (some ⟨d, 0, none⟩)) ∧ W.cell? ⟨sb, 1, none⟩ = some (.pointer (some ⟨x, 0, none⟩))) := fun S W k hS => by
        have b1 := k.at_ hxb4 (fun e => hS _ e (lt_of_block hxb4) hcx)
        have b2 := k.at_ hsb (fun e => hS _ e (lt_of_block hsb) hcs)
        exact ⟨(cell_at b1 0).trans rfl, (cell_at b1 2).trans rfl, (cell_at b1 3).trans rfl, (cell_at b1 4).trans rfl, (cell_at b2 0).trans rfl, (cell_at b2 1).trans rfl⟩
      have HDV := hid (H4.out.vw.dev i (d, x) HSS.out)
      have HRF := hid (H4.out.vw.ref i (d, x) HSS.out)
      have HOK := hid (H4.out.vw.okd i hi2)
      have HKB := hid (F4.out.mono (S' := fun q => B ≤ q) fun _ _ h => h.elim)
      obtain ⟨x0, x2, x3, x4, s0, s1⟩ := HPB.out (fun _ => False) W4 (Keeps.refl _ _) (fun _ h => h.elim)
      clear hsb f3 hxb4 hcx hcs hsbn HTF HPK hgs F2 H2 HB2 HF1 H HXB
      have HX := hid (xpages _ x (f i) W4 HRF.out HOK.out)
      go_wp2_with fail
      refine HX.out.mono ?_
      rintro e w5 ⟨vx, rfl, ⟨rx, nx⟩, f5⟩
      have h5 := H4.out.fresh f5
      have hnb : NobT c w5 vx (f i).l := NobT.of_row rx fun g hg => H4.out.unborn g (nx g hg)
      have HL := hid (loads_w B ob n N c w5 v f vx (f i).l h5 hnb HOK.out.ll (fun t ht => by rw [HOK.out.p256 t ht]; omega))
      have K5 := hid (HKB.out.trans (f5.mono fun _ _ h => h.elim))
      clear x0 x2 x3 x4 s0 s1 h5 hnb rx nx f5 HX
      go_wp2_with fail
      refine HL.out.mono ?_
      rintro e w6 ⟨rfl, ha6, k6⟩
      have HA := hid (And.intro (show Aft B w6 ob (n + 1) (N + 2) from ha6.more (Nat.le_succ _) (by omega)) (K5.out.trans k6))
      clear ha6 k6 HL
      go_wp2_with fail
      go_ret
      exact ⟨by first | rfl | simp, HA.out.1, HA.out.2⟩
end Go.Proofs.Ytbhienlalpbflaa
