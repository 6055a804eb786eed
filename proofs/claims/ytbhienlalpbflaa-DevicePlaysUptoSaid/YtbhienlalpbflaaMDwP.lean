/-
  The law's step: Read. Printed by gen_dwplay.py.
  The law's step: Write. Printed by gen_dwplay.py.
  The law's step: Flush. Printed by gen_dwplay.py.
  The law's step: Arm. Printed by gen_dwplay.py.
-/
import Derived.Test.YtbhienlalpbflaaDwPlayP
namespace Go.Proofs.Ytbhienlalpbflaa
open Go.RowKit Go.Maps

set_option maxRecDepth 100000 in
set_option maxHeartbeats 8000000 in
theorem play_read (B ob n N : Nat) (c : Nat → Nat) (w : World) (v : WV) (f : Nat → St) (h : DW B c w ob v f f n N) (on m : Int) (s : List UInt8) (ko : Option Addr) (kc : Nat) (ks : List (Int × Int)) (hp : PlayIn B n N w on m s ko kc ks) :
    Calls Try.prog 18 #[.pointer (some ⟨ob, 0, none⟩), opV 1 on m s (.slice ko ks.length kc)] w fun e w' => e = .returned (.bool true) ∧ Aft B w' ob (n + 1) (N + 2) ∧ Keeps (fun q => B ≤ q) w w' := by
  obtain ⟨hn, hN, hks, hkB, hkl, hkw, hon, hon2, hm, hm2, hs⟩ := hp
  obtain ⟨al, cl, elv⟩ := ownsRow_slice h.vw.row
  obtain ⟨w1, hw1⟩ : ∃ w1, w.alloc (.cells #[.int .i64 1, .int .i64 on, .int .i64 m, .string (str s), .slice ko ks.length kc] 51) = w1 := ⟨_, rfl⟩
  have f1 : Fresh w w1 := by rw [← hw1]; exact (Keeps.refl _ _).alloc _
  have hb1 : w1.heap[w.heap.size]? = some (.cells #[.int .i64 1, .int .i64 on, .int .i64 m, .string (str s), .slice ko ks.length kc] 51 (0, 0)) := by rw [← hw1]; exact heap_alloc_new w _
  obtain ⟨xb, hxb⟩ : ∃ xb, w.heap.size = xb := ⟨_, rfl⟩
  rw [hxb] at hb1
  have HMK := hid fun W => makes_other ob W 1 on m s ko ks.length kc (by first | decide | assumption) (by first | decide | assumption)
  have x0 : w1.cell? ⟨xb, 0, none⟩ = some (.int .i64 1) := (cell_at hb1 0).trans rfl
  have x1 : w1.cell? ⟨xb, 1, none⟩ = some (.int .i64 on) := (cell_at hb1 1).trans rfl
  have x2 : w1.cell? ⟨xb, 2, none⟩ = some (.int .i64 m) := (cell_at hb1 2).trans rfl
  have x3 : w1.cell? ⟨xb, 3, none⟩ = some (.string (str s)) := (cell_at hb1 3).trans rfl
  have x4 : w1.cell? ⟨xb, 4, none⟩ = some (.slice ko ks.length kc) := (cell_at hb1 4).trans rfl
  have H := hid h
  have HF1 := hid f1
  have HB1 := hid hb1
  have HKS := hid hks
  have HXB := hid hxb
  clear h f1 hb1 hks
  unfold opV
  go_enter Try.func18, Try.ntmps18
  go_wp2_with fail
  (try rw [hw1])
  (try rw [hxb])
  clear hw1 hxb
  refine (HMK.out _).mono ?_
  rintro e w2 ⟨rfl, f2⟩
  have F2 := hid (HF1.out.trans f2)
  have H2 := hid (H.out.fresh F2.out)
  have hb2 := f2.at_ HB1.out (fun h => h)
  have HB2 := hid hb2
  have c0 := (cell_at H2.out.box 0).trans (show _ = some (Value.slice al v.ss.length cl) from congrArg some elv)
  clear f2 hb2 x0 x1 x2 x3 x4 HMK HB1
  by_cases h0 : v.ss.length = 0
  · have h0I : (v.ss.length : Int) = 0 := by omega
    have h0n : ((v.ss.length : Int) == 0) = true := by simp [h0]
    have HA := hid (And.intro (show Aft B w2 ob (n + 1) (N + 2) from ⟨_, _, _, H2.out.more (Nat.le_succ _) (by omega)⟩) (F2.out.mono (S' := fun q => B ≤ q) fun _ _ h => h.elim))
    go_wp2_with fail
    go_ret
    exact ⟨by first | rfl | simp, HA.out.1, HA.out.2⟩
  · have h0I : ¬ (v.ss.length : Int) = 0 := by omega
    have h0n : ((v.ss.length : Int) == 0) = false := by simp [h0]
    obtain ⟨i, hi, hi2⟩ := picked on v.ss.length (by omega)
    obtain ⟨⟨d, x⟩, hss⟩ : ∃ y, v.ss[i]? = some y := ⟨v.ss[i], by simp⟩
    have hfew := H2.out.vw.few
    have HPK := hid fun W => pick_any on v.ss.length W (by omega) (by omega) hon hon2
    rw [hi] at HPK
    have hrow2 : w2.ownsRow 0 53 2 (.slice al v.ss.length cl) v.ss.length (sideCells v.ss) := by rw [← elv]; exact H2.out.vw.row
    obtain ⟨gs, eal, hgs, hgc⟩ := ownsRow_cells hrow2 (by omega)
    subst eal
    obtain ⟨g0, g1⟩ := sideCells_at v.ss i (d, x) hss
    have g0 := hgc _ _ g0
    have g1 := hgc _ _ g1
    have o1 := (cell_at HB2.out 1).trans (show _ = some (Value.int .i64 on) from rfl)
    have HTF : Hid (∀ W, Fresh w2 W → W.cell? ⟨ob, 0, none⟩ = some (.slice (some ⟨gs, 0, none⟩) v.ss.length cl) ∧ W.cell? ⟨xb, 1, none⟩ = some (.int .i64 on) ∧ W.cell? ⟨gs, i * 2, none⟩ = some (.pointer (some ⟨d, 0, none⟩)) ∧ W.cell? ⟨gs, i * 2 + 1, none⟩ = some (.pointer (some ⟨x, 0, none⟩))) := fun W f =>
      ⟨(f.cell (p := ⟨ob, 0, none⟩) (lt_of_block H2.out.box) (fun h => h)).trans c0, (f.cell (p := ⟨xb, 1, none⟩) (lt_of_block HB2.out) (fun h => h)).trans o1, (f.cell (p := ⟨gs, i * 2, none⟩) hgs (fun h => h)).trans g0, (f.cell (p := ⟨gs, i * 2 + 1, none⟩) hgs (fun h => h)).trans g1⟩
    have hi5 : i < 5 := by omega
    have hiI : (i : Int) < (v.ss.length : Int) := by omega
    have hi0 : (0 : Int) ≤ (i : Int) := by omega
    have HSS := hid hss
    clear hrow2 hgc g0 g1 o1 hss hi
    go_wp2_with fail
    clear c0
    go_cut [7] (fun s7 wx => s7 = .pointer (some ⟨w2.heap.size, 0, none⟩) ∧ wx.heap[w2.heap.size]? = some (.cells #[.pointer (some ⟨d, 0, none⟩), .pointer (some ⟨x, 0, none⟩)] 53 (0, 0)) ∧ Fresh w2 wx)
    case first =>
      refine wp_region_keep 16 (fun w' => w'.cell? ⟨ob, 0, none⟩ = some (.slice (some ⟨gs, 0, none⟩) v.ss.length cl) ∧ w'.cell? ⟨xb, 1, none⟩ = some (.int .i64 on) ∧ w'.cell? ⟨gs, i * 2, none⟩ = some (.pointer (some ⟨d, 0, none⟩)) ∧ w'.cell? ⟨gs, i * 2 + 1, none⟩ = some (.pointer (some ⟨x, 0, none⟩))) (fun _ => True) (fun _ => true) (by kernel_rfl) (by kernel_rfl) ?_
      (try (change wpKeep _ _ _ _ _ _ _ _ _ _ (World.drew _)))
      refine wpKeep_takeT (i := 0) (oi := ⟨some 41, _, _, _, _, _⟩) (v := ?_) rfl (by kernel_rfl) (by kernel_rfl) (by kernel_rfl) (by kernel_rfl) (fun _ _ _ h => h) (Or.inl ⟨by rfl, ?_⟩) (HTF.out _ (Keeps.refl _ _).drew) (fun _ => trivial) ?_
      rotate_left
      · intro w' hT
        obtain ⟨t1, t2, t3, t4⟩ := hT
        go_simp
        (try rw [if_pos (by omega)])
        (try with_reducible rfl)
      rotate_left
      (try simp only [Act.put, List.setIfInBounds_toArray, List.set_cons_zero, List.set_cons_succ])
      refine wpKeep_takeT (i := 1) (oi := ⟨some 42, _, _, _, _, _⟩) (v := ?_) rfl (by kernel_rfl) (by kernel_rfl) (by kernel_rfl) (by kernel_rfl) (fun _ _ _ h => h) (Or.inl ⟨by rfl, ?_⟩) (HTF.out _ (Keeps.refl _ _).drew) (fun _ => trivial) ?_
      rotate_left
      · intro w' hT
        obtain ⟨t1, t2, t3, t4⟩ := hT
        go_simp
        (try rw [if_pos (by omega)])
        (try with_reducible rfl)
      rotate_left
      (try simp only [Act.put, List.setIfInBounds_toArray, List.set_cons_zero, List.set_cons_succ])
      refine wpKeep_takeT (i := 2) (oi := ⟨some 43, _, _, _, _, _⟩) (v := ?_) rfl (by kernel_rfl) (by kernel_rfl) (by kernel_rfl) (by kernel_rfl) (fun _ _ _ h => h) (Or.inl ⟨by rfl, ?_⟩) (HTF.out _ (Keeps.refl _ _).drew) (fun _ => trivial) ?_
      rotate_left
      · intro w' hT
        obtain ⟨t1, t2, t3, t4⟩ := hT
        go_simp
        (try rw [if_pos (by omega)])
        (try with_reducible rfl)
      rotate_left
      (try simp only [Act.put, List.setIfInBounds_toArray, List.set_cons_zero, List.set_cons_succ])
      refine wpKeep_takeT (i := 3) (oi := ⟨some 44, _, _, _, _, _⟩) (v := ?_) rfl (by kernel_rfl) (by kernel_rfl) (by kernel_rfl) (by kernel_rfl) (fun _ _ _ h => h) (Or.inl ⟨by rfl, ?_⟩) (HTF.out _ (Keeps.refl _ _).drew) (fun _ => trivial) ?_
      rotate_left
      · intro w' hT
        obtain ⟨t1, t2, t3, t4⟩ := hT
        go_simp
        (try rw [if_pos (by omega)])
        (try with_reducible rfl)
      rotate_left
      (try simp only [Act.put, List.setIfInBounds_toArray, List.set_cons_zero, List.set_cons_succ])
      refine wpKeep_takeT (i := 4) (oi := ⟨some 45, _, _, _, _, _⟩) (v := ?_) rfl (by kernel_rfl) (by kernel_rfl) (by kernel_rfl) (by kernel_rfl) (fun _ _ _ h => h) (Or.inl ⟨by rfl, ?_⟩) (HTF.out _ (Keeps.refl _ _).drew) (fun _ => trivial) ?_
      rotate_left
      · intro w' hT
        obtain ⟨t1, t2, t3, t4⟩ := hT
        go_simp
        (try rw [if_pos (by omega)])
        (try with_reducible rfl)
      rotate_left
      (try simp only [Act.put, List.setIfInBounds_toArray, List.set_cons_zero, List.set_cons_succ])
      refine wpKeep_takeT (i := 5) (oi := ⟨some 46, _, _, _, _, _⟩) (v := ?_) rfl (by kernel_rfl) (by kernel_rfl) (by kernel_rfl) (by kernel_rfl) (fun _ _ _ h => h) (Or.inl ⟨by rfl, ?_⟩) (HTF.out _ (Keeps.refl _ _).drew) (fun _ => trivial) ?_
      rotate_left
      · intro w' hT
        obtain ⟨t1, t2, t3, t4⟩ := hT
        go_simp
        (try rw [if_pos (by omega)])
        (try with_reducible rfl)
      rotate_left
      (try simp only [Act.put, List.setIfInBounds_toArray, List.set_cons_zero, List.set_cons_succ])
      refine wpKeep_takeT (i := 6) (oi := ⟨some 47, _, _, _, _, _⟩) (v := ?_) rfl (by kernel_rfl) (by kernel_rfl) (by kernel_rfl) (by kernel_rfl) (fun _ _ _ h => h) (Or.inl ⟨by rfl, ?_⟩) (HTF.out _ (Keeps.refl _ _).drew) (fun _ => trivial) ?_
      rotate_left
      · intro w' hT
        obtain ⟨t1, t2, t3, t4⟩ := hT
        go_simp
        (try rw [if_pos (by omega)])
        (try with_reducible rfl)
      rotate_left
      (try simp only [Act.put, List.setIfInBounds_toArray, List.set_cons_zero, List.set_cons_succ])
      refine wpKeep_takeT (i := 7) (oi := ⟨some 48, _, _, _, _, _⟩) (v := ?_) rfl (by kernel_rfl) (by kernel_rfl) (by kernel_rfl) (by kernel_rfl) (fun _ _ _ h => h) (Or.inl ⟨by rfl, ?_⟩) (HTF.out _ (Keeps.refl _ _).drew) (fun _ => trivial) ?_
      rotate_left
      · intro w' hT
        obtain ⟨t1, t2, t3, t4⟩ := hT
        go_simp
        (try rw [if_pos (by omega)])
        (try with_reducible rfl)
      rotate_left
      (try simp only [Act.put, List.setIfInBounds_toArray, List.set_cons_zero, List.set_cons_succ])
      refine wpKeep_takeT (i := 8) (oi := ⟨some 49, _, _, _, _, _⟩) (v := ?_) rfl (by kernel_rfl) (by kernel_rfl) (by kernel_rfl) (by kernel_rfl) (fun _ _ _ h => h) (Or.inl ⟨by rfl, ?_⟩) (HTF.out _ (Keeps.refl _ _).drew) (fun _ => trivial) ?_
      rotate_left
      · intro w' hT
        obtain ⟨t1, t2, t3, t4⟩ := hT
        go_simp
        (try rw [if_pos (by omega)])
        (try with_reducible rfl)
      rotate_left
      (try simp only [Act.put, List.setIfInBounds_toArray, List.set_cons_zero, List.set_cons_succ])
      refine wpKeep_takeT (i := 9) (oi := ⟨some 50, _, _, _, _, _⟩) (v := ?_) rfl (by kernel_rfl) (by kernel_rfl) (by kernel_rfl) (by kernel_rfl) (fun _ _ _ h => h) (Or.inl ⟨by rfl, ?_⟩) (HTF.out _ (Keeps.refl _ _).drew) (fun _ => trivial) ?_
      rotate_left
      · intro w' hT
        obtain ⟨t1, t2, t3, t4⟩ := hT
        go_simp
        (try rw [if_pos (by omega)])
        (try with_reducible rfl)
      rotate_left
      (try simp only [Act.put, List.setIfInBounds_toArray, List.set_cons_zero, List.set_cons_succ])
      refine wpKeep_takeT (i := 10) (oi := ⟨some 51, _, _, _, _, _⟩) (v := ?_) rfl (by kernel_rfl) (by kernel_rfl) (by kernel_rfl) (by kernel_rfl) (fun _ _ _ h => h) (Or.inl ⟨by rfl, ?_⟩) (HTF.out _ (Keeps.refl _ _).drew) (fun _ => trivial) ?_
      rotate_left
      · intro w' hT
        obtain ⟨t1, t2, t3, t4⟩ := hT
        go_simp
        (try rw [if_pos (by omega)])
        (try with_reducible rfl)
      rotate_left
      (try simp only [Act.put, List.setIfInBounds_toArray, List.set_cons_zero, List.set_cons_succ])
      refine wpKeep_ready (rs := [11, 14]) (by kernel_rfl) (by simp) ?_
      refine AllKeep.cons (o := ⟨some 52, _, _, _, _, _⟩) rfl (fun Kq hK => ?_) (AllKeep.cons (o := ⟨some 7, _, _, _, _, _⟩) rfl (fun Kq hK => ?_) AllKeep.nil)
      · as_aux_lemma =>
        go_simp
        go_at_call 9
        refine (HPK.out _).mono ?_
        rintro e _ ⟨rfl, rfl⟩
        refine hK.out _ _ (HTF.out _ (Keeps.refl _ _).drew) (fun _ => trivial) ?_
        clear hK Kq
        (try simp only [Act.put, List.setIfInBounds_toArray, List.set_cons_zero, List.set_cons_succ])
        refine wpKeep_takeT (i := 12) (oi := ⟨some 53, _, _, _, _, _⟩) (v := ?_) rfl (by kernel_rfl) (by kernel_rfl) (by kernel_rfl) (by kernel_rfl) (fun _ _ _ h => h) (Or.inl ⟨by rfl, ?_⟩) (HTF.out _ (Keeps.refl _ _).drew) (fun _ => trivial) ?_
        rotate_left
        · intro w' hT
          obtain ⟨t1, t2, t3, t4⟩ := hT
          go_simp
          (try rw [if_pos (by omega)])
          (try with_reducible rfl)
        rotate_left
        (try simp only [Act.put, List.setIfInBounds_toArray, List.set_cons_zero, List.set_cons_succ])
        refine wpKeep_takeT (i := 13) (oi := ⟨some 54, _, _, _, _, _⟩) (v := ?_) rfl (by kernel_rfl) (by kernel_rfl) (by kernel_rfl) (by kernel_rfl) (fun _ _ _ h => h) (Or.inl ⟨by rfl, ?_⟩) (HTF.out _ (Keeps.refl _ _).drew) (fun _ => trivial) ?_
        rotate_left
        · intro w' hT
          obtain ⟨t1, t2, t3, t4⟩ := hT
          go_simp
          (try rw [if_pos (by omega)])
          (try with_reducible rfl)
        rotate_left
        (try simp only [Act.put, List.setIfInBounds_toArray, List.set_cons_zero, List.set_cons_succ])
        refine wpKeep_ready (rs := [14]) (by kernel_rfl) (by simp) ?_
        refine AllKeep.cons (o := ⟨some 7, _, _, _, _, _⟩) rfl (fun Kq hK => ?_) AllKeep.nil
        go_simp
        refine hK.out _ _ (HTF.out _ ((Keeps.refl _ _).drew.alloc _)) (fun _ => trivial) ?_
        clear hK Kq
        (try simp only [Act.put, List.setIfInBounds_toArray, List.set_cons_zero, List.set_cons_succ])
        refine wpKeep_ready (rs := [15]) (by kernel_rfl) (by simp) ?_
        refine AllKeep.cons (o := ⟨none, _, _, _, _, _⟩) rfl (fun Kq hK => ?_) AllKeep.nil
        go_simp
        refine hK.out _ _ (HTF.out _ ((Keeps.refl _ _).drew.alloc _)) (fun _ => trivial) ?_
        clear hK Kq
        (try simp only [Act.put, List.setIfInBounds_toArray, List.set_cons_zero, List.set_cons_succ])
        refine wpKeep_done (by kernel_rfl) ?_ _
        go_wp2
        go_meet
        exact ⟨rfl, heap_at_alloc rfl, (Keeps.refl _ _).drew.alloc _⟩
      · as_aux_lemma =>
        go_simp
        refine hK.out _ _ (HTF.out _ ((Keeps.refl _ _).drew.alloc _)) (fun _ => trivial) ?_
        clear hK Kq
        (try simp only [Act.put, List.setIfInBounds_toArray, List.set_cons_zero, List.set_cons_succ])
        refine wpKeep_ready (rs := [11]) (by kernel_rfl) (by simp) ?_
        refine AllKeep.cons (o := ⟨some 52, _, _, _, _, _⟩) rfl (fun Kq hK => ?_) AllKeep.nil
        go_simp
        go_at_call 9
        refine (HPK.out _).mono ?_
        rintro e _ ⟨rfl, rfl⟩
        refine hK.out _ _ (HTF.out _ ((Keeps.refl _ _).drew.alloc _)) (fun _ => trivial) ?_
        clear hK Kq
        (try simp only [Act.put, List.setIfInBounds_toArray, List.set_cons_zero, List.set_cons_succ])
        refine wpKeep_takeT (i := 12) (oi := ⟨some 53, _, _, _, _, _⟩) (v := ?_) rfl (by kernel_rfl) (by kernel_rfl) (by kernel_rfl) (by kernel_rfl) (fun _ _ _ h => h) (Or.inl ⟨by rfl, ?_⟩) (HTF.out _ ((Keeps.refl _ _).drew.alloc _)) (fun _ => trivial) ?_
        rotate_left
        · intro w' hT
          obtain ⟨t1, t2, t3, t4⟩ := hT
          go_simp
          (try rw [if_pos (by omega)])
          (try with_reducible rfl)
        rotate_left
        (try simp only [Act.put, List.setIfInBounds_toArray, List.set_cons_zero, List.set_cons_succ])
        refine wpKeep_takeT (i := 13) (oi := ⟨some 54, _, _, _, _, _⟩) (v := ?_) rfl (by kernel_rfl) (by kernel_rfl) (by kernel_rfl) (by kernel_rfl) (fun _ _ _ h => h) (Or.inl ⟨by rfl, ?_⟩) (HTF.out _ ((Keeps.refl _ _).drew.alloc _)) (fun _ => trivial) ?_
        rotate_left
        · intro w' hT
          obtain ⟨t1, t2, t3, t4⟩ := hT
          go_simp
          (try rw [if_pos (by omega)])
          (try with_reducible rfl)
        rotate_left
        (try simp only [Act.put, List.setIfInBounds_toArray, List.set_cons_zero, List.set_cons_succ])
        refine wpKeep_ready (rs := [15]) (by kernel_rfl) (by simp) ?_
        refine AllKeep.cons (o := ⟨none, _, _, _, _, _⟩) rfl (fun Kq hK => ?_) AllKeep.nil
        go_simp
        refine hK.out _ _ (HTF.out _ ((Keeps.refl _ _).drew.alloc _)) (fun _ => trivial) ?_
        clear hK Kq
        (try simp only [Act.put, List.setIfInBounds_toArray, List.set_cons_zero, List.set_cons_succ])
        refine wpKeep_done (by kernel_rfl) ?_ _
        go_wp2
        go_meet
        exact ⟨rfl, heap_at_alloc rfl, (Keeps.refl _ _).drew.alloc _⟩
    case rest =>
      as_aux_lemma =>
      obtain ⟨rfl, hsb, f3⟩ := hcut
      obtain ⟨W4, rfl⟩ : ∃ W4, W4 = wc := ⟨_, rfl⟩
      have F4 := hid (F2.out.trans f3)
      have H4 := hid (H2.out.fresh f3)
      have hxb4 := f3.at_ HB2.out (fun h => h)
      have hcx : c xb = 0 := H.out.unborn xb (by rw [HXB.out]; exact Nat.le_refl _)
      have hcs : c w2.heap.size = 0 := H.out.unborn _ F2.out.size
      obtain ⟨sb, hsbn⟩ : ∃ sb, w2.heap.size = sb := ⟨_, rfl⟩
      rw [hsbn] at hsb hcs ⊢
      have HPB : Hid (∀ (S : Nat → Prop) (W : World), Keeps S W4 W → (∀ g, S g → g < W4.heap.size → c g ≠ 0) → W.cell? ⟨xb, 0, none⟩ = some (.int .i64 1) ∧ W.cell? ⟨xb, 2, none⟩ = some (.int .i64 m) ∧ W.cell? ⟨xb, 3, none⟩ = some (.string (str s)) ∧ W.cell? ⟨xb, 4, none⟩ = some (.slice ko ks.length kc) ∧ W.cell? ⟨sb, 0, none⟩ = some (.pointer (some ⟨d, 0, none⟩)) ∧ W.cell? ⟨sb, 1, none⟩ = some (.pointer (some ⟨x, 0, none⟩))) := fun S W k hS => by
        have b1 := k.at_ hxb4 (fun e => hS _ e (lt_of_block hxb4) hcx)
        have b2 := k.at_ hsb (fun e => hS _ e (lt_of_block hsb) hcs)
        exact ⟨(cell_at b1 0).trans rfl, (cell_at b1 2).trans rfl, (cell_at b1 3).trans rfl, (cell_at b1 4).trans rfl, (cell_at b2 0).trans rfl, (cell_at b2 1).trans rfl⟩
      have HDV := hid (H4.out.vw.dev i (d, x) HSS.out)
      have HRF := hid (H4.out.vw.ref i (d, x) HSS.out)
      have HOK := hid (H4.out.vw.okd i hi2)
      have HKB := hid (F4.out.mono (S' := fun q => B ≤ q) fun _ _ h => h.elim)
      obtain ⟨x0, x2, x3, x4, s0, s1⟩ := HPB.out (fun _ => False) W4 (Keeps.refl _ _) (fun _ h => h.elim)
      clear hsb f3 hxb4 hcx hcs hsbn HTF HPK hgs F2 H2 HB2 HF1 H HXB
      have HR := hid (dread _ d n (f i) W4 m HDV.out HOK.out)
      go_wp2_with fail
      refine HR.out.mono ?_
      rintro e w5 ⟨rfl, f5⟩
      obtain ⟨y0, y2, y3, y4, t0, t1⟩ := HPB.out _ w5 f5 (fun _ h => h.elim)
      have HRX := hid (xread _ x (f i) w5 m (HRF.out.fresh f5))
      have F5 := hid f5
      clear x0 x2 x3 x4 s0 s1 f5 HR
      go_wp2_with fail
      refine HRX.out.mono ?_
      rintro e w6 ⟨rfl, f6⟩
      have HA := hid (And.intro (show Aft B w6 ob (n + 1) (N + 2) from ⟨_, _, _, ((H4.out.fresh F5.out).fresh f6).more (Nat.le_succ _) (by omega)⟩) (HKB.out.trans ((F5.out.trans f6).mono fun _ _ h => h.elim)))
      clear y0 y2 y3 y4 t0 t1 HRX f6
      generalize rdSt (f i) m = rr
      obtain ⟨rs, re⟩ := rr
      have hq : ((str rs).toList == (str rs).toList) = true := by simp
      go_wp2_with fail
      go_ret
      exact ⟨by first | rfl | simp, HA.out.1, HA.out.2⟩
end Go.Proofs.Ytbhienlalpbflaa

namespace Go.Proofs.Ytbhienlalpbflaa
open Go.RowKit Go.Maps

set_option maxRecDepth 100000 in
set_option maxHeartbeats 8000000 in
theorem play_write (B ob n N : Nat) (c : Nat → Nat) (w : World) (v : WV) (f : Nat → St) (h : DW B c w ob v f f n N) (on m : Int) (s : List UInt8) (ko : Option Addr) (kc : Nat) (ks : List (Int × Int)) (hp : PlayIn B n N w on m s ko kc ks) :
    Calls Try.prog 18 #[.pointer (some ⟨ob, 0, none⟩), opV 2 on m s (.slice ko ks.length kc)] w fun e w' => e = .returned (.bool true) ∧ Aft B w' ob (n + 1) (N + 2) ∧ Keeps (fun q => B ≤ q) w w' := by
  obtain ⟨hn, hN, hks, hkB, hkl, hkw, hon, hon2, hm, hm2, hs⟩ := hp
  obtain ⟨al, cl, elv⟩ := ownsRow_slice h.vw.row
  obtain ⟨w1, hw1⟩ : ∃ w1, w.alloc (.cells #[.int .i64 2, .int .i64 on, .int .i64 m, .string (str s), .slice ko ks.length kc] 51) = w1 := ⟨_, rfl⟩
  have f1 : Fresh w w1 := by rw [← hw1]; exact (Keeps.refl _ _).alloc _
  have hb1 : w1.heap[w.heap.size]? = some (.cells #[.int .i64 2, .int .i64 on, .int .i64 m, .string (str s), .slice ko ks.length kc] 51 (0, 0)) := by rw [← hw1]; exact heap_alloc_new w _
  obtain ⟨xb, hxb⟩ : ∃ xb, w.heap.size = xb := ⟨_, rfl⟩
  rw [hxb] at hb1
  have HMK := hid fun W => makes_other ob W 2 on m s ko ks.length kc (by first | decide | assumption) (by first | decide | assumption)
  have x0 : w1.cell? ⟨xb, 0, none⟩ = some (.int .i64 2) := (cell_at hb1 0).trans rfl
  have x1 : w1.cell? ⟨xb, 1, none⟩ = some (.int .i64 on) := (cell_at hb1 1).trans rfl
  have x2 : w1.cell? ⟨xb, 2, none⟩ = some (.int .i64 m) := (cell_at hb1 2).trans rfl
  have x3 : w1.cell? ⟨xb, 3, none⟩ = some (.string (str s)) := (cell_at hb1 3).trans rfl
  have x4 : w1.cell? ⟨xb, 4, none⟩ = some (.slice ko ks.length kc) := (cell_at hb1 4).trans rfl
  have H := hid h
  have HF1 := hid f1
  have HB1 := hid hb1
  have HKS := hid hks
  have HXB := hid hxb
  clear h f1 hb1 hks
  unfold opV
  go_enter Try.func18, Try.ntmps18
  go_wp2_with fail
  (try rw [hw1])
  (try rw [hxb])
  clear hw1 hxb
  refine (HMK.out _).mono ?_
  rintro e w2 ⟨rfl, f2⟩
  have F2 := hid (HF1.out.trans f2)
  have H2 := hid (H.out.fresh F2.out)
  have hb2 := f2.at_ HB1.out (fun h => h)
  have HB2 := hid hb2
  have c0 := (cell_at H2.out.box 0).trans (show _ = some (Value.slice al v.ss.length cl) from congrArg some elv)
  clear f2 hb2 x0 x1 x2 x3 x4 HMK HB1
  by_cases h0 : v.ss.length = 0
  · have h0I : (v.ss.length : Int) = 0 := by omega
    have h0n : ((v.ss.length : Int) == 0) = true := by simp [h0]
    have HA := hid (And.intro (show Aft B w2 ob (n + 1) (N + 2) from ⟨_, _, _, H2.out.more (Nat.le_succ _) (by omega)⟩) (F2.out.mono (S' := fun q => B ≤ q) fun _ _ h => h.elim))
    go_wp2_with fail
    go_ret
    exact ⟨by first | rfl | simp, HA.out.1, HA.out.2⟩
  · have h0I : ¬ (v.ss.length : Int) = 0 := by omega
    have h0n : ((v.ss.length : Int) == 0) = false := by simp [h0]
    obtain ⟨i, hi, hi2⟩ := picked on v.ss.length (by omega)
    obtain ⟨⟨d, x⟩, hss⟩ : ∃ y, v.ss[i]? = some y := ⟨v.ss[i], by simp⟩
    have hfew := H2.out.vw.few
    have HPK := hid fun W => pick_any on v.ss.length W (by omega) (by omega) hon hon2
    rw [hi] at HPK
    have hrow2 : w2.ownsRow 0 53 2 (.slice al v.ss.length cl) v.ss.length (sideCells v.ss) := by rw [← elv]; exact H2.out.vw.row
    obtain ⟨gs, eal, hgs, hgc⟩ := ownsRow_cells hrow2 (by omega)
    subst eal
    obtain ⟨g0, g1⟩ := sideCells_at v.ss i (d, x) hss
    have g0 := hgc _ _ g0
    have g1 := hgc _ _ g1
    have o1 := (cell_at HB2.out 1).trans (show _ = some (Value.int .i64 on) from rfl)
    have HTF : Hid (∀ W, Fresh w2 W → W.cell? ⟨ob, 0, none⟩ = some (.slice (some ⟨gs, 0, none⟩) v.ss.length cl) ∧ W.cell? ⟨xb, 1, none⟩ = some (.int .i64 on) ∧ W.cell? ⟨gs, i * 2, none⟩ = some (.pointer (some ⟨d, 0, none⟩)) ∧ W.cell? ⟨gs, i * 2 + 1, none⟩ = some (.pointer (some ⟨x, 0, none⟩))) := fun W f =>
      ⟨(f.cell (p := ⟨ob, 0, none⟩) (lt_of_block H2.out.box) (fun h => h)).trans c0, (f.cell (p := ⟨xb, 1, none⟩) (lt_of_block HB2.out) (fun h => h)).trans o1, (f.cell (p := ⟨gs, i * 2, none⟩) hgs (fun h => h)).trans g0, (f.cell (p := ⟨gs, i * 2 + 1, none⟩) hgs (fun h => h)).trans g1⟩
    have hi5 : i < 5 := by omega
    have hiI : (i : Int) < (v.ss.length : Int) := by omega
    have hi0 : (0 : Int) ≤ (i : Int) := by omega
    have HSS := hid hss
    clear hrow2 hgc g0 g1 o1 hss hi
    go_wp2_with fail
    clear c0
    go_cut [7] (fun s7 wx => s7 = .pointer (some ⟨w2.heap.size, 0, none⟩) ∧ wx.heap[w2.heap.size]? = some (.cells #[.pointer (some ⟨d, 0, none⟩), .pointer (some ⟨x, 0, none⟩)] 53 (0, 0)) ∧ Fresh w2 wx)
    case first =>
      refine wp_region_keep 16 (fun w' => w'.cell? ⟨ob, 0, none⟩ = some (.slice (some ⟨gs, 0, none⟩) v.ss.length cl) ∧ w'.cell? ⟨xb, 1, none⟩ = some (.int .i64 on) ∧ w'.cell? ⟨gs, i * 2, none⟩ = some (.pointer (some ⟨d, 0, none⟩)) ∧ w'.cell? ⟨gs, i * 2 + 1, none⟩ = some (.pointer (some ⟨x, 0, none⟩))) (fun _ => True) (fun _ => true) (by kernel_rfl) (by kernel_rfl) ?_
      (try (change wpKeep _ _ _ _ _ _ _ _ _ _ (World.drew _)))
      refine wpKeep_takeT (i := 0) (oi := ⟨some 41, _, _, _, _, _⟩) (v := ?_) rfl (by kernel_rfl) (by kernel_rfl) (by kernel_rfl) (by kernel_rfl) (fun _ _ _ h => h) (Or.inl ⟨by rfl, ?_⟩) (HTF.out _ (Keeps.refl _ _).drew) (fun _ => trivial) ?_
      rotate_left
      · intro w' hT
        obtain ⟨t1, t2, t3, t4⟩ := hT
        go_simp
        (try rw [if_pos (by omega)])
        (try with_reducible rfl)
      rotate_left
      (try simp only [Act.put, List.setIfInBounds_toArray, List.set_cons_zero, List.set_cons_succ])
      refine wpKeep_takeT (i := 1) (oi := ⟨some 42, _, _, _, _, _⟩) (v := ?_) rfl (by kernel_rfl) (by kernel_rfl) (by kernel_rfl) (by kernel_rfl) (fun _ _ _ h => h) (Or.inl ⟨by rfl, ?_⟩) (HTF.out _ (Keeps.refl _ _).drew) (fun _ => trivial) ?_
      rotate_left
      · intro w' hT
        obtain ⟨t1, t2, t3, t4⟩ := hT
        go_simp
        (try rw [if_pos (by omega)])
        (try with_reducible rfl)
      rotate_left
      (try simp only [Act.put, List.setIfInBounds_toArray, List.set_cons_zero, List.set_cons_succ])
      refine wpKeep_takeT (i := 2) (oi := ⟨some 43, _, _, _, _, _⟩) (v := ?_) rfl (by kernel_rfl) (by kernel_rfl) (by kernel_rfl) (by kernel_rfl) (fun _ _ _ h => h) (Or.inl ⟨by rfl, ?_⟩) (HTF.out _ (Keeps.refl _ _).drew) (fun _ => trivial) ?_
      rotate_left
      · intro w' hT
        obtain ⟨t1, t2, t3, t4⟩ := hT
        go_simp
        (try rw [if_pos (by omega)])
        (try with_reducible rfl)
      rotate_left
      (try simp only [Act.put, List.setIfInBounds_toArray, List.set_cons_zero, List.set_cons_succ])
      refine wpKeep_takeT (i := 3) (oi := ⟨some 44, _, _, _, _, _⟩) (v := ?_) rfl (by kernel_rfl) (by kernel_rfl) (by kernel_rfl) (by kernel_rfl) (fun _ _ _ h => h) (Or.inl ⟨by rfl, ?_⟩) (HTF.out _ (Keeps.refl _ _).drew) (fun _ => trivial) ?_
      rotate_left
      · intro w' hT
        obtain ⟨t1, t2, t3, t4⟩ := hT
        go_simp
        (try rw [if_pos (by omega)])
        (try with_reducible rfl)
      rotate_left
      (try simp only [Act.put, List.setIfInBounds_toArray, List.set_cons_zero, List.set_cons_succ])
      refine wpKeep_takeT (i := 4) (oi := ⟨some 45, _, _, _, _, _⟩) (v := ?_) rfl (by kernel_rfl) (by kernel_rfl) (by kernel_rfl) (by kernel_rfl) (fun _ _ _ h => h) (Or.inl ⟨by rfl, ?_⟩) (HTF.out _ (Keeps.refl _ _).drew) (fun _ => trivial) ?_
      rotate_left
      · intro w' hT
        obtain ⟨t1, t2, t3, t4⟩ := hT
        go_simp
        (try rw [if_pos (by omega)])
        (try with_reducible rfl)
      rotate_left
      (try simp only [Act.put, List.setIfInBounds_toArray, List.set_cons_zero, List.set_cons_succ])
      refine wpKeep_takeT (i := 5) (oi := ⟨some 46, _, _, _, _, _⟩) (v := ?_) rfl (by kernel_rfl) (by kernel_rfl) (by kernel_rfl) (by kernel_rfl) (fun _ _ _ h => h) (Or.inl ⟨by rfl, ?_⟩) (HTF.out _ (Keeps.refl _ _).drew) (fun _ => trivial) ?_
      rotate_left
      · intro w' hT
        obtain ⟨t1, t2, t3, t4⟩ := hT
        go_simp
        (try rw [if_pos (by omega)])
        (try with_reducible rfl)
      rotate_left
      (try simp only [Act.put, List.setIfInBounds_toArray, List.set_cons_zero, List.set_cons_succ])
      refine wpKeep_takeT (i := 6) (oi := ⟨some 47, _, _, _, _, _⟩) (v := ?_) rfl (by kernel_rfl) (by kernel_rfl) (by kernel_rfl) (by kernel_rfl) (fun _ _ _ h => h) (Or.inl ⟨by rfl, ?_⟩) (HTF.out _ (Keeps.refl _ _).drew) (fun _ => trivial) ?_
      rotate_left
      · intro w' hT
        obtain ⟨t1, t2, t3, t4⟩ := hT
        go_simp
        (try rw [if_pos (by omega)])
        (try with_reducible rfl)
      rotate_left
      (try simp only [Act.put, List.setIfInBounds_toArray, List.set_cons_zero, List.set_cons_succ])
      refine wpKeep_takeT (i := 7) (oi := ⟨some 48, _, _, _, _, _⟩) (v := ?_) rfl (by kernel_rfl) (by kernel_rfl) (by kernel_rfl) (by kernel_rfl) (fun _ _ _ h => h) (Or.inl ⟨by rfl, ?_⟩) (HTF.out _ (Keeps.refl _ _).drew) (fun _ => trivial) ?_
      rotate_left
      · intro w' hT
        obtain ⟨t1, t2, t3, t4⟩ := hT
        go_simp
        (try rw [if_pos (by omega)])
        (try with_reducible rfl)
      rotate_left
      (try simp only [Act.put, List.setIfInBounds_toArray, List.set_cons_zero, List.set_cons_succ])
      refine wpKeep_takeT (i := 8) (oi := ⟨some 49, _, _, _, _, _⟩) (v := ?_) rfl (by kernel_rfl) (by kernel_rfl) (by kernel_rfl) (by kernel_rfl) (fun _ _ _ h => h) (Or.inl ⟨by rfl, ?_⟩) (HTF.out _ (Keeps.refl _ _).drew) (fun _ => trivial) ?_
      rotate_left
      · intro w' hT
        obtain ⟨t1, t2, t3, t4⟩ := hT
        go_simp
        (try rw [if_pos (by omega)])
        (try with_reducible rfl)
      rotate_left
      (try simp only [Act.put, List.setIfInBounds_toArray, List.set_cons_zero, List.set_cons_succ])
      refine wpKeep_takeT (i := 9) (oi := ⟨some 50, _, _, _, _, _⟩) (v := ?_) rfl (by kernel_rfl) (by kernel_rfl) (by kernel_rfl) (by kernel_rfl) (fun _ _ _ h => h) (Or.inl ⟨by rfl, ?_⟩) (HTF.out _ (Keeps.refl _ _).drew) (fun _ => trivial) ?_
      rotate_left
      · intro w' hT
        obtain ⟨t1, t2, t3, t4⟩ := hT
        go_simp
        (try rw [if_pos (by omega)])
        (try with_reducible rfl)
      rotate_left
      (try simp only [Act.put, List.setIfInBounds_toArray, List.set_cons_zero, List.set_cons_succ])
      refine wpKeep_takeT (i := 10) (oi := ⟨some 51, _, _, _, _, _⟩) (v := ?_) rfl (by kernel_rfl) (by kernel_rfl) (by kernel_rfl) (by kernel_rfl) (fun _ _ _ h => h) (Or.inl ⟨by rfl, ?_⟩) (HTF.out _ (Keeps.refl _ _).drew) (fun _ => trivial) ?_
      rotate_left
      · intro w' hT
        obtain ⟨t1, t2, t3, t4⟩ := hT
        go_simp
        (try rw [if_pos (by omega)])
        (try with_reducible rfl)
      rotate_left
      (try simp only [Act.put, List.setIfInBounds_toArray, List.set_cons_zero, List.set_cons_succ])
      refine wpKeep_ready (rs := [11, 14]) (by kernel_rfl) (by simp) ?_
      refine AllKeep.cons (o := ⟨some 52, _, _, _, _, _⟩) rfl (fun Kq hK => ?_) (AllKeep.cons (o := ⟨some 7, _, _, _, _, _⟩) rfl (fun Kq hK => ?_) AllKeep.nil)
      · as_aux_lemma =>
        go_simp
        go_at_call 9
        refine (HPK.out _).mono ?_
        rintro e _ ⟨rfl, rfl⟩
        refine hK.out _ _ (HTF.out _ (Keeps.refl _ _).drew) (fun _ => trivial) ?_
        clear hK Kq
        (try simp only [Act.put, List.setIfInBounds_toArray, List.set_cons_zero, List.set_cons_succ])
        refine wpKeep_takeT (i := 12) (oi := ⟨some 53, _, _, _, _, _⟩) (v := ?_) rfl (by kernel_rfl) (by kernel_rfl) (by kernel_rfl) (by kernel_rfl) (fun _ _ _ h => h) (Or.inl ⟨by rfl, ?_⟩) (HTF.out _ (Keeps.refl _ _).drew) (fun _ => trivial) ?_
        rotate_left
        · intro w' hT
          obtain ⟨t1, t2, t3, t4⟩ := hT
          go_simp
          (try rw [if_pos (by omega)])
          (try with_reducible rfl)
        rotate_left
        (try simp only [Act.put, List.setIfInBounds_toArray, List.set_cons_zero, List.set_cons_succ])
        refine wpKeep_takeT (i := 13) (oi := ⟨some 54, _, _, _, _, _⟩) (v := ?_) rfl (by kernel_rfl) (by kernel_rfl) (by kernel_rfl) (by kernel_rfl) (fun _ _ _ h => h) (Or.inl ⟨by rfl, ?_⟩) (HTF.out _ (Keeps.refl _ _).drew) (fun _ => trivial) ?_
        rotate_left
        · intro w' hT
          obtain ⟨t1, t2, t3, t4⟩ := hT
          go_simp
          (try rw [if_pos (by omega)])
          (try with_reducible rfl)
        rotate_left
        (try simp only [Act.put, List.setIfInBounds_toArray, List.set_cons_zero, List.set_cons_succ])
        refine wpKeep_ready (rs := [14]) (by kernel_rfl) (by simp) ?_
        refine AllKeep.cons (o := ⟨some 7, _, _, _, _, _⟩) rfl (fun Kq hK => ?_) AllKeep.nil
        go_simp
        refine hK.out _ _ (HTF.out _ ((Keeps.refl _ _).drew.alloc _)) (fun _ => trivial) ?_
        clear hK Kq
        (try simp only [Act.put, List.setIfInBounds_toArray, List.set_cons_zero, List.set_cons_succ])
        refine wpKeep_ready (rs := [15]) (by kernel_rfl) (by simp) ?_
        refine AllKeep.cons (o := ⟨none, _, _, _, _, _⟩) rfl (fun Kq hK => ?_) AllKeep.nil
        go_simp
        refine hK.out _ _ (HTF.out _ ((Keeps.refl _ _).drew.alloc _)) (fun _ => trivial) ?_
        clear hK Kq
        (try simp only [Act.put, List.setIfInBounds_toArray, List.set_cons_zero, List.set_cons_succ])
        refine wpKeep_done (by kernel_rfl) ?_ _
        go_wp2
        go_meet
        exact ⟨rfl, heap_at_alloc rfl, (Keeps.refl _ _).drew.alloc _⟩
      · as_aux_lemma =>
        go_simp
        refine hK.out _ _ (HTF.out _ ((Keeps.refl _ _).drew.alloc _)) (fun _ => trivial) ?_
        clear hK Kq
        (try simp only [Act.put, List.setIfInBounds_toArray, List.set_cons_zero, List.set_cons_succ])
        refine wpKeep_ready (rs := [11]) (by kernel_rfl) (by simp) ?_
        refine AllKeep.cons (o := ⟨some 52, _, _, _, _, _⟩) rfl (fun Kq hK => ?_) AllKeep.nil
        go_simp
        go_at_call 9
        refine (HPK.out _).mono ?_
        rintro e _ ⟨rfl, rfl⟩
        refine hK.out _ _ (HTF.out _ ((Keeps.refl _ _).drew.alloc _)) (fun _ => trivial) ?_
        clear hK Kq
        (try simp only [Act.put, List.setIfInBounds_toArray, List.set_cons_zero, List.set_cons_succ])
        refine wpKeep_takeT (i := 12) (oi := ⟨some 53, _, _, _, _, _⟩) (v := ?_) rfl (by kernel_rfl) (by kernel_rfl) (by kernel_rfl) (by kernel_rfl) (fun _ _ _ h => h) (Or.inl ⟨by rfl, ?_⟩) (HTF.out _ ((Keeps.refl _ _).drew.alloc _)) (fun _ => trivial) ?_
        rotate_left
        · intro w' hT
          obtain ⟨t1, t2, t3, t4⟩ := hT
          go_simp
          (try rw [if_pos (by omega)])
          (try with_reducible rfl)
        rotate_left
        (try simp only [Act.put, List.setIfInBounds_toArray, List.set_cons_zero, List.set_cons_succ])
        refine wpKeep_takeT (i := 13) (oi := ⟨some 54, _, _, _, _, _⟩) (v := ?_) rfl (by kernel_rfl) (by kernel_rfl) (by kernel_rfl) (by kernel_rfl) (fun _ _ _ h => h) (Or.inl ⟨by rfl, ?_⟩) (HTF.out _ ((Keeps.refl _ _).drew.alloc _)) (fun _ => trivial) ?_
        rotate_left
        · intro w' hT
          obtain ⟨t1, t2, t3, t4⟩ := hT
          go_simp
          (try rw [if_pos (by omega)])
          (try with_reducible rfl)
        rotate_left
        (try simp only [Act.put, List.setIfInBounds_toArray, List.set_cons_zero, List.set_cons_succ])
        refine wpKeep_ready (rs := [15]) (by kernel_rfl) (by simp) ?_
        refine AllKeep.cons (o := ⟨none, _, _, _, _, _⟩) rfl (fun Kq hK => ?_) AllKeep.nil
        go_simp
        refine hK.out _ _ (HTF.out _ ((Keeps.refl _ _).drew.alloc _)) (fun _ => trivial) ?_
        clear hK Kq
        (try simp only [Act.put, List.setIfInBounds_toArray, List.set_cons_zero, List.set_cons_succ])
        refine wpKeep_done (by kernel_rfl) ?_ _
        go_wp2
        go_meet
        exact ⟨rfl, heap_at_alloc rfl, (Keeps.refl _ _).drew.alloc _⟩
    case rest =>
      as_aux_lemma =>
      obtain ⟨rfl, hsb, f3⟩ := hcut
      obtain ⟨W4, rfl⟩ : ∃ W4, W4 = wc := ⟨_, rfl⟩
      have F4 := hid (F2.out.trans f3)
      have H4 := hid (H2.out.fresh f3)
      have hxb4 := f3.at_ HB2.out (fun h => h)
      have hcx : c xb = 0 := H.out.unborn xb (by rw [HXB.out]; exact Nat.le_refl _)
      have hcs : c w2.heap.size = 0 := H.out.unborn _ F2.out.size
      obtain ⟨sb, hsbn⟩ : ∃ sb, w2.heap.size = sb := ⟨_, rfl⟩
      rw [hsbn] at hsb hcs ⊢
      have HPB : Hid (∀ (S : Nat → Prop) (W : World), Keeps S W4 W → (∀ g, S g → g < W4.heap.size → c g ≠ 0) → W.cell? ⟨xb, 0, none⟩ = some (.int .i64 2) ∧ W.cell? ⟨xb, 2, none⟩ = some (.int .i64 m) ∧ W.cell? ⟨xb, 3, none⟩ = some (.string (str s)) ∧ W.cell? ⟨xb, 4, none⟩ = some (.slice ko ks.length kc) ∧ W.cell? ⟨sb, 0, none⟩ = some (.pointer (some ⟨d, 0, none⟩)) ∧ W.cell? ⟨sb, 1, none⟩ = some (.pointer (some ⟨x, 0, none⟩))) := fun S W k hS => by
        have b1 := k.at_ hxb4 (fun e => hS _ e (lt_of_block hxb4) hcx)
        have b2 := k.at_ hsb (fun e => hS _ e (lt_of_block hsb) hcs)
        exact ⟨(cell_at b1 0).trans rfl, (cell_at b1 2).trans rfl, (cell_at b1 3).trans rfl, (cell_at b1 4).trans rfl, (cell_at b2 0).trans rfl, (cell_at b2 1).trans rfl⟩
      have HDV := hid (H4.out.vw.dev i (d, x) HSS.out)
      have HRF := hid (H4.out.vw.ref i (d, x) HSS.out)
      have HOK := hid (H4.out.vw.okd i hi2)
      have HKB := hid (F4.out.mono (S' := fun q => B ≤ q) fun _ _ h => h.elim)
      obtain ⟨x0, x2, x3, x4, s0, s1⟩ := HPB.out (fun _ => False) W4 (Keeps.refl _ _) (fun _ h => h.elim)
      clear hsb f3 hxb4 hcx hcs hsbn HTF HPK hgs F2 H2 HB2 HF1 H HXB
      have HR := hid (dwrite _ d n (f i) W4 m s HDV.out HOK.out (by omega))
      go_wp2_with fail
      refine HR.out.mono ?_
      rintro e w5 ⟨rfl, hd5, k5⟩
      have h5 := H4.out.setDev HSS.out k5 hd5 (wrSt_ok HOK.out m s) (Nat.le_succ _)
      obtain ⟨y0, y2, y3, y4, t0, t1⟩ := HPB.out _ w5 k5 (fun g e _ => by have e : c g = 12 + 2 * i := e; omega)
      have HRX := hid (xwrite _ x (f i) w5 m s (h5.vw.ref i (d, x) HSS.out) HOK.out)
      have H5 := hid (And.intro h5 (H4.out.owns k5 fun g e _ => by have e : c g = 12 + 2 * i := e; omega))
      clear x0 x2 x3 x4 s0 s1 hd5 k5 h5 HR
      go_wp2_with fail
      refine HRX.out.mono ?_
      rintro e w6 ⟨rfl, hx6, k6⟩
      have h6 := H5.out.1.setRef HSS.out k6 hx6 (wrSt_ok HOK.out m s)
      have HA := hid (And.intro (show Aft B w6 ob (n + 1) (N + 2) from ⟨_, _, _, h6.more (Nat.le_refl _) (by omega)⟩) ((HKB.out.trans H5.out.2).trans (H5.out.1.owns k6 fun g e _ => by have e : c g = 13 + 2 * i := e; omega)))
      clear y0 y2 y3 y4 t0 t1 HRX hx6 k6 h6 H5
      go_wp2_with fail
      go_ret
      exact ⟨by first | rfl | simp, HA.out.1, HA.out.2⟩
end Go.Proofs.Ytbhienlalpbflaa

namespace Go.Proofs.Ytbhienlalpbflaa
open Go.RowKit Go.Maps

set_option maxRecDepth 100000 in
set_option maxHeartbeats 8000000 in
theorem play_flush (B ob n N : Nat) (c : Nat → Nat) (w : World) (v : WV) (f : Nat → St) (h : DW B c w ob v f f n N) (on m : Int) (s : List UInt8) (ko : Option Addr) (kc : Nat) (ks : List (Int × Int)) (hp : PlayIn B n N w on m s ko kc ks) :
    Calls Try.prog 18 #[.pointer (some ⟨ob, 0, none⟩), opV 4 on m s (.slice ko ks.length kc)] w fun e w' => e = .returned (.bool true) ∧ Aft B w' ob (n + 1) (N + 2) ∧ Keeps (fun q => B ≤ q) w w' := by
  obtain ⟨hn, hN, hks, hkB, hkl, hkw, hon, hon2, hm, hm2, hs⟩ := hp
  obtain ⟨al, cl, elv⟩ := ownsRow_slice h.vw.row
  obtain ⟨w1, hw1⟩ : ∃ w1, w.alloc (.cells #[.int .i64 4, .int .i64 on, .int .i64 m, .string (str s), .slice ko ks.length kc] 51) = w1 := ⟨_, rfl⟩
  have f1 : Fresh w w1 := by rw [← hw1]; exact (Keeps.refl _ _).alloc _
  have hb1 : w1.heap[w.heap.size]? = some (.cells #[.int .i64 4, .int .i64 on, .int .i64 m, .string (str s), .slice ko ks.length kc] 51 (0, 0)) := by rw [← hw1]; exact heap_alloc_new w _
  obtain ⟨xb, hxb⟩ : ∃ xb, w.heap.size = xb := ⟨_, rfl⟩
  rw [hxb] at hb1
  have HMK := hid fun W => makes_other ob W 4 on m s ko ks.length kc (by first | decide | assumption) (by first | decide | assumption)
  have x0 : w1.cell? ⟨xb, 0, none⟩ = some (.int .i64 4) := (cell_at hb1 0).trans rfl
  have x1 : w1.cell? ⟨xb, 1, none⟩ = some (.int .i64 on) := (cell_at hb1 1).trans rfl
  have x2 : w1.cell? ⟨xb, 2, none⟩ = some (.int .i64 m) := (cell_at hb1 2).trans rfl
  have x3 : w1.cell? ⟨xb, 3, none⟩ = some (.string (str s)) := (cell_at hb1 3).trans rfl
  have x4 : w1.cell? ⟨xb, 4, none⟩ = some (.slice ko ks.length kc) := (cell_at hb1 4).trans rfl
  have H := hid h
  have HF1 := hid f1
  have HB1 := hid hb1
  have HKS := hid hks
  have HXB := hid hxb
  clear h f1 hb1 hks
  unfold opV
  go_enter Try.func18, Try.ntmps18
  go_wp2_with fail
  (try rw [hw1])
  (try rw [hxb])
  clear hw1 hxb
  refine (HMK.out _).mono ?_
  rintro e w2 ⟨rfl, f2⟩
  have F2 := hid (HF1.out.trans f2)
  have H2 := hid (H.out.fresh F2.out)
  have hb2 := f2.at_ HB1.out (fun h => h)
  have HB2 := hid hb2
  have c0 := (cell_at H2.out.box 0).trans (show _ = some (Value.slice al v.ss.length cl) from congrArg some elv)
  clear f2 hb2 x0 x1 x2 x3 x4 HMK HB1
  by_cases h0 : v.ss.length = 0
  · have h0I : (v.ss.length : Int) = 0 := by omega
    have h0n : ((v.ss.length : Int) == 0) = true := by simp [h0]
    have HA := hid (And.intro (show Aft B w2 ob (n + 1) (N + 2) from ⟨_, _, _, H2.out.more (Nat.le_succ _) (by omega)⟩) (F2.out.mono (S' := fun q => B ≤ q) fun _ _ h => h.elim))
    go_wp2_with fail
    go_ret
    exact ⟨by first | rfl | simp, HA.out.1, HA.out.2⟩
  · have h0I : ¬ (v.ss.length : Int) = 0 := by omega
    have h0n : ((v.ss.length : Int) == 0) = false := by simp [h0]
    obtain ⟨i, hi, hi2⟩ := picked on v.ss.length (by omega)
    obtain ⟨⟨d, x⟩, hss⟩ : ∃ y, v.ss[i]? = some y := ⟨v.ss[i], by simp⟩
    have hfew := H2.out.vw.few
    have HPK := hid fun W => pick_any on v.ss.length W (by omega) (by omega) hon hon2
    rw [hi] at HPK
    have hrow2 : w2.ownsRow 0 53 2 (.slice al v.ss.length cl) v.ss.length (sideCells v.ss) := by rw [← elv]; exact H2.out.vw.row
    obtain ⟨gs, eal, hgs, hgc⟩ := ownsRow_cells hrow2 (by omega)
    subst eal
    obtain ⟨g0, g1⟩ := sideCells_at v.ss i (d, x) hss
    have g0 := hgc _ _ g0
    have g1 := hgc _ _ g1
    have o1 := (cell_at HB2.out 1).trans (show _ = some (Value.int .i64 on) from rfl)
    have HTF : Hid (∀ W, Fresh w2 W → W.cell? ⟨ob, 0, none⟩ = some (.slice (some ⟨gs, 0, none⟩) v.ss.length cl) ∧ W.cell? ⟨xb, 1, none⟩ = some (.int .i64 on) ∧ W.cell? ⟨gs, i * 2, none⟩ = some (.pointer (some ⟨d, 0, none⟩)) ∧ W.cell? ⟨gs, i * 2 + 1, none⟩ = some (.pointer (some ⟨x, 0, none⟩))) := fun W f =>
      ⟨(f.cell (p := ⟨ob, 0, none⟩) (lt_of_block H2.out.box) (fun h => h)).trans c0, (f.cell (p := ⟨xb, 1, none⟩) (lt_of_block HB2.out) (fun h => h)).trans o1, (f.cell (p := ⟨gs, i * 2, none⟩) hgs (fun h => h)).trans g0, (f.cell (p := ⟨gs, i * 2 + 1, none⟩) hgs (fun h => h)).trans g1⟩
    have hi5 : i < 5 := by omega
    have hiI : (i : Int) < (v.ss.length : Int) := by omega
    have hi0 : (0 : Int) ≤ (i : Int) := by omega
    have HSS := hid hss
    clear hrow2 hgc g0 g1 o1 hss hi
    go_wp2_with fail
    clear c0
    go_cut [7] (fun s7 wx => s7 = .pointer (some ⟨w2.heap.size, 0, none⟩) ∧ wx.heap[w2.heap.size]? = some (.cells #[.pointer (some ⟨d, 0, none⟩), .pointer (some ⟨x, 0, none⟩)] 53 (0, 0)) ∧ Fresh w2 wx)
    case first =>
      refine wp_region_keep 16 (fun w' => w'.cell? ⟨ob, 0, none⟩ = some (.slice (some ⟨gs, 0, none⟩) v.ss.length cl) ∧ w'.cell? ⟨xb, 1, none⟩ = some (.int .i64 on) ∧ w'.cell? ⟨gs, i * 2, none⟩ = some (.pointer (some ⟨d, 0, none⟩)) ∧ w'.cell? ⟨gs, i * 2 + 1, none⟩ = some (.pointer (some ⟨x, 0, none⟩))) (fun _ => True) (fun _ => true) (by kernel_rfl) (by kernel_rfl) ?_
      (try (change wpKeep _ _ _ _ _ _ _ _ _ _ (World.drew _)))
      refine wpKeep_takeT (i := 0) (oi := ⟨some 41, _, _, _, _, _⟩) (v := ?_) rfl (by kernel_rfl) (by kernel_rfl) (by kernel_rfl) (by kernel_rfl) (fun _ _ _ h => h) (Or.inl ⟨by rfl, ?_⟩) (HTF.out _ (Keeps.refl _ _).drew) (fun _ => trivial) ?_
      rotate_left
      · intro w' hT
        obtain ⟨t1, t2, t3, t4⟩ := hT
        go_simp
        (try rw [if_pos (by omega)])
        (try with_reducible rfl)
      rotate_left
      (try simp only [Act.put, List.setIfInBounds_toArray, List.set_cons_zero, List.set_cons_succ])
      refine wpKeep_takeT (i := 1) (oi := ⟨some 42, _, _, _, _, _⟩) (v := ?_) rfl (by kernel_rfl) (by kernel_rfl) (by kernel_rfl) (by kernel_rfl) (fun _ _ _ h => h) (Or.inl ⟨by rfl, ?_⟩) (HTF.out _ (Keeps.refl _ _).drew) (fun _ => trivial) ?_
      rotate_left
      · intro w' hT
        obtain ⟨t1, t2, t3, t4⟩ := hT
        go_simp
        (try rw [if_pos (by omega)])
        (try with_reducible rfl)
      rotate_left
      (try simp only [Act.put, List.setIfInBounds_toArray, List.set_cons_zero, List.set_cons_succ])
      refine wpKeep_takeT (i := 2) (oi := ⟨some 43, _, _, _, _, _⟩) (v := ?_) rfl (by kernel_rfl) (by kernel_rfl) (by kernel_rfl) (by kernel_rfl) (fun _ _ _ h => h) (Or.inl ⟨by rfl, ?_⟩) (HTF.out _ (Keeps.refl _ _).drew) (fun _ => trivial) ?_
      rotate_left
      · intro w' hT
        obtain ⟨t1, t2, t3, t4⟩ := hT
        go_simp
        (try rw [if_pos (by omega)])
        (try with_reducible rfl)
      rotate_left
      (try simp only [Act.put, List.setIfInBounds_toArray, List.set_cons_zero, List.set_cons_succ])
      refine wpKeep_takeT (i := 3) (oi := ⟨some 44, _, _, _, _, _⟩) (v := ?_) rfl (by kernel_rfl) (by kernel_rfl) (by kernel_rfl) (by kernel_rfl) (fun _ _ _ h => h) (Or.inl ⟨by rfl, ?_⟩) (HTF.out _ (Keeps.refl _ _).drew) (fun _ => trivial) ?_
      rotate_left
      · intro w' hT
        obtain ⟨t1, t2, t3, t4⟩ := hT
        go_simp
        (try rw [if_pos (by omega)])
        (try with_reducible rfl)
      rotate_left
      (try simp only [Act.put, List.setIfInBounds_toArray, List.set_cons_zero, List.set_cons_succ])
      refine wpKeep_takeT (i := 4) (oi := ⟨some 45, _, _, _, _, _⟩) (v := ?_) rfl (by kernel_rfl) (by kernel_rfl) (by kernel_rfl) (by kernel_rfl) (fun _ _ _ h => h) (Or.inl ⟨by rfl, ?_⟩) (HTF.out _ (Keeps.refl _ _).drew) (fun _ => trivial) ?_
      rotate_left
      · intro w' hT
        obtain ⟨t1, t2, t3, t4⟩ := hT
        go_simp
        (try rw [if_pos (by omega)])
        (try with_reducible rfl)
      rotate_left
      (try simp only [Act.put, List.setIfInBounds_toArray, List.set_cons_zero, List.set_cons_succ])
      refine wpKeep_takeT (i := 5) (oi := ⟨some 46, _, _, _, _, _⟩) (v := ?_) rfl (by kernel_rfl) (by kernel_rfl) (by kernel_rfl) (by kernel_rfl) (fun _ _ _ h => h) (Or.inl ⟨by rfl, ?_⟩) (HTF.out _ (Keeps.refl _ _).drew) (fun _ => trivial) ?_
      rotate_left
      · intro w' hT
        obtain ⟨t1, t2, t3, t4⟩ := hT
        go_simp
        (try rw [if_pos (by omega)])
        (try with_reducible rfl)
      rotate_left
      (try simp only [Act.put, List.setIfInBounds_toArray, List.set_cons_zero, List.set_cons_succ])
      refine wpKeep_takeT (i := 6) (oi := ⟨some 47, _, _, _, _, _⟩) (v := ?_) rfl (by kernel_rfl) (by kernel_rfl) (by kernel_rfl) (by kernel_rfl) (fun _ _ _ h => h) (Or.inl ⟨by rfl, ?_⟩) (HTF.out _ (Keeps.refl _ _).drew) (fun _ => trivial) ?_
      rotate_left
      · intro w' hT
        obtain ⟨t1, t2, t3, t4⟩ := hT
        go_simp
        (try rw [if_pos (by omega)])
        (try with_reducible rfl)
      rotate_left
      (try simp only [Act.put, List.setIfInBounds_toArray, List.set_cons_zero, List.set_cons_succ])
      refine wpKeep_takeT (i := 7) (oi := ⟨some 48, _, _, _, _, _⟩) (v := ?_) rfl (by kernel_rfl) (by kernel_rfl) (by kernel_rfl) (by kernel_rfl) (fun _ _ _ h => h) (Or.inl ⟨by rfl, ?_⟩) (HTF.out _ (Keeps.refl _ _).drew) (fun _ => trivial) ?_
      rotate_left
      · intro w' hT
        obtain ⟨t1, t2, t3, t4⟩ := hT
        go_simp
        (try rw [if_pos (by omega)])
        (try with_reducible rfl)
      rotate_left
      (try simp only [Act.put, List.setIfInBounds_toArray, List.set_cons_zero, List.set_cons_succ])
      refine wpKeep_takeT (i := 8) (oi := ⟨some 49, _, _, _, _, _⟩) (v := ?_) rfl (by kernel_rfl) (by kernel_rfl) (by kernel_rfl) (by kernel_rfl) (fun _ _ _ h => h) (Or.inl ⟨by rfl, ?_⟩) (HTF.out _ (Keeps.refl _ _).drew) (fun _ => trivial) ?_
      rotate_left
      · intro w' hT
        obtain ⟨t1, t2, t3, t4⟩ := hT
        go_simp
        (try rw [if_pos (by omega)])
        (try with_reducible rfl)
      rotate_left
      (try simp only [Act.put, List.setIfInBounds_toArray, List.set_cons_zero, List.set_cons_succ])
      refine wpKeep_takeT (i := 9) (oi := ⟨some 50, _, _, _, _, _⟩) (v := ?_) rfl (by kernel_rfl) (by kernel_rfl) (by kernel_rfl) (by kernel_rfl) (fun _ _ _ h => h) (Or.inl ⟨by rfl, ?_⟩) (HTF.out _ (Keeps.refl _ _).drew) (fun _ => trivial) ?_
      rotate_left
      · intro w' hT
        obtain ⟨t1, t2, t3, t4⟩ := hT
        go_simp
        (try rw [if_pos (by omega)])
        (try with_reducible rfl)
      rotate_left
      (try simp only [Act.put, List.setIfInBounds_toArray, List.set_cons_zero, List.set_cons_succ])
      refine wpKeep_takeT (i := 10) (oi := ⟨some 51, _, _, _, _, _⟩) (v := ?_) rfl (by kernel_rfl) (by kernel_rfl) (by kernel_rfl) (by kernel_rfl) (fun _ _ _ h => h) (Or.inl ⟨by rfl, ?_⟩) (HTF.out _ (Keeps.refl _ _).drew) (fun _ => trivial) ?_
      rotate_left
      · intro w' hT
        obtain ⟨t1, t2, t3, t4⟩ := hT
        go_simp
        (try rw [if_pos (by omega)])
        (try with_reducible rfl)
      rotate_left
      (try simp only [Act.put, List.setIfInBounds_toArray, List.set_cons_zero, List.set_cons_succ])
      refine wpKeep_ready (rs := [11, 14]) (by kernel_rfl) (by simp) ?_
      refine AllKeep.cons (o := ⟨some 52, _, _, _, _, _⟩) rfl (fun Kq hK => ?_) (AllKeep.cons (o := ⟨some 7, _, _, _, _, _⟩) rfl (fun Kq hK => ?_) AllKeep.nil)
      · as_aux_lemma =>
        go_simp
        go_at_call 9
        refine (HPK.out _).mono ?_
        rintro e _ ⟨rfl, rfl⟩
        refine hK.out _ _ (HTF.out _ (Keeps.refl _ _).drew) (fun _ => trivial) ?_
        clear hK Kq
        (try simp only [Act.put, List.setIfInBounds_toArray, List.set_cons_zero, List.set_cons_succ])
        refine wpKeep_takeT (i := 12) (oi := ⟨some 53, _, _, _, _, _⟩) (v := ?_) rfl (by kernel_rfl) (by kernel_rfl) (by kernel_rfl) (by kernel_rfl) (fun _ _ _ h => h) (Or.inl ⟨by rfl, ?_⟩) (HTF.out _ (Keeps.refl _ _).drew) (fun _ => trivial) ?_
        rotate_left
        · intro w' hT
          obtain ⟨t1, t2, t3, t4⟩ := hT
          go_simp
          (try rw [if_pos (by omega)])
          (try with_reducible rfl)
        rotate_left
        (try simp only [Act.put, List.setIfInBounds_toArray, List.set_cons_zero, List.set_cons_succ])
        refine wpKeep_takeT (i := 13) (oi := ⟨some 54, _, _, _, _, _⟩) (v := ?_) rfl (by kernel_rfl) (by kernel_rfl) (by kernel_rfl) (by kernel_rfl) (fun _ _ _ h => h) (Or.inl ⟨by rfl, ?_⟩) (HTF.out _ (Keeps.refl _ _).drew) (fun _ => trivial) ?_
        rotate_left
        · intro w' hT
          obtain ⟨t1, t2, t3, t4⟩ := hT
          go_simp
          (try rw [if_pos (by omega)])
          (try with_reducible rfl)
        rotate_left
        (try simp only [Act.put, List.setIfInBounds_toArray, List.set_cons_zero, List.set_cons_succ])
        refine wpKeep_ready (rs := [14]) (by kernel_rfl) (by simp) ?_
        refine AllKeep.cons (o := ⟨some 7, _, _, _, _, _⟩) rfl (fun Kq hK => ?_) AllKeep.nil
        go_simp
        refine hK.out _ _ (HTF.out _ ((Keeps.refl _ _).drew.alloc _)) (fun _ => trivial) ?_
        clear hK Kq
        (try simp only [Act.put, List.setIfInBounds_toArray, List.set_cons_zero, List.set_cons_succ])
        refine wpKeep_ready (rs := [15]) (by kernel_rfl) (by simp) ?_
        refine AllKeep.cons (o := ⟨none, _, _, _, _, _⟩) rfl (fun Kq hK => ?_) AllKeep.nil
        go_simp
        refine hK.out _ _ (HTF.out _ ((Keeps.refl _ _).drew.alloc _)) (fun _ => trivial) ?_
        clear hK Kq
        (try simp only [Act.put, List.setIfInBounds_toArray, List.set_cons_zero, List.set_cons_succ])
        refine wpKeep_done (by kernel_rfl) ?_ _
        go_wp2
        go_meet
        exact ⟨rfl, heap_at_alloc rfl, (Keeps.refl _ _).drew.alloc _⟩
      · as_aux_lemma =>
        go_simp
        refine hK.out _ _ (HTF.out _ ((Keeps.refl _ _).drew.alloc _)) (fun _ => trivial) ?_
        clear hK Kq
        (try simp only [Act.put, List.setIfInBounds_toArray, List.set_cons_zero, List.set_cons_succ])
        refine wpKeep_ready (rs := [11]) (by kernel_rfl) (by simp) ?_
        refine AllKeep.cons (o := ⟨some 52, _, _, _, _, _⟩) rfl (fun Kq hK => ?_) AllKeep.nil
        go_simp
        go_at_call 9
        refine (HPK.out _).mono ?_
        rintro e _ ⟨rfl, rfl⟩
        refine hK.out _ _ (HTF.out _ ((Keeps.refl _ _).drew.alloc _)) (fun _ => trivial) ?_
        clear hK Kq
        (try simp only [Act.put, List.setIfInBounds_toArray, List.set_cons_zero, List.set_cons_succ])
        refine wpKeep_takeT (i := 12) (oi := ⟨some 53, _, _, _, _, _⟩) (v := ?_) rfl (by kernel_rfl) (by kernel_rfl) (by kernel_rfl) (by kernel_rfl) (fun _ _ _ h => h) (Or.inl ⟨by rfl, ?_⟩) (HTF.out _ ((Keeps.refl _ _).drew.alloc _)) (fun _ => trivial) ?_
        rotate_left
        · intro w' hT
          obtain ⟨t1, t2, t3, t4⟩ := hT
          go_simp
          (try rw [if_pos (by omega)])
          (try with_reducible rfl)
        rotate_left
        (try simp only [Act.put, List.setIfInBounds_toArray, List.set_cons_zero, List.set_cons_succ])
        refine wpKeep_takeT (i := 13) (oi := ⟨some 54, _, _, _, _, _⟩) (v := ?_) rfl (by kernel_rfl) (by kernel_rfl) (by kernel_rfl) (by kernel_rfl) (fun _ _ _ h => h) (Or.inl ⟨by rfl, ?_⟩) (HTF.out _ ((Keeps.refl _ _).drew.alloc _)) (fun _ => trivial) ?_
        rotate_left
        · intro w' hT
          obtain ⟨t1, t2, t3, t4⟩ := hT
          go_simp
          (try rw [if_pos (by omega)])
          (try with_reducible rfl)
        rotate_left
        (try simp only [Act.put, List.setIfInBounds_toArray, List.set_cons_zero, List.set_cons_succ])
        refine wpKeep_ready (rs := [15]) (by kernel_rfl) (by simp) ?_
        refine AllKeep.cons (o := ⟨none, _, _, _, _, _⟩) rfl (fun Kq hK => ?_) AllKeep.nil
        go_simp
        refine hK.out _ _ (HTF.out _ ((Keeps.refl _ _).drew.alloc _)) (fun _ => trivial) ?_
        clear hK Kq
        (try simp only [Act.put, List.setIfInBounds_toArray, List.set_cons_zero, List.set_cons_succ])
        refine wpKeep_done (by kernel_rfl) ?_ _
        go_wp2
        go_meet
        exact ⟨rfl, heap_at_alloc rfl, (Keeps.refl _ _).drew.alloc _⟩
    case rest =>
      as_aux_lemma =>
      obtain ⟨rfl, hsb, f3⟩ := hcut
      obtain ⟨W4, rfl⟩ : ∃ W4, W4 = wc := ⟨_, rfl⟩
      have F4 := hid (F2.out.trans f3)
      have H4 := hid (H2.out.fresh f3)
      have hxb4 := f3.at_ HB2.out (fun h => h)
      have hcx : c xb = 0 := H.out.unborn xb (by rw [HXB.out]; exact Nat.le_refl _)
      have hcs : c w2.heap.size = 0 := H.out.unborn _ F2.out.size
      obtain ⟨sb, hsbn⟩ : ∃ sb, w2.heap.size = sb := ⟨_, rfl⟩
      rw [hsbn] at hsb hcs ⊢
      have HPB : Hid (∀ (S : Nat → Prop) (W : World), Keeps S W4 W → (∀ g, S g → g < W4.heap.size → c g ≠ 0) → W.cell? ⟨xb, 0, none⟩ = some (.int .i64 4) ∧ W.cell? ⟨xb, 2, none⟩ = some (.int .i64 m) ∧ W.cell? ⟨xb, 3, none⟩ = some (.string (str s)) ∧ W.cell? ⟨xb, 4, none⟩ = some (.slice ko ks.length kc) ∧ W.cell? ⟨sb, 0, none⟩ = some (.pointer (some ⟨d, 0, none⟩)) ∧ W.cell? ⟨sb, 1, none⟩ = some (.pointer (some ⟨x, 0, none⟩))) := fun S W k hS => by
        have b1 := k.at_ hxb4 (fun e => hS _ e (lt_of_block hxb4) hcx)
        have b2 := k.at_ hsb (fun e => hS _ e (lt_of_block hsb) hcs)
        exact ⟨(cell_at b1 0).trans rfl, (cell_at b1 2).trans rfl, (cell_at b1 3).trans rfl, (cell_at b1 4).trans rfl, (cell_at b2 0).trans rfl, (cell_at b2 1).trans rfl⟩
      have HDV := hid (H4.out.vw.dev i (d, x) HSS.out)
      have HRF := hid (H4.out.vw.ref i (d, x) HSS.out)
      have HOK := hid (H4.out.vw.okd i hi2)
      have HKB := hid (F4.out.mono (S' := fun q => B ≤ q) fun _ _ h => h.elim)
      obtain ⟨x0, x2, x3, x4, s0, s1⟩ := HPB.out (fun _ => False) W4 (Keeps.refl _ _) (fun _ h => h.elim)
      clear hsb f3 hxb4 hcx hcs hsbn HTF HPK hgs F2 H2 HB2 HF1 H HXB
      have HR := hid (dflush _ d n (f i) W4 HDV.out HOK.out (by omega))
      go_wp2_with fail
      refine HR.out.mono ?_
      rintro e w5 ⟨rfl, hd5, k5⟩
      have h5 := H4.out.setDev HSS.out k5 hd5 (flSt_ok HOK.out) (Nat.le_refl _)
      obtain ⟨y0, y2, y3, y4, t0, t1⟩ := HPB.out _ w5 k5 (fun g e _ => by have e : c g = 12 + 2 * i := e; omega)
      have HRX := hid (xflush _ x (f i) w5 (h5.vw.ref i (d, x) HSS.out) HOK.out)
      have H5 := hid (And.intro h5 (H4.out.owns k5 fun g e _ => by have e : c g = 12 + 2 * i := e; omega))
      clear x0 x2 x3 x4 s0 s1 hd5 k5 h5 HR
      go_wp2_with fail
      refine HRX.out.mono ?_
      rintro e w6 ⟨rfl, hx6, k6⟩
      have h6 := H5.out.1.setRef HSS.out k6 hx6 (flSt_ok HOK.out)
      have HA := hid (And.intro (show Aft B w6 ob (n + 1) (N + 2) from ⟨_, _, _, h6.more (Nat.le_succ _) (by omega)⟩) ((HKB.out.trans H5.out.2).trans (H5.out.1.owns k6 fun g e _ => by have e : c g = 13 + 2 * i := e; omega)))
      clear y0 y2 y3 y4 t0 t1 HRX hx6 k6 h6 H5
      go_wp2_with fail
      go_ret
      exact ⟨by first | rfl | simp, HA.out.1, HA.out.2⟩
end Go.Proofs.Ytbhienlalpbflaa

namespace Go.Proofs.Ytbhienlalpbflaa
open Go.RowKit Go.Maps

set_option maxRecDepth 100000 in
set_option maxHeartbeats 8000000 in
theorem play_arm (B ob n N : Nat) (c : Nat → Nat) (w : World) (v : WV) (f : Nat → St) (h : DW B c w ob v f f n N) (on m : Int) (s : List UInt8) (ko : Option Addr) (kc : Nat) (ks : List (Int × Int)) (hp : PlayIn B n N w on m s ko kc ks) :
    Calls Try.prog 18 #[.pointer (some ⟨ob, 0, none⟩), opV 5 on m s (.slice ko ks.length kc)] w fun e w' => e = .returned (.bool true) ∧ Aft B w' ob (n + 1) (N + 2) ∧ Keeps (fun q => B ≤ q) w w' := by
  obtain ⟨hn, hN, hks, hkB, hkl, hkw, hon, hon2, hm, hm2, hs⟩ := hp
  obtain ⟨al, cl, elv⟩ := ownsRow_slice h.vw.row
  obtain ⟨w1, hw1⟩ : ∃ w1, w.alloc (.cells #[.int .i64 5, .int .i64 on, .int .i64 m, .string (str s), .slice ko ks.length kc] 51) = w1 := ⟨_, rfl⟩
  have f1 : Fresh w w1 := by rw [← hw1]; exact (Keeps.refl _ _).alloc _
  have hb1 : w1.heap[w.heap.size]? = some (.cells #[.int .i64 5, .int .i64 on, .int .i64 m, .string (str s), .slice ko ks.length kc] 51 (0, 0)) := by rw [← hw1]; exact heap_alloc_new w _
  obtain ⟨xb, hxb⟩ : ∃ xb, w.heap.size = xb := ⟨_, rfl⟩
  rw [hxb] at hb1
  have HMK := hid fun W => makes_other ob W 5 on m s ko ks.length kc (by first | decide | assumption) (by first | decide | assumption)
  have x0 : w1.cell? ⟨xb, 0, none⟩ = some (.int .i64 5) := (cell_at hb1 0).trans rfl
  have x1 : w1.cell? ⟨xb, 1, none⟩ = some (.int .i64 on) := (cell_at hb1 1).trans rfl
  have x2 : w1.cell? ⟨xb, 2, none⟩ = some (.int .i64 m) := (cell_at hb1 2).trans rfl
  have x3 : w1.cell? ⟨xb, 3, none⟩ = some (.string (str s)) := (cell_at hb1 3).trans rfl
  have x4 : w1.cell? ⟨xb, 4, none⟩ = some (.slice ko ks.length kc) := (cell_at hb1 4).trans rfl
  have H := hid h
  have HF1 := hid f1
  have HB1 := hid hb1
  have HKS := hid hks
  have HXB := hid hxb
  clear h f1 hb1 hks
  unfold opV
  go_enter Try.func18, Try.ntmps18
  go_wp2_with fail
  (try rw [hw1])
  (try rw [hxb])
  clear hw1 hxb
  refine (HMK.out _).mono ?_
  rintro e w2 ⟨rfl, f2⟩
  have F2 := hid (HF1.out.trans f2)
  have H2 := hid (H.out.fresh F2.out)
  have hb2 := f2.at_ HB1.out (fun h => h)
  have HB2 := hid hb2
  have c0 := (cell_at H2.out.box 0).trans (show _ = some (Value.slice al v.ss.length cl) from congrArg some elv)
  clear f2 hb2 x0 x1 x2 x3 x4 HMK HB1
  by_cases h0 : v.ss.length = 0
  · have h0I : (v.ss.length : Int) = 0 := by omega
    have h0n : ((v.ss.length : Int) == 0) = true := by simp [h0]
    have HA := hid (And.intro (show Aft B w2 ob (n + 1) (N + 2) from ⟨_, _, _, H2.out.more (Nat.le_succ _) (by omega)⟩) (F2.out.mono (S' := fun q => B ≤ q) fun _ _ h => h.elim))
    go_wp2_with fail
    go_ret
    exact ⟨by first | rfl | simp, HA.out.1, HA.out.2⟩
  · have h0I : ¬ (v.ss.length : Int) = 0 := by omega
    have h0n : ((v.ss.length : Int) == 0) = false := by simp [h0]
    obtain ⟨i, hi, hi2⟩ := picked on v.ss.length (by omega)
    obtain ⟨⟨d, x⟩, hss⟩ : ∃ y, v.ss[i]? = some y := ⟨v.ss[i], by simp⟩
    have hfew := H2.out.vw.few
    have HPK := hid fun W => pick_any on v.ss.length W (by omega) (by omega) hon hon2
    rw [hi] at HPK
    have hrow2 : w2.ownsRow 0 53 2 (.slice al v.ss.length cl) v.ss.length (sideCells v.ss) := by rw [← elv]; exact H2.out.vw.row
    obtain ⟨gs, eal, hgs, hgc⟩ := ownsRow_cells hrow2 (by omega)
    subst eal
    obtain ⟨g0, g1⟩ := sideCells_at v.ss i (d, x) hss
    have g0 := hgc _ _ g0
    have g1 := hgc _ _ g1
    have o1 := (cell_at HB2.out 1).trans (show _ = some (Value.int .i64 on) from rfl)
    have HTF : Hid (∀ W, Fresh w2 W → W.cell? ⟨ob, 0, none⟩ = some (.slice (some ⟨gs, 0, none⟩) v.ss.length cl) ∧ W.cell? ⟨xb, 1, none⟩ = some (.int .i64 on) ∧ W.cell? ⟨gs, i * 2, none⟩ = some (.pointer (some ⟨d, 0, none⟩)) ∧ W.cell? ⟨gs, i * 2 + 1, none⟩ = some (.pointer (some ⟨x, 0, none⟩))) := fun W f =>
      ⟨(f.cell (p := ⟨ob, 0, none⟩) (lt_of_block H2.out.box) (fun h => h)).trans c0, (f.cell (p := ⟨xb, 1, none⟩) (lt_of_block HB2.out) (fun h => h)).trans o1, (f.cell (p := ⟨gs, i * 2, none⟩) hgs (fun h => h)).trans g0, (f.cell (p := ⟨gs, i * 2 + 1, none⟩) hgs (fun h => h)).trans g1⟩
    have hi5 : i < 5 := by omega
    have hiI : (i : Int) < (v.ss.length : Int) := by omega
    have hi0 : (0 : Int) ≤ (i : Int) := by omega
    have HSS := hid hss
    clear hrow2 hgc g0 g1 o1 hss hi
    go_wp2_with fail
    clear c0
    go_cut [7] (fun s7 wx => s7 = .pointer (some ⟨w2.heap.size, 0, none⟩) ∧ wx.heap[w2.heap.size]? = some (.cells #[.pointer (some ⟨d, 0, none⟩), .pointer (some ⟨x, 0, none⟩)] 53 (0, 0)) ∧ Fresh w2 wx)
    case first =>
      refine wp_region_keep 16 (fun w' => w'.cell? ⟨ob, 0, none⟩ = some (.slice (some ⟨gs, 0, none⟩) v.ss.length cl) ∧ w'.cell? ⟨xb, 1, none⟩ = some (.int .i64 on) ∧ w'.cell? ⟨gs, i * 2, none⟩ = some (.pointer (some ⟨d, 0, none⟩)) ∧ w'.cell? ⟨gs, i * 2 + 1, none⟩ = some (.pointer (some ⟨x, 0, none⟩))) (fun _ => True) (fun _ => true) (by kernel_rfl) (by kernel_rfl) ?_
      (try (change wpKeep _ _ _ _ _ _ _ _ _ _ (World.drew _)))
      refine wpKeep_takeT (i := 0) (oi := ⟨some 41, _, _, _, _, _⟩) (v := ?_) rfl (by kernel_rfl) (by kernel_rfl) (by kernel_rfl) (by kernel_rfl) (fun _ _ _ h => h) (Or.inl ⟨by rfl, ?_⟩) (HTF.out _ (Keeps.refl _ _).drew) (fun _ => trivial) ?_
      rotate_left
      · intro w' hT
        obtain ⟨t1, t2, t3, t4⟩ := hT
        go_simp
        (try rw [if_pos (by omega)])
        (try with_reducible rfl)
      rotate_left
      (try simp only [Act.put, List.setIfInBounds_toArray, List.set_cons_zero, List.set_cons_succ])
      refine wpKeep_takeT (i := 1) (oi := ⟨some 42, _, _, _, _, _⟩) (v := ?_) rfl (by kernel_rfl) (by kernel_rfl) (by kernel_rfl) (by kernel_rfl) (fun _ _ _ h => h) (Or.inl ⟨by rfl, ?_⟩) (HTF.out _ (Keeps.refl _ _).drew) (fun _ => trivial) ?_
      rotate_left
      · intro w' hT
        obtain ⟨t1, t2, t3, t4⟩ := hT
        go_simp
        (try rw [if_pos (by omega)])
        (try with_reducible rfl)
      rotate_left
      (try simp only [Act.put, List.setIfInBounds_toArray, List.set_cons_zero, List.set_cons_succ])
      refine wpKeep_takeT (i := 2) (oi := ⟨some 43, _, _, _, _, _⟩) (v := ?_) rfl (by kernel_rfl) (by kernel_rfl) (by kernel_rfl) (by kernel_rfl) (fun _ _ _ h => h) (Or.inl ⟨by rfl, ?_⟩) (HTF.out _ (Keeps.refl _ _).drew) (fun _ => trivial) ?_
      rotate_left
      · intro w' hT
        obtain ⟨t1, t2, t3, t4⟩ := hT
        go_simp
        (try rw [if_pos (by omega)])
        (try with_reducible rfl)
      rotate_left
      (try simp only [Act.put, List.setIfInBounds_toArray, List.set_cons_zero, List.set_cons_succ])
      refine wpKeep_takeT (i := 3) (oi := ⟨some 44, _, _, _, _, _⟩) (v := ?_) rfl (by kernel_rfl) (by kernel_rfl) (by kernel_rfl) (by kernel_rfl) (fun _ _ _ h => h) (Or.inl ⟨by rfl, ?_⟩) (HTF.out _ (Keeps.refl _ _).drew) (fun _ => trivial) ?_
      rotate_left
      · intro w' hT
        obtain ⟨t1, t2, t3, t4⟩ := hT
        go_simp
        (try rw [if_pos (by omega)])
        (try with_reducible rfl)
      rotate_left
      (try simp only [Act.put, List.setIfInBounds_toArray, List.set_cons_zero, List.set_cons_succ])
      refine wpKeep_takeT (i := 4) (oi := ⟨some 45, _, _, _, _, _⟩) (v := ?_) rfl (by kernel_rfl) (by kernel_rfl) (by kernel_rfl) (by kernel_rfl) (fun _ _ _ h => h) (Or.inl ⟨by rfl, ?_⟩) (HTF.out _ (Keeps.refl _ _).drew) (fun _ => trivial) ?_
      rotate_left
      · intro w' hT
        obtain ⟨t1, t2, t3, t4⟩ := hT
        go_simp
        (try rw [if_pos (by omega)])
        (try with_reducible rfl)
      rotate_left
      (try simp only [Act.put, List.setIfInBounds_toArray, List.set_cons_zero, List.set_cons_succ])
      refine wpKeep_takeT (i := 5) (oi := ⟨some 46, _, _, _, _, _⟩) (v := ?_) rfl (by kernel_rfl) (by kernel_rfl) (by kernel_rfl) (by kernel_rfl) (fun _ _ _ h => h) (Or.inl ⟨by rfl, ?_⟩) (HTF.out _ (Keeps.refl _ _).drew) (fun _ => trivial) ?_
      rotate_left
      · intro w' hT
        obtain ⟨t1, t2, t3, t4⟩ := hT
        go_simp
        (try rw [if_pos (by omega)])
        (try with_reducible rfl)
      rotate_left
      (try simp only [Act.put, List.setIfInBounds_toArray, List.set_cons_zero, List.set_cons_succ])
      refine wpKeep_takeT (i := 6) (oi := ⟨some 47, _, _, _, _, _⟩) (v := ?_) rfl (by kernel_rfl) (by kernel_rfl) (by kernel_rfl) (by kernel_rfl) (fun _ _ _ h => h) (Or.inl ⟨by rfl, ?_⟩) (HTF.out _ (Keeps.refl _ _).drew) (fun _ => trivial) ?_
      rotate_left
      · intro w' hT
        obtain ⟨t1, t2, t3, t4⟩ := hT
        go_simp
        (try rw [if_pos (by omega)])
        (try with_reducible rfl)
      rotate_left
      (try simp only [Act.put, List.setIfInBounds_toArray, List.set_cons_zero, List.set_cons_succ])
      refine wpKeep_takeT (i := 7) (oi := ⟨some 48, _, _, _, _, _⟩) (v := ?_) rfl (by kernel_rfl) (by kernel_rfl) (by kernel_rfl) (by kernel_rfl) (fun _ _ _ h => h) (Or.inl ⟨by rfl, ?_⟩) (HTF.out _ (Keeps.refl _ _).drew) (fun _ => trivial) ?_
      rotate_left
      · intro w' hT
        obtain ⟨t1, t2, t3, t4⟩ := hT
        go_simp
        (try rw [if_pos (by omega)])
        (try with_reducible rfl)
      rotate_left
      (try simp only [Act.put, List.setIfInBounds_toArray, List.set_cons_zero, List.set_cons_succ])
      refine wpKeep_takeT (i := 8) (oi := ⟨some 49, _, _, _, _, _⟩) (v := ?_) rfl (by kernel_rfl) (by kernel_rfl) (by kernel_rfl) (by kernel_rfl) (fun _ _ _ h => h) (Or.inl ⟨by rfl, ?_⟩) (HTF.out _ (Keeps.refl _ _).drew) (fun _ => trivial) ?_
      rotate_left
      · intro w' hT
        obtain ⟨t1, t2, t3, t4⟩ := hT
        go_simp
        (try rw [if_pos (by omega)])
        (try with_reducible rfl)
      rotate_left
      (try simp only [Act.put, List.setIfInBounds_toArray, List.set_cons_zero, List.set_cons_succ])
      refine wpKeep_takeT (i := 9) (oi := ⟨some 50, _, _, _, _, _⟩) (v := ?_) rfl (by kernel_rfl) (by kernel_rfl) (by kernel_rfl) (by kernel_rfl) (fun _ _ _ h => h) (Or.inl ⟨by rfl, ?_⟩) (HTF.out _ (Keeps.refl _ _).drew) (fun _ => trivial) ?_
      rotate_left
      · intro w' hT
        obtain ⟨t1, t2, t3, t4⟩ := hT
        go_simp
        (try rw [if_pos (by omega)])
        (try with_reducible rfl)
      rotate_left
      (try simp only [Act.put, List.setIfInBounds_toArray, List.set_cons_zero, List.set_cons_succ])
      refine wpKeep_takeT (i := 10) (oi := ⟨some 51, _, _, _, _, _⟩) (v := ?_) rfl (by kernel_rfl) (by kernel_rfl) (by kernel_rfl) (by kernel_rfl) (fun _ _ _ h => h) (Or.inl ⟨by rfl, ?_⟩) (HTF.out _ (Keeps.refl _ _).drew) (fun _ => trivial) ?_
      rotate_left
      · intro w' hT
        obtain ⟨t1, t2, t3, t4⟩ := hT
        go_simp
        (try rw [if_pos (by omega)])
        (try with_reducible rfl)
      rotate_left
      (try simp only [Act.put, List.setIfInBounds_toArray, List.set_cons_zero, List.set_cons_succ])
      refine wpKeep_ready (rs := [11, 14]) (by kernel_rfl) (by simp) ?_
      refine AllKeep.cons (o := ⟨some 52, _, _, _, _, _⟩) rfl (fun Kq hK => ?_) (AllKeep.cons (o := ⟨some 7, _, _, _, _, _⟩) rfl (fun Kq hK => ?_) AllKeep.nil)
      · as_aux_lemma =>
        go_simp
        go_at_call 9
        refine (HPK.out _).mono ?_
        rintro e _ ⟨rfl, rfl⟩
        refine hK.out _ _ (HTF.out _ (Keeps.refl _ _).drew) (fun _ => trivial) ?_
        clear hK Kq
        (try simp only [Act.put, List.setIfInBounds_toArray, List.set_cons_zero, List.set_cons_succ])
        refine wpKeep_takeT (i := 12) (oi := ⟨some 53, _, _, _, _, _⟩) (v := ?_) rfl (by kernel_rfl) (by kernel_rfl) (by kernel_rfl) (by kernel_rfl) (fun _ _ _ h => h) (Or.inl ⟨by rfl, ?_⟩) (HTF.out _ (Keeps.refl _ _).drew) (fun _ => trivial) ?_
        rotate_left
        · intro w' hT
          obtain ⟨t1, t2, t3, t4⟩ := hT
          go_simp
          (try rw [if_pos (by omega)])
          (try with_reducible rfl)
        rotate_left
        (try simp only [Act.put, List.setIfInBounds_toArray, List.set_cons_zero, List.set_cons_succ])
        refine wpKeep_takeT (i := 13) (oi := ⟨some 54, _, _, _, _, _⟩) (v := ?_) rfl (by kernel_rfl) (by kernel_rfl) (by kernel_rfl) (by kernel_rfl) (fun _ _ _ h => h) (Or.inl ⟨by rfl, ?_⟩) (HTF.out _ (Keeps.refl _ _).drew) (fun _ => trivial) ?_
        rotate_left
        · intro w' hT
          obtain ⟨t1, t2, t3, t4⟩ := hT
          go_simp
          (try rw [if_pos (by omega)])
          (try with_reducible rfl)
        rotate_left
        (try simp only [Act.put, List.setIfInBounds_toArray, List.set_cons_zero, List.set_cons_succ])
        refine wpKeep_ready (rs := [14]) (by kernel_rfl) (by simp) ?_
        refine AllKeep.cons (o := ⟨some 7, _, _, _, _, _⟩) rfl (fun Kq hK => ?_) AllKeep.nil
        go_simp
        refine hK.out _ _ (HTF.out _ ((Keeps.refl _ _).drew.alloc _)) (fun _ => trivial) ?_
        clear hK Kq
        (try simp only [Act.put, List.setIfInBounds_toArray, List.set_cons_zero, List.set_cons_succ])
        refine wpKeep_ready (rs := [15]) (by kernel_rfl) (by simp) ?_
        refine AllKeep.cons (o := ⟨none, _, _, _, _, _⟩) rfl (fun Kq hK => ?_) AllKeep.nil
        go_simp
        refine hK.out _ _ (HTF.out _ ((Keeps.refl _ _).drew.alloc _)) (fun _ => trivial) ?_
        clear hK Kq
        (try simp only [Act.put, List.setIfInBounds_toArray, List.set_cons_zero, List.set_cons_succ])
        refine wpKeep_done (by kernel_rfl) ?_ _
        go_wp2
        go_meet
        exact ⟨rfl, heap_at_alloc rfl, (Keeps.refl _ _).drew.alloc _⟩
      · as_aux_lemma =>
        go_simp
        refine hK.out _ _ (HTF.out _ ((Keeps.refl _ _).drew.alloc _)) (fun _ => trivial) ?_
        clear hK Kq
        (try simp only [Act.put, List.setIfInBounds_toArray, List.set_cons_zero, List.set_cons_succ])
        refine wpKeep_ready (rs := [11]) (by kernel_rfl) (by simp) ?_
        refine AllKeep.cons (o := ⟨some 52, _, _, _, _, _⟩) rfl (fun Kq hK => ?_) AllKeep.nil
        go_simp
        go_at_call 9
        refine (HPK.out _).mono ?_
        rintro e _ ⟨rfl, rfl⟩
        refine hK.out _ _ (HTF.out _ ((Keeps.refl _ _).drew.alloc _)) (fun _ => trivial) ?_
        clear hK Kq
        (try simp only [Act.put, List.setIfInBounds_toArray, List.set_cons_zero, List.set_cons_succ])
        refine wpKeep_takeT (i := 12) (oi := ⟨some 53, _, _, _, _, _⟩) (v := ?_) rfl (by kernel_rfl) (by kernel_rfl) (by kernel_rfl) (by kernel_rfl) (fun _ _ _ h => h) (Or.inl ⟨by rfl, ?_⟩) (HTF.out _ ((Keeps.refl _ _).drew.alloc _)) (fun _ => trivial) ?_
        rotate_left
        · intro w' hT
          obtain ⟨t1, t2, t3, t4⟩ := hT
          go_simp
          (try rw [if_pos (by omega)])
          (try with_reducible rfl)
        rotate_left
        (try simp only [Act.put, List.setIfInBounds_toArray, List.set_cons_zero, List.set_cons_succ])
        refine wpKeep_takeT (i := 13) (oi := ⟨some 54, _, _, _, _, _⟩) (v := ?_) rfl (by kernel_rfl) (by kernel_rfl) (by kernel_rfl) (by kernel_rfl) (fun _ _ _ h => h) (Or.inl ⟨by rfl, ?_⟩) (HTF.out _ ((Keeps.refl _ _).drew.alloc _)) (fun _ => trivial) ?_
        rotate_left
        · intro w' hT
          obtain ⟨t1, t2, t3, t4⟩ := hT
          go_simp
          (try rw [if_pos (by omega)])
          (try with_reducible rfl)
        rotate_left
        (try simp only [Act.put, List.setIfInBounds_toArray, List.set_cons_zero, List.set_cons_succ])
        refine wpKeep_ready (rs := [15]) (by kernel_rfl) (by simp) ?_
        refine AllKeep.cons (o := ⟨none, _, _, _, _, _⟩) rfl (fun Kq hK => ?_) AllKeep.nil
        go_simp
        refine hK.out _ _ (HTF.out _ ((Keeps.refl _ _).drew.alloc _)) (fun _ => trivial) ?_
        clear hK Kq
        (try simp only [Act.put, List.setIfInBounds_toArray, List.set_cons_zero, List.set_cons_succ])
        refine wpKeep_done (by kernel_rfl) ?_ _
        go_wp2
        go_meet
        exact ⟨rfl, heap_at_alloc rfl, (Keeps.refl _ _).drew.alloc _⟩
    case rest =>
      as_aux_lemma =>
      obtain ⟨rfl, hsb, f3⟩ := hcut
      obtain ⟨W4, rfl⟩ : ∃ W4, W4 = wc := ⟨_, rfl⟩
      have F4 := hid (F2.out.trans f3)
      have H4 := hid (H2.out.fresh f3)
      have hxb4 := f3.at_ HB2.out (fun h => h)
      have hcx : c xb = 0 := H.out.unborn xb (by rw [HXB.out]; exact Nat.le_refl _)
      have hcs : c w2.heap.size = 0 := H.out.unborn _ F2.out.size
      obtain ⟨sb, hsbn⟩ : ∃ sb, w2.heap.size = sb := ⟨_, rfl⟩
      rw [hsbn] at hsb hcs ⊢
      have HPB : Hid (∀ (S : Nat → Prop) (W : World), Keeps S W4 W → (∀ g, S g → g < W4.heap.size → c g ≠ 0) → W.cell? ⟨xb, 0, none⟩ = some (.int .i64 5) ∧ W.cell? ⟨xb, 2, none⟩ = some (.int .i64 m) ∧ W.cell? ⟨xb, 3, none⟩ = some (.string (str s)) ∧ W.cell? ⟨xb, 4, none⟩ = some (.slice ko ks.length kc) ∧ W.cell? ⟨sb, 0, none⟩ = some (.pointer (some ⟨d, 0, none⟩)) ∧ W.cell? ⟨sb, 1, none⟩ = some (.pointer (some ⟨x, 0, none⟩))) := fun S W k hS => by
        have b1 := k.at_ hxb4 (fun e => hS _ e (lt_of_block hxb4) hcx)
        have b2 := k.at_ hsb (fun e => hS _ e (lt_of_block hsb) hcs)
        exact ⟨(cell_at b1 0).trans rfl, (cell_at b1 2).trans rfl, (cell_at b1 3).trans rfl, (cell_at b1 4).trans rfl, (cell_at b2 0).trans rfl, (cell_at b2 1).trans rfl⟩
      have HDV := hid (H4.out.vw.dev i (d, x) HSS.out)
      have HRF := hid (H4.out.vw.ref i (d, x) HSS.out)
      have HOK := hid (H4.out.vw.okd i hi2)
      have HKB := hid (F4.out.mono (S' := fun q => B ≤ q) fun _ _ h => h.elim)
      obtain ⟨x0, x2, x3, x4, s0, s1⟩ := HPB.out (fun _ => False) W4 (Keeps.refl _ _) (fun _ h => h.elim)
      clear hsb f3 hxb4 hcx hcs hsbn HTF HPK hgs F2 H2 HB2 HF1 H HXB
      have HR := hid (darm _ d n (f i) W4 m HDV.out)
      go_wp2_with fail
      refine HR.out.mono ?_
      rintro e w5 ⟨rfl, hd5, k5⟩
      have h5 := H4.out.setDev HSS.out k5 hd5 (armSt_ok HOK.out hm2) (Nat.le_refl _)
      obtain ⟨y0, y2, y3, y4, t0, t1⟩ := HPB.out _ w5 k5 (fun g e _ => by have e : c g = 12 + 2 * i := e; omega)
      have HRX := hid (xarm _ x (f i) w5 m (h5.vw.ref i (d, x) HSS.out))
      have H5 := hid (And.intro h5 (H4.out.owns k5 fun g e _ => by have e : c g = 12 + 2 * i := e; omega))
      clear x0 x2 x3 x4 s0 s1 hd5 k5 h5 HR
      go_wp2_with fail
      refine HRX.out.mono ?_
      rintro e w6 ⟨rfl, hx6, k6⟩
      have h6 := H5.out.1.setRef HSS.out k6 hx6 (armSt_ok HOK.out hm2)
      have HA := hid (And.intro (show Aft B w6 ob (n + 1) (N + 2) from ⟨_, _, _, h6.more (Nat.le_succ _) (by omega)⟩) ((HKB.out.trans H5.out.2).trans (H5.out.1.owns k6 fun g e _ => by have e : c g = 13 + 2 * i := e; omega)))
      clear y0 y2 y3 y4 t0 t1 HRX hx6 k6 h6 H5
      go_wp2_with fail
      go_ret
      exact ⟨by first | rfl | simp, HA.out.1, HA.out.2⟩
end Go.Proofs.Ytbhienlalpbflaa
