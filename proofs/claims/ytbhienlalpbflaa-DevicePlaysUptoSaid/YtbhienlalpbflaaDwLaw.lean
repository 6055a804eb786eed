/-
  DevicePlays: the law's walk. Printed by gen_dwlaw.py.
-/
import Derived.Test.YtbhienlalpbflaaDwPlayAll
import Derived.Test.YtbhienlalpbflaaDwStill
import Derived.Test.YtbhienlalpbflaaDwArgs
import Derived.Test.YtbhienlalpbflaaDvKnown
namespace Go.Proofs.Ytbhienlalpbflaa
open Go.RowKit Go.Maps

/-- the world as it is made -/
theorem Aft.begin {w wb : World} {B : Nat} (hB : B ≤ wb.heap.size) (hw : wb.alloc (.cells #[.slice none 0 0, .slice none 0 0, .slice none 0 0, .slice none 0 0, .slice none 0 0, .slice none 0 0, .slice none 0 0, .slice none 0 0] 47) = w) : Aft B w wb.heap.size 0 0 := by
  subst hw
  have hb := heap_alloc_new wb (.cells #[.slice none 0 0, .slice none 0 0, .slice none 0 0, .slice none 0 0, .slice none 0 0, .slice none 0 0, .slice none 0 0, .slice none 0 0] 47)
  refine ⟨fun g => if g = wb.heap.size then 1 else 0, ⟨.slice none 0 0, .slice none 0 0, .slice none 0 0, .slice none 0 0, .slice none 0 0, .slice none 0 0, .slice none 0 0, .slice none 0 0, [], [], [], [], [], [], [], [], [], []⟩, fun _ => ⟨[], fun _ => none, false, 0⟩,
    ⟨hb, if_pos rfl, ⟨⟨World.ownsRow_nil _ _ _ _, (fun _ h => nomatch h), fun m v hv => by simp at hv⟩, ⟨World.ownsRow_nil _ _ _ _, (fun _ h => nomatch h), fun m v hv => by simp at hv⟩,
      ⟨World.ownsRow_nil _ _ _ _, (fun _ h => nomatch h), World.ownsRow_nil _ _ _ _, (fun _ h => nomatch h), rfl, rfl, fun j v l hv _ => by simp at hv, fun j v l hv _ => by simp at hv⟩,
      ⟨World.ownsRow_nil _ _ _ _, (fun _ h => nomatch h), World.ownsRow_nil _ _ _ _, (fun _ h => nomatch h), rfl, rfl, fun j v l hv _ => by simp at hv, fun j v l hv _ => by simp at hv⟩,
      ⟨0, rfl, Nat.le_refl _⟩, ⟨0, rfl, Nat.le_refl _⟩, (fun l hl => by cases hl), (fun l hl => by cases hl)⟩,
      ⟨World.ownsRow_nil _ _ _ _, (fun _ h => nomatch h), by simp, (fun i s hs => by simp at hs), (fun i s hs => by simp at hs), (fun i hi => by simp at hi), (fun i hi => by simp at hi), .inl ⟨rfl, rfl⟩, (fun _ h => nomatch h)⟩, fun g hg => if_neg (by omega), by simp; omega, fun g hg => if_neg (by simp at hg; omega)⟩⟩

set_option maxRecDepth 100000 in
set_option maxHeartbeats 8000000 in
theorem playslaw_any (p : Int) (v0 : Value) (L : Nat) (w : World) (h1 : OpsAt w v0 L) (hp1 : -9223372036854775808 ≤ p) (hp2 : p ≤ 9223372036854775807) (hL : L ≤ 9223372036854775807) :
    Calls Try.prog 4 #[.int .i64 p, v0] w fun e w' => e = .returned (.bool true) ∧ Fresh w w' := by
  obtain ⟨ao, cap, rfl, hi⟩ := h1
  have HI := hid hi
  obtain ⟨r, hr, hpk⟩ := pick_same p 12 (by omega) (by omega) hp1 hp2
  have HPK := hid hpk
  clear hi hpk
  go_enter Try.func4, Try.ntmps4
  go_wp2_with fail
  refine (known_any _).mono ?_
  rintro e w1 ⟨rfl, f1⟩
  obtain ⟨w2, hw2⟩ : ∃ w2, w1.alloc (.cells #[.slice none 0 0, .slice none 0 0, .slice none 0 0, .slice none 0 0, .slice none 0 0, .slice none 0 0, .slice none 0 0, .slice none 0 0] 47) = w2 := ⟨_, rfl⟩
  have hA := Aft.begin (B := w.heap.size) f1.size hw2
  have f2 : Fresh w w2 := by rw [← hw2]; exact f1.alloc _
  obtain ⟨ob, hob⟩ : ∃ ob, w1.heap.size = ob := ⟨_, rfl⟩
  rw [hob] at hA
  have hPI : PlayIn w.heap.size 0 0 w2 0 (4 + (r : Int)) [] none 0 [] := ⟨by omega, by omega, ⟨none, 0, rfl, fun k x h => by cases h⟩, fun h => absurd h (by simp), by simp, (fun k h => by cases h), by omega, by omega, by omega, by omega, by simp⟩
  have HPL := hid (play_any w.heap.size ob 0 0 w2 hA 12 0 (4 + (r : Int)) [] none 0 [] hPI)
  have HF2 := hid f2
  clear hA f1 f2 hPI
  go_wp2_with fail
  (try rw [hw2])
  (try rw [hob])
  refine (HPK.out _).mono ?_
  rintro e _ ⟨rfl, rfl⟩
  clear hw2
  go_wp2_with fail
  refine HPL.out.mono ?_
  rintro e w3 ⟨rfl, ha3, k3⟩
  have HA3 := hid (And.intro ha3 ((HF2.out.mono (S' := fun q => w.heap.size ≤ q) fun _ _ h => h.elim).trans k3))
  clear ha3 k3 HPL hob
  go_wp2_with fail
  go_loopw [8] (fun i wr => ∃ k : Nat, i = .int .i64 (k : Int) ∧ k ≤ 80 ∧ k ≤ L ∧ Aft w.heap.size wr ob (k + 1) (2 * k + 2) ∧ Keeps (fun q => w.heap.size ≤ q) w wr) (fun i _ => 80 - (intOf i).toNat)
  case atStart => exact ⟨0, rfl, by omega, by omega, HA3.out.1, HA3.out.2⟩
  case round =>
    clear HA3
    obtain ⟨k, rfl, hk, hkL, ha, kr⟩ := hrel
    by_cases hlt : k < L
    · by_cases h80 : k < 80
      · as_aux_lemma =>
        obtain ⟨bb, off, hao, hbb, hst⟩ := HI.out k hlt
        obtain ⟨kd, on, m, s, ko, kc, ks, e0, e1, e2, e3, e4, q1, q2, q3, q4, q5, q6, q7⟩ := hst.ex
        have tr : ∀ (p : Addr) (v : Value), p.block < w.heap.size → w.cell? p = some v → wr.cell? p = some v := fun p v hp h => (kr.cell hp (fun h => by omega)).trans h
        replace e0 := tr _ _ hbb e0
        replace e1 := tr _ _ hbb e1
        replace e2 := tr _ _ hbb e2
        replace e3 := tr _ _ hbb e3
        replace e4 := tr _ _ hbb e4
        subst hao
        have hPI : PlayIn w.heap.size (k + 1) (2 * k + 2) wr on m s ko kc ks := ⟨by omega, by omega, q1.keeps kr (fun h0 a mm cp e _ => by
          have := q2 h0 a (by simp only [Value.slice.injEq] at e; exact e.1)
          omega), q2, q3, q4, q5.1, q5.2, q6.1, q6.2, q7⟩
        have HPY := hid (play_any w.heap.size ob (k + 1) (2 * k + 2) wr ha kd on m s ko kc ks hPI)
        have HKR := hid kr
        have hk0 : (0 : Int) ≤ (k : Int) := by omega
        have hkI : (k : Int) < (L : Int) := by omega
        have hk80 : (k : Int) < 80 := by omega
        clear tr ha kr hPI q1 q2 q3 q4 q5 q6 q7
        go_wp2_with fail
        refine HPY.out.mono ?_
        rintro e w2 ⟨rfl, ha2, k2⟩
        have HA2 := hid (And.intro ha2 (HKR.out.trans k2))
        clear ha2 k2 e0 e1 e2 e3 e4 HPY
        by_cases h3 : k % 3 = 2
        · have h3I : (k : Int).tmod 3 = 2 := by rw [Int.tmod_eq_emod_of_nonneg (by omega)]; omega
          have h3J : (k : Int) % 3 = 2 := by omega
          obtain ⟨c, v, f, h⟩ := HA2.out.1
          have HST := hid (still_any w.heap.size ob (k + 1 + 1) (2 * k + 2 + 2) c w2 v f f h (by omega))
          clear h
          go_wp2_with fail
          refine HST.out.mono ?_
          rintro e w4 ⟨rfl, ⟨c', v', h4⟩, k4⟩
          have HA4 := hid (And.intro (show Aft w.heap.size w4 ob (k + 1 + 1) (2 * k + 2 + 2) from ⟨c', v', f, h4⟩) (HA2.out.2.trans k4))
          clear h4 k4 HST
          go_wp2_with fail
          go_roundw
          case rel => exact ⟨k + 1, by go_num, by omega, by omega, HA4.out.1, HA4.out.2⟩
          case measure => simp [intOf]; omega
        · have h3I : ¬ (k : Int).tmod 3 = 2 := by rw [Int.tmod_eq_emod_of_nonneg (by omega)]; omega
          have h3J : ¬ (k : Int) % 3 = 2 := by omega
          go_wp2_with fail
          go_roundw
          case rel => exact ⟨k + 1, by go_num, by omega, by omega, HA2.out.1, HA2.out.2⟩
          case measure => simp [intOf]; omega
      · have hkI : (k : Int) < (L : Int) := by omega
        have hk80 : ¬ (k : Int) < 80 := by omega
        obtain ⟨c, v, f, h⟩ := ha
        have HW := hid h
        have HKR := hid kr
        obtain ⟨al, cl, elv⟩ := ownsRow_slice h.vw.row
        have c0 := (cell_at h.box 0).trans (show _ = some (Value.slice al v.ss.length cl) from congrArg some elv)
        have hfew := h.vw.few
        have hfewI : (v.ss.length : Int) ≤ 5 := by omega
        clear h kr
        go_wp2_with fail
        clear c0
        obtain ⟨W0, rfl⟩ : ∃ W0, W0 = wr := ⟨_, rfl⟩
        go_loopw [11] (fun ii wx => ∃ i : Nat, ii = .int .i64 (i : Int) ∧ i ≤ v.ss.length ∧ Fresh W0 wx) (fun ii _ => v.ss.length - (intOf ii).toNat)
        case atStart => exact ⟨0, rfl, by omega, Keeps.refl _ _⟩
        case round =>
          obtain ⟨wq, rfl⟩ : ∃ wq, wq = wr := ⟨_, rfl⟩
          obtain ⟨i, rfl, hiL, fr⟩ := hrel
          have c0 := (cell_at (HW.out.fresh fr).box 0).trans (show _ = some (Value.slice al v.ss.length cl) from congrArg some elv)
          by_cases hlt3 : i < v.ss.length
          · as_aux_lemma =>
            obtain ⟨⟨d, x⟩, hss⟩ : ∃ y, v.ss[i]? = some y := ⟨v.ss[i], by simp⟩
            have hrow2 : W0.ownsRow 0 53 2 (.slice al v.ss.length cl) v.ss.length (sideCells v.ss) := by rw [← elv]; exact HW.out.vw.row
            obtain ⟨gs, eal, hgs, hgc⟩ := ownsRow_cells hrow2 (by omega)
            subst eal
            obtain ⟨g0, g1⟩ := sideCells_at v.ss i (d, x) hss
            have g0 := hgc _ _ g0
            have g1 := hgc _ _ g1
            have HDV := hid (HW.out.vw.dev i (d, x) hss)
            have HRF := hid (HW.out.vw.ref i (d, x) hss)
            have HOK := hid (HW.out.vw.okd i hlt3)
            have hxd := HRF.out.dead
            have hcz := (cell_at HW.out.box 0).trans (show _ = some (Value.slice (some ⟨gs, 0, none⟩) v.ss.length cl) from congrArg some elv)
            have HPT : Hid (∀ W, Fresh W0 W → W.cell? ⟨ob, 0, none⟩ = some (.slice (some ⟨gs, 0, none⟩) v.ss.length cl) ∧ W.cell? ⟨gs, i * 2, none⟩ = some (.pointer (some ⟨d, 0, none⟩)) ∧ W.cell? ⟨gs, i * 2 + 1, none⟩ = some (.pointer (some ⟨x, 0, none⟩)) ∧ W.cell? ⟨x, 4, none⟩ = some (.bool (f i).dead)) := fun W g =>
              ⟨(g.cell (p := ⟨ob, 0, none⟩) (lt_of_block HW.out.box) (fun h => h)).trans hcz, (g.cell (p := ⟨gs, i * 2, none⟩) hgs (fun h => h)).trans g0, (g.cell (p := ⟨gs, i * 2 + 1, none⟩) hgs (fun h => h)).trans g1, (g.cell (p := ⟨x, 4, none⟩) HRF.out.lt.1 (fun h => h)).trans hxd⟩
            have HDP := hid fun W (g : Fresh W0 W) => dpages _ d _ (f i) W (HDV.out.fresh g) HOK.out
            have HXP := hid fun W (g : Fresh W0 W) => xpages _ x (f i) W (HRF.out.fresh g) HOK.out
            have HDQ := hid fun W (g : Fresh W0 W) => dpend _ d _ (f i) W (HDV.out.fresh g) HOK.out
            have HXQ := hid fun W (g : Fresh W0 W) => xpend _ x (f i) W (HRF.out.fresh g) HOK.out
            have HDD := hid fun W (g : Fresh W0 W) => ddead _ d _ (f i) W (HDV.out.fresh g)
            have hi0 : (0 : Int) ≤ (i : Int) := by omega
            have hiI : (i : Int) < (v.ss.length : Int) := by omega
            have hdq : ((f i).dead != (f i).dead) = false := by simp
            have HFR := hid fr
            clear hrow2 hgc g0 g1 hss hxd hcz fr
            go_wp2_with fail
            clear c0
            have p0 := HFR.out
            refine wp_region_keep 20 (fun w' => w'.cell? ⟨ob, 0, none⟩ = some (.slice (some ⟨gs, 0, none⟩) v.ss.length cl) ∧ w'.cell? ⟨gs, i * 2, none⟩ = some (.pointer (some ⟨d, 0, none⟩)) ∧ w'.cell? ⟨gs, i * 2 + 1, none⟩ = some (.pointer (some ⟨x, 0, none⟩)) ∧ w'.cell? ⟨x, 4, none⟩ = some (.bool (f i).dead)) (fun _ => True) (fun _ => true) (by kernel_rfl) (by kernel_rfl) ?_
            (try (change wpKeep _ _ _ _ _ _ _ _ _ _ (World.drew _)))
            refine wpKeep_takeT (i := 0) (oi := ⟨some 63, _, _, _, _, _⟩) (v := ?_) rfl (by kernel_rfl) (by kernel_rfl) (by kernel_rfl) (by kernel_rfl) (fun _ _ _ h => h) (Or.inl ⟨by rfl, ?_⟩) (HPT.out _ p0.drew) (fun _ => trivial) ?_
            rotate_left
            · intro w' hT
              obtain ⟨t1, t2, t3, t4⟩ := hT
              go_simp
              (try rw [if_pos (by omega)])
              (try with_reducible rfl)
            rotate_left
            (try simp only [Act.put, List.setIfInBounds_toArray, List.set_cons_zero, List.set_cons_succ])
            refine wpKeep_takeT (i := 1) (oi := ⟨some 64, _, _, _, _, _⟩) (v := ?_) rfl (by kernel_rfl) (by kernel_rfl) (by kernel_rfl) (by kernel_rfl) (fun _ _ _ h => h) (Or.inl ⟨by rfl, ?_⟩) (HPT.out _ p0.drew) (fun _ => trivial) ?_
            rotate_left
            · intro w' hT
              obtain ⟨t1, t2, t3, t4⟩ := hT
              go_simp
              (try rw [if_pos (by omega)])
              (try with_reducible rfl)
            rotate_left
            (try simp only [Act.put, List.setIfInBounds_toArray, List.set_cons_zero, List.set_cons_succ])
            refine wpKeep_takeT (i := 2) (oi := ⟨some 65, _, _, _, _, _⟩) (v := ?_) rfl (by kernel_rfl) (by kernel_rfl) (by kernel_rfl) (by kernel_rfl) (fun _ _ _ h => h) (Or.inl ⟨by rfl, ?_⟩) (HPT.out _ p0.drew) (fun _ => trivial) ?_
            rotate_left
            · intro w' hT
              obtain ⟨t1, t2, t3, t4⟩ := hT
              go_simp
              (try rw [if_pos (by omega)])
              (try with_reducible rfl)
            rotate_left
            (try simp only [Act.put, List.setIfInBounds_toArray, List.set_cons_zero, List.set_cons_succ])
            refine wpKeep_takeT (i := 3) (oi := ⟨some 66, _, _, _, _, _⟩) (v := ?_) rfl (by kernel_rfl) (by kernel_rfl) (by kernel_rfl) (by kernel_rfl) (fun _ _ _ h => h) (Or.inl ⟨by rfl, ?_⟩) (HPT.out _ p0.drew) (fun _ => trivial) ?_
            rotate_left
            · intro w' hT
              obtain ⟨t1, t2, t3, t4⟩ := hT
              go_simp
              (try rw [if_pos (by omega)])
              (try with_reducible rfl)
            rotate_left
            (try simp only [Act.put, List.setIfInBounds_toArray, List.set_cons_zero, List.set_cons_succ])
            refine wpKeep_takeT (i := 4) (oi := ⟨some 67, _, _, _, _, _⟩) (v := ?_) rfl (by kernel_rfl) (by kernel_rfl) (by kernel_rfl) (by kernel_rfl) (fun _ _ _ h => h) (Or.inl ⟨by rfl, ?_⟩) (HPT.out _ p0.drew) (fun _ => trivial) ?_
            rotate_left
            · intro w' hT
              obtain ⟨t1, t2, t3, t4⟩ := hT
              go_simp
              (try rw [if_pos (by omega)])
              (try with_reducible rfl)
            rotate_left
            (try simp only [Act.put, List.setIfInBounds_toArray, List.set_cons_zero, List.set_cons_succ])
            refine wpKeep_takeT (i := 5) (oi := ⟨some 68, _, _, _, _, _⟩) (v := ?_) rfl (by kernel_rfl) (by kernel_rfl) (by kernel_rfl) (by kernel_rfl) (fun _ _ _ h => h) (Or.inl ⟨by rfl, ?_⟩) (HPT.out _ p0.drew) (fun _ => trivial) ?_
            rotate_left
            · intro w' hT
              obtain ⟨t1, t2, t3, t4⟩ := hT
              go_simp
              (try rw [if_pos (by omega)])
              (try with_reducible rfl)
            rotate_left
            (try simp only [Act.put, List.setIfInBounds_toArray, List.set_cons_zero, List.set_cons_succ])
            refine wpKeep_takeT (i := 6) (oi := ⟨some 69, _, _, _, _, _⟩) (v := ?_) rfl (by kernel_rfl) (by kernel_rfl) (by kernel_rfl) (by kernel_rfl) (fun _ _ _ h => h) (Or.inl ⟨by rfl, ?_⟩) (HPT.out _ p0.drew) (fun _ => trivial) ?_
            rotate_left
            · intro w' hT
              obtain ⟨t1, t2, t3, t4⟩ := hT
              go_simp
              (try rw [if_pos (by omega)])
              (try with_reducible rfl)
            rotate_left
            (try simp only [Act.put, List.setIfInBounds_toArray, List.set_cons_zero, List.set_cons_succ])
            refine wpKeep_takeT (i := 7) (oi := ⟨some 70, _, _, _, _, _⟩) (v := ?_) rfl (by kernel_rfl) (by kernel_rfl) (by kernel_rfl) (by kernel_rfl) (fun _ _ _ h => h) (Or.inl ⟨by rfl, ?_⟩) (HPT.out _ p0.drew) (fun _ => trivial) ?_
            rotate_left
            · intro w' hT
              obtain ⟨t1, t2, t3, t4⟩ := hT
              go_simp
              (try rw [if_pos (by omega)])
              (try with_reducible rfl)
            rotate_left
            (try simp only [Act.put, List.setIfInBounds_toArray, List.set_cons_zero, List.set_cons_succ])
            refine wpKeep_takeT (i := 9) (oi := ⟨some 72, _, _, _, _, _⟩) (v := ?_) rfl (by kernel_rfl) (by kernel_rfl) (by kernel_rfl) (by kernel_rfl) (fun _ _ _ h => h) (Or.inl ⟨by rfl, ?_⟩) (HPT.out _ p0.drew) (fun _ => trivial) ?_
            rotate_left
            · intro w' hT
              obtain ⟨t1, t2, t3, t4⟩ := hT
              go_simp
              (try rw [if_pos (by omega)])
              (try with_reducible rfl)
            rotate_left
            (try simp only [Act.put, List.setIfInBounds_toArray, List.set_cons_zero, List.set_cons_succ])
            refine wpKeep_takeT (i := 10) (oi := ⟨some 73, _, _, _, _, _⟩) (v := ?_) rfl (by kernel_rfl) (by kernel_rfl) (by kernel_rfl) (by kernel_rfl) (fun _ _ _ h => h) (Or.inl ⟨by rfl, ?_⟩) (HPT.out _ p0.drew) (fun _ => trivial) ?_
            rotate_left
            · intro w' hT
              obtain ⟨t1, t2, t3, t4⟩ := hT
              go_simp
              (try rw [if_pos (by omega)])
              (try with_reducible rfl)
            rotate_left
            (try simp only [Act.put, List.setIfInBounds_toArray, List.set_cons_zero, List.set_cons_succ])
            refine wpKeep_takeT (i := 11) (oi := ⟨some 74, _, _, _, _, _⟩) (v := ?_) rfl (by kernel_rfl) (by kernel_rfl) (by kernel_rfl) (by kernel_rfl) (fun _ _ _ h => h) (Or.inl ⟨by rfl, ?_⟩) (HPT.out _ p0.drew) (fun _ => trivial) ?_
            rotate_left
            · intro w' hT
              obtain ⟨t1, t2, t3, t4⟩ := hT
              go_simp
              (try rw [if_pos (by omega)])
              (try with_reducible rfl)
            rotate_left
            (try simp only [Act.put, List.setIfInBounds_toArray, List.set_cons_zero, List.set_cons_succ])
            refine wpKeep_takeT (i := 12) (oi := ⟨some 75, _, _, _, _, _⟩) (v := ?_) rfl (by kernel_rfl) (by kernel_rfl) (by kernel_rfl) (by kernel_rfl) (fun _ _ _ h => h) (Or.inl ⟨by rfl, ?_⟩) (HPT.out _ p0.drew) (fun _ => trivial) ?_
            rotate_left
            · intro w' hT
              obtain ⟨t1, t2, t3, t4⟩ := hT
              go_simp
              (try rw [if_pos (by omega)])
              (try with_reducible rfl)
            rotate_left
            (try simp only [Act.put, List.setIfInBounds_toArray, List.set_cons_zero, List.set_cons_succ])
            refine wpKeep_takeT (i := 13) (oi := ⟨some 76, _, _, _, _, _⟩) (v := ?_) rfl (by kernel_rfl) (by kernel_rfl) (by kernel_rfl) (by kernel_rfl) (fun _ _ _ h => h) (Or.inl ⟨by rfl, ?_⟩) (HPT.out _ p0.drew) (fun _ => trivial) ?_
            rotate_left
            · intro w' hT
              obtain ⟨t1, t2, t3, t4⟩ := hT
              go_simp
              (try rw [if_pos (by omega)])
              (try with_reducible rfl)
            rotate_left
            (try simp only [Act.put, List.setIfInBounds_toArray, List.set_cons_zero, List.set_cons_succ])
            refine wpKeep_takeT (i := 14) (oi := ⟨some 77, _, _, _, _, _⟩) (v := ?_) rfl (by kernel_rfl) (by kernel_rfl) (by kernel_rfl) (by kernel_rfl) (fun _ _ _ h => h) (Or.inl ⟨by rfl, ?_⟩) (HPT.out _ p0.drew) (fun _ => trivial) ?_
            rotate_left
            · intro w' hT
              obtain ⟨t1, t2, t3, t4⟩ := hT
              go_simp
              (try rw [if_pos (by omega)])
              (try with_reducible rfl)
            rotate_left
            (try simp only [Act.put, List.setIfInBounds_toArray, List.set_cons_zero, List.set_cons_succ])
            refine wpKeep_takeT (i := 15) (oi := ⟨some 78, _, _, _, _, _⟩) (v := ?_) rfl (by kernel_rfl) (by kernel_rfl) (by kernel_rfl) (by kernel_rfl) (fun _ _ _ h => h) (Or.inl ⟨by rfl, ?_⟩) (HPT.out _ p0.drew) (fun _ => trivial) ?_
            rotate_left
            · intro w' hT
              obtain ⟨t1, t2, t3, t4⟩ := hT
              go_simp
              (try rw [if_pos (by omega)])
              (try with_reducible rfl)
            rotate_left
            (try simp only [Act.put, List.setIfInBounds_toArray, List.set_cons_zero, List.set_cons_succ])
            refine wpKeep_takeT (i := 16) (oi := ⟨some 79, _, _, _, _, _⟩) (v := ?_) rfl (by kernel_rfl) (by kernel_rfl) (by kernel_rfl) (by kernel_rfl) (fun _ _ _ h => h) (Or.inl ⟨by rfl, ?_⟩) (HPT.out _ p0.drew) (fun _ => trivial) ?_
            rotate_left
            · intro w' hT
              obtain ⟨t1, t2, t3, t4⟩ := hT
              go_simp
              (try rw [if_pos (by omega)])
              (try with_reducible rfl)
            rotate_left
            (try simp only [Act.put, List.setIfInBounds_toArray, List.set_cons_zero, List.set_cons_succ])
            refine wpKeep_ready (rs := [8]) (by kernel_rfl) (by simp) ?_
            refine AllKeep.cons (o := ⟨some 71, _, _, _, _, _⟩) rfl (fun Kq hK => ?_) AllKeep.nil
            go_simp
            go_at_call 16
            refine (HDP.out _ p0.drew).mono ?_
            rintro e w5 ⟨va, ya, rfl, ca, ⟨ra, na⟩, f5⟩
            have g5 : Fresh W0 w5 := p0.drew.trans f5
            clear f5
            refine hK.out _ _ (HPT.out _ g5) (fun _ => trivial) ?_
            clear hK Kq
            (try simp only [Act.put, List.setIfInBounds_toArray, List.set_cons_zero, List.set_cons_succ])
            refine wpKeep_ready (rs := [17]) (by kernel_rfl) (by simp) ?_
            refine AllKeep.cons (o := ⟨some 80, _, _, _, _, _⟩) rfl (fun Kq hK => ?_) AllKeep.nil
            go_simp
            go_at_call 20
            refine (HXP.out _ g5).mono ?_
            rintro e w6 ⟨vx, rfl, ⟨rx, nx⟩, f6⟩
            have g6 : Fresh W0 w6 := g5.trans f6
            have ra6 := ownsRow_keeps ra f6 (fun _ _ h => h)
            obtain ⟨xo, xc, rfl⟩ := ownsRow_slice rx
            clear f6
            refine hK.out _ _ (HPT.out _ g6) (fun _ => trivial) ?_
            clear hK Kq
            (try simp only [Act.put, List.setIfInBounds_toArray, List.set_cons_zero, List.set_cons_succ])
            refine wpKeep_ready (rs := [18]) (by kernel_rfl) (by simp) ?_
            refine AllKeep.cons (o := ⟨some 81, _, _, _, _, _⟩) rfl (fun Kq hK => ?_) AllKeep.nil
            go_simp
            go_at_call 15
            refine (same_same _ _ (f i).l w6 ya _ ca Clip.same ra6 rx (by have := HOK.out.ll; omega)).mono ?_
            rintro e w7 ⟨rfl, f7⟩
            have g7 : Fresh W0 w7 := g6.trans f7
            clear f7 ra ra6 rx
            refine hK.out _ _ (HPT.out _ g7) (fun _ => trivial) ?_
            clear hK Kq
            (try simp only [Act.put, List.setIfInBounds_toArray, List.set_cons_zero, List.set_cons_succ])
            refine wpKeep_takeT (i := 19) (oi := ⟨some 12, _, _, _, _, _⟩) (v := ?_) rfl (by kernel_rfl) (by kernel_rfl) (by kernel_rfl) (by kernel_rfl) (fun _ _ _ h => h) (Or.inl ⟨by rfl, ?_⟩) (HPT.out _ g7) (fun _ => trivial) ?_
            rotate_left
            · intro w' hT
              obtain ⟨t1, t2, t3, t4⟩ := hT
              go_simp
              (try rw [if_pos (by omega)])
              (try with_reducible rfl)
            rotate_left
            (try simp only [Act.put, List.setIfInBounds_toArray, List.set_cons_zero, List.set_cons_succ])
            refine wpKeep_done (by kernel_rfl) ?_ _
            have p7 := g7
            clear g7 g6 g5 p0
            go_wp2_with fail
            refine wp_region_keep 20 (fun w' => w'.cell? ⟨ob, 0, none⟩ = some (.slice (some ⟨gs, 0, none⟩) v.ss.length cl) ∧ w'.cell? ⟨gs, i * 2, none⟩ = some (.pointer (some ⟨d, 0, none⟩)) ∧ w'.cell? ⟨gs, i * 2 + 1, none⟩ = some (.pointer (some ⟨x, 0, none⟩)) ∧ w'.cell? ⟨x, 4, none⟩ = some (.bool (f i).dead)) (fun _ => True) (fun _ => true) (by kernel_rfl) (by kernel_rfl) ?_
            (try (change wpKeep _ _ _ _ _ _ _ _ _ _ (World.drew _)))
            refine wpKeep_takeT (i := 0) (oi := ⟨some 82, _, _, _, _, _⟩) (v := ?_) rfl (by kernel_rfl) (by kernel_rfl) (by kernel_rfl) (by kernel_rfl) (fun _ _ _ h => h) (Or.inl ⟨by rfl, ?_⟩) (HPT.out _ p7.drew) (fun _ => trivial) ?_
            rotate_left
            · intro w' hT
              obtain ⟨t1, t2, t3, t4⟩ := hT
              go_simp
              (try rw [if_pos (by omega)])
              (try with_reducible rfl)
            rotate_left
            (try simp only [Act.put, List.setIfInBounds_toArray, List.set_cons_zero, List.set_cons_succ])
            refine wpKeep_takeT (i := 1) (oi := ⟨some 83, _, _, _, _, _⟩) (v := ?_) rfl (by kernel_rfl) (by kernel_rfl) (by kernel_rfl) (by kernel_rfl) (fun _ _ _ h => h) (Or.inl ⟨by rfl, ?_⟩) (HPT.out _ p7.drew) (fun _ => trivial) ?_
            rotate_left
            · intro w' hT
              obtain ⟨t1, t2, t3, t4⟩ := hT
              go_simp
              (try rw [if_pos (by omega)])
              (try with_reducible rfl)
            rotate_left
            (try simp only [Act.put, List.setIfInBounds_toArray, List.set_cons_zero, List.set_cons_succ])
            refine wpKeep_takeT (i := 2) (oi := ⟨some 84, _, _, _, _, _⟩) (v := ?_) rfl (by kernel_rfl) (by kernel_rfl) (by kernel_rfl) (by kernel_rfl) (fun _ _ _ h => h) (Or.inl ⟨by rfl, ?_⟩) (HPT.out _ p7.drew) (fun _ => trivial) ?_
            rotate_left
            · intro w' hT
              obtain ⟨t1, t2, t3, t4⟩ := hT
              go_simp
              (try rw [if_pos (by omega)])
              (try with_reducible rfl)
            rotate_left
            (try simp only [Act.put, List.setIfInBounds_toArray, List.set_cons_zero, List.set_cons_succ])
            refine wpKeep_takeT (i := 3) (oi := ⟨some 85, _, _, _, _, _⟩) (v := ?_) rfl (by kernel_rfl) (by kernel_rfl) (by kernel_rfl) (by kernel_rfl) (fun _ _ _ h => h) (Or.inl ⟨by rfl, ?_⟩) (HPT.out _ p7.drew) (fun _ => trivial) ?_
            rotate_left
            · intro w' hT
              obtain ⟨t1, t2, t3, t4⟩ := hT
              go_simp
              (try rw [if_pos (by omega)])
              (try with_reducible rfl)
            rotate_left
            (try simp only [Act.put, List.setIfInBounds_toArray, List.set_cons_zero, List.set_cons_succ])
            refine wpKeep_takeT (i := 4) (oi := ⟨some 86, _, _, _, _, _⟩) (v := ?_) rfl (by kernel_rfl) (by kernel_rfl) (by kernel_rfl) (by kernel_rfl) (fun _ _ _ h => h) (Or.inl ⟨by rfl, ?_⟩) (HPT.out _ p7.drew) (fun _ => trivial) ?_
            rotate_left
            · intro w' hT
              obtain ⟨t1, t2, t3, t4⟩ := hT
              go_simp
              (try rw [if_pos (by omega)])
              (try with_reducible rfl)
            rotate_left
            (try simp only [Act.put, List.setIfInBounds_toArray, List.set_cons_zero, List.set_cons_succ])
            refine wpKeep_takeT (i := 5) (oi := ⟨some 87, _, _, _, _, _⟩) (v := ?_) rfl (by kernel_rfl) (by kernel_rfl) (by kernel_rfl) (by kernel_rfl) (fun _ _ _ h => h) (Or.inl ⟨by rfl, ?_⟩) (HPT.out _ p7.drew) (fun _ => trivial) ?_
            rotate_left
            · intro w' hT
              obtain ⟨t1, t2, t3, t4⟩ := hT
              go_simp
              (try rw [if_pos (by omega)])
              (try with_reducible rfl)
            rotate_left
            (try simp only [Act.put, List.setIfInBounds_toArray, List.set_cons_zero, List.set_cons_succ])
            refine wpKeep_takeT (i := 6) (oi := ⟨some 88, _, _, _, _, _⟩) (v := ?_) rfl (by kernel_rfl) (by kernel_rfl) (by kernel_rfl) (by kernel_rfl) (fun _ _ _ h => h) (Or.inl ⟨by rfl, ?_⟩) (HPT.out _ p7.drew) (fun _ => trivial) ?_
            rotate_left
            · intro w' hT
              obtain ⟨t1, t2, t3, t4⟩ := hT
              go_simp
              (try rw [if_pos (by omega)])
              (try with_reducible rfl)
            rotate_left
            (try simp only [Act.put, List.setIfInBounds_toArray, List.set_cons_zero, List.set_cons_succ])
            refine wpKeep_takeT (i := 7) (oi := ⟨some 89, _, _, _, _, _⟩) (v := ?_) rfl (by kernel_rfl) (by kernel_rfl) (by kernel_rfl) (by kernel_rfl) (fun _ _ _ h => h) (Or.inl ⟨by rfl, ?_⟩) (HPT.out _ p7.drew) (fun _ => trivial) ?_
            rotate_left
            · intro w' hT
              obtain ⟨t1, t2, t3, t4⟩ := hT
              go_simp
              (try rw [if_pos (by omega)])
              (try with_reducible rfl)
            rotate_left
            (try simp only [Act.put, List.setIfInBounds_toArray, List.set_cons_zero, List.set_cons_succ])
            refine wpKeep_takeT (i := 9) (oi := ⟨some 91, _, _, _, _, _⟩) (v := ?_) rfl (by kernel_rfl) (by kernel_rfl) (by kernel_rfl) (by kernel_rfl) (fun _ _ _ h => h) (Or.inl ⟨by rfl, ?_⟩) (HPT.out _ p7.drew) (fun _ => trivial) ?_
            rotate_left
            · intro w' hT
              obtain ⟨t1, t2, t3, t4⟩ := hT
              go_simp
              (try rw [if_pos (by omega)])
              (try with_reducible rfl)
            rotate_left
            (try simp only [Act.put, List.setIfInBounds_toArray, List.set_cons_zero, List.set_cons_succ])
            refine wpKeep_takeT (i := 10) (oi := ⟨some 92, _, _, _, _, _⟩) (v := ?_) rfl (by kernel_rfl) (by kernel_rfl) (by kernel_rfl) (by kernel_rfl) (fun _ _ _ h => h) (Or.inl ⟨by rfl, ?_⟩) (HPT.out _ p7.drew) (fun _ => trivial) ?_
            rotate_left
            · intro w' hT
              obtain ⟨t1, t2, t3, t4⟩ := hT
              go_simp
              (try rw [if_pos (by omega)])
              (try with_reducible rfl)
            rotate_left
            (try simp only [Act.put, List.setIfInBounds_toArray, List.set_cons_zero, List.set_cons_succ])
            refine wpKeep_takeT (i := 11) (oi := ⟨some 93, _, _, _, _, _⟩) (v := ?_) rfl (by kernel_rfl) (by kernel_rfl) (by kernel_rfl) (by kernel_rfl) (fun _ _ _ h => h) (Or.inl ⟨by rfl, ?_⟩) (HPT.out _ p7.drew) (fun _ => trivial) ?_
            rotate_left
            · intro w' hT
              obtain ⟨t1, t2, t3, t4⟩ := hT
              go_simp
              (try rw [if_pos (by omega)])
              (try with_reducible rfl)
            rotate_left
            (try simp only [Act.put, List.setIfInBounds_toArray, List.set_cons_zero, List.set_cons_succ])
            refine wpKeep_takeT (i := 12) (oi := ⟨some 94, _, _, _, _, _⟩) (v := ?_) rfl (by kernel_rfl) (by kernel_rfl) (by kernel_rfl) (by kernel_rfl) (fun _ _ _ h => h) (Or.inl ⟨by rfl, ?_⟩) (HPT.out _ p7.drew) (fun _ => trivial) ?_
            rotate_left
            · intro w' hT
              obtain ⟨t1, t2, t3, t4⟩ := hT
              go_simp
              (try rw [if_pos (by omega)])
              (try with_reducible rfl)
            rotate_left
            (try simp only [Act.put, List.setIfInBounds_toArray, List.set_cons_zero, List.set_cons_succ])
            refine wpKeep_takeT (i := 13) (oi := ⟨some 95, _, _, _, _, _⟩) (v := ?_) rfl (by kernel_rfl) (by kernel_rfl) (by kernel_rfl) (by kernel_rfl) (fun _ _ _ h => h) (Or.inl ⟨by rfl, ?_⟩) (HPT.out _ p7.drew) (fun _ => trivial) ?_
            rotate_left
            · intro w' hT
              obtain ⟨t1, t2, t3, t4⟩ := hT
              go_simp
              (try rw [if_pos (by omega)])
              (try with_reducible rfl)
            rotate_left
            (try simp only [Act.put, List.setIfInBounds_toArray, List.set_cons_zero, List.set_cons_succ])
            refine wpKeep_takeT (i := 14) (oi := ⟨some 96, _, _, _, _, _⟩) (v := ?_) rfl (by kernel_rfl) (by kernel_rfl) (by kernel_rfl) (by kernel_rfl) (fun _ _ _ h => h) (Or.inl ⟨by rfl, ?_⟩) (HPT.out _ p7.drew) (fun _ => trivial) ?_
            rotate_left
            · intro w' hT
              obtain ⟨t1, t2, t3, t4⟩ := hT
              go_simp
              (try rw [if_pos (by omega)])
              (try with_reducible rfl)
            rotate_left
            (try simp only [Act.put, List.setIfInBounds_toArray, List.set_cons_zero, List.set_cons_succ])
            refine wpKeep_takeT (i := 15) (oi := ⟨some 97, _, _, _, _, _⟩) (v := ?_) rfl (by kernel_rfl) (by kernel_rfl) (by kernel_rfl) (by kernel_rfl) (fun _ _ _ h => h) (Or.inl ⟨by rfl, ?_⟩) (HPT.out _ p7.drew) (fun _ => trivial) ?_
            rotate_left
            · intro w' hT
              obtain ⟨t1, t2, t3, t4⟩ := hT
              go_simp
              (try rw [if_pos (by omega)])
              (try with_reducible rfl)
            rotate_left
            (try simp only [Act.put, List.setIfInBounds_toArray, List.set_cons_zero, List.set_cons_succ])
            refine wpKeep_takeT (i := 16) (oi := ⟨some 98, _, _, _, _, _⟩) (v := ?_) rfl (by kernel_rfl) (by kernel_rfl) (by kernel_rfl) (by kernel_rfl) (fun _ _ _ h => h) (Or.inl ⟨by rfl, ?_⟩) (HPT.out _ p7.drew) (fun _ => trivial) ?_
            rotate_left
            · intro w' hT
              obtain ⟨t1, t2, t3, t4⟩ := hT
              go_simp
              (try rw [if_pos (by omega)])
              (try with_reducible rfl)
            rotate_left
            (try simp only [Act.put, List.setIfInBounds_toArray, List.set_cons_zero, List.set_cons_succ])
            refine wpKeep_ready (rs := [8]) (by kernel_rfl) (by simp) ?_
            refine AllKeep.cons (o := ⟨some 90, _, _, _, _, _⟩) rfl (fun Kq hK => ?_) AllKeep.nil
            go_simp
            go_at_call 17
            refine (HDQ.out _ p7.drew).mono ?_
            rintro e w5 ⟨va, ya, rfl, ca, ra, na, f5⟩
            have g5 : Fresh W0 w5 := p7.drew.trans f5
            clear f5
            refine hK.out _ _ (HPT.out _ g5) (fun _ => trivial) ?_
            clear hK Kq
            (try simp only [Act.put, List.setIfInBounds_toArray, List.set_cons_zero, List.set_cons_succ])
            refine wpKeep_ready (rs := [17]) (by kernel_rfl) (by simp) ?_
            refine AllKeep.cons (o := ⟨some 99, _, _, _, _, _⟩) rfl (fun Kq hK => ?_) AllKeep.nil
            go_simp
            go_at_call 22
            refine (HXQ.out _ g5).mono ?_
            rintro e w6 ⟨vx, rfl, rx, nx, f6⟩
            have g6 : Fresh W0 w6 := g5.trans f6
            have ra6 := ownsRow_keeps ra f6 (fun _ _ h => h)
            obtain ⟨xo, xc, rfl⟩ := ownsRow_slice rx
            clear f6
            refine hK.out _ _ (HPT.out _ g6) (fun _ => trivial) ?_
            clear hK Kq
            (try simp only [Act.put, List.setIfInBounds_toArray, List.set_cons_zero, List.set_cons_succ])
            refine wpKeep_ready (rs := [18]) (by kernel_rfl) (by simp) ?_
            refine AllKeep.cons (o := ⟨some 100, _, _, _, _, _⟩) rfl (fun Kq hK => ?_) AllKeep.nil
            go_simp
            go_at_call 21
            refine (sameWrites_same _ _ (pdSt (f i)) w6 ya _ _ _ ca Clip.same ra6 rfl rx rfl (by rw [pdSt_len]; have := told_le (f i).f (f i).l.length; have := HOK.out.ll; omega)).mono ?_
            rintro e w7 ⟨rfl, f7⟩
            have g7 : Fresh W0 w7 := g6.trans f7
            clear f7 ra ra6 rx
            refine hK.out _ _ (HPT.out _ g7) (fun _ => trivial) ?_
            clear hK Kq
            (try simp only [Act.put, List.setIfInBounds_toArray, List.set_cons_zero, List.set_cons_succ])
            refine wpKeep_takeT (i := 19) (oi := ⟨some 13, _, _, _, _, _⟩) (v := ?_) rfl (by kernel_rfl) (by kernel_rfl) (by kernel_rfl) (by kernel_rfl) (fun _ _ _ h => h) (Or.inl ⟨by rfl, ?_⟩) (HPT.out _ g7) (fun _ => trivial) ?_
            rotate_left
            · intro w' hT
              obtain ⟨t1, t2, t3, t4⟩ := hT
              go_simp
              (try rw [if_pos (by omega)])
              (try with_reducible rfl)
            rotate_left
            (try simp only [Act.put, List.setIfInBounds_toArray, List.set_cons_zero, List.set_cons_succ])
            refine wpKeep_done (by kernel_rfl) ?_ _
            have q7 := g7
            clear g7 g6 g5 p7
            go_wp2_with fail
            refine wp_region_keep 29 (fun w' => w'.cell? ⟨ob, 0, none⟩ = some (.slice (some ⟨gs, 0, none⟩) v.ss.length cl) ∧ w'.cell? ⟨gs, i * 2, none⟩ = some (.pointer (some ⟨d, 0, none⟩)) ∧ w'.cell? ⟨gs, i * 2 + 1, none⟩ = some (.pointer (some ⟨x, 0, none⟩)) ∧ w'.cell? ⟨x, 4, none⟩ = some (.bool (f i).dead)) (fun _ => True) (fun _ => true) (by kernel_rfl) (by kernel_rfl) ?_
            (try (change wpKeep _ _ _ _ _ _ _ _ _ _ (World.drew _)))
            refine wpKeep_takeT (i := 0) (oi := ⟨some 101, _, _, _, _, _⟩) (v := ?_) rfl (by kernel_rfl) (by kernel_rfl) (by kernel_rfl) (by kernel_rfl) (fun _ _ _ h => h) (Or.inl ⟨by rfl, ?_⟩) (HPT.out _ q7.drew) (fun _ => trivial) ?_
            rotate_left
            · intro w' hT
              obtain ⟨t1, t2, t3, t4⟩ := hT
              go_simp
              (try rw [if_pos (by omega)])
              (try with_reducible rfl)
            rotate_left
            (try simp only [Act.put, List.setIfInBounds_toArray, List.set_cons_zero, List.set_cons_succ])
            refine wpKeep_takeT (i := 1) (oi := ⟨some 102, _, _, _, _, _⟩) (v := ?_) rfl (by kernel_rfl) (by kernel_rfl) (by kernel_rfl) (by kernel_rfl) (fun _ _ _ h => h) (Or.inl ⟨by rfl, ?_⟩) (HPT.out _ q7.drew) (fun _ => trivial) ?_
            rotate_left
            · intro w' hT
              obtain ⟨t1, t2, t3, t4⟩ := hT
              go_simp
              (try rw [if_pos (by omega)])
              (try with_reducible rfl)
            rotate_left
            (try simp only [Act.put, List.setIfInBounds_toArray, List.set_cons_zero, List.set_cons_succ])
            refine wpKeep_takeT (i := 2) (oi := ⟨some 103, _, _, _, _, _⟩) (v := ?_) rfl (by kernel_rfl) (by kernel_rfl) (by kernel_rfl) (by kernel_rfl) (fun _ _ _ h => h) (Or.inl ⟨by rfl, ?_⟩) (HPT.out _ q7.drew) (fun _ => trivial) ?_
            rotate_left
            · intro w' hT
              obtain ⟨t1, t2, t3, t4⟩ := hT
              go_simp
              (try rw [if_pos (by omega)])
              (try with_reducible rfl)
            rotate_left
            (try simp only [Act.put, List.setIfInBounds_toArray, List.set_cons_zero, List.set_cons_succ])
            refine wpKeep_takeT (i := 3) (oi := ⟨some 104, _, _, _, _, _⟩) (v := ?_) rfl (by kernel_rfl) (by kernel_rfl) (by kernel_rfl) (by kernel_rfl) (fun _ _ _ h => h) (Or.inl ⟨by rfl, ?_⟩) (HPT.out _ q7.drew) (fun _ => trivial) ?_
            rotate_left
            · intro w' hT
              obtain ⟨t1, t2, t3, t4⟩ := hT
              go_simp
              (try rw [if_pos (by omega)])
              (try with_reducible rfl)
            rotate_left
            (try simp only [Act.put, List.setIfInBounds_toArray, List.set_cons_zero, List.set_cons_succ])
            refine wpKeep_takeT (i := 4) (oi := ⟨some 105, _, _, _, _, _⟩) (v := ?_) rfl (by kernel_rfl) (by kernel_rfl) (by kernel_rfl) (by kernel_rfl) (fun _ _ _ h => h) (Or.inl ⟨by rfl, ?_⟩) (HPT.out _ q7.drew) (fun _ => trivial) ?_
            rotate_left
            · intro w' hT
              obtain ⟨t1, t2, t3, t4⟩ := hT
              go_simp
              (try rw [if_pos (by omega)])
              (try with_reducible rfl)
            rotate_left
            (try simp only [Act.put, List.setIfInBounds_toArray, List.set_cons_zero, List.set_cons_succ])
            refine wpKeep_takeT (i := 5) (oi := ⟨some 106, _, _, _, _, _⟩) (v := ?_) rfl (by kernel_rfl) (by kernel_rfl) (by kernel_rfl) (by kernel_rfl) (fun _ _ _ h => h) (Or.inl ⟨by rfl, ?_⟩) (HPT.out _ q7.drew) (fun _ => trivial) ?_
            rotate_left
            · intro w' hT
              obtain ⟨t1, t2, t3, t4⟩ := hT
              go_simp
              (try rw [if_pos (by omega)])
              (try with_reducible rfl)
            rotate_left
            (try simp only [Act.put, List.setIfInBounds_toArray, List.set_cons_zero, List.set_cons_succ])
            refine wpKeep_takeT (i := 6) (oi := ⟨some 107, _, _, _, _, _⟩) (v := ?_) rfl (by kernel_rfl) (by kernel_rfl) (by kernel_rfl) (by kernel_rfl) (fun _ _ _ h => h) (Or.inl ⟨by rfl, ?_⟩) (HPT.out _ q7.drew) (fun _ => trivial) ?_
            rotate_left
            · intro w' hT
              obtain ⟨t1, t2, t3, t4⟩ := hT
              go_simp
              (try rw [if_pos (by omega)])
              (try with_reducible rfl)
            rotate_left
            (try simp only [Act.put, List.setIfInBounds_toArray, List.set_cons_zero, List.set_cons_succ])
            refine wpKeep_takeT (i := 7) (oi := ⟨some 108, _, _, _, _, _⟩) (v := ?_) rfl (by kernel_rfl) (by kernel_rfl) (by kernel_rfl) (by kernel_rfl) (fun _ _ _ h => h) (Or.inl ⟨by rfl, ?_⟩) (HPT.out _ q7.drew) (fun _ => trivial) ?_
            rotate_left
            · intro w' hT
              obtain ⟨t1, t2, t3, t4⟩ := hT
              go_simp
              (try rw [if_pos (by omega)])
              (try with_reducible rfl)
            rotate_left
            (try simp only [Act.put, List.setIfInBounds_toArray, List.set_cons_zero, List.set_cons_succ])
            refine wpKeep_takeT (i := 8) (oi := ⟨some 109, _, _, _, _, _⟩) (v := ?_) rfl (by kernel_rfl) (by kernel_rfl) (by kernel_rfl) (by kernel_rfl) (fun _ _ _ h => h) (Or.inl ⟨by rfl, ?_⟩) (HPT.out _ q7.drew) (fun _ => trivial) ?_
            rotate_left
            · intro w' hT
              obtain ⟨t1, t2, t3, t4⟩ := hT
              go_simp
              (try rw [if_pos (by omega)])
              (try with_reducible rfl)
            rotate_left
            (try simp only [Act.put, List.setIfInBounds_toArray, List.set_cons_zero, List.set_cons_succ])
            refine wpKeep_takeT (i := 9) (oi := ⟨some 110, _, _, _, _, _⟩) (v := ?_) rfl (by kernel_rfl) (by kernel_rfl) (by kernel_rfl) (by kernel_rfl) (fun _ _ _ h => h) (Or.inl ⟨by rfl, ?_⟩) (HPT.out _ q7.drew) (fun _ => trivial) ?_
            rotate_left
            · intro w' hT
              obtain ⟨t1, t2, t3, t4⟩ := hT
              go_simp
              (try rw [if_pos (by omega)])
              (try with_reducible rfl)
            rotate_left
            (try simp only [Act.put, List.setIfInBounds_toArray, List.set_cons_zero, List.set_cons_succ])
            refine wpKeep_takeT (i := 10) (oi := ⟨some 111, _, _, _, _, _⟩) (v := ?_) rfl (by kernel_rfl) (by kernel_rfl) (by kernel_rfl) (by kernel_rfl) (fun _ _ _ h => h) (Or.inl ⟨by rfl, ?_⟩) (HPT.out _ q7.drew) (fun _ => trivial) ?_
            rotate_left
            · intro w' hT
              obtain ⟨t1, t2, t3, t4⟩ := hT
              go_simp
              (try rw [if_pos (by omega)])
              (try with_reducible rfl)
            rotate_left
            (try simp only [Act.put, List.setIfInBounds_toArray, List.set_cons_zero, List.set_cons_succ])
            refine wpKeep_takeT (i := 11) (oi := ⟨some 112, _, _, _, _, _⟩) (v := ?_) rfl (by kernel_rfl) (by kernel_rfl) (by kernel_rfl) (by kernel_rfl) (fun _ _ _ h => h) (Or.inl ⟨by rfl, ?_⟩) (HPT.out _ q7.drew) (fun _ => trivial) ?_
            rotate_left
            · intro w' hT
              obtain ⟨t1, t2, t3, t4⟩ := hT
              go_simp
              (try rw [if_pos (by omega)])
              (try with_reducible rfl)
            rotate_left
            (try simp only [Act.put, List.setIfInBounds_toArray, List.set_cons_zero, List.set_cons_succ])
            refine wpKeep_takeT (i := 12) (oi := ⟨some 113, _, _, _, _, _⟩) (v := ?_) rfl (by kernel_rfl) (by kernel_rfl) (by kernel_rfl) (by kernel_rfl) (fun _ _ _ h => h) (Or.inl ⟨by rfl, ?_⟩) (HPT.out _ q7.drew) (fun _ => trivial) ?_
            rotate_left
            · intro w' hT
              obtain ⟨t1, t2, t3, t4⟩ := hT
              go_simp
              (try rw [if_pos (by omega)])
              (try with_reducible rfl)
            rotate_left
            (try simp only [Act.put, List.setIfInBounds_toArray, List.set_cons_zero, List.set_cons_succ])
            refine wpKeep_takeT (i := 13) (oi := ⟨some 114, _, _, _, _, _⟩) (v := ?_) rfl (by kernel_rfl) (by kernel_rfl) (by kernel_rfl) (by kernel_rfl) (fun _ _ _ h => h) (Or.inl ⟨by rfl, ?_⟩) (HPT.out _ q7.drew) (fun _ => trivial) ?_
            rotate_left
            · intro w' hT
              obtain ⟨t1, t2, t3, t4⟩ := hT
              go_simp
              (try rw [if_pos (by omega)])
              (try with_reducible rfl)
            rotate_left
            (try simp only [Act.put, List.setIfInBounds_toArray, List.set_cons_zero, List.set_cons_succ])
            refine wpKeep_takeT (i := 14) (oi := ⟨some 115, _, _, _, _, _⟩) (v := ?_) rfl (by kernel_rfl) (by kernel_rfl) (by kernel_rfl) (by kernel_rfl) (fun _ _ _ h => h) (Or.inl ⟨by rfl, ?_⟩) (HPT.out _ q7.drew) (fun _ => trivial) ?_
            rotate_left
            · intro w' hT
              obtain ⟨t1, t2, t3, t4⟩ := hT
              go_simp
              (try rw [if_pos (by omega)])
              (try with_reducible rfl)
            rotate_left
            (try simp only [Act.put, List.setIfInBounds_toArray, List.set_cons_zero, List.set_cons_succ])
            refine wpKeep_takeT (i := 16) (oi := ⟨some 117, _, _, _, _, _⟩) (v := ?_) rfl (by kernel_rfl) (by kernel_rfl) (by kernel_rfl) (by kernel_rfl) (fun _ _ _ h => h) (Or.inl ⟨by rfl, ?_⟩) (HPT.out _ q7.drew) (fun _ => trivial) ?_
            rotate_left
            · intro w' hT
              obtain ⟨t1, t2, t3, t4⟩ := hT
              go_simp
              (try rw [if_pos (by omega)])
              (try with_reducible rfl)
            rotate_left
            (try simp only [Act.put, List.setIfInBounds_toArray, List.set_cons_zero, List.set_cons_succ])
            refine wpKeep_takeT (i := 17) (oi := ⟨some 118, _, _, _, _, _⟩) (v := ?_) rfl (by kernel_rfl) (by kernel_rfl) (by kernel_rfl) (by kernel_rfl) (fun _ _ _ h => h) (Or.inl ⟨by rfl, ?_⟩) (HPT.out _ q7.drew) (fun _ => trivial) ?_
            rotate_left
            · intro w' hT
              obtain ⟨t1, t2, t3, t4⟩ := hT
              go_simp
              (try rw [if_pos (by omega)])
              (try with_reducible rfl)
            rotate_left
            (try simp only [Act.put, List.setIfInBounds_toArray, List.set_cons_zero, List.set_cons_succ])
            refine wpKeep_takeT (i := 18) (oi := ⟨some 119, _, _, _, _, _⟩) (v := ?_) rfl (by kernel_rfl) (by kernel_rfl) (by kernel_rfl) (by kernel_rfl) (fun _ _ _ h => h) (Or.inl ⟨by rfl, ?_⟩) (HPT.out _ q7.drew) (fun _ => trivial) ?_
            rotate_left
            · intro w' hT
              obtain ⟨t1, t2, t3, t4⟩ := hT
              go_simp
              (try rw [if_pos (by omega)])
              (try with_reducible rfl)
            rotate_left
            (try simp only [Act.put, List.setIfInBounds_toArray, List.set_cons_zero, List.set_cons_succ])
            refine wpKeep_takeT (i := 19) (oi := ⟨some 120, _, _, _, _, _⟩) (v := ?_) rfl (by kernel_rfl) (by kernel_rfl) (by kernel_rfl) (by kernel_rfl) (fun _ _ _ h => h) (Or.inl ⟨by rfl, ?_⟩) (HPT.out _ q7.drew) (fun _ => trivial) ?_
            rotate_left
            · intro w' hT
              obtain ⟨t1, t2, t3, t4⟩ := hT
              go_simp
              (try rw [if_pos (by omega)])
              (try with_reducible rfl)
            rotate_left
            (try simp only [Act.put, List.setIfInBounds_toArray, List.set_cons_zero, List.set_cons_succ])
            refine wpKeep_takeT (i := 20) (oi := ⟨some 121, _, _, _, _, _⟩) (v := ?_) rfl (by kernel_rfl) (by kernel_rfl) (by kernel_rfl) (by kernel_rfl) (fun _ _ _ h => h) (Or.inl ⟨by rfl, ?_⟩) (HPT.out _ q7.drew) (fun _ => trivial) ?_
            rotate_left
            · intro w' hT
              obtain ⟨t1, t2, t3, t4⟩ := hT
              go_simp
              (try rw [if_pos (by omega)])
              (try with_reducible rfl)
            rotate_left
            (try simp only [Act.put, List.setIfInBounds_toArray, List.set_cons_zero, List.set_cons_succ])
            refine wpKeep_takeT (i := 21) (oi := ⟨some 122, _, _, _, _, _⟩) (v := ?_) rfl (by kernel_rfl) (by kernel_rfl) (by kernel_rfl) (by kernel_rfl) (fun _ _ _ h => h) (Or.inl ⟨by rfl, ?_⟩) (HPT.out _ q7.drew) (fun _ => trivial) ?_
            rotate_left
            · intro w' hT
              obtain ⟨t1, t2, t3, t4⟩ := hT
              go_simp
              (try rw [if_pos (by omega)])
              (try with_reducible rfl)
            rotate_left
            (try simp only [Act.put, List.setIfInBounds_toArray, List.set_cons_zero, List.set_cons_succ])
            refine wpKeep_takeT (i := 22) (oi := ⟨some 123, _, _, _, _, _⟩) (v := ?_) rfl (by kernel_rfl) (by kernel_rfl) (by kernel_rfl) (by kernel_rfl) (fun _ _ _ h => h) (Or.inl ⟨by rfl, ?_⟩) (HPT.out _ q7.drew) (fun _ => trivial) ?_
            rotate_left
            · intro w' hT
              obtain ⟨t1, t2, t3, t4⟩ := hT
              go_simp
              (try rw [if_pos (by omega)])
              (try with_reducible rfl)
            rotate_left
            (try simp only [Act.put, List.setIfInBounds_toArray, List.set_cons_zero, List.set_cons_succ])
            refine wpKeep_takeT (i := 23) (oi := ⟨some 124, _, _, _, _, _⟩) (v := ?_) rfl (by kernel_rfl) (by kernel_rfl) (by kernel_rfl) (by kernel_rfl) (fun _ _ _ h => h) (Or.inl ⟨by rfl, ?_⟩) (HPT.out _ q7.drew) (fun _ => trivial) ?_
            rotate_left
            · intro w' hT
              obtain ⟨t1, t2, t3, t4⟩ := hT
              go_simp
              (try rw [if_pos (by omega)])
              (try with_reducible rfl)
            rotate_left
            (try simp only [Act.put, List.setIfInBounds_toArray, List.set_cons_zero, List.set_cons_succ])
            refine wpKeep_takeT (i := 24) (oi := ⟨some 125, _, _, _, _, _⟩) (v := ?_) rfl (by kernel_rfl) (by kernel_rfl) (by kernel_rfl) (by kernel_rfl) (fun _ _ _ h => h) (Or.inl ⟨by rfl, ?_⟩) (HPT.out _ q7.drew) (fun _ => trivial) ?_
            rotate_left
            · intro w' hT
              obtain ⟨t1, t2, t3, t4⟩ := hT
              go_simp
              (try rw [if_pos (by omega)])
              (try with_reducible rfl)
            rotate_left
            (try simp only [Act.put, List.setIfInBounds_toArray, List.set_cons_zero, List.set_cons_succ])
            refine wpKeep_takeT (i := 25) (oi := ⟨some 126, _, _, _, _, _⟩) (v := ?_) rfl (by kernel_rfl) (by kernel_rfl) (by kernel_rfl) (by kernel_rfl) (fun _ _ _ h => h) (Or.inl ⟨by rfl, ?_⟩) (HPT.out _ q7.drew) (fun _ => trivial) ?_
            rotate_left
            · intro w' hT
              obtain ⟨t1, t2, t3, t4⟩ := hT
              go_simp
              (try rw [if_pos (by omega)])
              (try with_reducible rfl)
            rotate_left
            (try simp only [Act.put, List.setIfInBounds_toArray, List.set_cons_zero, List.set_cons_succ])
            refine wpKeep_takeT (i := 26) (oi := ⟨some 127, _, _, _, _, _⟩) (v := ?_) rfl (by kernel_rfl) (by kernel_rfl) (by kernel_rfl) (by kernel_rfl) (fun _ _ _ h => h) (Or.inl ⟨by rfl, ?_⟩) (HPT.out _ q7.drew) (fun _ => trivial) ?_
            rotate_left
            · intro w' hT
              obtain ⟨t1, t2, t3, t4⟩ := hT
              go_simp
              (try rw [if_pos (by omega)])
              (try with_reducible rfl)
            rotate_left
            (try simp only [Act.put, List.setIfInBounds_toArray, List.set_cons_zero, List.set_cons_succ])
            refine wpKeep_ready (rs := [15]) (by kernel_rfl) (by simp) ?_
            refine AllKeep.cons (o := ⟨some 116, _, _, _, _, _⟩) rfl (fun Kq hK => ?_) AllKeep.nil
            go_simp
            go_at_call 14
            refine (HDD.out _ q7.drew).mono ?_
            rintro e w8 ⟨rfl, f8⟩
            have g8 : Fresh W0 w8 := q7.drew.trans f8
            clear f8
            refine hK.out _ _ (HPT.out _ g8) (fun _ => trivial) ?_
            clear hK Kq
            (try simp only [Act.put, List.setIfInBounds_toArray, List.set_cons_zero, List.set_cons_succ])
            refine wpKeep_takeT (i := 27) (oi := ⟨some 128, _, _, _, _, _⟩) (v := ?_) rfl (by kernel_rfl) (by kernel_rfl) (by kernel_rfl) (by kernel_rfl) (fun _ _ _ h => h) (Or.inl ⟨by rfl, ?_⟩) (HPT.out _ g8) (fun _ => trivial) ?_
            rotate_left
            · intro w' hT
              obtain ⟨t1, t2, t3, t4⟩ := hT
              go_simp
              (try rw [if_pos (by omega)])
              (try with_reducible rfl)
            rotate_left
            (try simp only [Act.put, List.setIfInBounds_toArray, List.set_cons_zero, List.set_cons_succ])
            refine wpKeep_takeT (i := 28) (oi := ⟨some 129, _, _, _, _, _⟩) (v := ?_) rfl (by kernel_rfl) (by kernel_rfl) (by kernel_rfl) (by kernel_rfl) (fun _ _ _ h => h) (Or.inl ⟨by rfl, ?_⟩) (HPT.out _ g8) (fun _ => trivial) ?_
            rotate_left
            · intro w' hT
              obtain ⟨t1, t2, t3, t4⟩ := hT
              go_simp
              (try rw [if_pos (by omega)])
              (try with_reducible rfl)
            rotate_left
            (try simp only [Act.put, List.setIfInBounds_toArray, List.set_cons_zero, List.set_cons_succ])
            refine wpKeep_done (by kernel_rfl) ?_ _
            have HF8 := hid g8
            clear g8 q7
            go_wp2_with fail
            go_roundw
            case rel => exact ⟨i + 1, by go_num, by omega, HF8.out⟩
            case measure => simp [intOf]; omega
          · obtain rfl : i = v.ss.length := by omega
            have hiI : ¬ (v.ss.length : Int) < (v.ss.length : Int) := by omega
            have HST := hid (still_any w.heap.size ob _ (2 * k + 2) c wq v f f (HW.out.fresh fr) (by omega))
            have HFR := hid fr
            clear fr
            go_wp2_with fail
            refine HST.out.mono ?_
            rintro e w4 ⟨rfl, -, k4⟩
            have HK := hid ((HKR.out.trans (HFR.out.mono fun _ _ h => h.elim)).trans k4)
            clear k4 HST c0
            go_wp2_with fail
            go_ret
            exact ⟨rfl, HK.out.mono fun q hq h => by omega⟩
    · have hkI : ¬ (k : Int) < (L : Int) := by omega
      obtain ⟨c, v, f, h⟩ := ha
      have HW := hid h
      have HKR := hid kr
      obtain ⟨al, cl, elv⟩ := ownsRow_slice h.vw.row
      have c0 := (cell_at h.box 0).trans (show _ = some (Value.slice al v.ss.length cl) from congrArg some elv)
      have hfew := h.vw.few
      have hfewI : (v.ss.length : Int) ≤ 5 := by omega
      clear h kr
      go_wp2_with fail
      clear c0
      obtain ⟨W0, rfl⟩ : ∃ W0, W0 = wr := ⟨_, rfl⟩
      go_loopw [11] (fun ii wx => ∃ i : Nat, ii = .int .i64 (i : Int) ∧ i ≤ v.ss.length ∧ Fresh W0 wx) (fun ii _ => v.ss.length - (intOf ii).toNat)
      case atStart => exact ⟨0, rfl, by omega, Keeps.refl _ _⟩
      case round =>
        obtain ⟨wq, rfl⟩ : ∃ wq, wq = wr := ⟨_, rfl⟩
        obtain ⟨i, rfl, hiL, fr⟩ := hrel
        have c0 := (cell_at (HW.out.fresh fr).box 0).trans (show _ = some (Value.slice al v.ss.length cl) from congrArg some elv)
        by_cases hlt3 : i < v.ss.length
        · as_aux_lemma =>
          obtain ⟨⟨d, x⟩, hss⟩ : ∃ y, v.ss[i]? = some y := ⟨v.ss[i], by simp⟩
          have hrow2 : W0.ownsRow 0 53 2 (.slice al v.ss.length cl) v.ss.length (sideCells v.ss) := by rw [← elv]; exact HW.out.vw.row
          obtain ⟨gs, eal, hgs, hgc⟩ := ownsRow_cells hrow2 (by omega)
          subst eal
          obtain ⟨g0, g1⟩ := sideCells_at v.ss i (d, x) hss
          have g0 := hgc _ _ g0
          have g1 := hgc _ _ g1
          have HDV := hid (HW.out.vw.dev i (d, x) hss)
          have HRF := hid (HW.out.vw.ref i (d, x) hss)
          have HOK := hid (HW.out.vw.okd i hlt3)
          have hxd := HRF.out.dead
          have hcz := (cell_at HW.out.box 0).trans (show _ = some (Value.slice (some ⟨gs, 0, none⟩) v.ss.length cl) from congrArg some elv)
          have HPT : Hid (∀ W, Fresh W0 W → W.cell? ⟨ob, 0, none⟩ = some (.slice (some ⟨gs, 0, none⟩) v.ss.length cl) ∧ W.cell? ⟨gs, i * 2, none⟩ = some (.pointer (some ⟨d, 0, none⟩)) ∧ W.cell? ⟨gs, i * 2 + 1, none⟩ = some (.pointer (some ⟨x, 0, none⟩)) ∧ W.cell? ⟨x, 4, none⟩ = some (.bool (f i).dead)) := fun W g =>
            ⟨(g.cell (p := ⟨ob, 0, none⟩) (lt_of_block HW.out.box) (fun h => h)).trans hcz, (g.cell (p := ⟨gs, i * 2, none⟩) hgs (fun h => h)).trans g0, (g.cell (p := ⟨gs, i * 2 + 1, none⟩) hgs (fun h => h)).trans g1, (g.cell (p := ⟨x, 4, none⟩) HRF.out.lt.1 (fun h => h)).trans hxd⟩
          have HDP := hid fun W (g : Fresh W0 W) => dpages _ d _ (f i) W (HDV.out.fresh g) HOK.out
          have HXP := hid fun W (g : Fresh W0 W) => xpages _ x (f i) W (HRF.out.fresh g) HOK.out
          have HDQ := hid fun W (g : Fresh W0 W) => dpend _ d _ (f i) W (HDV.out.fresh g) HOK.out
          have HXQ := hid fun W (g : Fresh W0 W) => xpend _ x (f i) W (HRF.out.fresh g) HOK.out
          have HDD := hid fun W (g : Fresh W0 W) => ddead _ d _ (f i) W (HDV.out.fresh g)
          have hi0 : (0 : Int) ≤ (i : Int) := by omega
          have hiI : (i : Int) < (v.ss.length : Int) := by omega
          have hdq : ((f i).dead != (f i).dead) = false := by simp
          have HFR := hid fr
          clear hrow2 hgc g0 g1 hss hxd hcz fr
          go_wp2_with fail
          clear c0
          have p0 := HFR.out
          refine wp_region_keep 20 (fun w' => w'.cell? ⟨ob, 0, none⟩ = some (.slice (some ⟨gs, 0, none⟩) v.ss.length cl) ∧ w'.cell? ⟨gs, i * 2, none⟩ = some (.pointer (some ⟨d, 0, none⟩)) ∧ w'.cell? ⟨gs, i * 2 + 1, none⟩ = some (.pointer (some ⟨x, 0, none⟩)) ∧ w'.cell? ⟨x, 4, none⟩ = some (.bool (f i).dead)) (fun _ => True) (fun _ => true) (by kernel_rfl) (by kernel_rfl) ?_
          (try (change wpKeep _ _ _ _ _ _ _ _ _ _ (World.drew _)))
          refine wpKeep_takeT (i := 0) (oi := ⟨some 63, _, _, _, _, _⟩) (v := ?_) rfl (by kernel_rfl) (by kernel_rfl) (by kernel_rfl) (by kernel_rfl) (fun _ _ _ h => h) (Or.inl ⟨by rfl, ?_⟩) (HPT.out _ p0.drew) (fun _ => trivial) ?_
          rotate_left
          · intro w' hT
            obtain ⟨t1, t2, t3, t4⟩ := hT
            go_simp
            (try rw [if_pos (by omega)])
            (try with_reducible rfl)
          rotate_left
          (try simp only [Act.put, List.setIfInBounds_toArray, List.set_cons_zero, List.set_cons_succ])
          refine wpKeep_takeT (i := 1) (oi := ⟨some 64, _, _, _, _, _⟩) (v := ?_) rfl (by kernel_rfl) (by kernel_rfl) (by kernel_rfl) (by kernel_rfl) (fun _ _ _ h => h) (Or.inl ⟨by rfl, ?_⟩) (HPT.out _ p0.drew) (fun _ => trivial) ?_
          rotate_left
          · intro w' hT
            obtain ⟨t1, t2, t3, t4⟩ := hT
            go_simp
            (try rw [if_pos (by omega)])
            (try with_reducible rfl)
          rotate_left
          (try simp only [Act.put, List.setIfInBounds_toArray, List.set_cons_zero, List.set_cons_succ])
          refine wpKeep_takeT (i := 2) (oi := ⟨some 65, _, _, _, _, _⟩) (v := ?_) rfl (by kernel_rfl) (by kernel_rfl) (by kernel_rfl) (by kernel_rfl) (fun _ _ _ h => h) (Or.inl ⟨by rfl, ?_⟩) (HPT.out _ p0.drew) (fun _ => trivial) ?_
          rotate_left
          · intro w' hT
            obtain ⟨t1, t2, t3, t4⟩ := hT
            go_simp
            (try rw [if_pos (by omega)])
            (try with_reducible rfl)
          rotate_left
          (try simp only [Act.put, List.setIfInBounds_toArray, List.set_cons_zero, List.set_cons_succ])
          refine wpKeep_takeT (i := 3) (oi := ⟨some 66, _, _, _, _, _⟩) (v := ?_) rfl (by kernel_rfl) (by kernel_rfl) (by kernel_rfl) (by kernel_rfl) (fun _ _ _ h => h) (Or.inl ⟨by rfl, ?_⟩) (HPT.out _ p0.drew) (fun _ => trivial) ?_
          rotate_left
          · intro w' hT
            obtain ⟨t1, t2, t3, t4⟩ := hT
            go_simp
            (try rw [if_pos (by omega)])
            (try with_reducible rfl)
          rotate_left
          (try simp only [Act.put, List.setIfInBounds_toArray, List.set_cons_zero, List.set_cons_succ])
          refine wpKeep_takeT (i := 4) (oi := ⟨some 67, _, _, _, _, _⟩) (v := ?_) rfl (by kernel_rfl) (by kernel_rfl) (by kernel_rfl) (by kernel_rfl) (fun _ _ _ h => h) (Or.inl ⟨by rfl, ?_⟩) (HPT.out _ p0.drew) (fun _ => trivial) ?_
          rotate_left
          · intro w' hT
            obtain ⟨t1, t2, t3, t4⟩ := hT
            go_simp
            (try rw [if_pos (by omega)])
            (try with_reducible rfl)
          rotate_left
          (try simp only [Act.put, List.setIfInBounds_toArray, List.set_cons_zero, List.set_cons_succ])
          refine wpKeep_takeT (i := 5) (oi := ⟨some 68, _, _, _, _, _⟩) (v := ?_) rfl (by kernel_rfl) (by kernel_rfl) (by kernel_rfl) (by kernel_rfl) (fun _ _ _ h => h) (Or.inl ⟨by rfl, ?_⟩) (HPT.out _ p0.drew) (fun _ => trivial) ?_
          rotate_left
          · intro w' hT
            obtain ⟨t1, t2, t3, t4⟩ := hT
            go_simp
            (try rw [if_pos (by omega)])
            (try with_reducible rfl)
          rotate_left
          (try simp only [Act.put, List.setIfInBounds_toArray, List.set_cons_zero, List.set_cons_succ])
          refine wpKeep_takeT (i := 6) (oi := ⟨some 69, _, _, _, _, _⟩) (v := ?_) rfl (by kernel_rfl) (by kernel_rfl) (by kernel_rfl) (by kernel_rfl) (fun _ _ _ h => h) (Or.inl ⟨by rfl, ?_⟩) (HPT.out _ p0.drew) (fun _ => trivial) ?_
          rotate_left
          · intro w' hT
            obtain ⟨t1, t2, t3, t4⟩ := hT
            go_simp
            (try rw [if_pos (by omega)])
            (try with_reducible rfl)
          rotate_left
          (try simp only [Act.put, List.setIfInBounds_toArray, List.set_cons_zero, List.set_cons_succ])
          refine wpKeep_takeT (i := 7) (oi := ⟨some 70, _, _, _, _, _⟩) (v := ?_) rfl (by kernel_rfl) (by kernel_rfl) (by kernel_rfl) (by kernel_rfl) (fun _ _ _ h => h) (Or.inl ⟨by rfl, ?_⟩) (HPT.out _ p0.drew) (fun _ => trivial) ?_
          rotate_left
          · intro w' hT
            obtain ⟨t1, t2, t3, t4⟩ := hT
            go_simp
            (try rw [if_pos (by omega)])
            (try with_reducible rfl)
          rotate_left
          (try simp only [Act.put, List.setIfInBounds_toArray, List.set_cons_zero, List.set_cons_succ])
          refine wpKeep_takeT (i := 9) (oi := ⟨some 72, _, _, _, _, _⟩) (v := ?_) rfl (by kernel_rfl) (by kernel_rfl) (by kernel_rfl) (by kernel_rfl) (fun _ _ _ h => h) (Or.inl ⟨by rfl, ?_⟩) (HPT.out _ p0.drew) (fun _ => trivial) ?_
          rotate_left
          · intro w' hT
            obtain ⟨t1, t2, t3, t4⟩ := hT
            go_simp
            (try rw [if_pos (by omega)])
            (try with_reducible rfl)
          rotate_left
          (try simp only [Act.put, List.setIfInBounds_toArray, List.set_cons_zero, List.set_cons_succ])
          refine wpKeep_takeT (i := 10) (oi := ⟨some 73, _, _, _, _, _⟩) (v := ?_) rfl (by kernel_rfl) (by kernel_rfl) (by kernel_rfl) (by kernel_rfl) (fun _ _ _ h => h) (Or.inl ⟨by rfl, ?_⟩) (HPT.out _ p0.drew) (fun _ => trivial) ?_
          rotate_left
          · intro w' hT
            obtain ⟨t1, t2, t3, t4⟩ := hT
            go_simp
            (try rw [if_pos (by omega)])
            (try with_reducible rfl)
          rotate_left
          (try simp only [Act.put, List.setIfInBounds_toArray, List.set_cons_zero, List.set_cons_succ])
          refine wpKeep_takeT (i := 11) (oi := ⟨some 74, _, _, _, _, _⟩) (v := ?_) rfl (by kernel_rfl) (by kernel_rfl) (by kernel_rfl) (by kernel_rfl) (fun _ _ _ h => h) (Or.inl ⟨by rfl, ?_⟩) (HPT.out _ p0.drew) (fun _ => trivial) ?_
          rotate_left
          · intro w' hT
            obtain ⟨t1, t2, t3, t4⟩ := hT
            go_simp
            (try rw [if_pos (by omega)])
            (try with_reducible rfl)
          rotate_left
          (try simp only [Act.put, List.setIfInBounds_toArray, List.set_cons_zero, List.set_cons_succ])
          refine wpKeep_takeT (i := 12) (oi := ⟨some 75, _, _, _, _, _⟩) (v := ?_) rfl (by kernel_rfl) (by kernel_rfl) (by kernel_rfl) (by kernel_rfl) (fun _ _ _ h => h) (Or.inl ⟨by rfl, ?_⟩) (HPT.out _ p0.drew) (fun _ => trivial) ?_
          rotate_left
          · intro w' hT
            obtain ⟨t1, t2, t3, t4⟩ := hT
            go_simp
            (try rw [if_pos (by omega)])
            (try with_reducible rfl)
          rotate_left
          (try simp only [Act.put, List.setIfInBounds_toArray, List.set_cons_zero, List.set_cons_succ])
          refine wpKeep_takeT (i := 13) (oi := ⟨some 76, _, _, _, _, _⟩) (v := ?_) rfl (by kernel_rfl) (by kernel_rfl) (by kernel_rfl) (by kernel_rfl) (fun _ _ _ h => h) (Or.inl ⟨by rfl, ?_⟩) (HPT.out _ p0.drew) (fun _ => trivial) ?_
          rotate_left
          · intro w' hT
            obtain ⟨t1, t2, t3, t4⟩ := hT
            go_simp
            (try rw [if_pos (by omega)])
            (try with_reducible rfl)
          rotate_left
          (try simp only [Act.put, List.setIfInBounds_toArray, List.set_cons_zero, List.set_cons_succ])
          refine wpKeep_takeT (i := 14) (oi := ⟨some 77, _, _, _, _, _⟩) (v := ?_) rfl (by kernel_rfl) (by kernel_rfl) (by kernel_rfl) (by kernel_rfl) (fun _ _ _ h => h) (Or.inl ⟨by rfl, ?_⟩) (HPT.out _ p0.drew) (fun _ => trivial) ?_
          rotate_left
          · intro w' hT
            obtain ⟨t1, t2, t3, t4⟩ := hT
            go_simp
            (try rw [if_pos (by omega)])
            (try with_reducible rfl)
          rotate_left
          (try simp only [Act.put, List.setIfInBounds_toArray, List.set_cons_zero, List.set_cons_succ])
          refine wpKeep_takeT (i := 15) (oi := ⟨some 78, _, _, _, _, _⟩) (v := ?_) rfl (by kernel_rfl) (by kernel_rfl) (by kernel_rfl) (by kernel_rfl) (fun _ _ _ h => h) (Or.inl ⟨by rfl, ?_⟩) (HPT.out _ p0.drew) (fun _ => trivial) ?_
          rotate_left
          · intro w' hT
            obtain ⟨t1, t2, t3, t4⟩ := hT
            go_simp
            (try rw [if_pos (by omega)])
            (try with_reducible rfl)
          rotate_left
          (try simp only [Act.put, List.setIfInBounds_toArray, List.set_cons_zero, List.set_cons_succ])
          refine wpKeep_takeT (i := 16) (oi := ⟨some 79, _, _, _, _, _⟩) (v := ?_) rfl (by kernel_rfl) (by kernel_rfl) (by kernel_rfl) (by kernel_rfl) (fun _ _ _ h => h) (Or.inl ⟨by rfl, ?_⟩) (HPT.out _ p0.drew) (fun _ => trivial) ?_
          rotate_left
          · intro w' hT
            obtain ⟨t1, t2, t3, t4⟩ := hT
            go_simp
            (try rw [if_pos (by omega)])
            (try with_reducible rfl)
          rotate_left
          (try simp only [Act.put, List.setIfInBounds_toArray, List.set_cons_zero, List.set_cons_succ])
          refine wpKeep_ready (rs := [8]) (by kernel_rfl) (by simp) ?_
          refine AllKeep.cons (o := ⟨some 71, _, _, _, _, _⟩) rfl (fun Kq hK => ?_) AllKeep.nil
          go_simp
          go_at_call 16
          refine (HDP.out _ p0.drew).mono ?_
          rintro e w5 ⟨va, ya, rfl, ca, ⟨ra, na⟩, f5⟩
          have g5 : Fresh W0 w5 := p0.drew.trans f5
          clear f5
          refine hK.out _ _ (HPT.out _ g5) (fun _ => trivial) ?_
          clear hK Kq
          (try simp only [Act.put, List.setIfInBounds_toArray, List.set_cons_zero, List.set_cons_succ])
          refine wpKeep_ready (rs := [17]) (by kernel_rfl) (by simp) ?_
          refine AllKeep.cons (o := ⟨some 80, _, _, _, _, _⟩) rfl (fun Kq hK => ?_) AllKeep.nil
          go_simp
          go_at_call 20
          refine (HXP.out _ g5).mono ?_
          rintro e w6 ⟨vx, rfl, ⟨rx, nx⟩, f6⟩
          have g6 : Fresh W0 w6 := g5.trans f6
          have ra6 := ownsRow_keeps ra f6 (fun _ _ h => h)
          obtain ⟨xo, xc, rfl⟩ := ownsRow_slice rx
          clear f6
          refine hK.out _ _ (HPT.out _ g6) (fun _ => trivial) ?_
          clear hK Kq
          (try simp only [Act.put, List.setIfInBounds_toArray, List.set_cons_zero, List.set_cons_succ])
          refine wpKeep_ready (rs := [18]) (by kernel_rfl) (by simp) ?_
          refine AllKeep.cons (o := ⟨some 81, _, _, _, _, _⟩) rfl (fun Kq hK => ?_) AllKeep.nil
          go_simp
          go_at_call 15
          refine (same_same _ _ (f i).l w6 ya _ ca Clip.same ra6 rx (by have := HOK.out.ll; omega)).mono ?_
          rintro e w7 ⟨rfl, f7⟩
          have g7 : Fresh W0 w7 := g6.trans f7
          clear f7 ra ra6 rx
          refine hK.out _ _ (HPT.out _ g7) (fun _ => trivial) ?_
          clear hK Kq
          (try simp only [Act.put, List.setIfInBounds_toArray, List.set_cons_zero, List.set_cons_succ])
          refine wpKeep_takeT (i := 19) (oi := ⟨some 12, _, _, _, _, _⟩) (v := ?_) rfl (by kernel_rfl) (by kernel_rfl) (by kernel_rfl) (by kernel_rfl) (fun _ _ _ h => h) (Or.inl ⟨by rfl, ?_⟩) (HPT.out _ g7) (fun _ => trivial) ?_
          rotate_left
          · intro w' hT
            obtain ⟨t1, t2, t3, t4⟩ := hT
            go_simp
            (try rw [if_pos (by omega)])
            (try with_reducible rfl)
          rotate_left
          (try simp only [Act.put, List.setIfInBounds_toArray, List.set_cons_zero, List.set_cons_succ])
          refine wpKeep_done (by kernel_rfl) ?_ _
          have p7 := g7
          clear g7 g6 g5 p0
          go_wp2_with fail
          refine wp_region_keep 20 (fun w' => w'.cell? ⟨ob, 0, none⟩ = some (.slice (some ⟨gs, 0, none⟩) v.ss.length cl) ∧ w'.cell? ⟨gs, i * 2, none⟩ = some (.pointer (some ⟨d, 0, none⟩)) ∧ w'.cell? ⟨gs, i * 2 + 1, none⟩ = some (.pointer (some ⟨x, 0, none⟩)) ∧ w'.cell? ⟨x, 4, none⟩ = some (.bool (f i).dead)) (fun _ => True) (fun _ => true) (by kernel_rfl) (by kernel_rfl) ?_
          (try (change wpKeep _ _ _ _ _ _ _ _ _ _ (World.drew _)))
          refine wpKeep_takeT (i := 0) (oi := ⟨some 82, _, _, _, _, _⟩) (v := ?_) rfl (by kernel_rfl) (by kernel_rfl) (by kernel_rfl) (by kernel_rfl) (fun _ _ _ h => h) (Or.inl ⟨by rfl, ?_⟩) (HPT.out _ p7.drew) (fun _ => trivial) ?_
          rotate_left
          · intro w' hT
            obtain ⟨t1, t2, t3, t4⟩ := hT
            go_simp
            (try rw [if_pos (by omega)])
            (try with_reducible rfl)
          rotate_left
          (try simp only [Act.put, List.setIfInBounds_toArray, List.set_cons_zero, List.set_cons_succ])
          refine wpKeep_takeT (i := 1) (oi := ⟨some 83, _, _, _, _, _⟩) (v := ?_) rfl (by kernel_rfl) (by kernel_rfl) (by kernel_rfl) (by kernel_rfl) (fun _ _ _ h => h) (Or.inl ⟨by rfl, ?_⟩) (HPT.out _ p7.drew) (fun _ => trivial) ?_
          rotate_left
          · intro w' hT
            obtain ⟨t1, t2, t3, t4⟩ := hT
            go_simp
            (try rw [if_pos (by omega)])
            (try with_reducible rfl)
          rotate_left
          (try simp only [Act.put, List.setIfInBounds_toArray, List.set_cons_zero, List.set_cons_succ])
          refine wpKeep_takeT (i := 2) (oi := ⟨some 84, _, _, _, _, _⟩) (v := ?_) rfl (by kernel_rfl) (by kernel_rfl) (by kernel_rfl) (by kernel_rfl) (fun _ _ _ h => h) (Or.inl ⟨by rfl, ?_⟩) (HPT.out _ p7.drew) (fun _ => trivial) ?_
          rotate_left
          · intro w' hT
            obtain ⟨t1, t2, t3, t4⟩ := hT
            go_simp
            (try rw [if_pos (by omega)])
            (try with_reducible rfl)
          rotate_left
          (try simp only [Act.put, List.setIfInBounds_toArray, List.set_cons_zero, List.set_cons_succ])
          refine wpKeep_takeT (i := 3) (oi := ⟨some 85, _, _, _, _, _⟩) (v := ?_) rfl (by kernel_rfl) (by kernel_rfl) (by kernel_rfl) (by kernel_rfl) (fun _ _ _ h => h) (Or.inl ⟨by rfl, ?_⟩) (HPT.out _ p7.drew) (fun _ => trivial) ?_
          rotate_left
          · intro w' hT
            obtain ⟨t1, t2, t3, t4⟩ := hT
            go_simp
            (try rw [if_pos (by omega)])
            (try with_reducible rfl)
          rotate_left
          (try simp only [Act.put, List.setIfInBounds_toArray, List.set_cons_zero, List.set_cons_succ])
          refine wpKeep_takeT (i := 4) (oi := ⟨some 86, _, _, _, _, _⟩) (v := ?_) rfl (by kernel_rfl) (by kernel_rfl) (by kernel_rfl) (by kernel_rfl) (fun _ _ _ h => h) (Or.inl ⟨by rfl, ?_⟩) (HPT.out _ p7.drew) (fun _ => trivial) ?_
          rotate_left
          · intro w' hT
            obtain ⟨t1, t2, t3, t4⟩ := hT
            go_simp
            (try rw [if_pos (by omega)])
            (try with_reducible rfl)
          rotate_left
          (try simp only [Act.put, List.setIfInBounds_toArray, List.set_cons_zero, List.set_cons_succ])
          refine wpKeep_takeT (i := 5) (oi := ⟨some 87, _, _, _, _, _⟩) (v := ?_) rfl (by kernel_rfl) (by kernel_rfl) (by kernel_rfl) (by kernel_rfl) (fun _ _ _ h => h) (Or.inl ⟨by rfl, ?_⟩) (HPT.out _ p7.drew) (fun _ => trivial) ?_
          rotate_left
          · intro w' hT
            obtain ⟨t1, t2, t3, t4⟩ := hT
            go_simp
            (try rw [if_pos (by omega)])
            (try with_reducible rfl)
          rotate_left
          (try simp only [Act.put, List.setIfInBounds_toArray, List.set_cons_zero, List.set_cons_succ])
          refine wpKeep_takeT (i := 6) (oi := ⟨some 88, _, _, _, _, _⟩) (v := ?_) rfl (by kernel_rfl) (by kernel_rfl) (by kernel_rfl) (by kernel_rfl) (fun _ _ _ h => h) (Or.inl ⟨by rfl, ?_⟩) (HPT.out _ p7.drew) (fun _ => trivial) ?_
          rotate_left
          · intro w' hT
            obtain ⟨t1, t2, t3, t4⟩ := hT
            go_simp
            (try rw [if_pos (by omega)])
            (try with_reducible rfl)
          rotate_left
          (try simp only [Act.put, List.setIfInBounds_toArray, List.set_cons_zero, List.set_cons_succ])
          refine wpKeep_takeT (i := 7) (oi := ⟨some 89, _, _, _, _, _⟩) (v := ?_) rfl (by kernel_rfl) (by kernel_rfl) (by kernel_rfl) (by kernel_rfl) (fun _ _ _ h => h) (Or.inl ⟨by rfl, ?_⟩) (HPT.out _ p7.drew) (fun _ => trivial) ?_
          rotate_left
          · intro w' hT
            obtain ⟨t1, t2, t3, t4⟩ := hT
            go_simp
            (try rw [if_pos (by omega)])
            (try with_reducible rfl)
          rotate_left
          (try simp only [Act.put, List.setIfInBounds_toArray, List.set_cons_zero, List.set_cons_succ])
          refine wpKeep_takeT (i := 9) (oi := ⟨some 91, _, _, _, _, _⟩) (v := ?_) rfl (by kernel_rfl) (by kernel_rfl) (by kernel_rfl) (by kernel_rfl) (fun _ _ _ h => h) (Or.inl ⟨by rfl, ?_⟩) (HPT.out _ p7.drew) (fun _ => trivial) ?_
          rotate_left
          · intro w' hT
            obtain ⟨t1, t2, t3, t4⟩ := hT
            go_simp
            (try rw [if_pos (by omega)])
            (try with_reducible rfl)
          rotate_left
          (try simp only [Act.put, List.setIfInBounds_toArray, List.set_cons_zero, List.set_cons_succ])
          refine wpKeep_takeT (i := 10) (oi := ⟨some 92, _, _, _, _, _⟩) (v := ?_) rfl (by kernel_rfl) (by kernel_rfl) (by kernel_rfl) (by kernel_rfl) (fun _ _ _ h => h) (Or.inl ⟨by rfl, ?_⟩) (HPT.out _ p7.drew) (fun _ => trivial) ?_
          rotate_left
          · intro w' hT
            obtain ⟨t1, t2, t3, t4⟩ := hT
            go_simp
            (try rw [if_pos (by omega)])
            (try with_reducible rfl)
          rotate_left
          (try simp only [Act.put, List.setIfInBounds_toArray, List.set_cons_zero, List.set_cons_succ])
          refine wpKeep_takeT (i := 11) (oi := ⟨some 93, _, _, _, _, _⟩) (v := ?_) rfl (by kernel_rfl) (by kernel_rfl) (by kernel_rfl) (by kernel_rfl) (fun _ _ _ h => h) (Or.inl ⟨by rfl, ?_⟩) (HPT.out _ p7.drew) (fun _ => trivial) ?_
          rotate_left
          · intro w' hT
            obtain ⟨t1, t2, t3, t4⟩ := hT
            go_simp
            (try rw [if_pos (by omega)])
            (try with_reducible rfl)
          rotate_left
          (try simp only [Act.put, List.setIfInBounds_toArray, List.set_cons_zero, List.set_cons_succ])
          refine wpKeep_takeT (i := 12) (oi := ⟨some 94, _, _, _, _, _⟩) (v := ?_) rfl (by kernel_rfl) (by kernel_rfl) (by kernel_rfl) (by kernel_rfl) (fun _ _ _ h => h) (Or.inl ⟨by rfl, ?_⟩) (HPT.out _ p7.drew) (fun _ => trivial) ?_
          rotate_left
          · intro w' hT
            obtain ⟨t1, t2, t3, t4⟩ := hT
            go_simp
            (try rw [if_pos (by omega)])
            (try with_reducible rfl)
          rotate_left
          (try simp only [Act.put, List.setIfInBounds_toArray, List.set_cons_zero, List.set_cons_succ])
          refine wpKeep_takeT (i := 13) (oi := ⟨some 95, _, _, _, _, _⟩) (v := ?_) rfl (by kernel_rfl) (by kernel_rfl) (by kernel_rfl) (by kernel_rfl) (fun _ _ _ h => h) (Or.inl ⟨by rfl, ?_⟩) (HPT.out _ p7.drew) (fun _ => trivial) ?_
          rotate_left
          · intro w' hT
            obtain ⟨t1, t2, t3, t4⟩ := hT
            go_simp
            (try rw [if_pos (by omega)])
            (try with_reducible rfl)
          rotate_left
          (try simp only [Act.put, List.setIfInBounds_toArray, List.set_cons_zero, List.set_cons_succ])
          refine wpKeep_takeT (i := 14) (oi := ⟨some 96, _, _, _, _, _⟩) (v := ?_) rfl (by kernel_rfl) (by kernel_rfl) (by kernel_rfl) (by kernel_rfl) (fun _ _ _ h => h) (Or.inl ⟨by rfl, ?_⟩) (HPT.out _ p7.drew) (fun _ => trivial) ?_
          rotate_left
          · intro w' hT
            obtain ⟨t1, t2, t3, t4⟩ := hT
            go_simp
            (try rw [if_pos (by omega)])
            (try with_reducible rfl)
          rotate_left
          (try simp only [Act.put, List.setIfInBounds_toArray, List.set_cons_zero, List.set_cons_succ])
          refine wpKeep_takeT (i := 15) (oi := ⟨some 97, _, _, _, _, _⟩) (v := ?_) rfl (by kernel_rfl) (by kernel_rfl) (by kernel_rfl) (by kernel_rfl) (fun _ _ _ h => h) (Or.inl ⟨by rfl, ?_⟩) (HPT.out _ p7.drew) (fun _ => trivial) ?_
          rotate_left
          · intro w' hT
            obtain ⟨t1, t2, t3, t4⟩ := hT
            go_simp
            (try rw [if_pos (by omega)])
            (try with_reducible rfl)
          rotate_left
          (try simp only [Act.put, List.setIfInBounds_toArray, List.set_cons_zero, List.set_cons_succ])
          refine wpKeep_takeT (i := 16) (oi := ⟨some 98, _, _, _, _, _⟩) (v := ?_) rfl (by kernel_rfl) (by kernel_rfl) (by kernel_rfl) (by kernel_rfl) (fun _ _ _ h => h) (Or.inl ⟨by rfl, ?_⟩) (HPT.out _ p7.drew) (fun _ => trivial) ?_
          rotate_left
          · intro w' hT
            obtain ⟨t1, t2, t3, t4⟩ := hT
            go_simp
            (try rw [if_pos (by omega)])
            (try with_reducible rfl)
          rotate_left
          (try simp only [Act.put, List.setIfInBounds_toArray, List.set_cons_zero, List.set_cons_succ])
          refine wpKeep_ready (rs := [8]) (by kernel_rfl) (by simp) ?_
          refine AllKeep.cons (o := ⟨some 90, _, _, _, _, _⟩) rfl (fun Kq hK => ?_) AllKeep.nil
          go_simp
          go_at_call 17
          refine (HDQ.out _ p7.drew).mono ?_
          rintro e w5 ⟨va, ya, rfl, ca, ra, na, f5⟩
          have g5 : Fresh W0 w5 := p7.drew.trans f5
          clear f5
          refine hK.out _ _ (HPT.out _ g5) (fun _ => trivial) ?_
          clear hK Kq
          (try simp only [Act.put, List.setIfInBounds_toArray, List.set_cons_zero, List.set_cons_succ])
          refine wpKeep_ready (rs := [17]) (by kernel_rfl) (by simp) ?_
          refine AllKeep.cons (o := ⟨some 99, _, _, _, _, _⟩) rfl (fun Kq hK => ?_) AllKeep.nil
          go_simp
          go_at_call 22
          refine (HXQ.out _ g5).mono ?_
          rintro e w6 ⟨vx, rfl, rx, nx, f6⟩
          have g6 : Fresh W0 w6 := g5.trans f6
          have ra6 := ownsRow_keeps ra f6 (fun _ _ h => h)
          obtain ⟨xo, xc, rfl⟩ := ownsRow_slice rx
          clear f6
          refine hK.out _ _ (HPT.out _ g6) (fun _ => trivial) ?_
          clear hK Kq
          (try simp only [Act.put, List.setIfInBounds_toArray, List.set_cons_zero, List.set_cons_succ])
          refine wpKeep_ready (rs := [18]) (by kernel_rfl) (by simp) ?_
          refine AllKeep.cons (o := ⟨some 100, _, _, _, _, _⟩) rfl (fun Kq hK => ?_) AllKeep.nil
          go_simp
          go_at_call 21
          refine (sameWrites_same _ _ (pdSt (f i)) w6 ya _ _ _ ca Clip.same ra6 rfl rx rfl (by rw [pdSt_len]; have := told_le (f i).f (f i).l.length; have := HOK.out.ll; omega)).mono ?_
          rintro e w7 ⟨rfl, f7⟩
          have g7 : Fresh W0 w7 := g6.trans f7
          clear f7 ra ra6 rx
          refine hK.out _ _ (HPT.out _ g7) (fun _ => trivial) ?_
          clear hK Kq
          (try simp only [Act.put, List.setIfInBounds_toArray, List.set_cons_zero, List.set_cons_succ])
          refine wpKeep_takeT (i := 19) (oi := ⟨some 13, _, _, _, _, _⟩) (v := ?_) rfl (by kernel_rfl) (by kernel_rfl) (by kernel_rfl) (by kernel_rfl) (fun _ _ _ h => h) (Or.inl ⟨by rfl, ?_⟩) (HPT.out _ g7) (fun _ => trivial) ?_
          rotate_left
          · intro w' hT
            obtain ⟨t1, t2, t3, t4⟩ := hT
            go_simp
            (try rw [if_pos (by omega)])
            (try with_reducible rfl)
          rotate_left
          (try simp only [Act.put, List.setIfInBounds_toArray, List.set_cons_zero, List.set_cons_succ])
          refine wpKeep_done (by kernel_rfl) ?_ _
          have q7 := g7
          clear g7 g6 g5 p7
          go_wp2_with fail
          refine wp_region_keep 29 (fun w' => w'.cell? ⟨ob, 0, none⟩ = some (.slice (some ⟨gs, 0, none⟩) v.ss.length cl) ∧ w'.cell? ⟨gs, i * 2, none⟩ = some (.pointer (some ⟨d, 0, none⟩)) ∧ w'.cell? ⟨gs, i * 2 + 1, none⟩ = some (.pointer (some ⟨x, 0, none⟩)) ∧ w'.cell? ⟨x, 4, none⟩ = some (.bool (f i).dead)) (fun _ => True) (fun _ => true) (by kernel_rfl) (by kernel_rfl) ?_
          (try (change wpKeep _ _ _ _ _ _ _ _ _ _ (World.drew _)))
          refine wpKeep_takeT (i := 0) (oi := ⟨some 101, _, _, _, _, _⟩) (v := ?_) rfl (by kernel_rfl) (by kernel_rfl) (by kernel_rfl) (by kernel_rfl) (fun _ _ _ h => h) (Or.inl ⟨by rfl, ?_⟩) (HPT.out _ q7.drew) (fun _ => trivial) ?_
          rotate_left
          · intro w' hT
            obtain ⟨t1, t2, t3, t4⟩ := hT
            go_simp
            (try rw [if_pos (by omega)])
            (try with_reducible rfl)
          rotate_left
          (try simp only [Act.put, List.setIfInBounds_toArray, List.set_cons_zero, List.set_cons_succ])
          refine wpKeep_takeT (i := 1) (oi := ⟨some 102, _, _, _, _, _⟩) (v := ?_) rfl (by kernel_rfl) (by kernel_rfl) (by kernel_rfl) (by kernel_rfl) (fun _ _ _ h => h) (Or.inl ⟨by rfl, ?_⟩) (HPT.out _ q7.drew) (fun _ => trivial) ?_
          rotate_left
          · intro w' hT
            obtain ⟨t1, t2, t3, t4⟩ := hT
            go_simp
            (try rw [if_pos (by omega)])
            (try with_reducible rfl)
          rotate_left
          (try simp only [Act.put, List.setIfInBounds_toArray, List.set_cons_zero, List.set_cons_succ])
          refine wpKeep_takeT (i := 2) (oi := ⟨some 103, _, _, _, _, _⟩) (v := ?_) rfl (by kernel_rfl) (by kernel_rfl) (by kernel_rfl) (by kernel_rfl) (fun _ _ _ h => h) (Or.inl ⟨by rfl, ?_⟩) (HPT.out _ q7.drew) (fun _ => trivial) ?_
          rotate_left
          · intro w' hT
            obtain ⟨t1, t2, t3, t4⟩ := hT
            go_simp
            (try rw [if_pos (by omega)])
            (try with_reducible rfl)
          rotate_left
          (try simp only [Act.put, List.setIfInBounds_toArray, List.set_cons_zero, List.set_cons_succ])
          refine wpKeep_takeT (i := 3) (oi := ⟨some 104, _, _, _, _, _⟩) (v := ?_) rfl (by kernel_rfl) (by kernel_rfl) (by kernel_rfl) (by kernel_rfl) (fun _ _ _ h => h) (Or.inl ⟨by rfl, ?_⟩) (HPT.out _ q7.drew) (fun _ => trivial) ?_
          rotate_left
          · intro w' hT
            obtain ⟨t1, t2, t3, t4⟩ := hT
            go_simp
            (try rw [if_pos (by omega)])
            (try with_reducible rfl)
          rotate_left
          (try simp only [Act.put, List.setIfInBounds_toArray, List.set_cons_zero, List.set_cons_succ])
          refine wpKeep_takeT (i := 4) (oi := ⟨some 105, _, _, _, _, _⟩) (v := ?_) rfl (by kernel_rfl) (by kernel_rfl) (by kernel_rfl) (by kernel_rfl) (fun _ _ _ h => h) (Or.inl ⟨by rfl, ?_⟩) (HPT.out _ q7.drew) (fun _ => trivial) ?_
          rotate_left
          · intro w' hT
            obtain ⟨t1, t2, t3, t4⟩ := hT
            go_simp
            (try rw [if_pos (by omega)])
            (try with_reducible rfl)
          rotate_left
          (try simp only [Act.put, List.setIfInBounds_toArray, List.set_cons_zero, List.set_cons_succ])
          refine wpKeep_takeT (i := 5) (oi := ⟨some 106, _, _, _, _, _⟩) (v := ?_) rfl (by kernel_rfl) (by kernel_rfl) (by kernel_rfl) (by kernel_rfl) (fun _ _ _ h => h) (Or.inl ⟨by rfl, ?_⟩) (HPT.out _ q7.drew) (fun _ => trivial) ?_
          rotate_left
          · intro w' hT
            obtain ⟨t1, t2, t3, t4⟩ := hT
            go_simp
            (try rw [if_pos (by omega)])
            (try with_reducible rfl)
          rotate_left
          (try simp only [Act.put, List.setIfInBounds_toArray, List.set_cons_zero, List.set_cons_succ])
          refine wpKeep_takeT (i := 6) (oi := ⟨some 107, _, _, _, _, _⟩) (v := ?_) rfl (by kernel_rfl) (by kernel_rfl) (by kernel_rfl) (by kernel_rfl) (fun _ _ _ h => h) (Or.inl ⟨by rfl, ?_⟩) (HPT.out _ q7.drew) (fun _ => trivial) ?_
          rotate_left
          · intro w' hT
            obtain ⟨t1, t2, t3, t4⟩ := hT
            go_simp
            (try rw [if_pos (by omega)])
            (try with_reducible rfl)
          rotate_left
          (try simp only [Act.put, List.setIfInBounds_toArray, List.set_cons_zero, List.set_cons_succ])
          refine wpKeep_takeT (i := 7) (oi := ⟨some 108, _, _, _, _, _⟩) (v := ?_) rfl (by kernel_rfl) (by kernel_rfl) (by kernel_rfl) (by kernel_rfl) (fun _ _ _ h => h) (Or.inl ⟨by rfl, ?_⟩) (HPT.out _ q7.drew) (fun _ => trivial) ?_
          rotate_left
          · intro w' hT
            obtain ⟨t1, t2, t3, t4⟩ := hT
            go_simp
            (try rw [if_pos (by omega)])
            (try with_reducible rfl)
          rotate_left
          (try simp only [Act.put, List.setIfInBounds_toArray, List.set_cons_zero, List.set_cons_succ])
          refine wpKeep_takeT (i := 8) (oi := ⟨some 109, _, _, _, _, _⟩) (v := ?_) rfl (by kernel_rfl) (by kernel_rfl) (by kernel_rfl) (by kernel_rfl) (fun _ _ _ h => h) (Or.inl ⟨by rfl, ?_⟩) (HPT.out _ q7.drew) (fun _ => trivial) ?_
          rotate_left
          · intro w' hT
            obtain ⟨t1, t2, t3, t4⟩ := hT
            go_simp
            (try rw [if_pos (by omega)])
            (try with_reducible rfl)
          rotate_left
          (try simp only [Act.put, List.setIfInBounds_toArray, List.set_cons_zero, List.set_cons_succ])
          refine wpKeep_takeT (i := 9) (oi := ⟨some 110, _, _, _, _, _⟩) (v := ?_) rfl (by kernel_rfl) (by kernel_rfl) (by kernel_rfl) (by kernel_rfl) (fun _ _ _ h => h) (Or.inl ⟨by rfl, ?_⟩) (HPT.out _ q7.drew) (fun _ => trivial) ?_
          rotate_left
          · intro w' hT
            obtain ⟨t1, t2, t3, t4⟩ := hT
            go_simp
            (try rw [if_pos (by omega)])
            (try with_reducible rfl)
          rotate_left
          (try simp only [Act.put, List.setIfInBounds_toArray, List.set_cons_zero, List.set_cons_succ])
          refine wpKeep_takeT (i := 10) (oi := ⟨some 111, _, _, _, _, _⟩) (v := ?_) rfl (by kernel_rfl) (by kernel_rfl) (by kernel_rfl) (by kernel_rfl) (fun _ _ _ h => h) (Or.inl ⟨by rfl, ?_⟩) (HPT.out _ q7.drew) (fun _ => trivial) ?_
          rotate_left
          · intro w' hT
            obtain ⟨t1, t2, t3, t4⟩ := hT
            go_simp
            (try rw [if_pos (by omega)])
            (try with_reducible rfl)
          rotate_left
          (try simp only [Act.put, List.setIfInBounds_toArray, List.set_cons_zero, List.set_cons_succ])
          refine wpKeep_takeT (i := 11) (oi := ⟨some 112, _, _, _, _, _⟩) (v := ?_) rfl (by kernel_rfl) (by kernel_rfl) (by kernel_rfl) (by kernel_rfl) (fun _ _ _ h => h) (Or.inl ⟨by rfl, ?_⟩) (HPT.out _ q7.drew) (fun _ => trivial) ?_
          rotate_left
          · intro w' hT
            obtain ⟨t1, t2, t3, t4⟩ := hT
            go_simp
            (try rw [if_pos (by omega)])
            (try with_reducible rfl)
          rotate_left
          (try simp only [Act.put, List.setIfInBounds_toArray, List.set_cons_zero, List.set_cons_succ])
          refine wpKeep_takeT (i := 12) (oi := ⟨some 113, _, _, _, _, _⟩) (v := ?_) rfl (by kernel_rfl) (by kernel_rfl) (by kernel_rfl) (by kernel_rfl) (fun _ _ _ h => h) (Or.inl ⟨by rfl, ?_⟩) (HPT.out _ q7.drew) (fun _ => trivial) ?_
          rotate_left
          · intro w' hT
            obtain ⟨t1, t2, t3, t4⟩ := hT
            go_simp
            (try rw [if_pos (by omega)])
            (try with_reducible rfl)
          rotate_left
          (try simp only [Act.put, List.setIfInBounds_toArray, List.set_cons_zero, List.set_cons_succ])
          refine wpKeep_takeT (i := 13) (oi := ⟨some 114, _, _, _, _, _⟩) (v := ?_) rfl (by kernel_rfl) (by kernel_rfl) (by kernel_rfl) (by kernel_rfl) (fun _ _ _ h => h) (Or.inl ⟨by rfl, ?_⟩) (HPT.out _ q7.drew) (fun _ => trivial) ?_
          rotate_left
          · intro w' hT
            obtain ⟨t1, t2, t3, t4⟩ := hT
            go_simp
            (try rw [if_pos (by omega)])
            (try with_reducible rfl)
          rotate_left
          (try simp only [Act.put, List.setIfInBounds_toArray, List.set_cons_zero, List.set_cons_succ])
          refine wpKeep_takeT (i := 14) (oi := ⟨some 115, _, _, _, _, _⟩) (v := ?_) rfl (by kernel_rfl) (by kernel_rfl) (by kernel_rfl) (by kernel_rfl) (fun _ _ _ h => h) (Or.inl ⟨by rfl, ?_⟩) (HPT.out _ q7.drew) (fun _ => trivial) ?_
          rotate_left
          · intro w' hT
            obtain ⟨t1, t2, t3, t4⟩ := hT
            go_simp
            (try rw [if_pos (by omega)])
            (try with_reducible rfl)
          rotate_left
          (try simp only [Act.put, List.setIfInBounds_toArray, List.set_cons_zero, List.set_cons_succ])
          refine wpKeep_takeT (i := 16) (oi := ⟨some 117, _, _, _, _, _⟩) (v := ?_) rfl (by kernel_rfl) (by kernel_rfl) (by kernel_rfl) (by kernel_rfl) (fun _ _ _ h => h) (Or.inl ⟨by rfl, ?_⟩) (HPT.out _ q7.drew) (fun _ => trivial) ?_
          rotate_left
          · intro w' hT
            obtain ⟨t1, t2, t3, t4⟩ := hT
            go_simp
            (try rw [if_pos (by omega)])
            (try with_reducible rfl)
          rotate_left
          (try simp only [Act.put, List.setIfInBounds_toArray, List.set_cons_zero, List.set_cons_succ])
          refine wpKeep_takeT (i := 17) (oi := ⟨some 118, _, _, _, _, _⟩) (v := ?_) rfl (by kernel_rfl) (by kernel_rfl) (by kernel_rfl) (by kernel_rfl) (fun _ _ _ h => h) (Or.inl ⟨by rfl, ?_⟩) (HPT.out _ q7.drew) (fun _ => trivial) ?_
          rotate_left
          · intro w' hT
            obtain ⟨t1, t2, t3, t4⟩ := hT
            go_simp
            (try rw [if_pos (by omega)])
            (try with_reducible rfl)
          rotate_left
          (try simp only [Act.put, List.setIfInBounds_toArray, List.set_cons_zero, List.set_cons_succ])
          refine wpKeep_takeT (i := 18) (oi := ⟨some 119, _, _, _, _, _⟩) (v := ?_) rfl (by kernel_rfl) (by kernel_rfl) (by kernel_rfl) (by kernel_rfl) (fun _ _ _ h => h) (Or.inl ⟨by rfl, ?_⟩) (HPT.out _ q7.drew) (fun _ => trivial) ?_
          rotate_left
          · intro w' hT
            obtain ⟨t1, t2, t3, t4⟩ := hT
            go_simp
            (try rw [if_pos (by omega)])
            (try with_reducible rfl)
          rotate_left
          (try simp only [Act.put, List.setIfInBounds_toArray, List.set_cons_zero, List.set_cons_succ])
          refine wpKeep_takeT (i := 19) (oi := ⟨some 120, _, _, _, _, _⟩) (v := ?_) rfl (by kernel_rfl) (by kernel_rfl) (by kernel_rfl) (by kernel_rfl) (fun _ _ _ h => h) (Or.inl ⟨by rfl, ?_⟩) (HPT.out _ q7.drew) (fun _ => trivial) ?_
          rotate_left
          · intro w' hT
            obtain ⟨t1, t2, t3, t4⟩ := hT
            go_simp
            (try rw [if_pos (by omega)])
            (try with_reducible rfl)
          rotate_left
          (try simp only [Act.put, List.setIfInBounds_toArray, List.set_cons_zero, List.set_cons_succ])
          refine wpKeep_takeT (i := 20) (oi := ⟨some 121, _, _, _, _, _⟩) (v := ?_) rfl (by kernel_rfl) (by kernel_rfl) (by kernel_rfl) (by kernel_rfl) (fun _ _ _ h => h) (Or.inl ⟨by rfl, ?_⟩) (HPT.out _ q7.drew) (fun _ => trivial) ?_
          rotate_left
          · intro w' hT
            obtain ⟨t1, t2, t3, t4⟩ := hT
            go_simp
            (try rw [if_pos (by omega)])
            (try with_reducible rfl)
          rotate_left
          (try simp only [Act.put, List.setIfInBounds_toArray, List.set_cons_zero, List.set_cons_succ])
          refine wpKeep_takeT (i := 21) (oi := ⟨some 122, _, _, _, _, _⟩) (v := ?_) rfl (by kernel_rfl) (by kernel_rfl) (by kernel_rfl) (by kernel_rfl) (fun _ _ _ h => h) (Or.inl ⟨by rfl, ?_⟩) (HPT.out _ q7.drew) (fun _ => trivial) ?_
          rotate_left
          · intro w' hT
            obtain ⟨t1, t2, t3, t4⟩ := hT
            go_simp
            (try rw [if_pos (by omega)])
            (try with_reducible rfl)
          rotate_left
          (try simp only [Act.put, List.setIfInBounds_toArray, List.set_cons_zero, List.set_cons_succ])
          refine wpKeep_takeT (i := 22) (oi := ⟨some 123, _, _, _, _, _⟩) (v := ?_) rfl (by kernel_rfl) (by kernel_rfl) (by kernel_rfl) (by kernel_rfl) (fun _ _ _ h => h) (Or.inl ⟨by rfl, ?_⟩) (HPT.out _ q7.drew) (fun _ => trivial) ?_
          rotate_left
          · intro w' hT
            obtain ⟨t1, t2, t3, t4⟩ := hT
            go_simp
            (try rw [if_pos (by omega)])
            (try with_reducible rfl)
          rotate_left
          (try simp only [Act.put, List.setIfInBounds_toArray, List.set_cons_zero, List.set_cons_succ])
          refine wpKeep_takeT (i := 23) (oi := ⟨some 124, _, _, _, _, _⟩) (v := ?_) rfl (by kernel_rfl) (by kernel_rfl) (by kernel_rfl) (by kernel_rfl) (fun _ _ _ h => h) (Or.inl ⟨by rfl, ?_⟩) (HPT.out _ q7.drew) (fun _ => trivial) ?_
          rotate_left
          · intro w' hT
            obtain ⟨t1, t2, t3, t4⟩ := hT
            go_simp
            (try rw [if_pos (by omega)])
            (try with_reducible rfl)
          rotate_left
          (try simp only [Act.put, List.setIfInBounds_toArray, List.set_cons_zero, List.set_cons_succ])
          refine wpKeep_takeT (i := 24) (oi := ⟨some 125, _, _, _, _, _⟩) (v := ?_) rfl (by kernel_rfl) (by kernel_rfl) (by kernel_rfl) (by kernel_rfl) (fun _ _ _ h => h) (Or.inl ⟨by rfl, ?_⟩) (HPT.out _ q7.drew) (fun _ => trivial) ?_
          rotate_left
          · intro w' hT
            obtain ⟨t1, t2, t3, t4⟩ := hT
            go_simp
            (try rw [if_pos (by omega)])
            (try with_reducible rfl)
          rotate_left
          (try simp only [Act.put, List.setIfInBounds_toArray, List.set_cons_zero, List.set_cons_succ])
          refine wpKeep_takeT (i := 25) (oi := ⟨some 126, _, _, _, _, _⟩) (v := ?_) rfl (by kernel_rfl) (by kernel_rfl) (by kernel_rfl) (by kernel_rfl) (fun _ _ _ h => h) (Or.inl ⟨by rfl, ?_⟩) (HPT.out _ q7.drew) (fun _ => trivial) ?_
          rotate_left
          · intro w' hT
            obtain ⟨t1, t2, t3, t4⟩ := hT
            go_simp
            (try rw [if_pos (by omega)])
            (try with_reducible rfl)
          rotate_left
          (try simp only [Act.put, List.setIfInBounds_toArray, List.set_cons_zero, List.set_cons_succ])
          refine wpKeep_takeT (i := 26) (oi := ⟨some 127, _, _, _, _, _⟩) (v := ?_) rfl (by kernel_rfl) (by kernel_rfl) (by kernel_rfl) (by kernel_rfl) (fun _ _ _ h => h) (Or.inl ⟨by rfl, ?_⟩) (HPT.out _ q7.drew) (fun _ => trivial) ?_
          rotate_left
          · intro w' hT
            obtain ⟨t1, t2, t3, t4⟩ := hT
            go_simp
            (try rw [if_pos (by omega)])
            (try with_reducible rfl)
          rotate_left
          (try simp only [Act.put, List.setIfInBounds_toArray, List.set_cons_zero, List.set_cons_succ])
          refine wpKeep_ready (rs := [15]) (by kernel_rfl) (by simp) ?_
          refine AllKeep.cons (o := ⟨some 116, _, _, _, _, _⟩) rfl (fun Kq hK => ?_) AllKeep.nil
          go_simp
          go_at_call 14
          refine (HDD.out _ q7.drew).mono ?_
          rintro e w8 ⟨rfl, f8⟩
          have g8 : Fresh W0 w8 := q7.drew.trans f8
          clear f8
          refine hK.out _ _ (HPT.out _ g8) (fun _ => trivial) ?_
          clear hK Kq
          (try simp only [Act.put, List.setIfInBounds_toArray, List.set_cons_zero, List.set_cons_succ])
          refine wpKeep_takeT (i := 27) (oi := ⟨some 128, _, _, _, _, _⟩) (v := ?_) rfl (by kernel_rfl) (by kernel_rfl) (by kernel_rfl) (by kernel_rfl) (fun _ _ _ h => h) (Or.inl ⟨by rfl, ?_⟩) (HPT.out _ g8) (fun _ => trivial) ?_
          rotate_left
          · intro w' hT
            obtain ⟨t1, t2, t3, t4⟩ := hT
            go_simp
            (try rw [if_pos (by omega)])
            (try with_reducible rfl)
          rotate_left
          (try simp only [Act.put, List.setIfInBounds_toArray, List.set_cons_zero, List.set_cons_succ])
          refine wpKeep_takeT (i := 28) (oi := ⟨some 129, _, _, _, _, _⟩) (v := ?_) rfl (by kernel_rfl) (by kernel_rfl) (by kernel_rfl) (by kernel_rfl) (fun _ _ _ h => h) (Or.inl ⟨by rfl, ?_⟩) (HPT.out _ g8) (fun _ => trivial) ?_
          rotate_left
          · intro w' hT
            obtain ⟨t1, t2, t3, t4⟩ := hT
            go_simp
            (try rw [if_pos (by omega)])
            (try with_reducible rfl)
          rotate_left
          (try simp only [Act.put, List.setIfInBounds_toArray, List.set_cons_zero, List.set_cons_succ])
          refine wpKeep_done (by kernel_rfl) ?_ _
          have HF8 := hid g8
          clear g8 q7
          go_wp2_with fail
          go_roundw
          case rel => exact ⟨i + 1, by go_num, by omega, HF8.out⟩
          case measure => simp [intOf]; omega
        · obtain rfl : i = v.ss.length := by omega
          have hiI : ¬ (v.ss.length : Int) < (v.ss.length : Int) := by omega
          have HST := hid (still_any w.heap.size ob _ (2 * k + 2) c wq v f f (HW.out.fresh fr) (by omega))
          have HFR := hid fr
          clear fr
          go_wp2_with fail
          refine HST.out.mono ?_
          rintro e w4 ⟨rfl, -, k4⟩
          have HK := hid ((HKR.out.trans (HFR.out.mono fun _ _ h => h.elim)).trans k4)
          clear k4 HST c0
          go_wp2_with fail
          go_ret
          exact ⟨rfl, HK.out.mono fun q hq h => by omega⟩
end Go.Proofs.Ytbhienlalpbflaa
