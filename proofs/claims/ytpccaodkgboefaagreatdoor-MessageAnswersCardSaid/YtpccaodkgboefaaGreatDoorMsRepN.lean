/-
  Package message: parts, taken.
-/
import Derived.Test.YtpccaodkgboefaaGreatDoorMMsF
import Derived.Deep.RegionHeldLaw
import Derived.BigRegion
namespace Go.Proofs.YtpccaodkgboefaaGreatDoor
open Go.RowKit

theorem takes_raw (n : Int) : Takes (pRaw n) := fun l x l' h => by
  unfold pRaw at h
  split at h
  · cases h
  · split at h
    · cases h
    · injection h with h
      injection h with _ h
      subst h
      simp
set_option maxRecDepth 100000 in
set_option maxHeartbeats 4000000 in
theorem xparts_r (S : Nat → Prop) (rb br : Nat) (r : RSt) (z s a bb : Int) (t : List UInt8) (hv ev : Value) (w : World) (h : RRep S w rb r) (hb : w.heap[br]? = some (.cells #[.int .i64 z, .int .i64 s, .int .i64 a, .int .i64 bb, .string (str t), hv, ev, .slice none 0 0] 48 (0, 0))) (ho : ¬ S br) :
    Calls Tryz.prog 100 #[aggR rb br] w fun e w' => e = .returned (.tuple #[]) ∧ ∃ av cs bl S', MidR S w rb br z s a bb t hv ev (rParts (min (rd (pNum 0 0) 0 r).1 65) (rd (pNum 0 0) 0 r).2).1 cs bl none none av (rParts (min (rd (pNum 0 0) 0 r).1 65) (rd (pNum 0 0) 0 r).2).1.length cs av S' w' (rParts (min (rd (pNum 0 0) 0 r).1 65) (rd (pNum 0 0) 0 r).2).2 := by
  obtain ⟨Q, hQ⟩ : ∃ Q, rParts (min (rd (pNum 0 0) 0 r).1 65) (rd (pNum 0 0) 0 r).2 = Q := ⟨_, rfl⟩
  rw [hQ]
  have HQ := hid hQ
  clear hQ
  have hx := (XSt.start hb ho).fresh (W' := w.alloc (.cells #[.pointer none, .pointer (some ⟨rb, 0, none⟩), .pointer (some ⟨br, 0, none⟩)] 87)) ((Keeps.refl _ _).alloc _)
  have hr := h.fresh (w' := w.alloc (.cells #[.pointer none, .pointer (some ⟨rb, 0, none⟩), .pointer (some ⟨br, 0, none⟩)] 87)) ((Keeps.refl _ _).alloc _)
  have hbx := heap_alloc_new w (.cells #[.pointer none, .pointer (some ⟨rb, 0, none⟩), .pointer (some ⟨br, 0, none⟩)] 87)
  have hsz : ¬ S w.heap.size := fun h' => by have := (h.2.1 _ h').2; omega
  have hws : w.heap.size < (w.alloc (.cells #[.pointer none, .pointer (some ⟨rb, 0, none⟩), .pointer (some ⟨br, 0, none⟩)] 87)).heap.size := by simp
  unfold aggR
  go_enter Tryz.func100, Tryz.ntmps100
  go_upto_region 1 with fail
  obtain ⟨bx, hbxe⟩ : ∃ bx, w.heap.size = bx := ⟨_, rfl⟩
  have hne : bx ≠ br := by have := lt_of_block hb; omega
  have hne2 : br ≠ bx := fun h => hne h.symm
  rw [hbxe] at hbx hsz hws ⊢
  have HWB := hid hbxe
  generalize w.alloc (.cells #[.pointer none, .pointer (some ⟨rb, 0, none⟩), .pointer (some ⟨br, 0, none⟩)] 87) = W0 at hx hr hbx hws ⊢
  have x0 := cell_at hbx 0
  have x1 := cell_at hbx 1
  have x2 := cell_at hbx 2
  simp at x0 x1 x2
  have HBX := hid hbx
  have HX := hid hx
  have HR := hid hr
  clear hx hr hbx hb h hbxe
  have HC := hid (rnum_any S rb r W0 HR.out)
  go_wp2_with fail
  refine HC.out.mono ?_
  rintro e w1 ⟨rfl, hA⟩
  obtain ⟨S1, X1, R1, g1, k1⟩ := HX.out.acts hA
  have hb1 := k1.at_ HBX.out hsz
  have hs1 : ¬ S1 bx := fun h' => by
    rcases g1 bx h' with h2 | h2
    · exact hsz h2
    · have := lt_of_block HBX.out; omega
  have hm0 : MidR S w rb br z s a bb t hv ev [] [] [] none none (.slice none 0 0) 0 [] (.slice none 0 0) S1 w1 (rd (pNum 0 0) 0 r).2 := ⟨X1, R1, World.ownsRow_nil _ _ _ _, by rw [ReplsOwn]; exact ⟨rfl, rfl⟩, by simp [Value.ownBlock], fun q hq => by simp [Value.ownBlock] at hq, fun z hz => (by cases hz), fun x v bx hx => by cases hx⟩
  obtain ⟨n1, hn1⟩ : ∃ n1, (rd (pNum 0 0) 0 r).1 = n1 := ⟨_, rfl⟩
  obtain ⟨r3, hr3⟩ : ∃ r3, (rd (pNum 0 0) 0 r).2 = r3 := ⟨_, rfl⟩
  have hQ2 := HQ.out
  rw [hn1, hr3] at hQ2
  rw [hr3] at hm0
  rw [hn1]
  clear hn1 hr3
  go_upto_block 0 with fail
  obtain ⟨m0, hm0'⟩ : ∃ m0 : Nat, (if 65 < (n1 : Int) then 65 else (n1 : Int)) = (m0 : Int) := ⟨min n1 65, by split <;> omega⟩
  have hm1 : m0 = min n1 65 := by split at hm0' <;> omega
  rw [hm0']
  rw [← hm1] at hQ2
  have hm2 : m0 ≤ 65 := by omega
  have HQ3 := hid hQ2
  have HM0 := hid hm0
  have HB1 := hid hb1
  clear hm0' hm1 hQ2 hm0 hb1 hA X1 R1 g1 k1 x0 x1 x2
  obtain ⟨i0, hi, hz0, hz1, hz2⟩ := info_parts Tryz.infoRep
  go_wp2_with fail
  go_loopw [2] (fun i wr => ∃ (m : Nat) (A : List Rep) (csA : List Value) (blA : List Nat) (av : Value) (S2 : Nat → Prop) (r2 : RSt), i = .int .i64 (m : Int) ∧ A.length + m ≤ 65 ∧ MidR S w rb br z s a bb t hv ev A csA blA none none av A.length csA av S2 wr r2 ∧ wr.heap[bx]? = some (.cells #[.pointer none, .pointer (some ⟨rb, 0, none⟩), .pointer (some ⟨br, 0, none⟩)] 87 (0, 0)) ∧ ¬ S2 bx ∧ Hid (Q = (A ++ (rParts m r2).1, (rParts m r2).2))) (fun i _ => (intOf i).toNat)
  case atStart => exact ⟨m0, [], [], [], _, S1, r3, rfl, by simpa using hm2, HM0.out, HB1.out, hs1, by simp [Hid, ← HQ3.out]⟩
  case round =>
    obtain ⟨m, A, csA, blA, av, S2, r2, rfl, hm, MM, hbr, hs2, HA⟩ := hrel
    have x0 := cell_at hbr 0
    have x1 := cell_at hbr 1
    have x2 := cell_at hbr 2
    simp at x0 x1 x2
    rcases m with _ | m
    · have HE2 : Q = (A, r2) := by rw [HA.out]; simp [rParts]
      have HE := hid HE2
      clear HE2
      go_wp2_with fail
      (try simp only [Exit.inBlock, Exit.then])
      refine bodyPost_ret (results_none rfl _ _ _) rfl ?_
      rw [HE.out]
      exact ⟨rfl, av, csA, blA, S2, MM⟩
    · have HLF := hid (rleft_any S2 rb r2 wr MM.rep)
      have hm1 : (0 : Int) < (m : Int) + 1 := by omega
      by_cases hlen : r2.1.length = 0
      · have HE2 : Q = (A, r2) := by rw [HA.out, rParts, if_pos hlen]; simp
        have HE := hid HE2
        have hlb : ¬ (0 : Int) < (r2.1.length : Int) := by omega
        have hlb2 : decide ((0 : Int) < (r2.1.length : Int)) = false := by rw [decide_eq_false_iff_not]; omega
        have HMM := hid MM
        clear HE2 MM
        go_wp2_with fail
        refine HLF.out.mono ?_
        rintro e _ ⟨rfl, rfl⟩
        rw [hlen]
        go_wp2_with fail
        (try simp only [Exit.inBlock, Exit.then])
        refine bodyPost_ret (results_none rfl _ _ _) rfl ?_
        rw [HE.out]
        exact ⟨rfl, av, csA, blA, S2, HMM.out⟩
      · have HA2 : Hid (Q = ((A ++ [(rPart r2).1]) ++ (rParts m (rPart r2).2).1, (rParts m (rPart r2).2).2)) := by rw [Hid, HA.out, rParts, if_neg hlen]; simp
        have hlb : (0 : Int) < (r2.1.length : Int) := by omega
        have hlb2 : decide ((0 : Int) < (r2.1.length : Int)) = true := by rw [decide_eq_true_eq]; omega
        have HMM := hid MM
        have HBR := hid hbr
        clear MM HA hbr
        go_wp2_with fail
        refine HLF.out.mono ?_
        rintro e _ ⟨rfl, rfl⟩
        go_upto_block 1 with fail
        go_cut [] (fun wx => ∃ av' cs' bl' S4, MidR S w rb br z s a bb t hv ev (A ++ [(rPart r2).1]) cs' bl' none none av' (A.length + 1) cs' av' S4 wx (rPart r2).2 ∧ wx.heap[bx]? = some (.cells #[.pointer none, .pointer (some ⟨rb, 0, none⟩), .pointer (some ⟨br, 0, none⟩)] 87 (0, 0)) ∧ ¬ S4 bx)
        case first =>
          go_upto_region 5 with fail
          go_region
          all_goals go_wp2_with fail
          · have fa : Fresh wr (wr.alloc (.cells #[.bool false] 4)).drew := ((Keeps.refl _ _).alloc _).drew
            have hm := HMM.out.fresh fa
            have hB : MB bx #[.pointer none, .pointer (some ⟨rb, 0, none⟩), .pointer (some ⟨br, 0, none⟩)] S2 (wr.alloc (.cells #[.bool false] 4)).drew := MB.fresh ⟨HBR.out, hs2⟩ fa
            generalize (wr.alloc (.cells #[.bool false] 4)).drew = W5 at hm hB ⊢
            obtain ⟨aav, cav, rfl⟩ := ownsRow_slice hm.row
            have HRP := hid (fun W hW => by have := xreadPart_any S2 rb br r2 W hW; unfold aggR at this; exact this)
            clear fa x0 x1 x2 HLF hlb hlb2
            have x0 := cell_at hB.at_ 0
            have x1 := cell_at hB.at_ 1
            have x2 := cell_at hB.at_ 2
            simp at x0 x1 x2
            have l7 := cell_at hm.xs.box 7
            simp at l7
            have f7 := free_at hm.xs.box 7
            have l5 := lt_of_block hm.xs.box
            have m5 := lt_of_block hB.at_
            refine wp_region_keep 14 (fun w' => w'.cell? ⟨bx, 0, none⟩ = some (.pointer none) ∧ w'.cell? ⟨bx, 1, none⟩ = some (.pointer (some ⟨rb, 0, none⟩)) ∧ w'.cell? ⟨bx, 2, none⟩ = some (.pointer (some ⟨br, 0, none⟩))) (fun w' => w'.cell? ⟨br, 7, none⟩ = some (.slice aav A.length cav)) (fun j => !(j == 10 || j == 13)) (by kernel_rfl) (by kernel_rfl) ?_
            (try (change wpKeep _ _ _ _ _ _ _ _ _ _ (World.drew _)))
            refine wpKeep_takeT (i := 0) (oi := ⟨some 37, _, _, _, _, _⟩) (v := ?_) rfl (by kernel_rfl) (by kernel_rfl) (by kernel_rfl) (by kernel_rfl) (fun _ _ _ h => h) (Or.inl ⟨by rfl, ?_⟩) ⟨by simpa using x0, by simpa using x1, by simpa using x2⟩ (fun _ => by simpa using l7) ?_
            rotate_left
            · intro w hT
              (try dsimp only at hT)
              go_simp
              (try with_reducible rfl)
            rotate_left
            (try simp only [Act.put, List.setIfInBounds_toArray, List.set_cons_zero, List.set_cons_succ])
            refine wpKeep_takeT (i := 1) (oi := ⟨some 38, _, _, _, _, _⟩) (v := ?_) rfl (by kernel_rfl) (by kernel_rfl) (by kernel_rfl) (by kernel_rfl) (fun _ _ _ h => h) (Or.inl ⟨by rfl, ?_⟩) ⟨by simpa using x0, by simpa using x1, by simpa using x2⟩ (fun _ => by simpa using l7) ?_
            rotate_left
            · intro w hT
              (try dsimp only at hT)
              go_simp
              (try with_reducible rfl)
            rotate_left
            (try simp only [Act.put, List.setIfInBounds_toArray, List.set_cons_zero, List.set_cons_succ])
            refine wpKeep_takeT (i := 2) (oi := ⟨some 39, _, _, _, _, _⟩) (v := ?_) rfl (by kernel_rfl) (by kernel_rfl) (by kernel_rfl) (by kernel_rfl) (fun _ _ _ h => h) (Or.inl ⟨by rfl, ?_⟩) ⟨by simpa using x0, by simpa using x1, by simpa using x2⟩ (fun _ => by simpa using l7) ?_
            rotate_left
            · intro w hT
              (try dsimp only at hT)
              go_simp
              (try with_reducible rfl)
            rotate_left
            (try simp only [Act.put, List.setIfInBounds_toArray, List.set_cons_zero, List.set_cons_succ])
            refine wpKeep_takeT (i := 3) (oi := ⟨some 40, _, _, _, _, _⟩) (v := ?_) rfl (by kernel_rfl) (by kernel_rfl) (by kernel_rfl) (by kernel_rfl) (fun _ _ _ h => h) (Or.inl ⟨by rfl, ?_⟩) ⟨by simpa using x0, by simpa using x1, by simpa using x2⟩ (fun _ => by simpa using l7) ?_
            rotate_left
            · intro w hT
              (try dsimp only at hT)
              go_simp
              (try with_reducible rfl)
            rotate_left
            (try simp only [Act.put, List.setIfInBounds_toArray, List.set_cons_zero, List.set_cons_succ])
            refine wpKeep_takeT (i := 4) (oi := ⟨some 41, _, _, _, _, _⟩) (v := ?_) rfl (by kernel_rfl) (by kernel_rfl) (by kernel_rfl) (by kernel_rfl) (fun _ _ _ h => h) (Or.inl ⟨by rfl, ?_⟩) ⟨by simpa using x0, by simpa using x1, by simpa using x2⟩ (fun _ => by simpa using l7) ?_
            rotate_left
            · intro w hT
              (try dsimp only at hT)
              go_simp
              (try with_reducible rfl)
            rotate_left
            (try simp only [Act.put, List.setIfInBounds_toArray, List.set_cons_zero, List.set_cons_succ])
            refine wpKeep_takeT (i := 5) (oi := ⟨some 42, _, _, _, _, _⟩) (v := ?_) rfl (by kernel_rfl) (by kernel_rfl) (by kernel_rfl) (by kernel_rfl) (fun _ _ _ h => h) (Or.inl ⟨by rfl, ?_⟩) ⟨by simpa using x0, by simpa using x1, by simpa using x2⟩ (fun _ => by simpa using l7) ?_
            rotate_left
            · intro w hT
              (try dsimp only at hT)
              go_simp
              (try with_reducible rfl)
            rotate_left
            (try simp only [Act.put, List.setIfInBounds_toArray, List.set_cons_zero, List.set_cons_succ])
            refine wpKeep_take (i := 6) (oi := ⟨some 43, _, _, _, _, _⟩) (v := ?_) rfl (by kernel_rfl) (by kernel_rfl) (by kernel_rfl) (by kernel_rfl) (fun _ _ _ h => h) (Or.inl ⟨by rfl, ?_⟩) ⟨⟨by simpa using x0, by simpa using x1, by simpa using x2⟩, by simpa using l7⟩ ?_
            rotate_left
            · intro w hT
              (try dsimp only at hT)
              go_simp
              (try with_reducible rfl)
            rotate_left
            (try simp only [Act.put, List.setIfInBounds_toArray, List.set_cons_zero, List.set_cons_succ])
            refine wpKeep_takeT (i := 7) (oi := ⟨some 44, _, _, _, _, _⟩) (v := ?_) rfl (by kernel_rfl) (by kernel_rfl) (by kernel_rfl) (by kernel_rfl) (fun _ _ _ h => h) (Or.inl ⟨by rfl, ?_⟩) ⟨by simpa using x0, by simpa using x1, by simpa using x2⟩ (fun _ => by simpa using l7) ?_
            rotate_left
            · intro w hT
              (try dsimp only at hT)
              go_simp
              (try with_reducible rfl)
            rotate_left
            (try simp only [Act.put, List.setIfInBounds_toArray, List.set_cons_zero, List.set_cons_succ])
            refine wpKeep_ready (rs := [8]) (by kernel_rfl) (by simp) ?_
            refine AllKeep.cons (o := ⟨some 45, _, _, _, _, _⟩) rfl (fun K hK => ?_) ?_
            · (go_simp; go_at_call 136; (first | (have hq := hm; have kB := hB; (with_reducible refine (HRP.out _ hq.rep).mono ?_)) | (have hq := hm.drew_; have kB := hB.drew_; (with_reducible refine (HRP.out _ hq.rep).mono ?_))); rintro e w6 ⟨S6, bx6, v6, rfl, g6, k6, q6, o6, n6, nb6⟩; obtain ⟨al5, cl5, ae5, ce5, aq5, cq5, rfl⟩ := o6.shape; have hm := hq.read g6 k6 q6 o6 n6 nb6; have hB := kB.call g6 k6; (try clear x0 x1 x2); (try clear l7 f7 l5 m5); have x0 := cell_at hB.at_ 0; have x1 := cell_at hB.at_ 1; have x2 := cell_at hB.at_ 2; simp at x0 x1 x2; have l7 := cell_at hm.xs.box 7; simp at l7; have f7 := free_at hm.xs.box 7; have l5 := lt_of_block hm.xs.box; have m5 := lt_of_block hB.at_)
              (try go_simp)
              refine hK.out _ _ (by refine ⟨?_, ?_, ?_⟩ <;> (first | assumption | (go_simp; done))) (fun _ => by first | assumption | (go_simp; done)) ?_
              clear hK K
              (try simp only [Act.put, List.setIfInBounds_toArray, List.set_cons_zero, List.set_cons_succ])
              refine wpKeep_ready (rs := [9]) (by kernel_rfl) (by simp) ?_
              refine AllKeep.cons (o := ⟨some 46, _, _, _, _, _⟩) rfl (fun K hK => ?_) ?_
              · go_simp
                (try go_simp)
                refine hK.out _ _ (by refine ⟨?_, ?_, ?_⟩ <;> (first | assumption | (go_simp; done))) (fun _ => by first | assumption | (go_simp; done)) ?_
                clear hK K
                (try simp only [Act.put, List.setIfInBounds_toArray, List.set_cons_zero, List.set_cons_succ])
                refine wpKeep_ready (rs := [10]) (by kernel_rfl) (by simp) ?_
                refine AllKeep.cons (o := ⟨some 47, _, _, _, _, _⟩) rfl (fun K hK => ?_) ?_
                · (have hq := hm.fresh (W' := w6.alloc (.cells #[.int .i64 (rPart r2).1.status, .int .i64 (rPart r2).1.size, .int .i64 (rPart r2).1.a, .int .i64 (rPart r2).1.b, .string (Go.Proofs.YtpccaodkgboefaaGreatDoor.str (rPart r2).1.root), .slice al5 (rPart r2).1.hashes.length cl5, .slice ae5 (rPart r2).1.entries.length ce5, .slice aq5 (rPart r2).1.replies.length cq5] 48)) ((Keeps.refl _ _).alloc _); have kB := hB.fresh (W' := w6.alloc (.cells #[.int .i64 (rPart r2).1.status, .int .i64 (rPart r2).1.size, .int .i64 (rPart r2).1.a, .int .i64 (rPart r2).1.b, .string (Go.Proofs.YtpccaodkgboefaaGreatDoor.str (rPart r2).1.root), .slice al5 (rPart r2).1.hashes.length cl5, .slice ae5 (rPart r2).1.entries.length ce5, .slice aq5 (rPart r2).1.replies.length cq5] 48)) ((Keeps.refl _ _).alloc _); refine step_push_at rfl (.tmp 43) (.tmp 46) 46 rfl 48 i0 (.agg #[.int .i64 0, .int .i64 0, .int .i64 0, .int .i64 0, .string ⟨#[]⟩, .slice none 0 0, .slice none 0 0, .slice none 0 0]) 8 120 Tryz.underlying46 hi hz0 hz1 hz2 rfl (by decide) _ hq.row _ [.int .i64 (rPart r2).1.status, .int .i64 (rPart r2).1.size, .int .i64 (rPart r2).1.a, .int .i64 (rPart r2).1.b, .string (Go.Proofs.YtpccaodkgboefaaGreatDoor.str (rPart r2).1.root), .slice al5 (rPart r2).1.hashes.length cl5, .slice ae5 (rPart r2).1.entries.length ce5, .slice aq5 (rPart r2).1.replies.length cq5] rfl (heap_alloc_new w6 _) (fun u hu => by simp only [List.mem_cons, List.not_mem_nil, or_false] at hu; rcases hu with rfl | rfl | rfl | rfl | rfl | rfl | rfl | rfl <;> rfl) (by rfl) (by rfl) (by omega) (by unfold maxLen; omega) ?_; intro v4 w4 ha; have hB := kB.push hq ha; have hm := hq.push ha; obtain ⟨g4, cp4, rfl⟩ := hm.some'; (try clear x0 x1 x2); (try clear l7 f7 l5 m5); have x0 := cell_at hB.at_ 0; have x1 := cell_at hB.at_ 1; have x2 := cell_at hB.at_ 2; simp at x0 x1 x2; have l7 := cell_at hm.xs.box 7; simp at l7; have f7 := free_at hm.xs.box 7; have l5 := lt_of_block hm.xs.box; have m5 := lt_of_block hB.at_; have hgn := hm.ne; have hkn := hm.gne hB)
                  (try go_simp)
                  refine hK.out _ _ (by refine ⟨?_, ?_, ?_⟩ <;> (first | assumption | (go_simp; done))) (not_early (by kernel_rfl)) ?_
                  clear hK K
                  (try simp only [Act.put, List.setIfInBounds_toArray, List.set_cons_zero, List.set_cons_succ])
                  refine wpKeep_takeT (i := 11) (oi := ⟨some 48, _, _, _, _, _⟩) (v := ?_) rfl (by kernel_rfl) (by kernel_rfl) (by kernel_rfl) (by kernel_rfl) (fun _ _ _ h => h) (Or.inl ⟨by rfl, ?_⟩) (by refine ⟨?_, ?_, ?_⟩ <;> (first | assumption | (go_simp; done))) (not_early (by kernel_rfl)) ?_
                  rotate_left
                  · intro w hT
                    (try dsimp only at hT)
                    go_simp
                    (try with_reducible rfl)
                  rotate_left
                  (try simp only [Act.put, List.setIfInBounds_toArray, List.set_cons_zero, List.set_cons_succ])
                  refine wpKeep_takeT (i := 12) (oi := ⟨some 49, _, _, _, _, _⟩) (v := ?_) rfl (by kernel_rfl) (by kernel_rfl) (by kernel_rfl) (by kernel_rfl) (fun _ _ _ h => h) (Or.inl ⟨by rfl, ?_⟩) (by refine ⟨?_, ?_, ?_⟩ <;> (first | assumption | (go_simp; done))) (not_early (by kernel_rfl)) ?_
                  rotate_left
                  · intro w hT
                    (try dsimp only at hT)
                    go_simp
                    (try with_reducible rfl)
                  rotate_left
                  (try simp only [Act.put, List.setIfInBounds_toArray, List.set_cons_zero, List.set_cons_succ])
                  refine wpKeep_ready (rs := [13]) (by kernel_rfl) (by simp) ?_
                  refine AllKeep.cons (o := ⟨none, _, _, _, _, _⟩) rfl (fun K hK => ?_) ?_
                  · go_simp
                    (try go_simp)
                    refine hK.out _ _ (by refine ⟨?_, ?_, ?_⟩ <;> (first | assumption | (go_simp; done))) (not_early (by kernel_rfl)) ?_
                    clear hK K
                    (try simp only [Act.put, List.setIfInBounds_toArray, List.set_cons_zero, List.set_cons_succ])
                    refine wpKeep_done (by kernel_rfl) ?_ _
                    go_wp2
                    go_meet
                    (with_reducible exact hm.finD hB)
                  exact AllKeep.nil
                exact AllKeep.nil
              exact AllKeep.nil
            exact AllKeep.nil
          · have fa : Fresh wr (wr.alloc (.cells #[.bool true] 4)).drew := ((Keeps.refl _ _).alloc _).drew
            have hm := HMM.out.fresh fa
            have hB : MB bx #[.pointer none, .pointer (some ⟨rb, 0, none⟩), .pointer (some ⟨br, 0, none⟩)] S2 (wr.alloc (.cells #[.bool true] 4)).drew := MB.fresh ⟨HBR.out, hs2⟩ fa
            generalize (wr.alloc (.cells #[.bool true] 4)).drew = W5 at hm hB ⊢
            obtain ⟨aav, cav, rfl⟩ := ownsRow_slice hm.row
            have HRP := hid (fun W hW => by have := xreadPart_any S2 rb br r2 W hW; unfold aggR at this; exact this)
            clear fa x0 x1 x2 HLF hlb hlb2
            have x0 := cell_at hB.at_ 0
            have x1 := cell_at hB.at_ 1
            have x2 := cell_at hB.at_ 2
            simp at x0 x1 x2
            have l7 := cell_at hm.xs.box 7
            simp at l7
            have f7 := free_at hm.xs.box 7
            have l5 := lt_of_block hm.xs.box
            have m5 := lt_of_block hB.at_
            have hx1 : (A.length : Int) < (A.length : Int) + 1 := by omega
            refine wp_region_keep 13 (fun w' => w'.cell? ⟨bx, 0, none⟩ = some (.pointer none) ∧ w'.cell? ⟨bx, 1, none⟩ = some (.pointer (some ⟨rb, 0, none⟩)) ∧ w'.cell? ⟨bx, 2, none⟩ = some (.pointer (some ⟨br, 0, none⟩))) (fun w' => w'.cell? ⟨br, 7, none⟩ = some (.slice aav A.length cav)) (fun j => !(j == 9 || j == 12)) (by kernel_rfl) (by kernel_rfl) ?_
            (try (change wpKeep _ _ _ _ _ _ _ _ _ _ (World.drew _)))
            refine wpKeep_takeT (i := 0) (oi := ⟨some 24, _, _, _, _, _⟩) (v := ?_) rfl (by kernel_rfl) (by kernel_rfl) (by kernel_rfl) (by kernel_rfl) (fun _ _ _ h => h) (Or.inl ⟨by rfl, ?_⟩) ⟨by simpa using x0, by simpa using x1, by simpa using x2⟩ (fun _ => by simpa using l7) ?_
            rotate_left
            · intro w hT
              (try dsimp only at hT)
              go_simp
              (try with_reducible rfl)
            rotate_left
            (try simp only [Act.put, List.setIfInBounds_toArray, List.set_cons_zero, List.set_cons_succ])
            refine wpKeep_takeT (i := 1) (oi := ⟨some 25, _, _, _, _, _⟩) (v := ?_) rfl (by kernel_rfl) (by kernel_rfl) (by kernel_rfl) (by kernel_rfl) (fun _ _ _ h => h) (Or.inl ⟨by rfl, ?_⟩) ⟨by simpa using x0, by simpa using x1, by simpa using x2⟩ (fun _ => by simpa using l7) ?_
            rotate_left
            · intro w hT
              (try dsimp only at hT)
              go_simp
              (try with_reducible rfl)
            rotate_left
            (try simp only [Act.put, List.setIfInBounds_toArray, List.set_cons_zero, List.set_cons_succ])
            refine wpKeep_takeT (i := 2) (oi := ⟨some 26, _, _, _, _, _⟩) (v := ?_) rfl (by kernel_rfl) (by kernel_rfl) (by kernel_rfl) (by kernel_rfl) (fun _ _ _ h => h) (Or.inl ⟨by rfl, ?_⟩) ⟨by simpa using x0, by simpa using x1, by simpa using x2⟩ (fun _ => by simpa using l7) ?_
            rotate_left
            · intro w hT
              (try dsimp only at hT)
              go_simp
              (try with_reducible rfl)
            rotate_left
            (try simp only [Act.put, List.setIfInBounds_toArray, List.set_cons_zero, List.set_cons_succ])
            refine wpKeep_takeT (i := 3) (oi := ⟨some 27, _, _, _, _, _⟩) (v := ?_) rfl (by kernel_rfl) (by kernel_rfl) (by kernel_rfl) (by kernel_rfl) (fun _ _ _ h => h) (Or.inl ⟨by rfl, ?_⟩) ⟨by simpa using x0, by simpa using x1, by simpa using x2⟩ (fun _ => by simpa using l7) ?_
            rotate_left
            · intro w hT
              (try dsimp only at hT)
              go_simp
              (try with_reducible rfl)
            rotate_left
            (try simp only [Act.put, List.setIfInBounds_toArray, List.set_cons_zero, List.set_cons_succ])
            refine wpKeep_take (i := 4) (oi := ⟨some 28, _, _, _, _, _⟩) (v := ?_) rfl (by kernel_rfl) (by kernel_rfl) (by kernel_rfl) (by kernel_rfl) (fun _ _ _ h => h) (Or.inl ⟨by rfl, ?_⟩) ⟨⟨by simpa using x0, by simpa using x1, by simpa using x2⟩, by simpa using l7⟩ ?_
            rotate_left
            · intro w hT
              (try dsimp only at hT)
              go_simp
              (try with_reducible rfl)
            rotate_left
            (try simp only [Act.put, List.setIfInBounds_toArray, List.set_cons_zero, List.set_cons_succ])
            refine wpKeep_takeT (i := 5) (oi := ⟨some 29, _, _, _, _, _⟩) (v := ?_) rfl (by kernel_rfl) (by kernel_rfl) (by kernel_rfl) (by kernel_rfl) (fun _ _ _ h => h) (Or.inl ⟨by rfl, ?_⟩) ⟨by simpa using x0, by simpa using x1, by simpa using x2⟩ (fun _ => by simpa using l7) ?_
            rotate_left
            · intro w hT
              (try dsimp only at hT)
              go_simp
              (try with_reducible rfl)
            rotate_left
            (try simp only [Act.put, List.setIfInBounds_toArray, List.set_cons_zero, List.set_cons_succ])
            refine wpKeep_takeT (i := 7) (oi := ⟨some 31, _, _, _, _, _⟩) (v := ?_) rfl (by kernel_rfl) (by kernel_rfl) (by kernel_rfl) (by kernel_rfl) (fun _ _ _ h => h) (Or.inl ⟨by rfl, ?_⟩) ⟨by simpa using x0, by simpa using x1, by simpa using x2⟩ (fun _ => by simpa using l7) ?_
            rotate_left
            · intro w hT
              (try dsimp only at hT)
              go_simp
              (try with_reducible rfl)
            rotate_left
            (try simp only [Act.put, List.setIfInBounds_toArray, List.set_cons_zero, List.set_cons_succ])
            refine wpKeep_ready (rs := [6, 8]) (by kernel_rfl) (by simp) ?_
            refine AllKeep.cons (o := ⟨some 30, _, _, _, _, _⟩) rfl (fun K hK => ?_) ?_
            · (go_simp; go_at_call 136; (first | (have hq := hm; have kB := hB; (with_reducible refine (HRP.out _ hq.rep).mono ?_)) | (have hq := hm.drew_; have kB := hB.drew_; (with_reducible refine (HRP.out _ hq.rep).mono ?_)) | (have hq := hm.made; have kB := hB.made; (with_reducible refine (HRP.out _ hq.rep).mono ?_)) | (have hq := hm.made.drew_; have kB := hB.made.drew_; (with_reducible refine (HRP.out _ hq.rep).mono ?_)) | (have hq := hm.put7 (.slice (some ⟨g4, 0, none⟩) (A.length + 1) cp4); have kB := (hB.put7 hm _); (with_reducible refine (HRP.out _ hq.rep).mono ?_))); rintro e w6 ⟨S6, bx6, v6, rfl, g6, k6, q6, o6, n6, nb6⟩; obtain ⟨al5, cl5, ae5, ce5, aq5, cq5, rfl⟩ := o6.shape; have hm := hq.read g6 k6 q6 o6 n6 nb6; have hB := kB.call g6 k6; (try clear x0 x1 x2); (try clear l7 f7 l5 m5); have x0 := cell_at hB.at_ 0; have x1 := cell_at hB.at_ 1; have x2 := cell_at hB.at_ 2; simp at x0 x1 x2; have l7 := cell_at hm.xs.box 7; simp at l7; have f7 := free_at hm.xs.box 7; have l5 := lt_of_block hm.xs.box; have m5 := lt_of_block hB.at_; (try (have hgn := hm.ne; have hkn := hm.gne hB; obtain ⟨tc0, tf0⟩ := hm.tail 0 _ rfl; rw [Nat.add_zero] at tc0 tf0; obtain ⟨tc1, tf1⟩ := hm.tail 1 _ rfl; obtain ⟨tc2, tf2⟩ := hm.tail 2 _ rfl; obtain ⟨tc3, tf3⟩ := hm.tail 3 _ rfl; obtain ⟨tc4, tf4⟩ := hm.tail 4 _ rfl; obtain ⟨tc5, tf5⟩ := hm.tail 5 _ rfl; obtain ⟨tc6, tf6⟩ := hm.tail 6 _ rfl; obtain ⟨tc7, tf7⟩ := hm.tail 7 _ rfl)))
              (try go_simp)
              refine hK.out _ _ (by refine ⟨?_, ?_, ?_⟩ <;> (first | assumption | (go_simp; done))) (fun _ => by first | assumption | (go_simp; done)) ?_
              clear hK K
              (try simp only [Act.put, List.setIfInBounds_toArray, List.set_cons_zero, List.set_cons_succ])
              refine wpKeep_ready (rs := [8]) (by kernel_rfl) (by simp) ?_
              refine AllKeep.cons (o := ⟨some 32, _, _, _, _, _⟩) rfl (fun K hK => ?_) ?_
              · go_simp
                (try go_simp)
                refine hK.out _ _ (by refine ⟨?_, ?_, ?_⟩ <;> (first | assumption | (go_simp; done))) (fun _ => by first | assumption | (go_simp; done)) ?_
                clear hK K
                (try simp only [Act.put, List.setIfInBounds_toArray, List.set_cons_zero, List.set_cons_succ])
                refine wpKeep_ready (rs := [9]) (by kernel_rfl) (by simp) ?_
                refine AllKeep.cons (o := ⟨some 33, _, _, _, _, _⟩) rfl (fun K hK => ?_) ?_
                · ((first | (have hq := hm; have kB : MB bx _ _ _ := hB; refine step_push_at rfl (.tmp 28) (.tmp 32) 46 rfl 48 i0 (.agg #[.int .i64 0, .int .i64 0, .int .i64 0, .int .i64 0, .string ⟨#[]⟩, .slice none 0 0, .slice none 0 0, .slice none 0 0]) 8 120 Tryz.underlying46 hi hz0 hz1 hz2 rfl (by decide) _ (by with_reducible exact hq.row) _ [.int .i64 0, .int .i64 0, .int .i64 0, .int .i64 0, .string ⟨#[]⟩, .slice none 0 0, .slice none 0 0, .slice none 0 0] rfl (hq.zero _ rfl).1 (by decide) (by rfl) (by rfl) (by omega) (by unfold maxLen; omega) ?_) | (have hq := hm.made; have kB : MB bx _ _ _ := hB.made; refine step_push_at rfl (.tmp 28) (.tmp 32) 46 rfl 48 i0 (.agg #[.int .i64 0, .int .i64 0, .int .i64 0, .int .i64 0, .string ⟨#[]⟩, .slice none 0 0, .slice none 0 0, .slice none 0 0]) 8 120 Tryz.underlying46 hi hz0 hz1 hz2 rfl (by decide) _ (by with_reducible exact hq.row) _ [.int .i64 0, .int .i64 0, .int .i64 0, .int .i64 0, .string ⟨#[]⟩, .slice none 0 0, .slice none 0 0, .slice none 0 0] rfl (hq.zero _ rfl).1 (by decide) (by rfl) (by rfl) (by omega) (by unfold maxLen; omega) ?_) | (have hq := hm.made.drew_; have kB : MB bx _ _ _ := hB.made.drew_; refine step_push_at rfl (.tmp 28) (.tmp 32) 46 rfl 48 i0 (.agg #[.int .i64 0, .int .i64 0, .int .i64 0, .int .i64 0, .string ⟨#[]⟩, .slice none 0 0, .slice none 0 0, .slice none 0 0]) 8 120 Tryz.underlying46 hi hz0 hz1 hz2 rfl (by decide) _ (by with_reducible exact hq.row) _ [.int .i64 0, .int .i64 0, .int .i64 0, .int .i64 0, .string ⟨#[]⟩, .slice none 0 0, .slice none 0 0, .slice none 0 0] rfl (hq.zero _ rfl).1 (by decide) (by rfl) (by rfl) (by omega) (by unfold maxLen; omega) ?_)); intro v4 w4 ha; have hB := kB.push hq ha; have hm := hq.push ha; obtain ⟨g4, cp4, rfl⟩ := hm.some'; (try clear x0 x1 x2); (try clear l7 f7 l5 m5); have x0 := cell_at hB.at_ 0; have x1 := cell_at hB.at_ 1; have x2 := cell_at hB.at_ 2; simp at x0 x1 x2; have l7 := cell_at hm.xs.box 7; simp at l7; have f7 := free_at hm.xs.box 7; have l5 := lt_of_block hm.xs.box; have m5 := lt_of_block hB.at_; (try (have hgn := hm.ne; have hkn := hm.gne hB; obtain ⟨tc0, tf0⟩ := hm.tail 0 _ rfl; rw [Nat.add_zero] at tc0 tf0; obtain ⟨tc1, tf1⟩ := hm.tail 1 _ rfl; obtain ⟨tc2, tf2⟩ := hm.tail 2 _ rfl; obtain ⟨tc3, tf3⟩ := hm.tail 3 _ rfl; obtain ⟨tc4, tf4⟩ := hm.tail 4 _ rfl; obtain ⟨tc5, tf5⟩ := hm.tail 5 _ rfl; obtain ⟨tc6, tf6⟩ := hm.tail 6 _ rfl; obtain ⟨tc7, tf7⟩ := hm.tail 7 _ rfl)))
                  (try go_simp)
                  refine hK.out _ _ (by refine ⟨?_, ?_, ?_⟩ <;> (first | assumption | (go_simp; done))) (not_early (by kernel_rfl)) ?_
                  clear hK K
                  (try simp only [Act.put, List.setIfInBounds_toArray, List.set_cons_zero, List.set_cons_succ])
                  refine wpKeep_takeT (i := 10) (oi := ⟨some 34, _, _, _, _, _⟩) (v := ?_) rfl (by kernel_rfl) (by kernel_rfl) (by kernel_rfl) (by kernel_rfl) (fun _ _ _ h => h) (Or.inl ⟨by rfl, ?_⟩) (by refine ⟨?_, ?_, ?_⟩ <;> (first | assumption | (go_simp; done))) (not_early (by kernel_rfl)) ?_
                  rotate_left
                  · intro w hT
                    (try dsimp only at hT)
                    go_simp
                    (try with_reducible rfl)
                  rotate_left
                  (try simp only [Act.put, List.setIfInBounds_toArray, List.set_cons_zero, List.set_cons_succ])
                  refine wpKeep_takeT (i := 11) (oi := ⟨some 35, _, _, _, _, _⟩) (v := ?_) rfl (by kernel_rfl) (by kernel_rfl) (by kernel_rfl) (by kernel_rfl) (fun _ _ _ h => h) (Or.inl ⟨by rfl, ?_⟩) (by refine ⟨?_, ?_, ?_⟩ <;> (first | assumption | (go_simp; done))) (not_early (by kernel_rfl)) ?_
                  rotate_left
                  · intro w hT
                    (try dsimp only at hT)
                    go_simp
                    (try with_reducible rfl)
                  rotate_left
                  (try simp only [Act.put, List.setIfInBounds_toArray, List.set_cons_zero, List.set_cons_succ])
                  refine wpKeep_ready (rs := [12]) (by kernel_rfl) (by simp) ?_
                  refine AllKeep.cons (o := ⟨none, _, _, _, _, _⟩) rfl (fun K hK => ?_) ?_
                  · go_simp
                    (try go_simp)
                    refine hK.out _ _ (by refine ⟨?_, ?_, ?_⟩ <;> (first | assumption | (go_simp; done))) (not_early (by kernel_rfl)) ?_
                    clear hK K
                    (try simp only [Act.put, List.setIfInBounds_toArray, List.set_cons_zero, List.set_cons_succ])
                    refine wpKeep_done (by kernel_rfl) ?_ _
                    go_wp2
                    go_meet
                    first
                    | (with_reducible exact (hm.put7 _).finE (hB.put7 hm _))
                    | (with_reducible exact hm.finE hB)
                  exact AllKeep.nil
                exact AllKeep.nil
              exact AllKeep.nil
            refine AllKeep.cons (o := ⟨some 32, _, _, _, _, _⟩) rfl (fun K hK => ?_) ?_
            · go_simp
              (try go_simp)
              refine hK.out _ _ (by refine ⟨?_, ?_, ?_⟩ <;> (first | assumption | (go_simp; done))) (fun _ => by first | assumption | (go_simp; done)) ?_
              clear hK K
              (try simp only [Act.put, List.setIfInBounds_toArray, List.set_cons_zero, List.set_cons_succ])
              refine wpKeep_ready (rs := [6]) (by kernel_rfl) (by simp) ?_
              refine AllKeep.cons (o := ⟨some 30, _, _, _, _, _⟩) rfl (fun K hK => ?_) ?_
              · (go_simp; go_at_call 136; (first | (have hq := hm; have kB := hB; (with_reducible refine (HRP.out _ hq.rep).mono ?_)) | (have hq := hm.drew_; have kB := hB.drew_; (with_reducible refine (HRP.out _ hq.rep).mono ?_)) | (have hq := hm.made; have kB := hB.made; (with_reducible refine (HRP.out _ hq.rep).mono ?_)) | (have hq := hm.made.drew_; have kB := hB.made.drew_; (with_reducible refine (HRP.out _ hq.rep).mono ?_)) | (have hq := hm.put7 (.slice (some ⟨g4, 0, none⟩) (A.length + 1) cp4); have kB := (hB.put7 hm _); (with_reducible refine (HRP.out _ hq.rep).mono ?_))); rintro e w6 ⟨S6, bx6, v6, rfl, g6, k6, q6, o6, n6, nb6⟩; obtain ⟨al5, cl5, ae5, ce5, aq5, cq5, rfl⟩ := o6.shape; have hm := hq.read g6 k6 q6 o6 n6 nb6; have hB := kB.call g6 k6; (try clear x0 x1 x2); (try clear l7 f7 l5 m5); have x0 := cell_at hB.at_ 0; have x1 := cell_at hB.at_ 1; have x2 := cell_at hB.at_ 2; simp at x0 x1 x2; have l7 := cell_at hm.xs.box 7; simp at l7; have f7 := free_at hm.xs.box 7; have l5 := lt_of_block hm.xs.box; have m5 := lt_of_block hB.at_; (try (have hgn := hm.ne; have hkn := hm.gne hB; obtain ⟨tc0, tf0⟩ := hm.tail 0 _ rfl; rw [Nat.add_zero] at tc0 tf0; obtain ⟨tc1, tf1⟩ := hm.tail 1 _ rfl; obtain ⟨tc2, tf2⟩ := hm.tail 2 _ rfl; obtain ⟨tc3, tf3⟩ := hm.tail 3 _ rfl; obtain ⟨tc4, tf4⟩ := hm.tail 4 _ rfl; obtain ⟨tc5, tf5⟩ := hm.tail 5 _ rfl; obtain ⟨tc6, tf6⟩ := hm.tail 6 _ rfl; obtain ⟨tc7, tf7⟩ := hm.tail 7 _ rfl)))
                (try go_simp)
                refine hK.out _ _ (by refine ⟨?_, ?_, ?_⟩ <;> (first | assumption | (go_simp; done))) (fun _ => by first | assumption | (go_simp; done)) ?_
                clear hK K
                (try simp only [Act.put, List.setIfInBounds_toArray, List.set_cons_zero, List.set_cons_succ])
                refine wpKeep_ready (rs := [9]) (by kernel_rfl) (by simp) ?_
                refine AllKeep.cons (o := ⟨some 33, _, _, _, _, _⟩) rfl (fun K hK => ?_) ?_
                · ((first | (have hq := hm; have kB : MB bx _ _ _ := hB; refine step_push_at rfl (.tmp 28) (.tmp 32) 46 rfl 48 i0 (.agg #[.int .i64 0, .int .i64 0, .int .i64 0, .int .i64 0, .string ⟨#[]⟩, .slice none 0 0, .slice none 0 0, .slice none 0 0]) 8 120 Tryz.underlying46 hi hz0 hz1 hz2 rfl (by decide) _ (by with_reducible exact hq.row) _ [.int .i64 0, .int .i64 0, .int .i64 0, .int .i64 0, .string ⟨#[]⟩, .slice none 0 0, .slice none 0 0, .slice none 0 0] rfl (hq.zero _ rfl).1 (by decide) (by rfl) (by rfl) (by omega) (by unfold maxLen; omega) ?_) | (have hq := hm.made; have kB : MB bx _ _ _ := hB.made; refine step_push_at rfl (.tmp 28) (.tmp 32) 46 rfl 48 i0 (.agg #[.int .i64 0, .int .i64 0, .int .i64 0, .int .i64 0, .string ⟨#[]⟩, .slice none 0 0, .slice none 0 0, .slice none 0 0]) 8 120 Tryz.underlying46 hi hz0 hz1 hz2 rfl (by decide) _ (by with_reducible exact hq.row) _ [.int .i64 0, .int .i64 0, .int .i64 0, .int .i64 0, .string ⟨#[]⟩, .slice none 0 0, .slice none 0 0, .slice none 0 0] rfl (hq.zero _ rfl).1 (by decide) (by rfl) (by rfl) (by omega) (by unfold maxLen; omega) ?_) | (have hq := hm.made.drew_; have kB : MB bx _ _ _ := hB.made.drew_; refine step_push_at rfl (.tmp 28) (.tmp 32) 46 rfl 48 i0 (.agg #[.int .i64 0, .int .i64 0, .int .i64 0, .int .i64 0, .string ⟨#[]⟩, .slice none 0 0, .slice none 0 0, .slice none 0 0]) 8 120 Tryz.underlying46 hi hz0 hz1 hz2 rfl (by decide) _ (by with_reducible exact hq.row) _ [.int .i64 0, .int .i64 0, .int .i64 0, .int .i64 0, .string ⟨#[]⟩, .slice none 0 0, .slice none 0 0, .slice none 0 0] rfl (hq.zero _ rfl).1 (by decide) (by rfl) (by rfl) (by omega) (by unfold maxLen; omega) ?_)); intro v4 w4 ha; have hB := kB.push hq ha; have hm := hq.push ha; obtain ⟨g4, cp4, rfl⟩ := hm.some'; (try clear x0 x1 x2); (try clear l7 f7 l5 m5); have x0 := cell_at hB.at_ 0; have x1 := cell_at hB.at_ 1; have x2 := cell_at hB.at_ 2; simp at x0 x1 x2; have l7 := cell_at hm.xs.box 7; simp at l7; have f7 := free_at hm.xs.box 7; have l5 := lt_of_block hm.xs.box; have m5 := lt_of_block hB.at_; (try (have hgn := hm.ne; have hkn := hm.gne hB; obtain ⟨tc0, tf0⟩ := hm.tail 0 _ rfl; rw [Nat.add_zero] at tc0 tf0; obtain ⟨tc1, tf1⟩ := hm.tail 1 _ rfl; obtain ⟨tc2, tf2⟩ := hm.tail 2 _ rfl; obtain ⟨tc3, tf3⟩ := hm.tail 3 _ rfl; obtain ⟨tc4, tf4⟩ := hm.tail 4 _ rfl; obtain ⟨tc5, tf5⟩ := hm.tail 5 _ rfl; obtain ⟨tc6, tf6⟩ := hm.tail 6 _ rfl; obtain ⟨tc7, tf7⟩ := hm.tail 7 _ rfl)))
                  (try go_simp)
                  refine hK.out _ _ (by refine ⟨?_, ?_, ?_⟩ <;> (first | assumption | (go_simp; done))) (not_early (by kernel_rfl)) ?_
                  clear hK K
                  (try simp only [Act.put, List.setIfInBounds_toArray, List.set_cons_zero, List.set_cons_succ])
                  refine wpKeep_takeT (i := 10) (oi := ⟨some 34, _, _, _, _, _⟩) (v := ?_) rfl (by kernel_rfl) (by kernel_rfl) (by kernel_rfl) (by kernel_rfl) (fun _ _ _ h => h) (Or.inl ⟨by rfl, ?_⟩) (by refine ⟨?_, ?_, ?_⟩ <;> (first | assumption | (go_simp; done))) (not_early (by kernel_rfl)) ?_
                  rotate_left
                  · intro w hT
                    (try dsimp only at hT)
                    go_simp
                    (try with_reducible rfl)
                  rotate_left
                  (try simp only [Act.put, List.setIfInBounds_toArray, List.set_cons_zero, List.set_cons_succ])
                  refine wpKeep_takeT (i := 11) (oi := ⟨some 35, _, _, _, _, _⟩) (v := ?_) rfl (by kernel_rfl) (by kernel_rfl) (by kernel_rfl) (by kernel_rfl) (fun _ _ _ h => h) (Or.inl ⟨by rfl, ?_⟩) (by refine ⟨?_, ?_, ?_⟩ <;> (first | assumption | (go_simp; done))) (not_early (by kernel_rfl)) ?_
                  rotate_left
                  · intro w hT
                    (try dsimp only at hT)
                    go_simp
                    (try with_reducible rfl)
                  rotate_left
                  (try simp only [Act.put, List.setIfInBounds_toArray, List.set_cons_zero, List.set_cons_succ])
                  refine wpKeep_ready (rs := [12]) (by kernel_rfl) (by simp) ?_
                  refine AllKeep.cons (o := ⟨none, _, _, _, _, _⟩) rfl (fun K hK => ?_) ?_
                  · go_simp
                    (try go_simp)
                    refine hK.out _ _ (by refine ⟨?_, ?_, ?_⟩ <;> (first | assumption | (go_simp; done))) (not_early (by kernel_rfl)) ?_
                    clear hK K
                    (try simp only [Act.put, List.setIfInBounds_toArray, List.set_cons_zero, List.set_cons_succ])
                    refine wpKeep_done (by kernel_rfl) ?_ _
                    go_wp2
                    go_meet
                    first
                    | (with_reducible exact (hm.put7 _).finE (hB.put7 hm _))
                    | (with_reducible exact hm.finE hB)
                  exact AllKeep.nil
                exact AllKeep.nil
              exact AllKeep.nil
            exact AllKeep.nil
        case rest =>
          obtain ⟨av', cs', bl', S4, MM, hbr, hs4⟩ := hcut
          go_wp2_with fail
          go_roundw
          case rel => exact ⟨m, A ++ [(rPart r2).1], cs', bl', av', S4, (rPart r2).2, by go_num, by simp; omega, by rw [List.length_append]; exact MM, hbr, hs4, HA2⟩
          case measure => simp [intOf]
end Go.Proofs.YtpccaodkgboefaaGreatDoor
