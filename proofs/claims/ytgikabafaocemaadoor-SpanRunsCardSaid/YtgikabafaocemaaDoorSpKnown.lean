/-
  The laws on spans: known.
-/
import Derived.Test.YtgikabafaocemaaDoorSpPlant
import Derived.Test.YtgikabafaocemaaDoorSpJoin
import Derived.Test.YtgikabafaocemaaDoorSpRootA
import Derived.Test.YtgikabafaocemaaDoorMMsF
namespace Go.Proofs.YtgikabafaocemaaDoor
open Go.RowKit Go.Maps

theorem listBut_at {w : World} {v : Value} {ao : Option Addr} {n cap : Nat} {l : List (List UInt8)} (h : TextsAt w v l) (hv : v = .slice ao n cap) (hc : n ≤ cap) (wb : Nat) (hw : w.heap.size ≤ wb) : ListBut wb w v l := by
  obtain ⟨ao', cap', e1, hk⟩ := h
  have e2 := e1
  rw [hv] at e1
  simp only [Value.slice.injEq] at e1
  obtain ⟨rfl, rfl, rfl⟩ := e1
  exact ⟨ao, cap, e2, hc, fun k s hs => by
    obtain ⟨bb, off, q1, q2, q3⟩ := hk k s hs
    exact ⟨bb, off, q1, by omega, q2, q3⟩⟩
theorem told_known : toldF 40 1 2 0 2 = [(0, 1)] := by decide +kernel
theorem toldH_known (x y : List UInt8) : toldH [x, y] (toldF 40 1 2 0 2) = [x] := by
  rw [told_known]
  show [hashL (sl [x, y] 0 1)] = [x]
  rw [show sl [x, y] 0 1 = [x] from rfl, hashL_one]
theorem root_known (x y : List UInt8) (hx : x.length = 32) (hy : y.length = 32) : rootOf 2 1 2 [x] [y] = (hashL (sl [x, y] 0 2), 0) := by
  have hx' : all32P [x] := fun z hz => by rw [List.mem_singleton.1 hz]; exact hx
  have hy' : all32P [y] := fun z hz => by rw [List.mem_singleton.1 hz]; exact hy
  rw [rootOf, if_neg (by omega), if_neg]
  · have h := walkF_hash 40 1 2 0 2 [x, y] [] [] (by omega) (by omega) (by simp) (by omega)
    rw [toldH_known, show sl [x, y] (max 1 0) (min 2 2) = [y] from rfl, List.append_nil, List.append_nil] at h
    show ((walkF 40 1 2 0 2 [x] [y]).1, 0) = _
    rw [h]
  · rintro (q | q | q | q | q)
    · simp at q
    · simp at q
    · exact q hy'
    · exact q hx'
    · exact q (by show (toldF 40 1 2 0 2).length = _; rw [told_known]; rfl)

set_option maxRecDepth 100000 in
set_option maxHeartbeats 4000000 in
theorem known_any (w : World) (hN : Nums w) :
    Calls Tryd.prog 8 #[] w fun x w' => x = .returned (.bool true) ∧ Fresh w w' := by
  have l1 := leafL_len 1
  have l2 := leafL_len 2
  have hlf1 := fun W => leaf_any 1 W
  have hlf2 := fun W => leaf_any 2 W
  have hrt := root_known (leafL 1) (leafL 2) l1 l2
  obtain ⟨A, hA⟩ : ∃ A, leafL 1 = A := ⟨_, rfl⟩
  obtain ⟨B, hB⟩ : ∃ B, leafL 2 = B := ⟨_, rfl⟩
  rw [hA] at l1 hlf1 hrt
  rw [hB] at l2 hlf2 hrt
  have HLF1 := hid hlf1
  have HLF2 := hid hlf2
  have HRT := hid hrt
  have L1 := hid l1
  have L2 := hid l2
  clear hlf1 hlf2 hrt l1 l2 hA hB
  go_enter Tryd.func8, Tryd.ntmps8
  go_wp2_with fail
  refine (HLF1.out w).mono ?_
  rintro x w1 ⟨rfl, f1⟩
  go_wp2_with fail
  refine (HLF2.out w1).mono ?_
  rintro x w2 ⟨rfl, f2⟩
  have f2' := f1.trans f2
  have hb := heap_alloc_new w2 (.cells #[.string (str A), .string (str B)] 9)
  have f3 := f2'.alloc (.cells #[.string (str A), .string (str B)] 9)
  have hat : TextsAt (w2.alloc (.cells #[.string (str A), .string (str B)] 9)) (.slice (some ⟨w2.heap.size, 0, none⟩) 2 2) [A, B] := ⟨_, 2, rfl, fun k s hs => by
    match k, hs with
    | 0, hs => simp at hs; subst hs; exact ⟨_, 0, rfl, lt_of_block hb, cell_at hb 0⟩
    | 1, hs => simp at hs; subst hs; exact ⟨_, 0, rfl, lt_of_block hb, cell_at hb 1⟩
    | (k + 2), hs => simp at hs⟩
  have h32 : all32P [A, B] := fun z hz => by
    rcases List.mem_cons.1 hz with rfl | hz
    · exact L1.out
    · rw [List.mem_singleton.1 hz]; exact L2.out
  have hpl := hid (planted_any _ [A, B] 0 _ hat h32 (by simp) (by omega) (by omega) (hN.fresh f3))
  clear hb hat h32 f1 f2 f2'
  go_wp2_with fail
  refine hpl.out.mono ?_
  rintro x w4 ⟨tb, rfl, ⟨h, S, T4, hS⟩, f4⟩
  have f4' := f3.trans f4
  have hq1 : ∀ W, (binOp .eql 28 (.pointer (some ⟨tb, 0, none⟩)) (.pointer none)).run Tryd.prog W = .ok (.bool false) W := fun W => by kernel_rfl
  have hpv := fun W (f : Fresh w4 W) => pprove_good S tb h [A, B] 2 1 2 W (T4.fresh f) ((hN.fresh f4').fresh f).dig (by omega) (by simp) (by omega) (by omega)
  rw [toldH_known] at hpv
  have HPV := hid hpv
  have HT4 := hid T4
  clear hpv hpl f3 f4 T4
  unfold spanV at HPV
  go_wp2_with fail
  refine (HPV.out w4 (Keeps.refl _ _)).mono ?_
  rintro x w5 ⟨v, rfl, hv, f5⟩
  have f5' := f4'.trans f5
  obtain ⟨ao, cap, hvr, hvo, rfl⟩ := hv
  have hrt := hid (tlroot_any S tb h [A, B] 2 (w5.alloc (.cells #[.int .i64 2, .int .i64 1, .int .i64 2, .slice ao 1 1] 41)) (by omega) (by simp) (HT4.out.fresh (f5.alloc _)) (hN.fresh (f5'.alloc _)).dig)
  have hv2 : ClipRow w4 w5 (.slice ao 1 1) [A] := ⟨ao, cap, hvr, hvo, rfl⟩
  obtain ⟨ao', cap', e1, hk1⟩ := hv2.at_
  obtain ⟨bb, off, e2, hbb, hcA⟩ := hk1 0 A rfl
  simp only [Value.slice.injEq] at e1
  obtain ⟨e3, -, -⟩ := e1
  rw [← e3] at e2
  subst e2
  have HCA := hid hcA
  clear hv2 hvr hvo hk1 hcA e3
  obtain ⟨RV, hRV⟩ : ∃ RV, hashL (sl [A, B] 0 2) = RV := ⟨_, rfl⟩
  rw [hRV] at hrt HRT
  clear hRV
  go_wp2_with fail
  refine hrt.out.mono ?_
  rintro x w6 ⟨rfl, f6⟩
  have f56 := ((Keeps.refl (fun _ => False) w5).alloc (.cells #[.int .i64 2, .int .i64 1, .int .i64 2, .slice (some ⟨bb, off, none⟩) 1 1] 41)).trans f6
  have f6' := f5'.trans f56
  have hrb := f6.at_ (heap_alloc_new w5 (.cells #[.int .i64 2, .int .i64 1, .int .i64 2, .slice (some ⟨bb, off, none⟩) 1 1] 41)) (fun h => h)
  generalize w5.heap.size = rb at hrb ⊢
  have RB0 := (cell_at hrb 0).trans (show _ = some (Value.int .i64 2) from rfl)
  have RB1 := (cell_at hrb 1).trans (show _ = some (Value.int .i64 1) from rfl)
  have RB2 := (cell_at hrb 2).trans (show _ = some (Value.int .i64 2) from rfl)
  have RB3 := (cell_at hrb 3).trans (show _ = some (Value.slice (some ⟨bb, off, none⟩) 1 1) from rfl)
  have RBL := lt_of_block hrb
  have hA6 := (f56.cell (p := ⟨bb, off + 0, none⟩) hbb (fun h => h)).trans HCA.out
  have hbb6 : bb < w6.heap.size := Nat.lt_of_lt_of_le hbb f56.size
  have HRB := hid hrb
  have HA6 := hid hA6
  clear hrb hA6 hrt HPV hS
  go_wp2_with fail
  refine wp_region_keep 9 (fun w' => Fresh w6 w') (fun _ => True) (fun _ => true) (by kernel_rfl) (by kernel_rfl) ?_
  (try (change wpKeep _ _ _ _ _ _ _ _ _ _ (World.drew _)))
  refine wpKeep_takeT (i := 0) (oi := ⟨some 30, _, _, _, _, _⟩) (v := ?_) rfl (by kernel_rfl) (by kernel_rfl) (by kernel_rfl) (by kernel_rfl) (fun _ _ _ h => h) (Or.inl ⟨by rfl, ?_⟩) (Keeps.refl _ _).drew (fun _ => trivial) ?_
  rotate_left
  · intro w' hT
    have yB0 := (hT.cell (p := ⟨rb, 0, none⟩) RBL (fun h => h)).trans RB0
    have yB1 := (hT.cell (p := ⟨rb, 1, none⟩) RBL (fun h => h)).trans RB1
    have yB2 := (hT.cell (p := ⟨rb, 2, none⟩) RBL (fun h => h)).trans RB2
    have yB3 := (hT.cell (p := ⟨rb, 3, none⟩) RBL (fun h => h)).trans RB3
    go_simp
    (try rw [if_pos (by omega)])
    (try with_reducible rfl)
  rotate_left
  (try simp only [Act.put, List.setIfInBounds_toArray, List.set_cons_zero, List.set_cons_succ])
  refine wpKeep_ready (rs := [1]) (by kernel_rfl) (by simp) ?_
  refine AllKeep.cons (o := ⟨some 31, _, _, _, _, _⟩) rfl (fun K hK => ?_) AllKeep.nil
  go_simp
  go_at_call 22
  with_reducible refine (HLF2.out _).mono ?_
  rintro x w7 ⟨rfl, f7⟩
  have f7 : Fresh w6 w7 := (Keeps.refl (fun _ => False) w6).drew.trans f7
  dsimp only
  refine hK.out _ _ f7 (fun _ => trivial) ?_
  clear hK K
  (try simp only [Act.put, List.setIfInBounds_toArray, List.set_cons_zero, List.set_cons_succ])
  refine wpKeep_ready (rs := [2]) (by kernel_rfl) (by simp) ?_
  refine AllKeep.cons (o := ⟨some 32, _, _, _, _, _⟩) rfl (fun K hK => ?_) AllKeep.nil
  go_simp
  have f8 : Fresh w6 (w7.alloc (.cells #[.string (str B)] 9)) := f7.alloc _
  have hlb := heap_alloc_new w7 (.cells #[.string (str B)] 9)
  refine hK.out _ _ f8 (fun _ => trivial) ?_
  clear hK K
  (try simp only [Act.put, List.setIfInBounds_toArray, List.set_cons_zero, List.set_cons_succ])
  refine wpKeep_ready (rs := [3]) (by kernel_rfl) (by simp) ?_
  refine AllKeep.cons (o := ⟨some 33, _, _, _, _, _⟩) rfl (fun K hK => ?_) AllKeep.nil
  go_simp
  have hB : TextsAt (w7.alloc (.cells #[.string (str B)] 9)) (.slice (some ⟨w7.heap.size, 0, none⟩) 1 1) [B] := ⟨_, 1, rfl, fun k s hs => by
    match k, hs with
    | 0, hs => simp at hs; subst hs; exact ⟨_, 0, rfl, lt_of_block hlb, cell_at hlb 0⟩
    | (k + 1), hs => simp at hs⟩
  have hAt : TextsAt (w7.alloc (.cells #[.string (str B)] 9)) (.slice (some ⟨bb, off, none⟩) 1 1) [A] := ⟨_, 1, rfl, fun k s hs => by
    match k, hs with
    | 0, hs => simp at hs; subst hs; exact ⟨bb, off, rfl, Nat.lt_of_lt_of_le hbb6 f8.size, (f8.cell (p := ⟨bb, off + 0, none⟩) hbb6 (fun h => h)).trans HA6.out⟩
    | (k + 1), hs => simp at hs⟩
  have hpr := proot_any 2 1 2 _ _ [A] [B] _ hAt hB (by simp) (by simp) (hN.fresh (f6'.trans f8)).dig (fun wb q => listBut_at hAt rfl (by omega) wb q) (fun wb q => listBut_at hB rfl (by omega) wb q)
  rw [HRT.out] at hpr
  unfold runV at hpr
  go_at_call 25
  refine hpr.mono ?_
  rintro x w9 ⟨rfl, f9⟩
  have f9 : Fresh w6 w9 := f8.trans f9
  dsimp only
  refine hK.out _ _ f9 (fun _ => trivial) ?_
  clear hK K
  (try simp only [Act.put, List.setIfInBounds_toArray, List.set_cons_zero, List.set_cons_succ])
  refine wpKeep_takeT (i := 4) (oi := ⟨some 29, _, _, _, _, _⟩) (v := ?_) rfl (by kernel_rfl) (by kernel_rfl) (by kernel_rfl) (by kernel_rfl) (fun _ _ _ h => h) (Or.inl ⟨by rfl, ?_⟩) f9 (fun _ => trivial) ?_
  rotate_left
  · intro w' hT
    have yB0 := (hT.cell (p := ⟨rb, 0, none⟩) RBL (fun h => h)).trans RB0
    have yB1 := (hT.cell (p := ⟨rb, 1, none⟩) RBL (fun h => h)).trans RB1
    have yB2 := (hT.cell (p := ⟨rb, 2, none⟩) RBL (fun h => h)).trans RB2
    have yB3 := (hT.cell (p := ⟨rb, 3, none⟩) RBL (fun h => h)).trans RB3
    go_simp
    (try rw [if_pos (by omega)])
    (try with_reducible rfl)
  rotate_left
  (try simp only [Act.put, List.setIfInBounds_toArray, List.set_cons_zero, List.set_cons_succ])
  refine wpKeep_takeT (i := 5) (oi := ⟨some 34, _, _, _, _, _⟩) (v := ?_) rfl (by kernel_rfl) (by kernel_rfl) (by kernel_rfl) (by kernel_rfl) (fun _ _ _ h => h) (Or.inl ⟨by rfl, ?_⟩) f9 (fun _ => trivial) ?_
  rotate_left
  · intro w' hT
    have yB0 := (hT.cell (p := ⟨rb, 0, none⟩) RBL (fun h => h)).trans RB0
    have yB1 := (hT.cell (p := ⟨rb, 1, none⟩) RBL (fun h => h)).trans RB1
    have yB2 := (hT.cell (p := ⟨rb, 2, none⟩) RBL (fun h => h)).trans RB2
    have yB3 := (hT.cell (p := ⟨rb, 3, none⟩) RBL (fun h => h)).trans RB3
    go_simp
    (try rw [if_pos (by omega)])
    (try with_reducible rfl)
  rotate_left
  (try simp only [Act.put, List.setIfInBounds_toArray, List.set_cons_zero, List.set_cons_succ])
  refine wpKeep_takeT (i := 6) (oi := ⟨some 35, _, _, _, _, _⟩) (v := ?_) rfl (by kernel_rfl) (by kernel_rfl) (by kernel_rfl) (by kernel_rfl) (fun _ _ _ h => h) (Or.inl ⟨by rfl, ?_⟩) f9 (fun _ => trivial) ?_
  rotate_left
  · intro w' hT
    have yB0 := (hT.cell (p := ⟨rb, 0, none⟩) RBL (fun h => h)).trans RB0
    have yB1 := (hT.cell (p := ⟨rb, 1, none⟩) RBL (fun h => h)).trans RB1
    have yB2 := (hT.cell (p := ⟨rb, 2, none⟩) RBL (fun h => h)).trans RB2
    have yB3 := (hT.cell (p := ⟨rb, 3, none⟩) RBL (fun h => h)).trans RB3
    go_simp
    (try rw [if_pos (by omega)])
    (try with_reducible rfl)
  rotate_left
  (try simp only [Act.put, List.setIfInBounds_toArray, List.set_cons_zero, List.set_cons_succ])
  refine wpKeep_takeT (i := 7) (oi := ⟨some 6, _, _, _, _, _⟩) (v := ?_) rfl (by kernel_rfl) (by kernel_rfl) (by kernel_rfl) (by kernel_rfl) (fun _ _ _ h => h) (Or.inl ⟨by rfl, ?_⟩) f9 (fun _ => trivial) ?_
  rotate_left
  · intro w' hT
    have yB0 := (hT.cell (p := ⟨rb, 0, none⟩) RBL (fun h => h)).trans RB0
    have yB1 := (hT.cell (p := ⟨rb, 1, none⟩) RBL (fun h => h)).trans RB1
    have yB2 := (hT.cell (p := ⟨rb, 2, none⟩) RBL (fun h => h)).trans RB2
    have yB3 := (hT.cell (p := ⟨rb, 3, none⟩) RBL (fun h => h)).trans RB3
    go_simp
    (try rw [if_pos (by omega)])
    (try with_reducible rfl)
  rotate_left
  (try simp only [Act.put, List.setIfInBounds_toArray, List.set_cons_zero, List.set_cons_succ])
  refine wpKeep_takeT (i := 8) (oi := ⟨some 7, _, _, _, _, _⟩) (v := ?_) rfl (by kernel_rfl) (by kernel_rfl) (by kernel_rfl) (by kernel_rfl) (fun _ _ _ h => h) (Or.inl ⟨by rfl, ?_⟩) f9 (fun _ => trivial) ?_
  rotate_left
  · intro w' hT
    have yB0 := (hT.cell (p := ⟨rb, 0, none⟩) RBL (fun h => h)).trans RB0
    have yB1 := (hT.cell (p := ⟨rb, 1, none⟩) RBL (fun h => h)).trans RB1
    have yB2 := (hT.cell (p := ⟨rb, 2, none⟩) RBL (fun h => h)).trans RB2
    have yB3 := (hT.cell (p := ⟨rb, 3, none⟩) RBL (fun h => h)).trans RB3
    go_simp
    (try rw [if_pos (by omega)])
    (try with_reducible rfl)
  rotate_left
  (try simp only [Act.put, List.setIfInBounds_toArray, List.set_cons_zero, List.set_cons_succ])
  refine wpKeep_done (by kernel_rfl) ?_ _
  have f9' := f6'.trans f9
  clear RB0 RB1 RB2 RB3
  go_wp2_with fail
  refine (newjoiner_any 0 1 w9 (by omega) (by omega)).mono ?_
  rintro x w10 ⟨jb, rfl, J10, hjb, f10⟩
  have f10' := f9'.trans f10
  have hq2 : ∀ W, (binOp .eql 77 (.pointer (some ⟨jb, 0, none⟩)) (.pointer none)).run Tryd.prog W = .ok (.bool false) W := fun W => by kernel_rfl
  have fe := (Keeps.refl (fun _ => False) w10).alloc (.cells #[.string ⟨#[97]⟩] 9)
  have heb := heap_alloc_new w10 (.cells #[.string ⟨#[97]⟩] 9)
  have hjl := lt_of_block J10.1
  have hoff : ListOff (fun q => q = jb ∨ (Value.slice none 0 0).ownBlock = some q) (w10.alloc (.cells #[.string ⟨#[97]⟩] 9)) (.slice (some ⟨w10.heap.size, 0, none⟩) 1 1) [[97]] := ⟨_, 1, rfl, fun k s hs => by
    match k, hs with
    | 0, hs => simp at hs; subst hs; exact ⟨_, 0, rfl, fun e => e.elim (fun e => by omega) (fun e => by cases e), lt_of_block heb, cell_at heb 0⟩
    | (k + 1), hs => simp at hs⟩
  have htk := hid (jtake_any jb 0 1 (.slice none 0 0) _ [] [[97]] _ (J10.fresh fe) (by omega) (by omega) hoff (by simp) (by simp) (fun z hz => by rw [List.mem_singleton.1 hz]; simp))
  clear J10 hoff heb hjl
  go_wp2_with fail
  refine htk.out.mono ?_
  rintro x w11 ⟨rfl, vj, J11, k11, -⟩
  have k11f : Fresh w9 w11 := ((f10.trans fe).trans' k11 (fun q hq e => e.elim (fun e => by omega) (fun e => by cases e)))
  have f11' := f9'.trans k11f
  have hen := hid (jentries_any jb 0 1 vj _ w11 J11 (by simp))
  go_wp2_with fail
  refine hen.out.mono ?_
  rintro x w12 ⟨ve, rfl, hve, f12⟩
  have f12' := f11'.trans f12
  obtain ⟨aoe, cpe, e1, hke⟩ := hve.at_
  obtain ⟨be, oe, e2, hbe, hcE⟩ := hke 0 [97] rfl
  subst e2
  subst e1
  have fx : Fresh w6 w12 := (f9.trans k11f).trans f12
  have hrb12 := fx.at_ HRB.out (fun h => h)
  have RB3 := (cell_at hrb12 3).trans (show _ = some (Value.slice (some ⟨bb, off, none⟩) 1 1) from rfl)
  have RBL := lt_of_block hrb12
  have CA := (fx.cell (p := ⟨bb, off + 0, none⟩) hbb6 (fun h => h)).trans HA6.out
  have bbl : bb < w12.heap.size := Nat.lt_of_lt_of_le hbb6 fx.size
  have CE : w12.cell? ⟨be, oe + 0, none⟩ = some (.string ⟨#[97]⟩) := hcE
  have hdn : ∀ W, Fresh w12 W → Calls Tryd.prog 36 #[.pointer (some ⟨jb, 0, none⟩)] W fun x w' => x = .returned (.bool true) ∧ Fresh W w' := fun W f => (jdone_any jb 0 1 vj _ W ((J11.fresh f12).fresh f) (by omega) (by omega)).mono (by rintro x w' ⟨rfl, q⟩; exact ⟨rfl, q⟩)
  have HDN := hid hdn
  have hs1 : ((str A).toList == (str A).toList) = true := by simp
  have hs2 : ((str RV).toList == (str RV).toList) = true := by simp
  clear hdn hrb12 hcE hke hve hen htk J11 k11 k11f fe f10 f9 f56 f6 f5 f12
  go_wp2_with fail
  refine wp_region_keep 49 (fun w' => Fresh w12 w') (fun _ => True) (fun _ => true) (by kernel_rfl) (by kernel_rfl) ?_
  (try (change wpKeep _ _ _ _ _ _ _ _ _ _ (World.drew _)))
  refine wpKeep_takeT (i := 0) (oi := ⟨some 52, _, _, _, _, _⟩) (v := ?_) rfl (by kernel_rfl) (by kernel_rfl) (by kernel_rfl) (by kernel_rfl) (fun _ _ _ h => h) (Or.inl ⟨by rfl, ?_⟩) (Keeps.refl _ _).drew (fun _ => trivial) ?_
  rotate_left
  · intro w' hT
    have yB3 := (hT.cell (p := ⟨rb, 3, none⟩) RBL (fun h => h)).trans RB3
    have yA : w'.cell? ⟨bb, off, none⟩ = some (.string (str A)) := (hT.cell (p := ⟨bb, off, none⟩) bbl (fun h => h)).trans CA
    have yE : w'.cell? ⟨be, oe, none⟩ = some (.string ⟨#[97]⟩) := (hT.cell (p := ⟨be, oe, none⟩) hbe (fun h => h)).trans CE
    go_simp
    (try rw [if_pos (by omega)])
    (try with_reducible rfl)
  rotate_left
  (try simp only [Act.put, List.setIfInBounds_toArray, List.set_cons_zero, List.set_cons_succ])
  refine wpKeep_takeT (i := 1) (oi := ⟨some 53, _, _, _, _, _⟩) (v := ?_) rfl (by kernel_rfl) (by kernel_rfl) (by kernel_rfl) (by kernel_rfl) (fun _ _ _ h => h) (Or.inl ⟨by rfl, ?_⟩) (Keeps.refl _ _).drew (fun _ => trivial) ?_
  rotate_left
  · intro w' hT
    have yB3 := (hT.cell (p := ⟨rb, 3, none⟩) RBL (fun h => h)).trans RB3
    have yA : w'.cell? ⟨bb, off, none⟩ = some (.string (str A)) := (hT.cell (p := ⟨bb, off, none⟩) bbl (fun h => h)).trans CA
    have yE : w'.cell? ⟨be, oe, none⟩ = some (.string ⟨#[97]⟩) := (hT.cell (p := ⟨be, oe, none⟩) hbe (fun h => h)).trans CE
    go_simp
    (try rw [if_pos (by omega)])
    (try with_reducible rfl)
  rotate_left
  (try simp only [Act.put, List.setIfInBounds_toArray, List.set_cons_zero, List.set_cons_succ])
  refine wpKeep_takeT (i := 2) (oi := ⟨some 54, _, _, _, _, _⟩) (v := ?_) rfl (by kernel_rfl) (by kernel_rfl) (by kernel_rfl) (by kernel_rfl) (fun _ _ _ h => h) (Or.inl ⟨by rfl, ?_⟩) (Keeps.refl _ _).drew (fun _ => trivial) ?_
  rotate_left
  · intro w' hT
    have yB3 := (hT.cell (p := ⟨rb, 3, none⟩) RBL (fun h => h)).trans RB3
    have yA : w'.cell? ⟨bb, off, none⟩ = some (.string (str A)) := (hT.cell (p := ⟨bb, off, none⟩) bbl (fun h => h)).trans CA
    have yE : w'.cell? ⟨be, oe, none⟩ = some (.string ⟨#[97]⟩) := (hT.cell (p := ⟨be, oe, none⟩) hbe (fun h => h)).trans CE
    go_simp
    (try rw [if_pos (by omega)])
    (try with_reducible rfl)
  rotate_left
  (try simp only [Act.put, List.setIfInBounds_toArray, List.set_cons_zero, List.set_cons_succ])
  refine wpKeep_takeT (i := 3) (oi := ⟨some 55, _, _, _, _, _⟩) (v := ?_) rfl (by kernel_rfl) (by kernel_rfl) (by kernel_rfl) (by kernel_rfl) (fun _ _ _ h => h) (Or.inl ⟨by rfl, ?_⟩) (Keeps.refl _ _).drew (fun _ => trivial) ?_
  rotate_left
  · intro w' hT
    have yB3 := (hT.cell (p := ⟨rb, 3, none⟩) RBL (fun h => h)).trans RB3
    have yA : w'.cell? ⟨bb, off, none⟩ = some (.string (str A)) := (hT.cell (p := ⟨bb, off, none⟩) bbl (fun h => h)).trans CA
    have yE : w'.cell? ⟨be, oe, none⟩ = some (.string ⟨#[97]⟩) := (hT.cell (p := ⟨be, oe, none⟩) hbe (fun h => h)).trans CE
    go_simp
    (try rw [if_pos (by omega)])
    (try with_reducible rfl)
  rotate_left
  (try simp only [Act.put, List.setIfInBounds_toArray, List.set_cons_zero, List.set_cons_succ])
  refine wpKeep_takeT (i := 4) (oi := ⟨some 56, _, _, _, _, _⟩) (v := ?_) rfl (by kernel_rfl) (by kernel_rfl) (by kernel_rfl) (by kernel_rfl) (fun _ _ _ h => h) (Or.inl ⟨by rfl, ?_⟩) (Keeps.refl _ _).drew (fun _ => trivial) ?_
  rotate_left
  · intro w' hT
    have yB3 := (hT.cell (p := ⟨rb, 3, none⟩) RBL (fun h => h)).trans RB3
    have yA : w'.cell? ⟨bb, off, none⟩ = some (.string (str A)) := (hT.cell (p := ⟨bb, off, none⟩) bbl (fun h => h)).trans CA
    have yE : w'.cell? ⟨be, oe, none⟩ = some (.string ⟨#[97]⟩) := (hT.cell (p := ⟨be, oe, none⟩) hbe (fun h => h)).trans CE
    go_simp
    (try rw [if_pos (by omega)])
    (try with_reducible rfl)
  rotate_left
  (try simp only [Act.put, List.setIfInBounds_toArray, List.set_cons_zero, List.set_cons_succ])
  refine wpKeep_takeT (i := 5) (oi := ⟨some 57, _, _, _, _, _⟩) (v := ?_) rfl (by kernel_rfl) (by kernel_rfl) (by kernel_rfl) (by kernel_rfl) (fun _ _ _ h => h) (Or.inl ⟨by rfl, ?_⟩) (Keeps.refl _ _).drew (fun _ => trivial) ?_
  rotate_left
  · intro w' hT
    have yB3 := (hT.cell (p := ⟨rb, 3, none⟩) RBL (fun h => h)).trans RB3
    have yA : w'.cell? ⟨bb, off, none⟩ = some (.string (str A)) := (hT.cell (p := ⟨bb, off, none⟩) bbl (fun h => h)).trans CA
    have yE : w'.cell? ⟨be, oe, none⟩ = some (.string ⟨#[97]⟩) := (hT.cell (p := ⟨be, oe, none⟩) hbe (fun h => h)).trans CE
    go_simp
    (try rw [if_pos (by omega)])
    (try with_reducible rfl)
  rotate_left
  (try simp only [Act.put, List.setIfInBounds_toArray, List.set_cons_zero, List.set_cons_succ])
  refine wpKeep_takeT (i := 6) (oi := ⟨some 58, _, _, _, _, _⟩) (v := ?_) rfl (by kernel_rfl) (by kernel_rfl) (by kernel_rfl) (by kernel_rfl) (fun _ _ _ h => h) (Or.inl ⟨by rfl, ?_⟩) (Keeps.refl _ _).drew (fun _ => trivial) ?_
  rotate_left
  · intro w' hT
    have yB3 := (hT.cell (p := ⟨rb, 3, none⟩) RBL (fun h => h)).trans RB3
    have yA : w'.cell? ⟨bb, off, none⟩ = some (.string (str A)) := (hT.cell (p := ⟨bb, off, none⟩) bbl (fun h => h)).trans CA
    have yE : w'.cell? ⟨be, oe, none⟩ = some (.string ⟨#[97]⟩) := (hT.cell (p := ⟨be, oe, none⟩) hbe (fun h => h)).trans CE
    go_simp
    (try rw [if_pos (by omega)])
    (try with_reducible rfl)
  rotate_left
  (try simp only [Act.put, List.setIfInBounds_toArray, List.set_cons_zero, List.set_cons_succ])
  refine wpKeep_takeT (i := 7) (oi := ⟨some 59, _, _, _, _, _⟩) (v := ?_) rfl (by kernel_rfl) (by kernel_rfl) (by kernel_rfl) (by kernel_rfl) (fun _ _ _ h => h) (Or.inl ⟨by rfl, ?_⟩) (Keeps.refl _ _).drew (fun _ => trivial) ?_
  rotate_left
  · intro w' hT
    have yB3 := (hT.cell (p := ⟨rb, 3, none⟩) RBL (fun h => h)).trans RB3
    have yA : w'.cell? ⟨bb, off, none⟩ = some (.string (str A)) := (hT.cell (p := ⟨bb, off, none⟩) bbl (fun h => h)).trans CA
    have yE : w'.cell? ⟨be, oe, none⟩ = some (.string ⟨#[97]⟩) := (hT.cell (p := ⟨be, oe, none⟩) hbe (fun h => h)).trans CE
    go_simp
    (try rw [if_pos (by omega)])
    (try with_reducible rfl)
  rotate_left
  (try simp only [Act.put, List.setIfInBounds_toArray, List.set_cons_zero, List.set_cons_succ])
  refine wpKeep_takeT (i := 8) (oi := ⟨some 60, _, _, _, _, _⟩) (v := ?_) rfl (by kernel_rfl) (by kernel_rfl) (by kernel_rfl) (by kernel_rfl) (fun _ _ _ h => h) (Or.inl ⟨by rfl, ?_⟩) (Keeps.refl _ _).drew (fun _ => trivial) ?_
  rotate_left
  · intro w' hT
    have yB3 := (hT.cell (p := ⟨rb, 3, none⟩) RBL (fun h => h)).trans RB3
    have yA : w'.cell? ⟨bb, off, none⟩ = some (.string (str A)) := (hT.cell (p := ⟨bb, off, none⟩) bbl (fun h => h)).trans CA
    have yE : w'.cell? ⟨be, oe, none⟩ = some (.string ⟨#[97]⟩) := (hT.cell (p := ⟨be, oe, none⟩) hbe (fun h => h)).trans CE
    go_simp
    (try rw [if_pos (by omega)])
    (try with_reducible rfl)
  rotate_left
  (try simp only [Act.put, List.setIfInBounds_toArray, List.set_cons_zero, List.set_cons_succ])
  refine wpKeep_takeT (i := 9) (oi := ⟨some 61, _, _, _, _, _⟩) (v := ?_) rfl (by kernel_rfl) (by kernel_rfl) (by kernel_rfl) (by kernel_rfl) (fun _ _ _ h => h) (Or.inl ⟨by rfl, ?_⟩) (Keeps.refl _ _).drew (fun _ => trivial) ?_
  rotate_left
  · intro w' hT
    have yB3 := (hT.cell (p := ⟨rb, 3, none⟩) RBL (fun h => h)).trans RB3
    have yA : w'.cell? ⟨bb, off, none⟩ = some (.string (str A)) := (hT.cell (p := ⟨bb, off, none⟩) bbl (fun h => h)).trans CA
    have yE : w'.cell? ⟨be, oe, none⟩ = some (.string ⟨#[97]⟩) := (hT.cell (p := ⟨be, oe, none⟩) hbe (fun h => h)).trans CE
    go_simp
    (try rw [if_pos (by omega)])
    (try with_reducible rfl)
  rotate_left
  (try simp only [Act.put, List.setIfInBounds_toArray, List.set_cons_zero, List.set_cons_succ])
  refine wpKeep_takeT (i := 10) (oi := ⟨some 62, _, _, _, _, _⟩) (v := ?_) rfl (by kernel_rfl) (by kernel_rfl) (by kernel_rfl) (by kernel_rfl) (fun _ _ _ h => h) (Or.inl ⟨by rfl, ?_⟩) (Keeps.refl _ _).drew (fun _ => trivial) ?_
  rotate_left
  · intro w' hT
    have yB3 := (hT.cell (p := ⟨rb, 3, none⟩) RBL (fun h => h)).trans RB3
    have yA : w'.cell? ⟨bb, off, none⟩ = some (.string (str A)) := (hT.cell (p := ⟨bb, off, none⟩) bbl (fun h => h)).trans CA
    have yE : w'.cell? ⟨be, oe, none⟩ = some (.string ⟨#[97]⟩) := (hT.cell (p := ⟨be, oe, none⟩) hbe (fun h => h)).trans CE
    go_simp
    (try rw [if_pos (by omega)])
    (try with_reducible rfl)
  rotate_left
  (try simp only [Act.put, List.setIfInBounds_toArray, List.set_cons_zero, List.set_cons_succ])
  refine wpKeep_takeT (i := 11) (oi := ⟨some 63, _, _, _, _, _⟩) (v := ?_) rfl (by kernel_rfl) (by kernel_rfl) (by kernel_rfl) (by kernel_rfl) (fun _ _ _ h => h) (Or.inl ⟨by rfl, ?_⟩) (Keeps.refl _ _).drew (fun _ => trivial) ?_
  rotate_left
  · intro w' hT
    have yB3 := (hT.cell (p := ⟨rb, 3, none⟩) RBL (fun h => h)).trans RB3
    have yA : w'.cell? ⟨bb, off, none⟩ = some (.string (str A)) := (hT.cell (p := ⟨bb, off, none⟩) bbl (fun h => h)).trans CA
    have yE : w'.cell? ⟨be, oe, none⟩ = some (.string ⟨#[97]⟩) := (hT.cell (p := ⟨be, oe, none⟩) hbe (fun h => h)).trans CE
    go_simp
    (try rw [if_pos (by omega)])
    (try with_reducible rfl)
  rotate_left
  (try simp only [Act.put, List.setIfInBounds_toArray, List.set_cons_zero, List.set_cons_succ])
  refine wpKeep_takeT (i := 12) (oi := ⟨some 64, _, _, _, _, _⟩) (v := ?_) rfl (by kernel_rfl) (by kernel_rfl) (by kernel_rfl) (by kernel_rfl) (fun _ _ _ h => h) (Or.inl ⟨by rfl, ?_⟩) (Keeps.refl _ _).drew (fun _ => trivial) ?_
  rotate_left
  · intro w' hT
    have yB3 := (hT.cell (p := ⟨rb, 3, none⟩) RBL (fun h => h)).trans RB3
    have yA : w'.cell? ⟨bb, off, none⟩ = some (.string (str A)) := (hT.cell (p := ⟨bb, off, none⟩) bbl (fun h => h)).trans CA
    have yE : w'.cell? ⟨be, oe, none⟩ = some (.string ⟨#[97]⟩) := (hT.cell (p := ⟨be, oe, none⟩) hbe (fun h => h)).trans CE
    go_simp
    (try rw [if_pos (by omega)])
    (try with_reducible rfl)
  rotate_left
  (try simp only [Act.put, List.setIfInBounds_toArray, List.set_cons_zero, List.set_cons_succ])
  refine wpKeep_takeT (i := 13) (oi := ⟨some 65, _, _, _, _, _⟩) (v := ?_) rfl (by kernel_rfl) (by kernel_rfl) (by kernel_rfl) (by kernel_rfl) (fun _ _ _ h => h) (Or.inl ⟨by rfl, ?_⟩) (Keeps.refl _ _).drew (fun _ => trivial) ?_
  rotate_left
  · intro w' hT
    have yB3 := (hT.cell (p := ⟨rb, 3, none⟩) RBL (fun h => h)).trans RB3
    have yA : w'.cell? ⟨bb, off, none⟩ = some (.string (str A)) := (hT.cell (p := ⟨bb, off, none⟩) bbl (fun h => h)).trans CA
    have yE : w'.cell? ⟨be, oe, none⟩ = some (.string ⟨#[97]⟩) := (hT.cell (p := ⟨be, oe, none⟩) hbe (fun h => h)).trans CE
    go_simp
    (try rw [if_pos (by omega)])
    (try with_reducible rfl)
  rotate_left
  (try simp only [Act.put, List.setIfInBounds_toArray, List.set_cons_zero, List.set_cons_succ])
  refine wpKeep_takeT (i := 14) (oi := ⟨some 66, _, _, _, _, _⟩) (v := ?_) rfl (by kernel_rfl) (by kernel_rfl) (by kernel_rfl) (by kernel_rfl) (fun _ _ _ h => h) (Or.inl ⟨by rfl, ?_⟩) (Keeps.refl _ _).drew (fun _ => trivial) ?_
  rotate_left
  · intro w' hT
    have yB3 := (hT.cell (p := ⟨rb, 3, none⟩) RBL (fun h => h)).trans RB3
    have yA : w'.cell? ⟨bb, off, none⟩ = some (.string (str A)) := (hT.cell (p := ⟨bb, off, none⟩) bbl (fun h => h)).trans CA
    have yE : w'.cell? ⟨be, oe, none⟩ = some (.string ⟨#[97]⟩) := (hT.cell (p := ⟨be, oe, none⟩) hbe (fun h => h)).trans CE
    go_simp
    (try rw [if_pos (by omega)])
    (try with_reducible rfl)
  rotate_left
  (try simp only [Act.put, List.setIfInBounds_toArray, List.set_cons_zero, List.set_cons_succ])
  refine wpKeep_takeT (i := 15) (oi := ⟨some 67, _, _, _, _, _⟩) (v := ?_) rfl (by kernel_rfl) (by kernel_rfl) (by kernel_rfl) (by kernel_rfl) (fun _ _ _ h => h) (Or.inl ⟨by rfl, ?_⟩) (Keeps.refl _ _).drew (fun _ => trivial) ?_
  rotate_left
  · intro w' hT
    have yB3 := (hT.cell (p := ⟨rb, 3, none⟩) RBL (fun h => h)).trans RB3
    have yA : w'.cell? ⟨bb, off, none⟩ = some (.string (str A)) := (hT.cell (p := ⟨bb, off, none⟩) bbl (fun h => h)).trans CA
    have yE : w'.cell? ⟨be, oe, none⟩ = some (.string ⟨#[97]⟩) := (hT.cell (p := ⟨be, oe, none⟩) hbe (fun h => h)).trans CE
    go_simp
    (try rw [if_pos (by omega)])
    (try with_reducible rfl)
  rotate_left
  (try simp only [Act.put, List.setIfInBounds_toArray, List.set_cons_zero, List.set_cons_succ])
  refine wpKeep_takeT (i := 16) (oi := ⟨some 68, _, _, _, _, _⟩) (v := ?_) rfl (by kernel_rfl) (by kernel_rfl) (by kernel_rfl) (by kernel_rfl) (fun _ _ _ h => h) (Or.inl ⟨by rfl, ?_⟩) (Keeps.refl _ _).drew (fun _ => trivial) ?_
  rotate_left
  · intro w' hT
    have yB3 := (hT.cell (p := ⟨rb, 3, none⟩) RBL (fun h => h)).trans RB3
    have yA : w'.cell? ⟨bb, off, none⟩ = some (.string (str A)) := (hT.cell (p := ⟨bb, off, none⟩) bbl (fun h => h)).trans CA
    have yE : w'.cell? ⟨be, oe, none⟩ = some (.string ⟨#[97]⟩) := (hT.cell (p := ⟨be, oe, none⟩) hbe (fun h => h)).trans CE
    go_simp
    (try rw [if_pos (by omega)])
    (try with_reducible rfl)
  rotate_left
  (try simp only [Act.put, List.setIfInBounds_toArray, List.set_cons_zero, List.set_cons_succ])
  refine wpKeep_takeT (i := 17) (oi := ⟨some 69, _, _, _, _, _⟩) (v := ?_) rfl (by kernel_rfl) (by kernel_rfl) (by kernel_rfl) (by kernel_rfl) (fun _ _ _ h => h) (Or.inl ⟨by rfl, ?_⟩) (Keeps.refl _ _).drew (fun _ => trivial) ?_
  rotate_left
  · intro w' hT
    have yB3 := (hT.cell (p := ⟨rb, 3, none⟩) RBL (fun h => h)).trans RB3
    have yA : w'.cell? ⟨bb, off, none⟩ = some (.string (str A)) := (hT.cell (p := ⟨bb, off, none⟩) bbl (fun h => h)).trans CA
    have yE : w'.cell? ⟨be, oe, none⟩ = some (.string ⟨#[97]⟩) := (hT.cell (p := ⟨be, oe, none⟩) hbe (fun h => h)).trans CE
    go_simp
    (try rw [if_pos (by omega)])
    (try with_reducible rfl)
  rotate_left
  (try simp only [Act.put, List.setIfInBounds_toArray, List.set_cons_zero, List.set_cons_succ])
  refine wpKeep_takeT (i := 18) (oi := ⟨some 70, _, _, _, _, _⟩) (v := ?_) rfl (by kernel_rfl) (by kernel_rfl) (by kernel_rfl) (by kernel_rfl) (fun _ _ _ h => h) (Or.inl ⟨by rfl, ?_⟩) (Keeps.refl _ _).drew (fun _ => trivial) ?_
  rotate_left
  · intro w' hT
    have yB3 := (hT.cell (p := ⟨rb, 3, none⟩) RBL (fun h => h)).trans RB3
    have yA : w'.cell? ⟨bb, off, none⟩ = some (.string (str A)) := (hT.cell (p := ⟨bb, off, none⟩) bbl (fun h => h)).trans CA
    have yE : w'.cell? ⟨be, oe, none⟩ = some (.string ⟨#[97]⟩) := (hT.cell (p := ⟨be, oe, none⟩) hbe (fun h => h)).trans CE
    go_simp
    (try rw [if_pos (by omega)])
    (try with_reducible rfl)
  rotate_left
  (try simp only [Act.put, List.setIfInBounds_toArray, List.set_cons_zero, List.set_cons_succ])
  refine wpKeep_takeT (i := 19) (oi := ⟨some 71, _, _, _, _, _⟩) (v := ?_) rfl (by kernel_rfl) (by kernel_rfl) (by kernel_rfl) (by kernel_rfl) (fun _ _ _ h => h) (Or.inl ⟨by rfl, ?_⟩) (Keeps.refl _ _).drew (fun _ => trivial) ?_
  rotate_left
  · intro w' hT
    have yB3 := (hT.cell (p := ⟨rb, 3, none⟩) RBL (fun h => h)).trans RB3
    have yA : w'.cell? ⟨bb, off, none⟩ = some (.string (str A)) := (hT.cell (p := ⟨bb, off, none⟩) bbl (fun h => h)).trans CA
    have yE : w'.cell? ⟨be, oe, none⟩ = some (.string ⟨#[97]⟩) := (hT.cell (p := ⟨be, oe, none⟩) hbe (fun h => h)).trans CE
    go_simp
    (try rw [if_pos (by omega)])
    (try with_reducible rfl)
  rotate_left
  (try simp only [Act.put, List.setIfInBounds_toArray, List.set_cons_zero, List.set_cons_succ])
  refine wpKeep_takeT (i := 20) (oi := ⟨some 72, _, _, _, _, _⟩) (v := ?_) rfl (by kernel_rfl) (by kernel_rfl) (by kernel_rfl) (by kernel_rfl) (fun _ _ _ h => h) (Or.inl ⟨by rfl, ?_⟩) (Keeps.refl _ _).drew (fun _ => trivial) ?_
  rotate_left
  · intro w' hT
    have yB3 := (hT.cell (p := ⟨rb, 3, none⟩) RBL (fun h => h)).trans RB3
    have yA : w'.cell? ⟨bb, off, none⟩ = some (.string (str A)) := (hT.cell (p := ⟨bb, off, none⟩) bbl (fun h => h)).trans CA
    have yE : w'.cell? ⟨be, oe, none⟩ = some (.string ⟨#[97]⟩) := (hT.cell (p := ⟨be, oe, none⟩) hbe (fun h => h)).trans CE
    go_simp
    (try rw [if_pos (by omega)])
    (try with_reducible rfl)
  rotate_left
  (try simp only [Act.put, List.setIfInBounds_toArray, List.set_cons_zero, List.set_cons_succ])
  refine wpKeep_ready (rs := [21]) (by kernel_rfl) (by simp) ?_
  refine AllKeep.cons (o := ⟨some 73, _, _, _, _, _⟩) rfl (fun K hK => ?_) AllKeep.nil
  go_simp
  go_at_call 22
  with_reducible refine (HLF1.out _).mono ?_
  rintro x wy1 ⟨rfl, fy1⟩
  have fy1 : Fresh w12 wy1 := (Keeps.refl (fun _ => False) w12).drew.trans fy1
  dsimp only
  refine hK.out _ _ fy1 (fun _ => trivial) ?_
  clear hK K
  (try simp only [Act.put, List.setIfInBounds_toArray, List.set_cons_zero, List.set_cons_succ])
  refine wpKeep_takeT (i := 22) (oi := ⟨some 74, _, _, _, _, _⟩) (v := ?_) rfl (by kernel_rfl) (by kernel_rfl) (by kernel_rfl) (by kernel_rfl) (fun _ _ _ h => h) (Or.inl ⟨by rfl, ?_⟩) fy1 (fun _ => trivial) ?_
  rotate_left
  · intro w' hT
    have yB3 := (hT.cell (p := ⟨rb, 3, none⟩) RBL (fun h => h)).trans RB3
    have yA : w'.cell? ⟨bb, off, none⟩ = some (.string (str A)) := (hT.cell (p := ⟨bb, off, none⟩) bbl (fun h => h)).trans CA
    have yE : w'.cell? ⟨be, oe, none⟩ = some (.string ⟨#[97]⟩) := (hT.cell (p := ⟨be, oe, none⟩) hbe (fun h => h)).trans CE
    go_simp
    (try rw [if_pos (by omega)])
    (try with_reducible rfl)
  rotate_left
  (try simp only [Act.put, List.setIfInBounds_toArray, List.set_cons_zero, List.set_cons_succ])
  refine wpKeep_takeT (i := 23) (oi := ⟨some 75, _, _, _, _, _⟩) (v := ?_) rfl (by kernel_rfl) (by kernel_rfl) (by kernel_rfl) (by kernel_rfl) (fun _ _ _ h => h) (Or.inl ⟨by rfl, ?_⟩) fy1 (fun _ => trivial) ?_
  rotate_left
  · intro w' hT
    have yB3 := (hT.cell (p := ⟨rb, 3, none⟩) RBL (fun h => h)).trans RB3
    have yA : w'.cell? ⟨bb, off, none⟩ = some (.string (str A)) := (hT.cell (p := ⟨bb, off, none⟩) bbl (fun h => h)).trans CA
    have yE : w'.cell? ⟨be, oe, none⟩ = some (.string ⟨#[97]⟩) := (hT.cell (p := ⟨be, oe, none⟩) hbe (fun h => h)).trans CE
    go_simp
    (try rw [if_pos (by omega)])
    (try with_reducible rfl)
  rotate_left
  (try simp only [Act.put, List.setIfInBounds_toArray, List.set_cons_zero, List.set_cons_succ])
  refine wpKeep_takeT (i := 24) (oi := ⟨some 76, _, _, _, _, _⟩) (v := ?_) rfl (by kernel_rfl) (by kernel_rfl) (by kernel_rfl) (by kernel_rfl) (fun _ _ _ h => h) (Or.inl ⟨by rfl, ?_⟩) fy1 (fun _ => trivial) ?_
  rotate_left
  · intro w' hT
    have yB3 := (hT.cell (p := ⟨rb, 3, none⟩) RBL (fun h => h)).trans RB3
    have yA : w'.cell? ⟨bb, off, none⟩ = some (.string (str A)) := (hT.cell (p := ⟨bb, off, none⟩) bbl (fun h => h)).trans CA
    have yE : w'.cell? ⟨be, oe, none⟩ = some (.string ⟨#[97]⟩) := (hT.cell (p := ⟨be, oe, none⟩) hbe (fun h => h)).trans CE
    go_simp
    (try rw [if_pos (by omega)])
    (try with_reducible rfl)
  rotate_left
  (try simp only [Act.put, List.setIfInBounds_toArray, List.set_cons_zero, List.set_cons_succ])
  refine wpKeep_takeT (i := 25) (oi := ⟨some 77, _, _, _, _, _⟩) (v := ?_) rfl (by kernel_rfl) (by kernel_rfl) (by kernel_rfl) (by kernel_rfl) (fun _ _ _ h => h) (Or.inl ⟨by rfl, ?_⟩) fy1 (fun _ => trivial) ?_
  rotate_left
  · intro w' hT
    have yB3 := (hT.cell (p := ⟨rb, 3, none⟩) RBL (fun h => h)).trans RB3
    have yA : w'.cell? ⟨bb, off, none⟩ = some (.string (str A)) := (hT.cell (p := ⟨bb, off, none⟩) bbl (fun h => h)).trans CA
    have yE : w'.cell? ⟨be, oe, none⟩ = some (.string ⟨#[97]⟩) := (hT.cell (p := ⟨be, oe, none⟩) hbe (fun h => h)).trans CE
    go_simp
    (try rw [if_pos (by omega)])
    (try with_reducible rfl)
  rotate_left
  (try simp only [Act.put, List.setIfInBounds_toArray, List.set_cons_zero, List.set_cons_succ])
  refine wpKeep_takeT (i := 26) (oi := ⟨some 78, _, _, _, _, _⟩) (v := ?_) rfl (by kernel_rfl) (by kernel_rfl) (by kernel_rfl) (by kernel_rfl) (fun _ _ _ h => h) (Or.inl ⟨by rfl, ?_⟩) fy1 (fun _ => trivial) ?_
  rotate_left
  · intro w' hT
    have yB3 := (hT.cell (p := ⟨rb, 3, none⟩) RBL (fun h => h)).trans RB3
    have yA : w'.cell? ⟨bb, off, none⟩ = some (.string (str A)) := (hT.cell (p := ⟨bb, off, none⟩) bbl (fun h => h)).trans CA
    have yE : w'.cell? ⟨be, oe, none⟩ = some (.string ⟨#[97]⟩) := (hT.cell (p := ⟨be, oe, none⟩) hbe (fun h => h)).trans CE
    go_simp
    (try rw [if_pos (by omega)])
    (try with_reducible rfl)
  rotate_left
  (try simp only [Act.put, List.setIfInBounds_toArray, List.set_cons_zero, List.set_cons_succ])
  refine wpKeep_takeT (i := 27) (oi := ⟨some 79, _, _, _, _, _⟩) (v := ?_) rfl (by kernel_rfl) (by kernel_rfl) (by kernel_rfl) (by kernel_rfl) (fun _ _ _ h => h) (Or.inl ⟨by rfl, ?_⟩) fy1 (fun _ => trivial) ?_
  rotate_left
  · intro w' hT
    have yB3 := (hT.cell (p := ⟨rb, 3, none⟩) RBL (fun h => h)).trans RB3
    have yA : w'.cell? ⟨bb, off, none⟩ = some (.string (str A)) := (hT.cell (p := ⟨bb, off, none⟩) bbl (fun h => h)).trans CA
    have yE : w'.cell? ⟨be, oe, none⟩ = some (.string ⟨#[97]⟩) := (hT.cell (p := ⟨be, oe, none⟩) hbe (fun h => h)).trans CE
    go_simp
    (try rw [if_pos (by omega)])
    (try with_reducible rfl)
  rotate_left
  (try simp only [Act.put, List.setIfInBounds_toArray, List.set_cons_zero, List.set_cons_succ])
  refine wpKeep_takeT (i := 28) (oi := ⟨some 80, _, _, _, _, _⟩) (v := ?_) rfl (by kernel_rfl) (by kernel_rfl) (by kernel_rfl) (by kernel_rfl) (fun _ _ _ h => h) (Or.inl ⟨by rfl, ?_⟩) fy1 (fun _ => trivial) ?_
  rotate_left
  · intro w' hT
    have yB3 := (hT.cell (p := ⟨rb, 3, none⟩) RBL (fun h => h)).trans RB3
    have yA : w'.cell? ⟨bb, off, none⟩ = some (.string (str A)) := (hT.cell (p := ⟨bb, off, none⟩) bbl (fun h => h)).trans CA
    have yE : w'.cell? ⟨be, oe, none⟩ = some (.string ⟨#[97]⟩) := (hT.cell (p := ⟨be, oe, none⟩) hbe (fun h => h)).trans CE
    go_simp
    (try rw [if_pos (by omega)])
    (try with_reducible rfl)
  rotate_left
  (try simp only [Act.put, List.setIfInBounds_toArray, List.set_cons_zero, List.set_cons_succ])
  refine wpKeep_takeT (i := 29) (oi := ⟨some 81, _, _, _, _, _⟩) (v := ?_) rfl (by kernel_rfl) (by kernel_rfl) (by kernel_rfl) (by kernel_rfl) (fun _ _ _ h => h) (Or.inl ⟨by rfl, ?_⟩) fy1 (fun _ => trivial) ?_
  rotate_left
  · intro w' hT
    have yB3 := (hT.cell (p := ⟨rb, 3, none⟩) RBL (fun h => h)).trans RB3
    have yA : w'.cell? ⟨bb, off, none⟩ = some (.string (str A)) := (hT.cell (p := ⟨bb, off, none⟩) bbl (fun h => h)).trans CA
    have yE : w'.cell? ⟨be, oe, none⟩ = some (.string ⟨#[97]⟩) := (hT.cell (p := ⟨be, oe, none⟩) hbe (fun h => h)).trans CE
    go_simp
    (try rw [if_pos (by omega)])
    (try with_reducible rfl)
  rotate_left
  (try simp only [Act.put, List.setIfInBounds_toArray, List.set_cons_zero, List.set_cons_succ])
  refine wpKeep_takeT (i := 30) (oi := ⟨some 82, _, _, _, _, _⟩) (v := ?_) rfl (by kernel_rfl) (by kernel_rfl) (by kernel_rfl) (by kernel_rfl) (fun _ _ _ h => h) (Or.inl ⟨by rfl, ?_⟩) fy1 (fun _ => trivial) ?_
  rotate_left
  · intro w' hT
    have yB3 := (hT.cell (p := ⟨rb, 3, none⟩) RBL (fun h => h)).trans RB3
    have yA : w'.cell? ⟨bb, off, none⟩ = some (.string (str A)) := (hT.cell (p := ⟨bb, off, none⟩) bbl (fun h => h)).trans CA
    have yE : w'.cell? ⟨be, oe, none⟩ = some (.string ⟨#[97]⟩) := (hT.cell (p := ⟨be, oe, none⟩) hbe (fun h => h)).trans CE
    go_simp
    (try rw [if_pos (by omega)])
    (try with_reducible rfl)
  rotate_left
  (try simp only [Act.put, List.setIfInBounds_toArray, List.set_cons_zero, List.set_cons_succ])
  refine wpKeep_takeT (i := 31) (oi := ⟨some 83, _, _, _, _, _⟩) (v := ?_) rfl (by kernel_rfl) (by kernel_rfl) (by kernel_rfl) (by kernel_rfl) (fun _ _ _ h => h) (Or.inl ⟨by rfl, ?_⟩) fy1 (fun _ => trivial) ?_
  rotate_left
  · intro w' hT
    have yB3 := (hT.cell (p := ⟨rb, 3, none⟩) RBL (fun h => h)).trans RB3
    have yA : w'.cell? ⟨bb, off, none⟩ = some (.string (str A)) := (hT.cell (p := ⟨bb, off, none⟩) bbl (fun h => h)).trans CA
    have yE : w'.cell? ⟨be, oe, none⟩ = some (.string ⟨#[97]⟩) := (hT.cell (p := ⟨be, oe, none⟩) hbe (fun h => h)).trans CE
    go_simp
    (try rw [if_pos (by omega)])
    (try with_reducible rfl)
  rotate_left
  (try simp only [Act.put, List.setIfInBounds_toArray, List.set_cons_zero, List.set_cons_succ])
  refine wpKeep_takeT (i := 32) (oi := ⟨some 84, _, _, _, _, _⟩) (v := ?_) rfl (by kernel_rfl) (by kernel_rfl) (by kernel_rfl) (by kernel_rfl) (fun _ _ _ h => h) (Or.inl ⟨by rfl, ?_⟩) fy1 (fun _ => trivial) ?_
  rotate_left
  · intro w' hT
    have yB3 := (hT.cell (p := ⟨rb, 3, none⟩) RBL (fun h => h)).trans RB3
    have yA : w'.cell? ⟨bb, off, none⟩ = some (.string (str A)) := (hT.cell (p := ⟨bb, off, none⟩) bbl (fun h => h)).trans CA
    have yE : w'.cell? ⟨be, oe, none⟩ = some (.string ⟨#[97]⟩) := (hT.cell (p := ⟨be, oe, none⟩) hbe (fun h => h)).trans CE
    go_simp
    (try rw [if_pos (by omega)])
    (try with_reducible rfl)
  rotate_left
  (try simp only [Act.put, List.setIfInBounds_toArray, List.set_cons_zero, List.set_cons_succ])
  refine wpKeep_takeT (i := 33) (oi := ⟨some 85, _, _, _, _, _⟩) (v := ?_) rfl (by kernel_rfl) (by kernel_rfl) (by kernel_rfl) (by kernel_rfl) (fun _ _ _ h => h) (Or.inl ⟨by rfl, ?_⟩) fy1 (fun _ => trivial) ?_
  rotate_left
  · intro w' hT
    have yB3 := (hT.cell (p := ⟨rb, 3, none⟩) RBL (fun h => h)).trans RB3
    have yA : w'.cell? ⟨bb, off, none⟩ = some (.string (str A)) := (hT.cell (p := ⟨bb, off, none⟩) bbl (fun h => h)).trans CA
    have yE : w'.cell? ⟨be, oe, none⟩ = some (.string ⟨#[97]⟩) := (hT.cell (p := ⟨be, oe, none⟩) hbe (fun h => h)).trans CE
    go_simp
    (try rw [if_pos (by omega)])
    (try with_reducible rfl)
  rotate_left
  (try simp only [Act.put, List.setIfInBounds_toArray, List.set_cons_zero, List.set_cons_succ])
  refine wpKeep_takeT (i := 34) (oi := ⟨some 86, _, _, _, _, _⟩) (v := ?_) rfl (by kernel_rfl) (by kernel_rfl) (by kernel_rfl) (by kernel_rfl) (fun _ _ _ h => h) (Or.inl ⟨by rfl, ?_⟩) fy1 (fun _ => trivial) ?_
  rotate_left
  · intro w' hT
    have yB3 := (hT.cell (p := ⟨rb, 3, none⟩) RBL (fun h => h)).trans RB3
    have yA : w'.cell? ⟨bb, off, none⟩ = some (.string (str A)) := (hT.cell (p := ⟨bb, off, none⟩) bbl (fun h => h)).trans CA
    have yE : w'.cell? ⟨be, oe, none⟩ = some (.string ⟨#[97]⟩) := (hT.cell (p := ⟨be, oe, none⟩) hbe (fun h => h)).trans CE
    go_simp
    (try rw [if_pos (by omega)])
    (try with_reducible rfl)
  rotate_left
  (try simp only [Act.put, List.setIfInBounds_toArray, List.set_cons_zero, List.set_cons_succ])
  refine wpKeep_ready (rs := [35]) (by kernel_rfl) (by simp) ?_
  refine AllKeep.cons (o := ⟨some 87, _, _, _, _, _⟩) rfl (fun K hK => ?_) AllKeep.nil
  go_simp
  go_at_call 36
  with_reducible refine (HDN.out _ fy1).mono ?_
  rintro x wy2 ⟨rfl, fy2⟩
  have fy2 : Fresh w12 wy2 := fy1.trans fy2
  dsimp only
  refine hK.out _ _ fy2 (fun _ => trivial) ?_
  clear hK K
  (try simp only [Act.put, List.setIfInBounds_toArray, List.set_cons_zero, List.set_cons_succ])
  refine wpKeep_takeT (i := 36) (oi := ⟨some 88, _, _, _, _, _⟩) (v := ?_) rfl (by kernel_rfl) (by kernel_rfl) (by kernel_rfl) (by kernel_rfl) (fun _ _ _ h => h) (Or.inl ⟨by rfl, ?_⟩) fy2 (fun _ => trivial) ?_
  rotate_left
  · intro w' hT
    have yB3 := (hT.cell (p := ⟨rb, 3, none⟩) RBL (fun h => h)).trans RB3
    have yA : w'.cell? ⟨bb, off, none⟩ = some (.string (str A)) := (hT.cell (p := ⟨bb, off, none⟩) bbl (fun h => h)).trans CA
    have yE : w'.cell? ⟨be, oe, none⟩ = some (.string ⟨#[97]⟩) := (hT.cell (p := ⟨be, oe, none⟩) hbe (fun h => h)).trans CE
    go_simp
    (try rw [if_pos (by omega)])
    (try with_reducible rfl)
  rotate_left
  (try simp only [Act.put, List.setIfInBounds_toArray, List.set_cons_zero, List.set_cons_succ])
  refine wpKeep_takeT (i := 37) (oi := ⟨some 89, _, _, _, _, _⟩) (v := ?_) rfl (by kernel_rfl) (by kernel_rfl) (by kernel_rfl) (by kernel_rfl) (fun _ _ _ h => h) (Or.inl ⟨by rfl, ?_⟩) fy2 (fun _ => trivial) ?_
  rotate_left
  · intro w' hT
    have yB3 := (hT.cell (p := ⟨rb, 3, none⟩) RBL (fun h => h)).trans RB3
    have yA : w'.cell? ⟨bb, off, none⟩ = some (.string (str A)) := (hT.cell (p := ⟨bb, off, none⟩) bbl (fun h => h)).trans CA
    have yE : w'.cell? ⟨be, oe, none⟩ = some (.string ⟨#[97]⟩) := (hT.cell (p := ⟨be, oe, none⟩) hbe (fun h => h)).trans CE
    go_simp
    (try rw [if_pos (by omega)])
    (try with_reducible rfl)
  rotate_left
  (try simp only [Act.put, List.setIfInBounds_toArray, List.set_cons_zero, List.set_cons_succ])
  refine wpKeep_takeT (i := 38) (oi := ⟨some 90, _, _, _, _, _⟩) (v := ?_) rfl (by kernel_rfl) (by kernel_rfl) (by kernel_rfl) (by kernel_rfl) (fun _ _ _ h => h) (Or.inl ⟨by rfl, ?_⟩) fy2 (fun _ => trivial) ?_
  rotate_left
  · intro w' hT
    have yB3 := (hT.cell (p := ⟨rb, 3, none⟩) RBL (fun h => h)).trans RB3
    have yA : w'.cell? ⟨bb, off, none⟩ = some (.string (str A)) := (hT.cell (p := ⟨bb, off, none⟩) bbl (fun h => h)).trans CA
    have yE : w'.cell? ⟨be, oe, none⟩ = some (.string ⟨#[97]⟩) := (hT.cell (p := ⟨be, oe, none⟩) hbe (fun h => h)).trans CE
    go_simp
    (try rw [if_pos (by omega)])
    (try with_reducible rfl)
  rotate_left
  (try simp only [Act.put, List.setIfInBounds_toArray, List.set_cons_zero, List.set_cons_succ])
  refine wpKeep_takeT (i := 39) (oi := ⟨some 91, _, _, _, _, _⟩) (v := ?_) rfl (by kernel_rfl) (by kernel_rfl) (by kernel_rfl) (by kernel_rfl) (fun _ _ _ h => h) (Or.inl ⟨by rfl, ?_⟩) fy2 (fun _ => trivial) ?_
  rotate_left
  · intro w' hT
    have yB3 := (hT.cell (p := ⟨rb, 3, none⟩) RBL (fun h => h)).trans RB3
    have yA : w'.cell? ⟨bb, off, none⟩ = some (.string (str A)) := (hT.cell (p := ⟨bb, off, none⟩) bbl (fun h => h)).trans CA
    have yE : w'.cell? ⟨be, oe, none⟩ = some (.string ⟨#[97]⟩) := (hT.cell (p := ⟨be, oe, none⟩) hbe (fun h => h)).trans CE
    go_simp
    (try rw [if_pos (by omega)])
    (try with_reducible rfl)
  rotate_left
  (try simp only [Act.put, List.setIfInBounds_toArray, List.set_cons_zero, List.set_cons_succ])
  refine wpKeep_takeT (i := 40) (oi := ⟨some 92, _, _, _, _, _⟩) (v := ?_) rfl (by kernel_rfl) (by kernel_rfl) (by kernel_rfl) (by kernel_rfl) (fun _ _ _ h => h) (Or.inl ⟨by rfl, ?_⟩) fy2 (fun _ => trivial) ?_
  rotate_left
  · intro w' hT
    have yB3 := (hT.cell (p := ⟨rb, 3, none⟩) RBL (fun h => h)).trans RB3
    have yA : w'.cell? ⟨bb, off, none⟩ = some (.string (str A)) := (hT.cell (p := ⟨bb, off, none⟩) bbl (fun h => h)).trans CA
    have yE : w'.cell? ⟨be, oe, none⟩ = some (.string ⟨#[97]⟩) := (hT.cell (p := ⟨be, oe, none⟩) hbe (fun h => h)).trans CE
    go_simp
    (try rw [if_pos (by omega)])
    (try with_reducible rfl)
  rotate_left
  (try simp only [Act.put, List.setIfInBounds_toArray, List.set_cons_zero, List.set_cons_succ])
  refine wpKeep_takeT (i := 41) (oi := ⟨some 93, _, _, _, _, _⟩) (v := ?_) rfl (by kernel_rfl) (by kernel_rfl) (by kernel_rfl) (by kernel_rfl) (fun _ _ _ h => h) (Or.inl ⟨by rfl, ?_⟩) fy2 (fun _ => trivial) ?_
  rotate_left
  · intro w' hT
    have yB3 := (hT.cell (p := ⟨rb, 3, none⟩) RBL (fun h => h)).trans RB3
    have yA : w'.cell? ⟨bb, off, none⟩ = some (.string (str A)) := (hT.cell (p := ⟨bb, off, none⟩) bbl (fun h => h)).trans CA
    have yE : w'.cell? ⟨be, oe, none⟩ = some (.string ⟨#[97]⟩) := (hT.cell (p := ⟨be, oe, none⟩) hbe (fun h => h)).trans CE
    go_simp
    (try rw [if_pos (by omega)])
    (try with_reducible rfl)
  rotate_left
  (try simp only [Act.put, List.setIfInBounds_toArray, List.set_cons_zero, List.set_cons_succ])
  refine wpKeep_takeT (i := 42) (oi := ⟨some 94, _, _, _, _, _⟩) (v := ?_) rfl (by kernel_rfl) (by kernel_rfl) (by kernel_rfl) (by kernel_rfl) (fun _ _ _ h => h) (Or.inl ⟨by rfl, ?_⟩) fy2 (fun _ => trivial) ?_
  rotate_left
  · intro w' hT
    have yB3 := (hT.cell (p := ⟨rb, 3, none⟩) RBL (fun h => h)).trans RB3
    have yA : w'.cell? ⟨bb, off, none⟩ = some (.string (str A)) := (hT.cell (p := ⟨bb, off, none⟩) bbl (fun h => h)).trans CA
    have yE : w'.cell? ⟨be, oe, none⟩ = some (.string ⟨#[97]⟩) := (hT.cell (p := ⟨be, oe, none⟩) hbe (fun h => h)).trans CE
    go_simp
    (try rw [if_pos (by omega)])
    (try with_reducible rfl)
  rotate_left
  (try simp only [Act.put, List.setIfInBounds_toArray, List.set_cons_zero, List.set_cons_succ])
  refine wpKeep_takeT (i := 43) (oi := ⟨some 95, _, _, _, _, _⟩) (v := ?_) rfl (by kernel_rfl) (by kernel_rfl) (by kernel_rfl) (by kernel_rfl) (fun _ _ _ h => h) (Or.inl ⟨by rfl, ?_⟩) fy2 (fun _ => trivial) ?_
  rotate_left
  · intro w' hT
    have yB3 := (hT.cell (p := ⟨rb, 3, none⟩) RBL (fun h => h)).trans RB3
    have yA : w'.cell? ⟨bb, off, none⟩ = some (.string (str A)) := (hT.cell (p := ⟨bb, off, none⟩) bbl (fun h => h)).trans CA
    have yE : w'.cell? ⟨be, oe, none⟩ = some (.string ⟨#[97]⟩) := (hT.cell (p := ⟨be, oe, none⟩) hbe (fun h => h)).trans CE
    go_simp
    (try rw [if_pos (by omega)])
    (try with_reducible rfl)
  rotate_left
  (try simp only [Act.put, List.setIfInBounds_toArray, List.set_cons_zero, List.set_cons_succ])
  refine wpKeep_takeT (i := 44) (oi := ⟨some 96, _, _, _, _, _⟩) (v := ?_) rfl (by kernel_rfl) (by kernel_rfl) (by kernel_rfl) (by kernel_rfl) (fun _ _ _ h => h) (Or.inl ⟨by rfl, ?_⟩) fy2 (fun _ => trivial) ?_
  rotate_left
  · intro w' hT
    have yB3 := (hT.cell (p := ⟨rb, 3, none⟩) RBL (fun h => h)).trans RB3
    have yA : w'.cell? ⟨bb, off, none⟩ = some (.string (str A)) := (hT.cell (p := ⟨bb, off, none⟩) bbl (fun h => h)).trans CA
    have yE : w'.cell? ⟨be, oe, none⟩ = some (.string ⟨#[97]⟩) := (hT.cell (p := ⟨be, oe, none⟩) hbe (fun h => h)).trans CE
    go_simp
    (try rw [if_pos (by omega)])
    (try with_reducible rfl)
  rotate_left
  (try simp only [Act.put, List.setIfInBounds_toArray, List.set_cons_zero, List.set_cons_succ])
  refine wpKeep_takeT (i := 45) (oi := ⟨some 97, _, _, _, _, _⟩) (v := ?_) rfl (by kernel_rfl) (by kernel_rfl) (by kernel_rfl) (by kernel_rfl) (fun _ _ _ h => h) (Or.inl ⟨by rfl, ?_⟩) fy2 (fun _ => trivial) ?_
  rotate_left
  · intro w' hT
    have yB3 := (hT.cell (p := ⟨rb, 3, none⟩) RBL (fun h => h)).trans RB3
    have yA : w'.cell? ⟨bb, off, none⟩ = some (.string (str A)) := (hT.cell (p := ⟨bb, off, none⟩) bbl (fun h => h)).trans CA
    have yE : w'.cell? ⟨be, oe, none⟩ = some (.string ⟨#[97]⟩) := (hT.cell (p := ⟨be, oe, none⟩) hbe (fun h => h)).trans CE
    go_simp
    (try rw [if_pos (by omega)])
    (try with_reducible rfl)
  rotate_left
  (try simp only [Act.put, List.setIfInBounds_toArray, List.set_cons_zero, List.set_cons_succ])
  refine wpKeep_takeT (i := 46) (oi := ⟨some 98, _, _, _, _, _⟩) (v := ?_) rfl (by kernel_rfl) (by kernel_rfl) (by kernel_rfl) (by kernel_rfl) (fun _ _ _ h => h) (Or.inl ⟨by rfl, ?_⟩) fy2 (fun _ => trivial) ?_
  rotate_left
  · intro w' hT
    have yB3 := (hT.cell (p := ⟨rb, 3, none⟩) RBL (fun h => h)).trans RB3
    have yA : w'.cell? ⟨bb, off, none⟩ = some (.string (str A)) := (hT.cell (p := ⟨bb, off, none⟩) bbl (fun h => h)).trans CA
    have yE : w'.cell? ⟨be, oe, none⟩ = some (.string ⟨#[97]⟩) := (hT.cell (p := ⟨be, oe, none⟩) hbe (fun h => h)).trans CE
    go_simp
    (try rw [if_pos (by omega)])
    (try with_reducible rfl)
  rotate_left
  (try simp only [Act.put, List.setIfInBounds_toArray, List.set_cons_zero, List.set_cons_succ])
  refine wpKeep_takeT (i := 47) (oi := ⟨some 99, _, _, _, _, _⟩) (v := ?_) rfl (by kernel_rfl) (by kernel_rfl) (by kernel_rfl) (by kernel_rfl) (fun _ _ _ h => h) (Or.inl ⟨by rfl, ?_⟩) fy2 (fun _ => trivial) ?_
  rotate_left
  · intro w' hT
    have yB3 := (hT.cell (p := ⟨rb, 3, none⟩) RBL (fun h => h)).trans RB3
    have yA : w'.cell? ⟨bb, off, none⟩ = some (.string (str A)) := (hT.cell (p := ⟨bb, off, none⟩) bbl (fun h => h)).trans CA
    have yE : w'.cell? ⟨be, oe, none⟩ = some (.string ⟨#[97]⟩) := (hT.cell (p := ⟨be, oe, none⟩) hbe (fun h => h)).trans CE
    go_simp
    (try rw [if_pos (by omega)])
    (try with_reducible rfl)
  rotate_left
  (try simp only [Act.put, List.setIfInBounds_toArray, List.set_cons_zero, List.set_cons_succ])
  refine wpKeep_takeT (i := 48) (oi := ⟨some 0, _, _, _, _, _⟩) (v := ?_) rfl (by kernel_rfl) (by kernel_rfl) (by kernel_rfl) (by kernel_rfl) (fun _ _ _ h => h) (Or.inl ⟨by rfl, ?_⟩) fy2 (fun _ => trivial) ?_
  rotate_left
  · intro w' hT
    have yB3 := (hT.cell (p := ⟨rb, 3, none⟩) RBL (fun h => h)).trans RB3
    have yA : w'.cell? ⟨bb, off, none⟩ = some (.string (str A)) := (hT.cell (p := ⟨bb, off, none⟩) bbl (fun h => h)).trans CA
    have yE : w'.cell? ⟨be, oe, none⟩ = some (.string ⟨#[97]⟩) := (hT.cell (p := ⟨be, oe, none⟩) hbe (fun h => h)).trans CE
    go_simp
    (try rw [if_pos (by omega)])
    (try with_reducible rfl)
  rotate_left
  (try simp only [Act.put, List.setIfInBounds_toArray, List.set_cons_zero])
  refine wpKeep_done (by kernel_rfl) ?_ _
  go_wp2_with fail
  go_ret
  exact ⟨rfl, f12'.trans fy2⟩
end Go.Proofs.YtgikabafaocemaaDoor
