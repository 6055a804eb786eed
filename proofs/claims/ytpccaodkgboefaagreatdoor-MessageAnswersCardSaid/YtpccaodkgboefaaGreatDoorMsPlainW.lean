/-
  Package message: plain.
-/
import Derived.Test.YtpccaodkgboefaaGreatDoorMMsB
import Derived.Deep.CutBlock
import Derived.Deep.DeepCutAuto
namespace Go.Proofs.YtpccaodkgboefaaGreatDoor
open Go.RowKit

theorem plainAll_cons (x : Req) (r : List Req) : plainAll (x :: r) = (plainOf x && plainAll r) := by rw [plainAll]
theorem ne_dec (x : Int) : decide (x ≠ 0) = (x != 0) := by
  by_cases h : x = 0
  · subst h; rfl
  · rw [decide_eq_true h, bne_iff_ne.2 h]
theorem whichKinds (k : Int) : whichOf k = ⟨false, false, false, false, true, false⟩ ∨ whichOf k = ⟨true, true, true, false, false, false⟩ ∨ whichOf k = ⟨true, false, true, false, false, false⟩ ∨ whichOf k = ⟨true, false, false, false, false, false⟩ ∨
    whichOf k = ⟨false, false, true, true, false, false⟩ ∨ whichOf k = ⟨false, false, true, false, false, false⟩ ∨ whichOf k = ⟨false, false, false, true, false, false⟩ ∨ whichOf k = ⟨false, false, false, false, false, true⟩ ∨ whichOf k = ⟨false, false, false, false, false, false⟩ := by
  by_cases h : 1 ≤ k ∧ k ≤ 12
  · have h' : k = 1 ∨ k = 2 ∨ k = 3 ∨ k = 4 ∨ k = 5 ∨ k = 6 ∨ k = 7 ∨ k = 8 ∨ k = 9 ∨ k = 10 ∨ k = 11 ∨ k = 12 := by omega
    rcases h' with rfl | rfl | rfl | rfl | rfl | rfl | rfl | rfl | rfl | rfl | rfl | rfl <;> simp [whichOf]
  · have hw : whichOf k = ⟨false, false, false, false, false, false⟩ := by
      unfold whichOf
      simp only [Has.mk.injEq, decide_eq_false_iff_not]
      omega
    simp [hw]

set_option maxRecDepth 100000 in
set_option maxHeartbeats 20000000 in
theorem plain_any (n : Nat) : ∀ (R : Req), SizeOf.sizeOf R ≤ n → ∀ (B : Nat → Prop) (v : Value) (w : World), ReqAt B w R v →
    Calls Tryz.prog 28 #[v] w fun e w' => e = .returned (.bool (plainOf R)) ∧ Fresh w w' := by
  induction n with
  | zero =>
    intro R hR
    exfalso
    cases R
    simp at hR
  | succ n ih =>
    intro R hR B v w hv
    obtain ⟨lv, ev, ao, cap, rfl, ⟨hl1, -⟩, ⟨he1, -⟩, hreqs, hal⟩ := hv.parts
    obtain ⟨al, cl, rfl, -⟩ := hl1.ints_
    obtain ⟨ae, ce, rfl, -⟩ := he1.texts
    have hpo := plainOf_eq R
    have hsp0 : spareOf R = ((!(whichOf R.kind).a && (R.a != 0)) || (!(whichOf R.kind).b && (R.b != 0)) || (!(whichOf R.kind).size && (R.size != 0)) || (!(whichOf R.kind).list && decide (0 < R.list.length)) || (!(whichOf R.kind).entries && decide (0 < R.entries.length)) || (!(whichOf R.kind).asks && decide (0 < R.asks.length))) := by
      unfold spareOf
      rw [ne_dec R.a, ne_dec R.b, ne_dec R.size]
    obtain ⟨sp, hsp⟩ : ∃ sp, spareOf R = sp := ⟨_, rfl⟩
    rw [hsp] at hpo hsp0
    obtain ⟨rk, hrk⟩ : ∃ x, R.kind = x := ⟨_, rfl⟩
    obtain ⟨ra, hra⟩ : ∃ x, R.a = x := ⟨_, rfl⟩
    obtain ⟨rb, hrb⟩ : ∃ x, R.b = x := ⟨_, rfl⟩
    obtain ⟨rs, hrs⟩ : ∃ x, R.size = x := ⟨_, rfl⟩
    obtain ⟨nl, hnl⟩ : ∃ x, R.list.length = x := ⟨_, rfl⟩
    obtain ⟨ne, hne⟩ : ∃ x, R.entries.length = x := ⟨_, rfl⟩
    obtain ⟨A, hA⟩ : ∃ x, R.asks = x := ⟨_, rfl⟩
    obtain ⟨po, hpo2⟩ : ∃ po, plainOf R = po := ⟨_, rfl⟩
    have hmem : ∀ x ∈ A, SizeOf.sizeOf x ≤ n := fun x hx => by have := Req.lt_of_mem (R := R) (by rw [hA]; exact hx); omega
    rw [hA] at hsp0 hreqs hal hpo
    rw [hpo2] at hpo
    rw [hrk, hra, hrb, hrs, hnl, hne] at hsp0
    rw [hrk, hra, hrb, hrs, hnl, hne, hA, hpo2]
    obtain ⟨na, hna⟩ : ∃ x, A.length = x := ⟨_, rfl⟩
    rw [hna] at hsp0 hal
    rw [hna]
    have HSP := hid hsp0
    have HPO := hid hpo
    have HMEM := hid hmem
    have HNA := hid hna
    clear hsp hsp0 hpo hpo2 hrk hra hrb hrs hnl hne hA hmem hna hR
    have hbox := heap_alloc_new w (.cells #[.int .i64 rk, .int .i64 ra, .int .i64 rb, .int .i64 rs, .slice al nl cl, .slice ae ne ce, .slice ao na cap] 26)
    have f0 : Fresh w (w.alloc (.cells #[.int .i64 rk, .int .i64 ra, .int .i64 rb, .int .i64 rs, .slice al nl cl, .slice ae ne ce, .slice ao na cap] 26)) := (Keeps.refl _ _).alloc _
    obtain ⟨w1, hw1⟩ : ∃ w1, w.alloc (.cells #[.int .i64 rk, .int .i64 ra, .int .i64 rb, .int .i64 rs, .slice al nl cl, .slice ae ne ce, .slice ao na cap] 26) = w1 := ⟨_, rfl⟩
    obtain ⟨bx, hbx⟩ : ∃ bx, w.heap.size = bx := ⟨_, rfl⟩
    rw [hw1, hbx] at hbox
    rw [hw1] at f0
    have x0 := cell_at hbox 0
    simp at x0
    have HBOX := hid hbox
    have hrq0 : ReqsAt B w1 A ao 0 := ReqsAt.keeps f0 (fun _ h => h.elim) _ _ _ hreqs
    have HRQ0 := hid hrq0
    clear hbox hl1 he1 hv hreqs hrq0
    go_enter Tryz.func28, Tryz.ntmps28
    go_wp2_with fail
    refine (which_any rk w1).mono ?_
    rintro e w2 ⟨rfl, f2⟩
    clear x0 hw1 hbx
    obtain ⟨Ha, hH⟩ : ∃ Ha, whichOf rk = Ha := ⟨_, rfl⟩
    rw [hH]
    unfold hasV
    have g3 : Fresh w2 (w2.alloc (.cells #[.bool Ha.a, .bool Ha.b, .bool Ha.size, .bool Ha.list, .bool Ha.entries, .bool Ha.asks] 94)) := (Keeps.refl _ _).alloc _
    have hb3 := (f2.trans g3).at_ HBOX.out (fun h => h)
    have x1 := cell_at hb3 1
    have x2 := cell_at hb3 2
    have x3 := cell_at hb3 3
    have x4 := cell_at hb3 4
    have x5 := cell_at hb3 5
    have x6 := cell_at hb3 6
    simp at x1 x2 x3 x4 x5 x6
    have F3 := f0.trans (f2.trans g3)
    have hrq3 := ReqsAt.keeps (f2.trans g3) (fun _ h => h.elim) _ _ _ HRQ0.out
    have HRQ3 := hid hrq3
    have HB3 := hid hb3
    clear f2 g3 hb3 hrq3 HBOX HRQ0
    go_upto_region 2 with fail
    go_cut [69] (fun s69 wx => s69 = .bool sp ∧ wx = w2.alloc (.cells #[.bool Ha.a, .bool Ha.b, .bool Ha.size, .bool Ha.list, .bool Ha.entries, .bool Ha.asks] 94))
    case first =>
      have hk := whichKinds rk
      have hsp2 := HSP.out
      rw [hH] at hk hsp2
      have HSP2 := hid hsp2
      clear hH hsp2 HSP
      rcases hk with rfl | rfl | rfl | rfl | rfl | rfl | rfl | rfl | rfl
      · dsimp only at *
        cases q_a : (ra != 0) with
        | true =>
          go_wp2_with fail
          go_meet
          refine ⟨?_, rfl⟩
          rw [HSP2.out]
          simp [*]
        | false =>
          cases q_b : (rb != 0) with
          | true =>
            go_wp2_with fail
            go_meet
            refine ⟨?_, rfl⟩
            rw [HSP2.out]
            simp [*]
          | false =>
            cases q_size : (rs != 0) with
            | true =>
              go_wp2_with fail
              go_meet
              refine ⟨?_, rfl⟩
              rw [HSP2.out]
              simp [*]
            | false =>
              rcases nl with _ | nl
              rotate_left
              · go_wp2_with fail
                go_meet
                refine ⟨?_, rfl⟩
                rw [HSP2.out]
                simp [*]
              · rcases na with _ | na
                rotate_left
                · go_wp2_with fail
                  go_meet
                  refine ⟨?_, rfl⟩
                  rw [HSP2.out]
                  simp [*]
                · go_wp2_with fail
                  go_meet
                  refine ⟨?_, rfl⟩
                  rw [HSP2.out]
                  simp [*]
      · dsimp only at *
        rcases nl with _ | nl
        rotate_left
        · go_wp2_with fail
          go_meet
          refine ⟨?_, rfl⟩
          rw [HSP2.out]
          simp [*]
        · rcases ne with _ | ne
          rotate_left
          · go_wp2_with fail
            go_meet
            refine ⟨?_, rfl⟩
            rw [HSP2.out]
            simp [*]
          · rcases na with _ | na
            rotate_left
            · go_wp2_with fail
              go_meet
              refine ⟨?_, rfl⟩
              rw [HSP2.out]
              simp [*]
            · go_wp2_with fail
              go_meet
              refine ⟨?_, rfl⟩
              rw [HSP2.out]
              simp [*]
      · dsimp only at *
        cases q_b : (rb != 0) with
        | true =>
          go_wp2_with fail
          go_meet
          refine ⟨?_, rfl⟩
          rw [HSP2.out]
          simp [*]
        | false =>
          rcases nl with _ | nl
          rotate_left
          · go_wp2_with fail
            go_meet
            refine ⟨?_, rfl⟩
            rw [HSP2.out]
            simp [*]
          · rcases ne with _ | ne
            rotate_left
            · go_wp2_with fail
              go_meet
              refine ⟨?_, rfl⟩
              rw [HSP2.out]
              simp [*]
            · rcases na with _ | na
              rotate_left
              · go_wp2_with fail
                go_meet
                refine ⟨?_, rfl⟩
                rw [HSP2.out]
                simp [*]
              · go_wp2_with fail
                go_meet
                refine ⟨?_, rfl⟩
                rw [HSP2.out]
                simp [*]
      · dsimp only at *
        cases q_b : (rb != 0) with
        | true =>
          go_wp2_with fail
          go_meet
          refine ⟨?_, rfl⟩
          rw [HSP2.out]
          simp [*]
        | false =>
          cases q_size : (rs != 0) with
          | true =>
            go_wp2_with fail
            go_meet
            refine ⟨?_, rfl⟩
            rw [HSP2.out]
            simp [*]
          | false =>
            rcases nl with _ | nl
            rotate_left
            · go_wp2_with fail
              go_meet
              refine ⟨?_, rfl⟩
              rw [HSP2.out]
              simp [*]
            · rcases ne with _ | ne
              rotate_left
              · go_wp2_with fail
                go_meet
                refine ⟨?_, rfl⟩
                rw [HSP2.out]
                simp [*]
              · rcases na with _ | na
                rotate_left
                · go_wp2_with fail
                  go_meet
                  refine ⟨?_, rfl⟩
                  rw [HSP2.out]
                  simp [*]
                · go_wp2_with fail
                  go_meet
                  refine ⟨?_, rfl⟩
                  rw [HSP2.out]
                  simp [*]
      · dsimp only at *
        cases q_a : (ra != 0) with
        | true =>
          go_wp2_with fail
          go_meet
          refine ⟨?_, rfl⟩
          rw [HSP2.out]
          simp [*]
        | false =>
          cases q_b : (rb != 0) with
          | true =>
            go_wp2_with fail
            go_meet
            refine ⟨?_, rfl⟩
            rw [HSP2.out]
            simp [*]
          | false =>
            rcases ne with _ | ne
            rotate_left
            · go_wp2_with fail
              go_meet
              refine ⟨?_, rfl⟩
              rw [HSP2.out]
              simp [*]
            · rcases na with _ | na
              rotate_left
              · go_wp2_with fail
                go_meet
                refine ⟨?_, rfl⟩
                rw [HSP2.out]
                simp [*]
              · go_wp2_with fail
                go_meet
                refine ⟨?_, rfl⟩
                rw [HSP2.out]
                simp [*]
      · dsimp only at *
        cases q_a : (ra != 0) with
        | true =>
          go_wp2_with fail
          go_meet
          refine ⟨?_, rfl⟩
          rw [HSP2.out]
          simp [*]
        | false =>
          cases q_b : (rb != 0) with
          | true =>
            go_wp2_with fail
            go_meet
            refine ⟨?_, rfl⟩
            rw [HSP2.out]
            simp [*]
          | false =>
            rcases nl with _ | nl
            rotate_left
            · go_wp2_with fail
              go_meet
              refine ⟨?_, rfl⟩
              rw [HSP2.out]
              simp [*]
            · rcases ne with _ | ne
              rotate_left
              · go_wp2_with fail
                go_meet
                refine ⟨?_, rfl⟩
                rw [HSP2.out]
                simp [*]
              · rcases na with _ | na
                rotate_left
                · go_wp2_with fail
                  go_meet
                  refine ⟨?_, rfl⟩
                  rw [HSP2.out]
                  simp [*]
                · go_wp2_with fail
                  go_meet
                  refine ⟨?_, rfl⟩
                  rw [HSP2.out]
                  simp [*]
      · dsimp only at *
        cases q_a : (ra != 0) with
        | true =>
          go_wp2_with fail
          go_meet
          refine ⟨?_, rfl⟩
          rw [HSP2.out]
          simp [*]
        | false =>
          cases q_b : (rb != 0) with
          | true =>
            go_wp2_with fail
            go_meet
            refine ⟨?_, rfl⟩
            rw [HSP2.out]
            simp [*]
          | false =>
            cases q_size : (rs != 0) with
            | true =>
              go_wp2_with fail
              go_meet
              refine ⟨?_, rfl⟩
              rw [HSP2.out]
              simp [*]
            | false =>
              rcases ne with _ | ne
              rotate_left
              · go_wp2_with fail
                go_meet
                refine ⟨?_, rfl⟩
                rw [HSP2.out]
                simp [*]
              · rcases na with _ | na
                rotate_left
                · go_wp2_with fail
                  go_meet
                  refine ⟨?_, rfl⟩
                  rw [HSP2.out]
                  simp [*]
                · go_wp2_with fail
                  go_meet
                  refine ⟨?_, rfl⟩
                  rw [HSP2.out]
                  simp [*]
      · dsimp only at *
        cases q_a : (ra != 0) with
        | true =>
          go_wp2_with fail
          go_meet
          refine ⟨?_, rfl⟩
          rw [HSP2.out]
          simp [*]
        | false =>
          cases q_b : (rb != 0) with
          | true =>
            go_wp2_with fail
            go_meet
            refine ⟨?_, rfl⟩
            rw [HSP2.out]
            simp [*]
          | false =>
            cases q_size : (rs != 0) with
            | true =>
              go_wp2_with fail
              go_meet
              refine ⟨?_, rfl⟩
              rw [HSP2.out]
              simp [*]
            | false =>
              rcases nl with _ | nl
              rotate_left
              · go_wp2_with fail
                go_meet
                refine ⟨?_, rfl⟩
                rw [HSP2.out]
                simp [*]
              · rcases ne with _ | ne
                rotate_left
                · go_wp2_with fail
                  go_meet
                  refine ⟨?_, rfl⟩
                  rw [HSP2.out]
                  simp [*]
                · go_wp2_with fail
                  go_meet
                  refine ⟨?_, rfl⟩
                  rw [HSP2.out]
                  simp [*]
      · dsimp only at *
        cases q_a : (ra != 0) with
        | true =>
          go_wp2_with fail
          go_meet
          refine ⟨?_, rfl⟩
          rw [HSP2.out]
          simp [*]
        | false =>
          cases q_b : (rb != 0) with
          | true =>
            go_wp2_with fail
            go_meet
            refine ⟨?_, rfl⟩
            rw [HSP2.out]
            simp [*]
          | false =>
            cases q_size : (rs != 0) with
            | true =>
              go_wp2_with fail
              go_meet
              refine ⟨?_, rfl⟩
              rw [HSP2.out]
              simp [*]
            | false =>
              rcases nl with _ | nl
              rotate_left
              · go_wp2_with fail
                go_meet
                refine ⟨?_, rfl⟩
                rw [HSP2.out]
                simp [*]
              · rcases ne with _ | ne
                rotate_left
                · go_wp2_with fail
                  go_meet
                  refine ⟨?_, rfl⟩
                  rw [HSP2.out]
                  simp [*]
                · rcases na with _ | na
                  rotate_left
                  · go_wp2_with fail
                    go_meet
                    refine ⟨?_, rfl⟩
                    rw [HSP2.out]
                    simp [*]
                  · go_wp2_with fail
                    go_meet
                    refine ⟨?_, rfl⟩
                    rw [HSP2.out]
                    simp [*]
    case rest =>
      obtain ⟨rfl, hwc⟩ := hcut
      have HRQ := HRQ3.out
      rw [← hwc] at F3 HRQ x6
      have HRQ := hid HRQ
      clear hwc x1 x2 x3 x4 x5 hH HB3 HRQ3 f0
      cases sp with
      | true =>
        have hfin : po = false := by rw [HPO.out]; rfl
        go_wp2_with fail
        go_ret
        exact ⟨by rw [hfin]; rfl, F3⟩
      | false =>
        have hP2 : po = plainAll A := by rw [HPO.out]; rfl
        have HP2 := hid hP2
        clear hP2 HPO HSP
        go_wp2_with fail
        go_loopw [73] (fun i wr => ∃ m : Nat, i = .int .i64 (m : Int) ∧ m ≤ na ∧ Hid (po = plainAll (A.drop m)) ∧ Fresh wc wr) (fun i _ => na - (intOf i).toNat)
        case atStart => exact ⟨0, rfl, by omega, HP2, Keeps.refl _ _⟩
        case round =>
          obtain ⟨m, rfl, hm, HP, fr⟩ := hrel
          by_cases hlt : m < na
          · obtain ⟨x, hx⟩ : ∃ x, A[m]? = some x := ⟨A[m]'(by rw [HNA.out]; exact hlt), by simp⟩
            have hreq := (ReqsAt.keeps fr (fun _ h => h.elim) A ao 0 HRQ.out).get hx
            obtain ⟨bb, off, c0, c1, c2, c3, c4, c5, c6, rfl, hb1, hb2, y0, y1, y2, y3, y4, y5, y6, hxa⟩ := hreq
            rw [Nat.zero_add] at y0 y1 y2 y3 y4 y5 y6
            obtain ⟨lx, ex, ax, capx, he, ⟨hl1, -⟩, ⟨he1, -⟩, -⟩ := hxa.parts
            obtain ⟨alx, clx, rfl, -⟩ := hl1.ints_
            obtain ⟨aex, cex, rfl, -⟩ := he1.texts
            clear hl1 he1
            simp only [Value.agg.injEq, Array.mk.injEq, List.cons.injEq, and_true] at he
            obtain ⟨rfl, rfl, rfl, rfl, rfl, rfl, rfl⟩ := he
            have hd : A.drop m = x :: A.drop (m + 1) := by
              obtain ⟨hm', rfl⟩ := List.getElem?_eq_some_iff.1 hx
              exact List.drop_eq_getElem_cons hm'
            have hPx := HP.out
            rw [hd, plainAll_cons] at hPx
            have hkb := heap_alloc_new wr (.cells #[.int .i64 x.kind, .int .i64 x.a, .int .i64 x.b, .int .i64 x.size, .slice alx x.list.length clx, .slice aex x.entries.length cex, .slice ax x.asks.length capx] 26)
            have g4 : Fresh wr (wr.alloc (.cells #[.int .i64 x.kind, .int .i64 x.a, .int .i64 x.b, .int .i64 x.size, .slice alx x.list.length clx, .slice aex x.entries.length cex, .slice ax x.asks.length capx] 26)) := (Keeps.refl _ _).alloc _
            have hxc := ih x (HMEM.out x (List.mem_of_getElem? hx)) _ _ _ (hxa.fresh g4)
            have k0 := cell_at hkb 0
            have k1 := cell_at hkb 1
            have k2 := cell_at hkb 2
            have k3 := cell_at hkb 3
            have k4 := cell_at hkb 4
            have k5 := cell_at hkb 5
            have k6 := cell_at hkb 6
            simp at k0 k1 k2 k3 k4 k5 k6
            have fr4 := fr.trans g4
            have HXC := hid hxc
            have HPX := hid hPx
            clear hPx hxa hd hx HP hxc hkb g4
            go_wp2_with fail
            refine HXC.out.mono ?_
            rintro e w5 ⟨rfl, f5⟩
            cases hpx : plainOf x with
            | false =>
              have hfin : po = false := by rw [HPX.out, hpx]; rfl
              go_wp2_with fail
              go_ret
              exact ⟨by rw [hfin]; rfl, F3.trans (fr4.trans f5)⟩
            | true =>
              have hP3 : Hid (po = plainAll (A.drop (m + 1))) := by rw [Hid, HPX.out, hpx]; rfl
              clear HPX hpx k0 k1 k2 k3 k4 k5 k6 y0 y1 y2 y3 y4 y5 y6
              go_wp2_with fail
              go_roundw
              case rel => exact ⟨m + 1, by go_num, by omega, hP3, fr4.trans f5⟩
              case measure => simp [intOf]; omega
          · obtain rfl : m = na := by omega
            have hfin : po = true := by rw [HP.out, List.drop_eq_nil_of_le (by rw [HNA.out]; omega)]; rw [plainAll]
            go_wp2_with fail
            go_ret
            exact ⟨by rw [hfin]; rfl, F3.trans fr⟩
end Go.Proofs.YtpccaodkgboefaaGreatDoor
