/-
  The document's 'right': may a request be?
-/
import Derived.Test.YtpccaodkgboefaaGreatDoorMMda
import Derived.Test.YtpccaodkgboefaaGreatDoorMsSame
import Derived.Deep.CutBlock
import Derived.Deep.DeepCutAuto
namespace Go.Proofs.YtpccaodkgboefaaGreatDoor
open Go.RowKit

mutual
def RightP : Req → Prop
  | .mk k a b s l e qs => wordOf k ≠ [] ∧ spareOf (.mk k a b s l e qs) = false ∧ (k = 1 → textsP e 1 32 4096) ∧ (k = 6 → risesP l 256) ∧ (k = 7 → risesP l 64) ∧ (sizeP a ∧ sizeP b ∧ sizeP s) ∧ (k = 12 → 1 ≤ qs.length ∧ qs.length ≤ 64 ∧ RightAll qs)
def RightAll : List Req → Prop
  | [] => True
  | x :: r => (RightP x ∧ 3 ≤ x.kind ∧ x.kind ≤ 7) ∧ RightAll r
end
theorem RightP_eq (R : Req) : RightP R ↔ wordOf R.kind ≠ [] ∧ spareOf R = false ∧ (R.kind = 1 → textsP R.entries 1 32 4096) ∧ (R.kind = 6 → risesP R.list 256) ∧ (R.kind = 7 → risesP R.list 64) ∧ (sizeP R.a ∧ sizeP R.b ∧ sizeP R.size) ∧ (R.kind = 12 → 1 ≤ R.asks.length ∧ R.asks.length ≤ 64 ∧ RightAll R.asks) := by
  cases R
  rw [RightP]
  rfl
theorem RightAll_iff : ∀ (l : List Req), RightAll l ↔ ∀ (i : Nat) (x : Req), l[i]? = some x → RightP x ∧ 3 ≤ x.kind ∧ x.kind ≤ 7
  | [] => by rw [RightAll]; simp
  | y :: r => by
    rw [RightAll, RightAll_iff r]
    constructor
    · rintro ⟨h1, h2⟩ i x hx
      cases i with
      | zero => simp at hx; subst hx; exact h1
      | succ i => exact h2 i x (by simpa using hx)
    · intro h
      exact ⟨h 0 y rfl, fun i x hx => h (i + 1) x (by simpa using hx)⟩
theorem wordFlags (k : Int) : ((wordOf k).contains 101 = true ∧ (wordOf k).contains 105 = false ∧ (wordOf k).contains 104 = false ∧ k = 1) ∨ ((wordOf k).contains 101 = false ∧ (wordOf k).contains 105 = true ∧ (wordOf k).contains 104 = false ∧ k = 6) ∨
    ((wordOf k).contains 101 = false ∧ (wordOf k).contains 105 = false ∧ (wordOf k).contains 104 = true ∧ k = 7) ∨ ((wordOf k).contains 101 = false ∧ (wordOf k).contains 105 = false ∧ (wordOf k).contains 104 = false ∧ k ≠ 1 ∧ k ≠ 6 ∧ k ≠ 7) := by
  by_cases h : 1 ≤ k ∧ k ≤ 12
  · have h' : k = 1 ∨ k = 2 ∨ k = 3 ∨ k = 4 ∨ k = 5 ∨ k = 6 ∨ k = 7 ∨ k = 8 ∨ k = 9 ∨ k = 10 ∨ k = 11 ∨ k = 12 := by omega
    clear h
    rcases h' with rfl | rfl | rfl | rfl | rfl | rfl | rfl | rfl | rfl | rfl | rfl | rfl <;> simp [wordOf]
  · have hw2 : wordOf k = [] := by
      unfold wordOf
      rw [if_neg (by omega), if_neg (by omega), if_neg (by omega), if_neg (by omega), if_neg (by omega), if_neg (by omega), if_neg (by omega), if_neg (by omega), if_neg (by omega)]
    rw [hw2]
    simp
    omega
theorem wordG (k : Int) : (wordOf k == [103]) = decide (k = 12) := by
  by_cases h : 1 ≤ k ∧ k ≤ 12
  · have h' : k = 1 ∨ k = 2 ∨ k = 3 ∨ k = 4 ∨ k = 5 ∨ k = 6 ∨ k = 7 ∨ k = 8 ∨ k = 9 ∨ k = 10 ∨ k = 11 ∨ k = 12 := by omega
    clear h
    rcases h' with rfl | rfl | rfl | rfl | rfl | rfl | rfl | rfl | rfl | rfl | rfl | rfl <;> simp [wordOf]
  · have hw2 : wordOf k = [] := by
      unfold wordOf
      rw [if_neg (by omega), if_neg (by omega), if_neg (by omega), if_neg (by omega), if_neg (by omega), if_neg (by omega), if_neg (by omega), if_neg (by omega), if_neg (by omega)]
    rw [hw2, decide_eq_false (by omega)]
    rfl
theorem wordOf_len (k : Int) : (wordOf k).length ≤ 3 := by
  unfold wordOf
  repeat' split
  all_goals simp

set_option maxRecDepth 100000 in
set_option maxHeartbeats 20000000 in
theorem dright_any (n : Nat) : ∀ (R : Req), SizeOf.sizeOf R ≤ n → Fine R → ∀ (B : Nat → Prop) (v : Value) (w : World), ReqAt B w R v →
    Calls Tryz.prog 34 #[v] w fun e w' => Says (RightP R) e ∧ Fresh w w' := by
  induction n with
  | zero =>
    intro R hR
    exfalso
    cases R
    simp at hR
  | succ n ih =>
    intro R hR hfi B v w hv
    have HV := hid hv
    obtain ⟨lv, ev, ao, cap, rfl, ⟨hl1, -⟩, ⟨he1, -⟩, hreqs, hal⟩ := hv.parts
    have HL := hid hl1
    have HE := hid he1
    have HQ := hid hreqs
    obtain ⟨al, cl, rfl, -⟩ := hl1.ints_
    obtain ⟨ae, ce, rfl, -⟩ := he1.texts
    have hR1 := RightP_eq R
    have hbig := hfi.parts
    have hmem : ∀ x ∈ R.asks, SizeOf.sizeOf x ≤ n := fun x hx => by have := Req.lt_of_mem (R := R) hx; omega
    have HR1 := hid hR1
    have HMEM := hid hmem
    have HBIG := hid hbig
    obtain ⟨wd, hwd⟩ : ∃ wd, wordOf R.kind = wd := ⟨_, rfl⟩
    have hwl : wd.length ≤ 9223372036854775807 := by have := wordOf_len R.kind; rw [hwd] at this; omega
    have hfl := wordFlags R.kind
    have hwg := wordG R.kind
    rw [hwd] at hfl hwg
    have HFL := hid hfl
    have HWD := hid hwd
    have hbox := heap_alloc_new w (.cells #[.int .i64 R.kind, .int .i64 R.a, .int .i64 R.b, .int .i64 R.size, .slice al R.list.length cl, .slice ae R.entries.length ce, .slice ao R.asks.length cap] 26)
    have f0 : Fresh w (w.alloc (.cells #[.int .i64 R.kind, .int .i64 R.a, .int .i64 R.b, .int .i64 R.size, .slice al R.list.length cl, .slice ae R.entries.length ce, .slice ao R.asks.length cap] 26)) := (Keeps.refl _ _).alloc _
    obtain ⟨w1, hw1⟩ : ∃ w1, w.alloc (.cells #[.int .i64 R.kind, .int .i64 R.a, .int .i64 R.b, .int .i64 R.size, .slice al R.list.length cl, .slice ae R.entries.length ce, .slice ao R.asks.length cap] 26) = w1 := ⟨_, rfl⟩
    obtain ⟨bx, hbx⟩ : ∃ bx, w.heap.size = bx := ⟨_, rfl⟩
    rw [hw1, hbx] at hbox
    rw [hw1] at f0
    have x0 := cell_at hbox 0
    have x1 := cell_at hbox 1
    have x2 := cell_at hbox 2
    have x3 := cell_at hbox 3
    have x4 := cell_at hbox 4
    have x5 := cell_at hbox 5
    have x6 := cell_at hbox 6
    simp at x0 x1 x2 x3 x4 x5 x6
    have HBOX := hid hbox
    clear hbox hl1 he1 hv hreqs hR1 hmem hR hfl
    go_enter Tryz.func34, Tryz.ntmps34
    go_wp2_with fail
    refine (dfields_any R.kind w1).mono ?_
    rintro e _ ⟨rfl, rfl⟩
    have hsp := dspare_any R B _ w1 (HV.out.fresh f0)
    rw [hwd] at hsp ⊢
    go_wp2_with fail
    refine hsp.mono ?_
    rintro e w2 ⟨rfl, f2⟩
    have F2 := f0.trans f2
    clear hsp x0 x1 x2 x3 x4 x5 x6
    have hb2 := f2.at_ HBOX.out (fun h => h)
    have x1 := cell_at hb2 1
    have x2 := cell_at hb2 2
    have x3 := cell_at hb2 3
    have x4 := cell_at hb2 4
    have x5 := cell_at hb2 5
    have x6 := cell_at hb2 6
    simp at x1 x2 x3 x4 x5 x6
    have HB2 := hid hb2
    clear hb2 f2 f0 HBOX
    by_cases hnil : wd = []
    · subst hnil
      have hie : (str ([] : List UInt8)).toList.isEmpty = true := by rw [str_toList]; rfl
      clear hwg
      go_wp2_with fail
      go_ret
      exact ⟨Says.no fun h => (HR1.out.1 h).1 HWD.out, F2⟩
    have hie : (str wd).toList.isEmpty = false := by
      rw [str_toList]
      cases wd with
      | nil => exact absurd rfl hnil
      | cons a r => rfl
    obtain ⟨sp, hsp⟩ : ∃ sp, spareOf R = sp := ⟨_, rfl⟩
    rw [hsp]
    have HSP := hid hsp
    clear hsp
    cases sp with
    | true =>
      clear hwg
      go_wp2_with fail
      go_ret
      exact ⟨Says.no (fun h => by have := (HR1.out.1 h).2.1; rw [HSP.out] at this; cases this), F2⟩
    | false =>
    go_wp2_with fail
    refine (dsize_any R.a w2).mono ?_
    rintro e _ ⟨⟨ba, rfl, hba⟩, rfl⟩
    go_wp2_with fail
    refine (dsize_any R.b w2).mono ?_
    rintro e _ ⟨⟨bb, rfl, hbb⟩, rfl⟩
    go_wp2_with fail
    refine (dsize_any R.size w2).mono ?_
    rintro e _ ⟨⟨bs, rfl, hbs⟩, rfl⟩
    go_wp2_with fail
    refine (dtexts_any _ R.entries 1 32 4096 w2 (HE.out.keeps F2 (fun _ _ h => h)) HBIG.out.2.1).mono ?_
    rintro e w3 ⟨⟨be, rfl, hbe⟩, f3⟩
    have F3 := F2.trans f3
    have hb3 := f3.at_ HB2.out (fun h => h)
    clear x1 x2 x3 x4 x5 x6
    have x4 := cell_at hb3 4
    have x6 := cell_at hb3 6
    simp at x4 x6
    go_wp2_with fail
    refine (drises_any _ R.list 256 w3 (HL.out.keeps F3 (fun _ _ h => h)) HBIG.out.1).mono ?_
    rintro e w4 ⟨⟨bi, rfl, hbi⟩, f4⟩
    have F4 := F3.trans f4
    have hb4 := f4.at_ hb3 (fun h => h)
    clear x4 x6
    have x4 := cell_at hb4 4
    have x6 := cell_at hb4 6
    simp at x4 x6
    clear f3 hb3
    go_wp2_with fail
    refine (drises_any _ R.list 64 w4 (HL.out.keeps F4 (fun _ _ h => h)) HBIG.out.1).mono ?_
    rintro e w5 ⟨⟨bh, rfl, hbh⟩, f5⟩
    have F5 := F4.trans f5
    have hb5 := f5.at_ hb4 (fun h => h)
    clear x4 x6
    have x6 := cell_at hb5 6
    simp at x6
    have HB5 := hid hb5
    clear f4 hb4 f5 hb5 F2 F3 F4 HB2
    obtain ⟨he, hhe⟩ : ∃ x, wd.contains 101 = x := ⟨_, rfl⟩
    obtain ⟨hi, hhi⟩ : ∃ x, wd.contains 105 = x := ⟨_, rfl⟩
    obtain ⟨hh, hhh⟩ : ∃ x, wd.contains 104 = x := ⟨_, rfl⟩
    obtain ⟨bad, hbad⟩ : ∃ x, (he && !be || hi && !bi || hh && !bh || !ba || !bb || !bs) = x := ⟨_, rfl⟩
    have HALL : Hid ((ba = true ↔ sizeP R.a) ∧ (bb = true ↔ sizeP R.b) ∧ (bs = true ↔ sizeP R.size) ∧ (be = true ↔ textsP R.entries 1 32 4096) ∧ (bi = true ↔ risesP R.list 256) ∧ (bh = true ↔ risesP R.list 64)) := ⟨hba, hbb, hbs, hbe, hbi, hbh⟩
    have HBAD := hid hbad
    have HWG := hid hwg
    have E101 := hhe
    have E105 := hhi
    have E104 := hhh
    clear hba hbb hbs hbe hbi hbh hbad hwg hhe hhi hhh
    go_upto_region 11 with fail
    go_cut [75] (fun s75 wx => s75 = .bool bad ∧ wx = w5)
    case first =>
      have hfl := HFL.out
      rw [E101, E105, E104] at hfl
      clear x6
      rcases hfl with ⟨rfl, rfl, rfl, -⟩ | ⟨rfl, rfl, rfl, -⟩ | ⟨rfl, rfl, rfl, -⟩ | ⟨rfl, rfl, rfl, -⟩
      · skip
        cases be with
        | false =>
          go_wp2_with fail
          refine (dhas_lit wd 101 101 rfl _ hwl).mono ?_
          rintro e _ ⟨rfl, rfl⟩
          rw [E101]
          go_wp2_with fail
          go_meet
          exact ⟨by rw [← HBAD.out]; simp, rfl⟩
        | true =>
          cases ba with
          | false =>
            go_wp2_with fail
            refine (dhas_lit wd 101 101 rfl _ hwl).mono ?_
            rintro e _ ⟨rfl, rfl⟩
            rw [E101]
            go_wp2_with fail
            refine (dhas_lit wd 105 105 rfl _ hwl).mono ?_
            rintro e _ ⟨rfl, rfl⟩
            rw [E105]
            go_wp2_with fail
            refine (dhas_lit wd 104 104 rfl _ hwl).mono ?_
            rintro e _ ⟨rfl, rfl⟩
            rw [E104]
            go_wp2_with fail
            go_meet
            exact ⟨by rw [← HBAD.out]; simp, rfl⟩
          | true =>
            cases bb with
            | false =>
              go_wp2_with fail
              refine (dhas_lit wd 101 101 rfl _ hwl).mono ?_
              rintro e _ ⟨rfl, rfl⟩
              rw [E101]
              go_wp2_with fail
              refine (dhas_lit wd 105 105 rfl _ hwl).mono ?_
              rintro e _ ⟨rfl, rfl⟩
              rw [E105]
              go_wp2_with fail
              refine (dhas_lit wd 104 104 rfl _ hwl).mono ?_
              rintro e _ ⟨rfl, rfl⟩
              rw [E104]
              go_wp2_with fail
              go_meet
              exact ⟨by rw [← HBAD.out]; simp, rfl⟩
            | true =>
              cases bs with
              | false =>
                go_wp2_with fail
                refine (dhas_lit wd 101 101 rfl _ hwl).mono ?_
                rintro e _ ⟨rfl, rfl⟩
                rw [E101]
                go_wp2_with fail
                refine (dhas_lit wd 105 105 rfl _ hwl).mono ?_
                rintro e _ ⟨rfl, rfl⟩
                rw [E105]
                go_wp2_with fail
                refine (dhas_lit wd 104 104 rfl _ hwl).mono ?_
                rintro e _ ⟨rfl, rfl⟩
                rw [E104]
                go_wp2_with fail
                go_meet
                exact ⟨by rw [← HBAD.out]; simp, rfl⟩
              | true =>
                go_wp2_with fail
                refine (dhas_lit wd 101 101 rfl _ hwl).mono ?_
                rintro e _ ⟨rfl, rfl⟩
                rw [E101]
                go_wp2_with fail
                refine (dhas_lit wd 105 105 rfl _ hwl).mono ?_
                rintro e _ ⟨rfl, rfl⟩
                rw [E105]
                go_wp2_with fail
                refine (dhas_lit wd 104 104 rfl _ hwl).mono ?_
                rintro e _ ⟨rfl, rfl⟩
                rw [E104]
                go_wp2_with fail
                go_meet
                exact ⟨by rw [← HBAD.out]; simp, rfl⟩
      · skip
        cases bi with
        | false =>
          go_wp2_with fail
          refine (dhas_lit wd 101 101 rfl _ hwl).mono ?_
          rintro e _ ⟨rfl, rfl⟩
          rw [E101]
          go_wp2_with fail
          refine (dhas_lit wd 105 105 rfl _ hwl).mono ?_
          rintro e _ ⟨rfl, rfl⟩
          rw [E105]
          go_wp2_with fail
          go_meet
          exact ⟨by rw [← HBAD.out]; simp, rfl⟩
        | true =>
          cases ba with
          | false =>
            go_wp2_with fail
            refine (dhas_lit wd 101 101 rfl _ hwl).mono ?_
            rintro e _ ⟨rfl, rfl⟩
            rw [E101]
            go_wp2_with fail
            refine (dhas_lit wd 105 105 rfl _ hwl).mono ?_
            rintro e _ ⟨rfl, rfl⟩
            rw [E105]
            go_wp2_with fail
            refine (dhas_lit wd 104 104 rfl _ hwl).mono ?_
            rintro e _ ⟨rfl, rfl⟩
            rw [E104]
            go_wp2_with fail
            go_meet
            exact ⟨by rw [← HBAD.out]; simp, rfl⟩
          | true =>
            cases bb with
            | false =>
              go_wp2_with fail
              refine (dhas_lit wd 101 101 rfl _ hwl).mono ?_
              rintro e _ ⟨rfl, rfl⟩
              rw [E101]
              go_wp2_with fail
              refine (dhas_lit wd 105 105 rfl _ hwl).mono ?_
              rintro e _ ⟨rfl, rfl⟩
              rw [E105]
              go_wp2_with fail
              refine (dhas_lit wd 104 104 rfl _ hwl).mono ?_
              rintro e _ ⟨rfl, rfl⟩
              rw [E104]
              go_wp2_with fail
              go_meet
              exact ⟨by rw [← HBAD.out]; simp, rfl⟩
            | true =>
              cases bs with
              | false =>
                go_wp2_with fail
                refine (dhas_lit wd 101 101 rfl _ hwl).mono ?_
                rintro e _ ⟨rfl, rfl⟩
                rw [E101]
                go_wp2_with fail
                refine (dhas_lit wd 105 105 rfl _ hwl).mono ?_
                rintro e _ ⟨rfl, rfl⟩
                rw [E105]
                go_wp2_with fail
                refine (dhas_lit wd 104 104 rfl _ hwl).mono ?_
                rintro e _ ⟨rfl, rfl⟩
                rw [E104]
                go_wp2_with fail
                go_meet
                exact ⟨by rw [← HBAD.out]; simp, rfl⟩
              | true =>
                go_wp2_with fail
                refine (dhas_lit wd 101 101 rfl _ hwl).mono ?_
                rintro e _ ⟨rfl, rfl⟩
                rw [E101]
                go_wp2_with fail
                refine (dhas_lit wd 105 105 rfl _ hwl).mono ?_
                rintro e _ ⟨rfl, rfl⟩
                rw [E105]
                go_wp2_with fail
                refine (dhas_lit wd 104 104 rfl _ hwl).mono ?_
                rintro e _ ⟨rfl, rfl⟩
                rw [E104]
                go_wp2_with fail
                go_meet
                exact ⟨by rw [← HBAD.out]; simp, rfl⟩
      · skip
        cases bh with
        | false =>
          go_wp2_with fail
          refine (dhas_lit wd 101 101 rfl _ hwl).mono ?_
          rintro e _ ⟨rfl, rfl⟩
          rw [E101]
          go_wp2_with fail
          refine (dhas_lit wd 105 105 rfl _ hwl).mono ?_
          rintro e _ ⟨rfl, rfl⟩
          rw [E105]
          go_wp2_with fail
          refine (dhas_lit wd 104 104 rfl _ hwl).mono ?_
          rintro e _ ⟨rfl, rfl⟩
          rw [E104]
          go_wp2_with fail
          go_meet
          exact ⟨by rw [← HBAD.out]; simp, rfl⟩
        | true =>
          cases ba with
          | false =>
            go_wp2_with fail
            refine (dhas_lit wd 101 101 rfl _ hwl).mono ?_
            rintro e _ ⟨rfl, rfl⟩
            rw [E101]
            go_wp2_with fail
            refine (dhas_lit wd 105 105 rfl _ hwl).mono ?_
            rintro e _ ⟨rfl, rfl⟩
            rw [E105]
            go_wp2_with fail
            refine (dhas_lit wd 104 104 rfl _ hwl).mono ?_
            rintro e _ ⟨rfl, rfl⟩
            rw [E104]
            go_wp2_with fail
            go_meet
            exact ⟨by rw [← HBAD.out]; simp, rfl⟩
          | true =>
            cases bb with
            | false =>
              go_wp2_with fail
              refine (dhas_lit wd 101 101 rfl _ hwl).mono ?_
              rintro e _ ⟨rfl, rfl⟩
              rw [E101]
              go_wp2_with fail
              refine (dhas_lit wd 105 105 rfl _ hwl).mono ?_
              rintro e _ ⟨rfl, rfl⟩
              rw [E105]
              go_wp2_with fail
              refine (dhas_lit wd 104 104 rfl _ hwl).mono ?_
              rintro e _ ⟨rfl, rfl⟩
              rw [E104]
              go_wp2_with fail
              go_meet
              exact ⟨by rw [← HBAD.out]; simp, rfl⟩
            | true =>
              cases bs with
              | false =>
                go_wp2_with fail
                refine (dhas_lit wd 101 101 rfl _ hwl).mono ?_
                rintro e _ ⟨rfl, rfl⟩
                rw [E101]
                go_wp2_with fail
                refine (dhas_lit wd 105 105 rfl _ hwl).mono ?_
                rintro e _ ⟨rfl, rfl⟩
                rw [E105]
                go_wp2_with fail
                refine (dhas_lit wd 104 104 rfl _ hwl).mono ?_
                rintro e _ ⟨rfl, rfl⟩
                rw [E104]
                go_wp2_with fail
                go_meet
                exact ⟨by rw [← HBAD.out]; simp, rfl⟩
              | true =>
                go_wp2_with fail
                refine (dhas_lit wd 101 101 rfl _ hwl).mono ?_
                rintro e _ ⟨rfl, rfl⟩
                rw [E101]
                go_wp2_with fail
                refine (dhas_lit wd 105 105 rfl _ hwl).mono ?_
                rintro e _ ⟨rfl, rfl⟩
                rw [E105]
                go_wp2_with fail
                refine (dhas_lit wd 104 104 rfl _ hwl).mono ?_
                rintro e _ ⟨rfl, rfl⟩
                rw [E104]
                go_wp2_with fail
                go_meet
                exact ⟨by rw [← HBAD.out]; simp, rfl⟩
      · skip
        cases ba with
        | false =>
          go_wp2_with fail
          refine (dhas_lit wd 101 101 rfl _ hwl).mono ?_
          rintro e _ ⟨rfl, rfl⟩
          rw [E101]
          go_wp2_with fail
          refine (dhas_lit wd 105 105 rfl _ hwl).mono ?_
          rintro e _ ⟨rfl, rfl⟩
          rw [E105]
          go_wp2_with fail
          refine (dhas_lit wd 104 104 rfl _ hwl).mono ?_
          rintro e _ ⟨rfl, rfl⟩
          rw [E104]
          go_wp2_with fail
          go_meet
          exact ⟨by rw [← HBAD.out]; simp, rfl⟩
        | true =>
          cases bb with
          | false =>
            go_wp2_with fail
            refine (dhas_lit wd 101 101 rfl _ hwl).mono ?_
            rintro e _ ⟨rfl, rfl⟩
            rw [E101]
            go_wp2_with fail
            refine (dhas_lit wd 105 105 rfl _ hwl).mono ?_
            rintro e _ ⟨rfl, rfl⟩
            rw [E105]
            go_wp2_with fail
            refine (dhas_lit wd 104 104 rfl _ hwl).mono ?_
            rintro e _ ⟨rfl, rfl⟩
            rw [E104]
            go_wp2_with fail
            go_meet
            exact ⟨by rw [← HBAD.out]; simp, rfl⟩
          | true =>
            cases bs with
            | false =>
              go_wp2_with fail
              refine (dhas_lit wd 101 101 rfl _ hwl).mono ?_
              rintro e _ ⟨rfl, rfl⟩
              rw [E101]
              go_wp2_with fail
              refine (dhas_lit wd 105 105 rfl _ hwl).mono ?_
              rintro e _ ⟨rfl, rfl⟩
              rw [E105]
              go_wp2_with fail
              refine (dhas_lit wd 104 104 rfl _ hwl).mono ?_
              rintro e _ ⟨rfl, rfl⟩
              rw [E104]
              go_wp2_with fail
              go_meet
              exact ⟨by rw [← HBAD.out]; simp, rfl⟩
            | true =>
              go_wp2_with fail
              refine (dhas_lit wd 101 101 rfl _ hwl).mono ?_
              rintro e _ ⟨rfl, rfl⟩
              rw [E101]
              go_wp2_with fail
              refine (dhas_lit wd 105 105 rfl _ hwl).mono ?_
              rintro e _ ⟨rfl, rfl⟩
              rw [E105]
              go_wp2_with fail
              refine (dhas_lit wd 104 104 rfl _ hwl).mono ?_
              rintro e _ ⟨rfl, rfl⟩
              rw [E104]
              go_wp2_with fail
              go_meet
              exact ⟨by rw [← HBAD.out]; simp, rfl⟩
    case rest =>
      obtain ⟨rfl, rfl⟩ := hcut
      rename World => w5
      have key : bad = false ↔ (R.kind = 1 → textsP R.entries 1 32 4096) ∧ (R.kind = 6 → risesP R.list 256) ∧ (R.kind = 7 → risesP R.list 64) ∧ (sizeP R.a ∧ sizeP R.b ∧ sizeP R.size) := by
        obtain ⟨q1, q2, q3, q4, q5, q6⟩ := HALL.out
        have hfl := HFL.out
        rw [E101, E105, E104] at hfl
        rw [← HBAD.out, ← q1, ← q2, ← q3, ← q4, ← q5, ← q6]
        rcases hfl with ⟨rfl, rfl, rfl, hk⟩ | ⟨rfl, rfl, rfl, hk⟩ | ⟨rfl, rfl, rfl, hk⟩ | ⟨rfl, rfl, rfl, hk1, hk2, hk3⟩
        · rw [hk]; cases ba <;> cases bb <;> cases bs <;> cases be <;> simp
        · rw [hk]; cases ba <;> cases bb <;> cases bs <;> cases bi <;> simp
        · rw [hk]; cases ba <;> cases bb <;> cases bs <;> cases bh <;> simp
        · cases ba <;> cases bb <;> cases bs <;> simp [hk1, hk2, hk3]
      have KEY := hid key
      clear key HALL HBAD E101 E105 E104
      cases bad with
      | true =>
        go_wp2_with fail
        go_ret
        exact ⟨Says.no (fun h => by
          obtain ⟨-, -, h1, h2, h3, h4, -⟩ := HR1.out.1 h
          have := KEY.out.2 ⟨h1, h2, h3, h4⟩
          cases this), F5⟩
      | false =>
        obtain ⟨k1, k2, k3, k4⟩ := KEY.out.1 rfl
        have HK := hid (And.intro k1 (And.intro k2 (And.intro k3 k4)))
        have hWN : wordOf R.kind ≠ [] := by rw [HWD.out]; exact hnil
        have HWN := hid hWN
        clear k1 k2 k3 k4 KEY hWN
        by_cases hg : R.kind = 12
        · have hgt : ((str wd).toList == [103]) = true := by rw [str_toList, HWG.out, hg]; rfl
          by_cases hn1 : R.asks.length < 1
          · go_wp2_with fail
            go_ret
            exact ⟨Says.no (fun h => by
              obtain ⟨-, -, -, -, -, -, h5⟩ := HR1.out.1 h
              have := (h5 hg).1
              omega), F5⟩
          by_cases hn2 : 64 < R.asks.length
          · go_wp2_with fail
            go_ret
            exact ⟨Says.no (fun h => by
              obtain ⟨-, -, -, -, -, -, h5⟩ := HR1.out.1 h
              have := (h5 hg).2.1
              omega), F5⟩
          go_wp2_with fail
          go_loopw [11] (fun i wr => ∃ m : Nat, i = .int .i64 (m : Int) ∧ m ≤ R.asks.length ∧ (∀ j x, j < m → R.asks[j]? = some x → RightP x ∧ 3 ≤ x.kind ∧ x.kind ≤ 7) ∧ Fresh w5 wr) (fun i _ => R.asks.length - (intOf i).toNat)
          case atStart => exact ⟨0, rfl, by omega, fun j x h => by omega, Keeps.refl _ _⟩
          case round =>
            obtain ⟨m, rfl, hm, hno, fr⟩ := hrel
            have HNO := hid hno
            clear hno
            have hb6 := fr.at_ HB5.out (fun h => h)
            clear x6
            have x6 := cell_at hb6 6
            simp at x6
            have HB6 := hid hb6
            clear hb6
            by_cases hlt : m < R.asks.length
            · obtain ⟨u, hu⟩ : ∃ u, R.asks[m]? = some u := ⟨R.asks[m], by simp⟩
              have hr1 := (ReqsAt.keeps (F5.trans fr) (fun _ h => h.elim) _ _ _ HQ.out).get hu
              obtain ⟨bq, off, c0, c1, c2, c3, c4, c5, c6, rfl, -, hbq, y0, y1, y2, y3, y4, y5, y6, hxa⟩ := hr1
              rw [Nat.zero_add] at y0 y1 y2 y3 y4 y5 y6
              have HXA := hid hxa
              obtain ⟨lx, ex, ax, capx, hee, ⟨hl1, -⟩, ⟨hl2, -⟩, -⟩ := hxa.parts
              obtain ⟨alx, clx, rfl, -⟩ := hl1.ints_
              obtain ⟨aex, cex, rfl, -⟩ := hl2.texts
              clear hl1 hl2 hxa
              simp only [Value.agg.injEq, Array.mk.injEq, List.cons.injEq, and_true] at hee
              obtain ⟨rfl, rfl, rfl, rfl, rfl, rfl, rfl⟩ := hee
              have hcall := ih u (HMEM.out u (List.mem_of_getElem? hu)) (HBIG.out.2.2 u (List.mem_of_getElem? hu)) _ _ _ HXA.out
              have HC := hid hcall
              have HU := hid hu
              have hm0 : (0 : Int) ≤ (m : Int) := by omega
              have hm1 : (m : Int) < (R.asks.length : Int) := by omega
              clear hcall hu
              go_wp2_with fail
              refine HC.out.mono ?_
              rintro e w6 ⟨⟨br, rfl, hbr⟩, f6⟩
              have z0 := (f6.cell (p := ⟨bq, off + m * 7, none⟩) hbq (fun h => h)).trans y0
              have hb7 := f6.at_ HB6.out (fun h => h)
              clear x6 y0 y1 y2 y3 y4 y5 y6 HC
              have x6 := cell_at hb7 6
              simp at x6
              clear hb7
              have fin : ∀ {P : Prop}, ¬ (RightP u ∧ 3 ≤ u.kind ∧ u.kind ≤ 7) → Says (RightP R) (.returned (.bool false)) := fun hno => Says.no fun h => by
                obtain ⟨-, -, -, -, -, -, h5⟩ := HR1.out.1 h
                exact hno ((RightAll_iff _).1 (h5 hg).2.2 m u HU.out)
              have FIN := hid (@fin True)
              clear fin
              cases br with
              | false =>
                go_wp2_with fail
                go_ret
                exact ⟨FIN.out (fun h => by have := hbr.2 h.1; cases this), F5.trans (fr.trans f6)⟩
              | true =>
                have hru := hid (hbr.1 rfl)
                clear hbr
                by_cases h3 : u.kind < 3
                · go_wp2_with fail
                  go_ret
                  exact ⟨FIN.out (fun h => by omega), F5.trans (fr.trans f6)⟩
                · by_cases h7 : 7 < u.kind
                  · go_wp2_with fail
                    go_ret
                    exact ⟨FIN.out (fun h => by omega), F5.trans (fr.trans f6)⟩
                  · go_wp2_with fail
                    go_roundw
                    case rel => exact ⟨m + 1, by go_num, by omega, fun j y hj hy => by
                      by_cases hjm : j = m
                      · subst hjm
                        rw [HU.out] at hy
                        injection hy with hy
                        rw [← hy]
                        exact ⟨hru.out, by omega, by omega⟩
                      · exact HNO.out j y (by omega) hy, fr.trans f6⟩
                    case measure => simp [intOf]; omega
            · obtain rfl : m = R.asks.length := by omega
              go_wp2_with fail
              go_ret
              refine ⟨Says.yes ?_, F5.trans fr⟩
              obtain ⟨k1, k2, k3, k4⟩ := HK.out
              refine HR1.out.2 ⟨HWN.out, HSP.out, k1, k2, k3, k4, fun _ => ⟨by omega, by omega, (RightAll_iff _).2 fun j x hx => HNO.out j x (by have := (List.getElem?_eq_some_iff.1 hx).1; omega) hx⟩⟩
        · have hgt : ((str wd).toList == [103]) = false := by rw [str_toList, HWG.out, decide_eq_false hg]
          go_wp2_with fail
          go_ret
          refine ⟨Says.yes ?_, F5⟩
          obtain ⟨k1, k2, k3, k4⟩ := HK.out
          exact HR1.out.2 ⟨HWN.out, HSP.out, k1, k2, k3, k4, fun h => absurd h hg⟩
end Go.Proofs.YtpccaodkgboefaaGreatDoor
