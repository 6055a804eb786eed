/-
  The document's 'right': may a request be?
  The document's 'lay' of a request.
  What the document lays down of a request is what the program lays down. Plain.
  The document's 'lay' of any right request; its Encode, which answers as the program's.
-/
import Derived.Test.YtpccaodkgboefaaGreatDoorMMda
import Derived.Test.YtpccaodkgboefaaGreatDoorMsSame
import Derived.Deep.CutBlock
import Derived.Deep.DeepCutAuto
import Derived.Test.YtpccaodkgboefaaGreatDoorMXw
import Derived.Test.YtpccaodkgboefaaGreatDoorMMsI
import Derived.Test.YtpccaodkgboefaaGreatDoorCxFrame
namespace Go.Proofs.YtpccaodkgboefaaGreatDoor
open Go.RowKit

mutual
def RightP : Req → Prop
  | .mk k a b s l e qs => wordOf k ≠ [] ∧ spareOf (.mk k a b s l e qs) = false ∧ (k = 1 → textsP e 1 32 4096) ∧ (k = 6 → risesP l 256) ∧ (k = 7 → risesP l 64) ∧ (sizeP a ∧ sizeP b ∧ sizeP s) ∧ (k = 12 → 1 ≤ qs.length ∧ qs.length ≤ 64 ∧ RightAll qs)
def RightAll : List Req → Prop
  | [] => True
  | x :: r => (RightP x ∧ 3 ≤ x.kind ∧ x.kind ≤ 7) ∧ RightAll r
end
theorem RightP_eq (R : Req) : RightP R ↔ wordOf R.kind ≠ [] ∧ spareOf R = false ∧ (R.kind = 1 → textsP R.entries 1 32 4096) ∧ (R.kind = 6 → risesP R.list 256) ∧ (R.kind = 7 → risesP R.list 64) ∧ (sizeP R.a ∧ sizeP R.b ∧ sizeP R.size) ∧ (R.kind = 12 → 1 ≤ R.asks.length ∧ R.asks.length ≤ 64 ∧ RightAll R.asks) := by
  cases R
  rw [RightP]
  rfl
theorem RightAll_iff : ∀ (l : List Req), RightAll l ↔ ∀ (i : Nat) (x : Req), l[i]? = some x → RightP x ∧ 3 ≤ x.kind ∧ x.kind ≤ 7
  | [] => by rw [RightAll]; simp
  | y :: r => by
    rw [RightAll, RightAll_iff r]
    constructor
    · rintro ⟨h1, h2⟩ i x hx
      cases i with
      | zero => simp at hx; subst hx; exact h1
      | succ i => exact h2 i x (by simpa using hx)
    · intro h
      exact ⟨h 0 y rfl, fun i x hx => h (i + 1) x (by simpa using hx)⟩
theorem wordFlags (k : Int) : ((wordOf k).contains 101 = true ∧ (wordOf k).contains 105 = false ∧ (wordOf k).contains 104 = false ∧ k = 1) ∨ ((wordOf k).contains 101 = false ∧ (wordOf k).contains 105 = true ∧ (wordOf k).contains 104 = false ∧ k = 6) ∨
    ((wordOf k).contains 101 = false ∧ (wordOf k).contains 105 = false ∧ (wordOf k).contains 104 = true ∧ k = 7) ∨ ((wordOf k).contains 101 = false ∧ (wordOf k).contains 105 = false ∧ (wordOf k).contains 104 = false ∧ k ≠ 1 ∧ k ≠ 6 ∧ k ≠ 7) := by
  by_cases h : 1 ≤ k ∧ k ≤ 12
  · have h' : k = 1 ∨ k = 2 ∨ k = 3 ∨ k = 4 ∨ k = 5 ∨ k = 6 ∨ k = 7 ∨ k = 8 ∨ k = 9 ∨ k = 10 ∨ k = 11 ∨ k = 12 := by omega
    clear h
    rcases h' with rfl | rfl | rfl | rfl | rfl | rfl | rfl | rfl | rfl | rfl | rfl | rfl <;> simp [wordOf]
  · have hw2 : wordOf k = [] := by
      unfold wordOf
      rw [if_neg (by omega), if_neg (by omega), if_neg (by omega), if_neg (by omega), if_neg (by omega), if_neg (by omega), if_neg (by omega), if_neg (by omega), if_neg (by omega)]
    rw [hw2]
    simp
    omega
theorem wordG (k : Int) : (wordOf k == [103]) = decide (k = 12) := by
  by_cases h : 1 ≤ k ∧ k ≤ 12
  · have h' : k = 1 ∨ k = 2 ∨ k = 3 ∨ k = 4 ∨ k = 5 ∨ k = 6 ∨ k = 7 ∨ k = 8 ∨ k = 9 ∨ k = 10 ∨ k = 11 ∨ k = 12 := by omega
    clear h
    rcases h' with rfl | rfl | rfl | rfl | rfl | rfl | rfl | rfl | rfl | rfl | rfl | rfl <;> simp [wordOf]
  · have hw2 : wordOf k = [] := by
      unfold wordOf
      rw [if_neg (by omega), if_neg (by omega), if_neg (by omega), if_neg (by omega), if_neg (by omega), if_neg (by omega), if_neg (by omega), if_neg (by omega), if_neg (by omega)]
    rw [hw2, decide_eq_false (by omega)]
    rfl
theorem wordOf_len (k : Int) : (wordOf k).length ≤ 3 := by
  unfold wordOf
  repeat' split
  all_goals simp

set_option maxRecDepth 100000 in
set_option maxHeartbeats 20000000 in
theorem dright_any (n : Nat) : ∀ (R : Req), SizeOf.sizeOf R ≤ n → Fine R → ∀ (B : Nat → Prop) (v : Value) (w : World), ReqAt B w R v →
    Calls Tryz.prog 34 #[v] w fun e w' => Says (RightP R) e ∧ Fresh w w' := by
  induction n with
  | zero =>
    intro R hR
    exfalso
    cases R
    simp at hR
  | succ n ih =>
    intro R hR hfi B v w hv
    have HV := hid hv
    obtain ⟨lv, ev, ao, cap, rfl, ⟨hl1, -⟩, ⟨he1, -⟩, hreqs, hal⟩ := hv.parts
    have HL := hid hl1
    have HE := hid he1
    have HQ := hid hreqs
    obtain ⟨al, cl, rfl, -⟩ := hl1.ints_
    obtain ⟨ae, ce, rfl, -⟩ := he1.texts
    have hR1 := RightP_eq R
    have hbig := hfi.parts
    have hmem : ∀ x ∈ R.asks, SizeOf.sizeOf x ≤ n := fun x hx => by have := Req.lt_of_mem (R := R) hx; omega
    have HR1 := hid hR1
    have HMEM := hid hmem
    have HBIG := hid hbig
    obtain ⟨wd, hwd⟩ : ∃ wd, wordOf R.kind = wd := ⟨_, rfl⟩
    have hwl : wd.length ≤ 9223372036854775807 := by have := wordOf_len R.kind; rw [hwd] at this; omega
    have hfl := wordFlags R.kind
    have hwg := wordG R.kind
    rw [hwd] at hfl hwg
    have HFL := hid hfl
    have HWD := hid hwd
    have hbox := heap_alloc_new w (.cells #[.int .i64 R.kind, .int .i64 R.a, .int .i64 R.b, .int .i64 R.size, .slice al R.list.length cl, .slice ae R.entries.length ce, .slice ao R.asks.length cap] 26)
    have f0 : Fresh w (w.alloc (.cells #[.int .i64 R.kind, .int .i64 R.a, .int .i64 R.b, .int .i64 R.size, .slice al R.list.length cl, .slice ae R.entries.length ce, .slice ao R.asks.length cap] 26)) := (Keeps.refl _ _).alloc _
    obtain ⟨w1, hw1⟩ : ∃ w1, w.alloc (.cells #[.int .i64 R.kind, .int .i64 R.a, .int .i64 R.b, .int .i64 R.size, .slice al R.list.length cl, .slice ae R.entries.length ce, .slice ao R.asks.length cap] 26) = w1 := ⟨_, rfl⟩
    obtain ⟨bx, hbx⟩ : ∃ bx, w.heap.size = bx := ⟨_, rfl⟩
    rw [hw1, hbx] at hbox
    rw [hw1] at f0
    have x0 := cell_at hbox 0
    have x1 := cell_at hbox 1
    have x2 := cell_at hbox 2
    have x3 := cell_at hbox 3
    have x4 := cell_at hbox 4
    have x5 := cell_at hbox 5
    have x6 := cell_at hbox 6
    simp at x0 x1 x2 x3 x4 x5 x6
    have HBOX := hid hbox
    clear hbox hl1 he1 hv hreqs hR1 hmem hR hfl
    go_enter Tryz.func34, Tryz.ntmps34
    go_wp2_with fail
    refine (dfields_any R.kind w1).mono ?_
    rintro e _ ⟨rfl, rfl⟩
    have hsp := dspare_any R B _ w1 (HV.out.fresh f0)
    rw [hwd] at hsp ⊢
    go_wp2_with fail
    refine hsp.mono ?_
    rintro e w2 ⟨rfl, f2⟩
    have F2 := f0.trans f2
    clear hsp x0 x1 x2 x3 x4 x5 x6
    have hb2 := f2.at_ HBOX.out (fun h => h)
    have x1 := cell_at hb2 1
    have x2 := cell_at hb2 2
    have x3 := cell_at hb2 3
    have x4 := cell_at hb2 4
    have x5 := cell_at hb2 5
    have x6 := cell_at hb2 6
    simp at x1 x2 x3 x4 x5 x6
    have HB2 := hid hb2
    clear hb2 f2 f0 HBOX
    by_cases hnil : wd = []
    · subst hnil
      have hie : (str ([] : List UInt8)).toList.isEmpty = true := by rw [str_toList]; rfl
      clear hwg
      go_wp2_with fail
      go_ret
      exact ⟨Says.no fun h => (HR1.out.1 h).1 HWD.out, F2⟩
    have hie : (str wd).toList.isEmpty = false := by
      rw [str_toList]
      cases wd with
      | nil => exact absurd rfl hnil
      | cons a r => rfl
    obtain ⟨sp, hsp⟩ : ∃ sp, spareOf R = sp := ⟨_, rfl⟩
    rw [hsp]
    have HSP := hid hsp
    clear hsp
    cases sp with
    | true =>
      clear hwg
      go_wp2_with fail
      go_ret
      exact ⟨Says.no (fun h => by have := (HR1.out.1 h).2.1; rw [HSP.out] at this; cases this), F2⟩
    | false =>
    go_wp2_with fail
    refine (dsize_any R.a w2).mono ?_
    rintro e _ ⟨⟨ba, rfl, hba⟩, rfl⟩
    go_wp2_with fail
    refine (dsize_any R.b w2).mono ?_
    rintro e _ ⟨⟨bb, rfl, hbb⟩, rfl⟩
    go_wp2_with fail
    refine (dsize_any R.size w2).mono ?_
    rintro e _ ⟨⟨bs, rfl, hbs⟩, rfl⟩
    go_wp2_with fail
    refine (dtexts_any _ R.entries 1 32 4096 w2 (HE.out.keeps F2 (fun _ _ h => h)) HBIG.out.2.1).mono ?_
    rintro e w3 ⟨⟨be, rfl, hbe⟩, f3⟩
    have F3 := F2.trans f3
    have hb3 := f3.at_ HB2.out (fun h => h)
    clear x1 x2 x3 x4 x5 x6
    have x4 := cell_at hb3 4
    have x6 := cell_at hb3 6
    simp at x4 x6
    go_wp2_with fail
    refine (drises_any _ R.list 256 w3 (HL.out.keeps F3 (fun _ _ h => h)) HBIG.out.1).mono ?_
    rintro e w4 ⟨⟨bi, rfl, hbi⟩, f4⟩
    have F4 := F3.trans f4
    have hb4 := f4.at_ hb3 (fun h => h)
    clear x4 x6
    have x4 := cell_at hb4 4
    have x6 := cell_at hb4 6
    simp at x4 x6
    clear f3 hb3
    go_wp2_with fail
    refine (drises_any _ R.list 64 w4 (HL.out.keeps F4 (fun _ _ h => h)) HBIG.out.1).mono ?_
    rintro e w5 ⟨⟨bh, rfl, hbh⟩, f5⟩
    have F5 := F4.trans f5
    have hb5 := f5.at_ hb4 (fun h => h)
    clear x4 x6
    have x6 := cell_at hb5 6
    simp at x6
    have HB5 := hid hb5
    clear f4 hb4 f5 hb5 F2 F3 F4 HB2
    obtain ⟨he, hhe⟩ : ∃ x, wd.contains 101 = x := ⟨_, rfl⟩
    obtain ⟨hi, hhi⟩ : ∃ x, wd.contains 105 = x := ⟨_, rfl⟩
    obtain ⟨hh, hhh⟩ : ∃ x, wd.contains 104 = x := ⟨_, rfl⟩
    obtain ⟨bad, hbad⟩ : ∃ x, (he && !be || hi && !bi || hh && !bh || !ba || !bb || !bs) = x := ⟨_, rfl⟩
    have HALL : Hid ((ba = true ↔ sizeP R.a) ∧ (bb = true ↔ sizeP R.b) ∧ (bs = true ↔ sizeP R.size) ∧ (be = true ↔ textsP R.entries 1 32 4096) ∧ (bi = true ↔ risesP R.list 256) ∧ (bh = true ↔ risesP R.list 64)) := ⟨hba, hbb, hbs, hbe, hbi, hbh⟩
    have HBAD := hid hbad
    have HWG := hid hwg
    have E101 := hhe
    have E105 := hhi
    have E104 := hhh
    clear hba hbb hbs hbe hbi hbh hbad hwg hhe hhi hhh
    go_upto_region 11 with fail
    go_cut [75] (fun s75 wx => s75 = .bool bad ∧ wx = w5)
    case first =>
      have hfl := HFL.out
      rw [E101, E105, E104] at hfl
      clear x6
      rcases hfl with ⟨rfl, rfl, rfl, -⟩ | ⟨rfl, rfl, rfl, -⟩ | ⟨rfl, rfl, rfl, -⟩ | ⟨rfl, rfl, rfl, -⟩
      · skip
        cases be with
        | false =>
          go_wp2_with fail
          refine (dhas_lit wd 101 101 rfl _ hwl).mono ?_
          rintro e _ ⟨rfl, rfl⟩
          rw [E101]
          go_wp2_with fail
          go_meet
          exact ⟨by rw [← HBAD.out]; simp, rfl⟩
        | true =>
          cases ba with
          | false =>
            go_wp2_with fail
            refine (dhas_lit wd 101 101 rfl _ hwl).mono ?_
            rintro e _ ⟨rfl, rfl⟩
            rw [E101]
            go_wp2_with fail
            refine (dhas_lit wd 105 105 rfl _ hwl).mono ?_
            rintro e _ ⟨rfl, rfl⟩
            rw [E105]
            go_wp2_with fail
            refine (dhas_lit wd 104 104 rfl _ hwl).mono ?_
            rintro e _ ⟨rfl, rfl⟩
            rw [E104]
            go_wp2_with fail
            go_meet
            exact ⟨by rw [← HBAD.out]; simp, rfl⟩
          | true =>
            cases bb with
            | false =>
              go_wp2_with fail
              refine (dhas_lit wd 101 101 rfl _ hwl).mono ?_
              rintro e _ ⟨rfl, rfl⟩
              rw [E101]
              go_wp2_with fail
              refine (dhas_lit wd 105 105 rfl _ hwl).mono ?_
              rintro e _ ⟨rfl, rfl⟩
              rw [E105]
              go_wp2_with fail
              refine (dhas_lit wd 104 104 rfl _ hwl).mono ?_
              rintro e _ ⟨rfl, rfl⟩
              rw [E104]
              go_wp2_with fail
              go_meet
              exact ⟨by rw [← HBAD.out]; simp, rfl⟩
            | true =>
              cases bs with
              | false =>
                go_wp2_with fail
                refine (dhas_lit wd 101 101 rfl _ hwl).mono ?_
                rintro e _ ⟨rfl, rfl⟩
                rw [E101]
                go_wp2_with fail
                refine (dhas_lit wd 105 105 rfl _ hwl).mono ?_
                rintro e _ ⟨rfl, rfl⟩
                rw [E105]
                go_wp2_with fail
                refine (dhas_lit wd 104 104 rfl _ hwl).mono ?_
                rintro e _ ⟨rfl, rfl⟩
                rw [E104]
                go_wp2_with fail
                go_meet
                exact ⟨by rw [← HBAD.out]; simp, rfl⟩
              | true =>
                go_wp2_with fail
                refine (dhas_lit wd 101 101 rfl _ hwl).mono ?_
                rintro e _ ⟨rfl, rfl⟩
                rw [E101]
                go_wp2_with fail
                refine (dhas_lit wd 105 105 rfl _ hwl).mono ?_
                rintro e _ ⟨rfl, rfl⟩
                rw [E105]
                go_wp2_with fail
                refine (dhas_lit wd 104 104 rfl _ hwl).mono ?_
                rintro e _ ⟨rfl, rfl⟩
                rw [E104]
                go_wp2_with fail
                go_meet
                exact ⟨by rw [← HBAD.out]; simp, rfl⟩
      · skip
        cases bi with
        | false =>
          go_wp2_with fail
          refine (dhas_lit wd 101 101 rfl _ hwl).mono ?_
          rintro e _ ⟨rfl, rfl⟩
          rw [E101]
          go_wp2_with fail
          refine (dhas_lit wd 105 105 rfl _ hwl).mono ?_
          rintro e _ ⟨rfl, rfl⟩
          rw [E105]
          go_wp2_with fail
          go_meet
          exact ⟨by rw [← HBAD.out]; simp, rfl⟩
        | true =>
          cases ba with
          | false =>
            go_wp2_with fail
            refine (dhas_lit wd 101 101 rfl _ hwl).mono ?_
            rintro e _ ⟨rfl, rfl⟩
            rw [E101]
            go_wp2_with fail
            refine (dhas_lit wd 105 105 rfl _ hwl).mono ?_
            rintro e _ ⟨rfl, rfl⟩
            rw [E105]
            go_wp2_with fail
            refine (dhas_lit wd 104 104 rfl _ hwl).mono ?_
            rintro e _ ⟨rfl, rfl⟩
            rw [E104]
            go_wp2_with fail
            go_meet
            exact ⟨by rw [← HBAD.out]; simp, rfl⟩
          | true =>
            cases bb with
            | false =>
              go_wp2_with fail
              refine (dhas_lit wd 101 101 rfl _ hwl).mono ?_
              rintro e _ ⟨rfl, rfl⟩
              rw [E101]
              go_wp2_with fail
              refine (dhas_lit wd 105 105 rfl _ hwl).mono ?_
              rintro e _ ⟨rfl, rfl⟩
              rw [E105]
              go_wp2_with fail
              refine (dhas_lit wd 104 104 rfl _ hwl).mono ?_
              rintro e _ ⟨rfl, rfl⟩
              rw [E104]
              go_wp2_with fail
              go_meet
              exact ⟨by rw [← HBAD.out]; simp, rfl⟩
            | true =>
              cases bs with
              | false =>
                go_wp2_with fail
                refine (dhas_lit wd 101 101 rfl _ hwl).mono ?_
                rintro e _ ⟨rfl, rfl⟩
                rw [E101]
                go_wp2_with fail
                refine (dhas_lit wd 105 105 rfl _ hwl).mono ?_
                rintro e _ ⟨rfl, rfl⟩
                rw [E105]
                go_wp2_with fail
                refine (dhas_lit wd 104 104 rfl _ hwl).mono ?_
                rintro e _ ⟨rfl, rfl⟩
                rw [E104]
                go_wp2_with fail
                go_meet
                exact ⟨by rw [← HBAD.out]; simp, rfl⟩
              | true =>
                go_wp2_with fail
                refine (dhas_lit wd 101 101 rfl _ hwl).mono ?_
                rintro e _ ⟨rfl, rfl⟩
                rw [E101]
                go_wp2_with fail
                refine (dhas_lit wd 105 105 rfl _ hwl).mono ?_
                rintro e _ ⟨rfl, rfl⟩
                rw [E105]
                go_wp2_with fail
                refine (dhas_lit wd 104 104 rfl _ hwl).mono ?_
                rintro e _ ⟨rfl, rfl⟩
                rw [E104]
                go_wp2_with fail
                go_meet
                exact ⟨by rw [← HBAD.out]; simp, rfl⟩
      · skip
        cases bh with
        | false =>
          go_wp2_with fail
          refine (dhas_lit wd 101 101 rfl _ hwl).mono ?_
          rintro e _ ⟨rfl, rfl⟩
          rw [E101]
          go_wp2_with fail
          refine (dhas_lit wd 105 105 rfl _ hwl).mono ?_
          rintro e _ ⟨rfl, rfl⟩
          rw [E105]
          go_wp2_with fail
          refine (dhas_lit wd 104 104 rfl _ hwl).mono ?_
          rintro e _ ⟨rfl, rfl⟩
          rw [E104]
          go_wp2_with fail
          go_meet
          exact ⟨by rw [← HBAD.out]; simp, rfl⟩
        | true =>
          cases ba with
          | false =>
            go_wp2_with fail
            refine (dhas_lit wd 101 101 rfl _ hwl).mono ?_
            rintro e _ ⟨rfl, rfl⟩
            rw [E101]
            go_wp2_with fail
            refine (dhas_lit wd 105 105 rfl _ hwl).mono ?_
            rintro e _ ⟨rfl, rfl⟩
            rw [E105]
            go_wp2_with fail
            refine (dhas_lit wd 104 104 rfl _ hwl).mono ?_
            rintro e _ ⟨rfl, rfl⟩
            rw [E104]
            go_wp2_with fail
            go_meet
            exact ⟨by rw [← HBAD.out]; simp, rfl⟩
          | true =>
            cases bb with
            | false =>
              go_wp2_with fail
              refine (dhas_lit wd 101 101 rfl _ hwl).mono ?_
              rintro e _ ⟨rfl, rfl⟩
              rw [E101]
              go_wp2_with fail
              refine (dhas_lit wd 105 105 rfl _ hwl).mono ?_
              rintro e _ ⟨rfl, rfl⟩
              rw [E105]
              go_wp2_with fail
              refine (dhas_lit wd 104 104 rfl _ hwl).mono ?_
              rintro e _ ⟨rfl, rfl⟩
              rw [E104]
              go_wp2_with fail
              go_meet
              exact ⟨by rw [← HBAD.out]; simp, rfl⟩
            | true =>
              cases bs with
              | false =>
                go_wp2_with fail
                refine (dhas_lit wd 101 101 rfl _ hwl).mono ?_
                rintro e _ ⟨rfl, rfl⟩
                rw [E101]
                go_wp2_with fail
                refine (dhas_lit wd 105 105 rfl _ hwl).mono ?_
                rintro e _ ⟨rfl, rfl⟩
                rw [E105]
                go_wp2_with fail
                refine (dhas_lit wd 104 104 rfl _ hwl).mono ?_
                rintro e _ ⟨rfl, rfl⟩
                rw [E104]
                go_wp2_with fail
                go_meet
                exact ⟨by rw [← HBAD.out]; simp, rfl⟩
              | true =>
                go_wp2_with fail
                refine (dhas_lit wd 101 101 rfl _ hwl).mono ?_
                rintro e _ ⟨rfl, rfl⟩
                rw [E101]
                go_wp2_with fail
                refine (dhas_lit wd 105 105 rfl _ hwl).mono ?_
                rintro e _ ⟨rfl, rfl⟩
                rw [E105]
                go_wp2_with fail
                refine (dhas_lit wd 104 104 rfl _ hwl).mono ?_
                rintro e _ ⟨rfl, rfl⟩
                rw [E104]
                go_wp2_with fail
                go_meet
                exact ⟨by rw [← HBAD.out]; simp, rfl⟩
      · skip
        cases ba with
        | false =>
          go_wp2_with fail
          refine (dhas_lit wd 101 101 rfl _ hwl).mono ?_
          rintro e _ ⟨rfl, rfl⟩
          rw [E101]
          go_wp2_with fail
          refine (dhas_lit wd 105 105 rfl _ hwl).mono ?_
          rintro e _ ⟨rfl, rfl⟩
          rw [E105]
          go_wp2_with fail
          refine (dhas_lit wd 104 104 rfl _ hwl).mono ?_
          rintro e _ ⟨rfl, rfl⟩
          rw [E104]
          go_wp2_with fail
          go_meet
          exact ⟨by rw [← HBAD.out]; simp, rfl⟩
        | true =>
          cases bb with
          | false =>
            go_wp2_with fail
            refine (dhas_lit wd 101 101 rfl _ hwl).mono ?_
            rintro e _ ⟨rfl, rfl⟩
            rw [E101]
            go_wp2_with fail
            refine (dhas_lit wd 105 105 rfl _ hwl).mono ?_
            rintro e _ ⟨rfl, rfl⟩
            rw [E105]
            go_wp2_with fail
            refine (dhas_lit wd 104 104 rfl _ hwl).mono ?_
            rintro e _ ⟨rfl, rfl⟩
            rw [E104]
            go_wp2_with fail
            go_meet
            exact ⟨by rw [← HBAD.out]; simp, rfl⟩
          | true =>
            cases bs with
            | false =>
              go_wp2_with fail
              refine (dhas_lit wd 101 101 rfl _ hwl).mono ?_
              rintro e _ ⟨rfl, rfl⟩
              rw [E101]
              go_wp2_with fail
              refine (dhas_lit wd 105 105 rfl _ hwl).mono ?_
              rintro e _ ⟨rfl, rfl⟩
              rw [E105]
              go_wp2_with fail
              refine (dhas_lit wd 104 104 rfl _ hwl).mono ?_
              rintro e _ ⟨rfl, rfl⟩
              rw [E104]
              go_wp2_with fail
              go_meet
              exact ⟨by rw [← HBAD.out]; simp, rfl⟩
            | true =>
              go_wp2_with fail
              refine (dhas_lit wd 101 101 rfl _ hwl).mono ?_
              rintro e _ ⟨rfl, rfl⟩
              rw [E101]
              go_wp2_with fail
              refine (dhas_lit wd 105 105 rfl _ hwl).mono ?_
              rintro e _ ⟨rfl, rfl⟩
              rw [E105]
              go_wp2_with fail
              refine (dhas_lit wd 104 104 rfl _ hwl).mono ?_
              rintro e _ ⟨rfl, rfl⟩
              rw [E104]
              go_wp2_with fail
              go_meet
              exact ⟨by rw [← HBAD.out]; simp, rfl⟩
    case rest =>
      obtain ⟨rfl, rfl⟩ := hcut
      rename World => w5
      have key : bad = false ↔ (R.kind = 1 → textsP R.entries 1 32 4096) ∧ (R.kind = 6 → risesP R.list 256) ∧ (R.kind = 7 → risesP R.list 64) ∧ (sizeP R.a ∧ sizeP R.b ∧ sizeP R.size) := by
        obtain ⟨q1, q2, q3, q4, q5, q6⟩ := HALL.out
        have hfl := HFL.out
        rw [E101, E105, E104] at hfl
        rw [← HBAD.out, ← q1, ← q2, ← q3, ← q4, ← q5, ← q6]
        rcases hfl with ⟨rfl, rfl, rfl, hk⟩ | ⟨rfl, rfl, rfl, hk⟩ | ⟨rfl, rfl, rfl, hk⟩ | ⟨rfl, rfl, rfl, hk1, hk2, hk3⟩
        · rw [hk]; cases ba <;> cases bb <;> cases bs <;> cases be <;> simp
        · rw [hk]; cases ba <;> cases bb <;> cases bs <;> cases bi <;> simp
        · rw [hk]; cases ba <;> cases bb <;> cases bs <;> cases bh <;> simp
        · cases ba <;> cases bb <;> cases bs <;> simp [hk1, hk2, hk3]
      have KEY := hid key
      clear key HALL HBAD E101 E105 E104
      cases bad with
      | true =>
        go_wp2_with fail
        go_ret
        exact ⟨Says.no (fun h => by
          obtain ⟨-, -, h1, h2, h3, h4, -⟩ := HR1.out.1 h
          have := KEY.out.2 ⟨h1, h2, h3, h4⟩
          cases this), F5⟩
      | false =>
        obtain ⟨k1, k2, k3, k4⟩ := KEY.out.1 rfl
        have HK := hid (And.intro k1 (And.intro k2 (And.intro k3 k4)))
        have hWN : wordOf R.kind ≠ [] := by rw [HWD.out]; exact hnil
        have HWN := hid hWN
        clear k1 k2 k3 k4 KEY hWN
        by_cases hg : R.kind = 12
        · have hgt : ((str wd).toList == [103]) = true := by rw [str_toList, HWG.out, hg]; rfl
          by_cases hn1 : R.asks.length < 1
          · go_wp2_with fail
            go_ret
            exact ⟨Says.no (fun h => by
              obtain ⟨-, -, -, -, -, -, h5⟩ := HR1.out.1 h
              have := (h5 hg).1
              omega), F5⟩
          by_cases hn2 : 64 < R.asks.length
          · go_wp2_with fail
            go_ret
            exact ⟨Says.no (fun h => by
              obtain ⟨-, -, -, -, -, -, h5⟩ := HR1.out.1 h
              have := (h5 hg).2.1
              omega), F5⟩
          go_wp2_with fail
          go_loopw [11] (fun i wr => ∃ m : Nat, i = .int .i64 (m : Int) ∧ m ≤ R.asks.length ∧ (∀ j x, j < m → R.asks[j]? = some x → RightP x ∧ 3 ≤ x.kind ∧ x.kind ≤ 7) ∧ Fresh w5 wr) (fun i _ => R.asks.length - (intOf i).toNat)
          case atStart => exact ⟨0, rfl, by omega, fun j x h => by omega, Keeps.refl _ _⟩
          case round =>
            obtain ⟨m, rfl, hm, hno, fr⟩ := hrel
            have HNO := hid hno
            clear hno
            have hb6 := fr.at_ HB5.out (fun h => h)
            clear x6
            have x6 := cell_at hb6 6
            simp at x6
            have HB6 := hid hb6
            clear hb6
            by_cases hlt : m < R.asks.length
            · obtain ⟨u, hu⟩ : ∃ u, R.asks[m]? = some u := ⟨R.asks[m], by simp⟩
              have hr1 := (ReqsAt.keeps (F5.trans fr) (fun _ h => h.elim) _ _ _ HQ.out).get hu
              obtain ⟨bq, off, c0, c1, c2, c3, c4, c5, c6, rfl, -, hbq, y0, y1, y2, y3, y4, y5, y6, hxa⟩ := hr1
              rw [Nat.zero_add] at y0 y1 y2 y3 y4 y5 y6
              have HXA := hid hxa
              obtain ⟨lx, ex, ax, capx, hee, ⟨hl1, -⟩, ⟨hl2, -⟩, -⟩ := hxa.parts
              obtain ⟨alx, clx, rfl, -⟩ := hl1.ints_
              obtain ⟨aex, cex, rfl, -⟩ := hl2.texts
              clear hl1 hl2 hxa
              simp only [Value.agg.injEq, Array.mk.injEq, List.cons.injEq, and_true] at hee
              obtain ⟨rfl, rfl, rfl, rfl, rfl, rfl, rfl⟩ := hee
              have hcall := ih u (HMEM.out u (List.mem_of_getElem? hu)) (HBIG.out.2.2 u (List.mem_of_getElem? hu)) _ _ _ HXA.out
              have HC := hid hcall
              have HU := hid hu
              have hm0 : (0 : Int) ≤ (m : Int) := by omega
              have hm1 : (m : Int) < (R.asks.length : Int) := by omega
              clear hcall hu
              go_wp2_with fail
              refine HC.out.mono ?_
              rintro e w6 ⟨⟨br, rfl, hbr⟩, f6⟩
              have z0 := (f6.cell (p := ⟨bq, off + m * 7, none⟩) hbq (fun h => h)).trans y0
              have hb7 := f6.at_ HB6.out (fun h => h)
              clear x6 y0 y1 y2 y3 y4 y5 y6 HC
              have x6 := cell_at hb7 6
              simp at x6
              clear hb7
              have fin : ∀ {P : Prop}, ¬ (RightP u ∧ 3 ≤ u.kind ∧ u.kind ≤ 7) → Says (RightP R) (.returned (.bool false)) := fun hno => Says.no fun h => by
                obtain ⟨-, -, -, -, -, -, h5⟩ := HR1.out.1 h
                exact hno ((RightAll_iff _).1 (h5 hg).2.2 m u HU.out)
              have FIN := hid (@fin True)
              clear fin
              cases br with
              | false =>
                go_wp2_with fail
                go_ret
                exact ⟨FIN.out (fun h => by have := hbr.2 h.1; cases this), F5.trans (fr.trans f6)⟩
              | true =>
                have hru := hid (hbr.1 rfl)
                clear hbr
                by_cases h3 : u.kind < 3
                · go_wp2_with fail
                  go_ret
                  exact ⟨FIN.out (fun h => by omega), F5.trans (fr.trans f6)⟩
                · by_cases h7 : 7 < u.kind
                  · go_wp2_with fail
                    go_ret
                    exact ⟨FIN.out (fun h => by omega), F5.trans (fr.trans f6)⟩
                  · go_wp2_with fail
                    go_roundw
                    case rel => exact ⟨m + 1, by go_num, by omega, fun j y hj hy => by
                      by_cases hjm : j = m
                      · subst hjm
                        rw [HU.out] at hy
                        injection hy with hy
                        rw [← hy]
                        exact ⟨hru.out, by omega, by omega⟩
                      · exact HNO.out j y (by omega) hy, fr.trans f6⟩
                    case measure => simp [intOf]; omega
            · obtain rfl : m = R.asks.length := by omega
              go_wp2_with fail
              go_ret
              refine ⟨Says.yes ?_, F5.trans fr⟩
              obtain ⟨k1, k2, k3, k4⟩ := HK.out
              refine HR1.out.2 ⟨HWN.out, HSP.out, k1, k2, k3, k4, fun _ => ⟨by omega, by omega, (RightAll_iff _).2 fun j x hx => HNO.out j x (by have := (List.getElem?_eq_some_iff.1 hx).1; omega) hx⟩⟩
        · have hgt : ((str wd).toList == [103]) = false := by rw [str_toList, HWG.out, decide_eq_false hg]
          go_wp2_with fail
          go_ret
          refine ⟨Says.yes ?_, F5⟩
          obtain ⟨k1, k2, k3, k4⟩ := HK.out
          exact HR1.out.2 ⟨HWN.out, HSP.out, k1, k2, k3, k4, fun h => absurd h hg⟩
end Go.Proofs.YtpccaodkgboefaaGreatDoor

namespace Go.Proofs.YtpccaodkgboefaaGreatDoor
open Go.RowKit

/-- what one letter lays down -/
def layStep (R : Req) (st : WSt) (c : UInt8) : WSt :=
  if c = 101 then xTexts st R.entries 32 4096 else if c = 97 then wNum st R.a else if c = 98 then wNum st R.b else if c = 115 then wNum st R.size else if c = 105 ∨ c = 104 then wRising st R.list else st
/-- a request that is no group -/
def layFlat (st : WSt) (R : Req) : WSt := (wordOf R.kind).foldl (layStep R) (wByte st R.kind)
def layParts : WSt → List Req → WSt
  | st, [] => st
  | st, x :: r => layParts (layFlat st x) r
def layOf (st : WSt) (R : Req) : WSt := if R.kind = 12 then layParts (wNum (wByte st R.kind) R.asks.length) R.asks else layFlat st R

structure Slight (R : Req) : Prop where
  e1 : R.entries.length ≤ 32
  e2 : bulk R.entries ≤ 140000
  l1 : R.list.length ≤ 256
  l2 : ∀ x ∈ R.list, -9223372036854775808 ≤ x ∧ x ≤ 9223372036854775807
theorem layStep_len {R : Req} (h : Slight R) (st : WSt) (c : UInt8) : (layStep R st c).1.length ≤ st.1.length + 150000 := by
  have h1 := h.e1
  have h2 := h.e2
  have h3 := h.l1
  unfold layStep
  repeat' split
  · have := xtexts_len st R.entries 32 4096 (by omega); omega
  · have := num_len st R.a; omega
  · have := num_len st R.b; omega
  · have := num_len st R.size; omega
  · have := rising_len st R.list (by omega); omega
  · omega
theorem layFold_len {R : Req} (h : Slight R) : ∀ (l : List UInt8) (st : WSt), (l.foldl (layStep R) st).1.length ≤ st.1.length + 150000 * l.length
  | [], st => by simp
  | c :: r, st => by
    have h1 := layStep_len h st c
    have h2 := layFold_len h r (layStep R st c)
    simp only [List.foldl_cons, List.length_cons]
    omega
theorem layFlat_len {R : Req} (h : Slight R) (st : WSt) : (layFlat st R).1.length ≤ st.1.length + 450001 := by
  have h1 := layFold_len h (wordOf R.kind) (wByte st R.kind)
  have h2 := byte_len st R.kind
  have h3 := wordOf_len R.kind
  unfold layFlat
  have : 150000 * (wordOf R.kind).length ≤ 150000 * 3 := Nat.mul_le_mul_left _ h3
  omega
theorem layFold_snoc (R : Req) (st : WSt) {l : List UInt8} {n : Nat} {c : UInt8} (h : l[n]? = some c) : (l.take (n + 1)).foldl (layStep R) st = layStep R ((l.take n).foldl (layStep R) st) c := by
  rw [List.take_add_one, h, List.foldl_append]
  rfl
theorem word_letters (k : Int) : ∀ c ∈ wordOf k, c = 101 ∨ c = 97 ∨ c = 98 ∨ c = 115 ∨ c = 105 ∨ c = 104 ∨ c = 45 ∨ (c = 103 ∧ k = 12) := by
  by_cases h : 1 ≤ k ∧ k ≤ 12
  · have h' : k = 1 ∨ k = 2 ∨ k = 3 ∨ k = 4 ∨ k = 5 ∨ k = 6 ∨ k = 7 ∨ k = 8 ∨ k = 9 ∨ k = 10 ∨ k = 11 ∨ k = 12 := by omega
    clear h
    rcases h' with rfl | rfl | rfl | rfl | rfl | rfl | rfl | rfl | rfl | rfl | rfl | rfl <;> simp [wordOf]
  · have hw2 : wordOf k = [] := by
      unfold wordOf
      rw [if_neg (by omega), if_neg (by omega), if_neg (by omega), if_neg (by omega), if_neg (by omega), if_neg (by omega), if_neg (by omega), if_neg (by omega), if_neg (by omega)]
    rw [hw2]
    simp

set_option maxRecDepth 100000 in
set_option maxHeartbeats 8000000 in
theorem dlayFlat_any (R : Req) (hs : Slight R) (hk : R.kind ≠ 12) (B : Nat → Prop) (b : Nat) (st : WSt) (v : Value) (w : World) (hx : XRep w b st) (hv : ReqAt B w R v) (hB : ∀ q, B q → q ≠ b) (hlen : st.1.length ≤ 1000000000) :
    Calls Tryz.prog 36 #[.pointer (some ⟨b, 0, none⟩), v] w fun e w' => e = .returned (.tuple #[]) ∧ Keeps (fun k => k = b) w w' ∧ XRep w' b (layFlat st R) := by
  obtain ⟨lv, ev, ao, cap, rfl, ⟨hl1, hll⟩, ⟨he1, hel⟩, hreqs, hal⟩ := hv.parts
  have HL := hid (And.intro hl1 hll)
  have HE := hid (And.intro he1 hel)
  obtain ⟨al, cl, rfl, -⟩ := hl1.ints_
  obtain ⟨ae, ce, rfl, -⟩ := he1.texts
  have hbw : b < w.heap.size := hx.cells.2.2.2.2
  have hbox := heap_alloc_new w (.cells #[.int .i64 R.kind, .int .i64 R.a, .int .i64 R.b, .int .i64 R.size, .slice al R.list.length cl, .slice ae R.entries.length ce, .slice ao R.asks.length cap] 26)
  have f0 : Fresh w (w.alloc (.cells #[.int .i64 R.kind, .int .i64 R.a, .int .i64 R.b, .int .i64 R.size, .slice al R.list.length cl, .slice ae R.entries.length ce, .slice ao R.asks.length cap] 26)) := (Keeps.refl _ _).alloc _
  obtain ⟨w1, hw1⟩ : ∃ w1, w.alloc (.cells #[.int .i64 R.kind, .int .i64 R.a, .int .i64 R.b, .int .i64 R.size, .slice al R.list.length cl, .slice ae R.entries.length ce, .slice ao R.asks.length cap] 26) = w1 := ⟨_, rfl⟩
  obtain ⟨bx, hbx⟩ : ∃ bx, w.heap.size = bx := ⟨_, rfl⟩
  have hne : bx ≠ b := by omega
  rw [hw1, hbx] at hbox
  rw [hw1] at f0
  have hx1 := hx.keeps f0 (fun h => h)
  have x0 := cell_at hbox 0
  simp at x0
  have HLT := hid (word_letters R.kind)
  have HFL := hid (layFold_len hs (wordOf R.kind) (wByte st R.kind))
  obtain ⟨wd, hwd⟩ : ∃ wd, wordOf R.kind = wd := ⟨_, rfl⟩
  have hwl : wd.length ≤ 3 := by have := wordOf_len R.kind; rw [hwd] at this; omega
  have HF : Hid (layFlat st R = wd.foldl (layStep R) (wByte st R.kind)) := by unfold layFlat; rw [hwd]; rfl
  rw [hwd] at HLT
  have HS := hid hs
  have HBOX := hid hbox
  have HWD := hid hwd
  have hby := byte_len st R.kind
  clear hbox hl1 he1 hll hel hv hreqs hs HFL hwd
  go_enter Tryz.func36, Tryz.ntmps36
  go_wp2_with fail
  refine (xbyte_any b st R.kind w1 hx1 (by omega)).mono ?_
  rintro e w2 ⟨rfl, k2, hx2⟩
  have hb2 := k2.at_ HBOX.out hne
  clear x0
  have x0 := cell_at hb2 0
  simp at x0
  have K2 : Keeps (fun k => k = b) w w2 := Keeps.trans' (S := fun k => k = b) (f0.mono fun _ _ h => h.elim) k2 fun _ _ h => h
  go_wp2_with fail
  refine (dfields_any R.kind w2).mono ?_
  rintro e _ ⟨rfl, rfl⟩
  rw [HWD.out]
  have hsz := str_size wd
  have HB2 := hid hb2
  have hst := hid hx2
  clear x0 hb2 hx2
  go_wp2_with fail
  go_loopw [5] (fun i wr => ∃ n : Nat, i = .int .i64 (n : Int) ∧ n ≤ wd.length ∧ XRep wr b ((wd.take n).foldl (layStep R) (wByte st R.kind)) ∧ Keeps (fun k => k = b) w2 wr) (fun i _ => wd.length - (intOf i).toNat)
  case atStart => exact ⟨0, rfl, by omega, hst.out, Keeps.refl _ _⟩
  case round =>
    obtain ⟨n, rfl, hn, hxn, kn⟩ := hrel
    have hbn := kn.at_ HB2.out hne
    have KN : Keeps (fun k => k = b) w wr := K2.trans kn
    by_cases hlt : n < wd.length
    · obtain ⟨c, hc⟩ : ∃ c, wd[n]? = some c := ⟨wd[n], by simp⟩
      have hidx := byteOf_idx (b := wd) (j := n)
      rw [byteOf_get hc] at hidx
      have hln := layFold_len HS.out (wd.take n) (wByte st R.kind)
      have hsn := layFold_snoc R (wByte st R.kind) hc
      have htl : (wd.take n).length ≤ 3 := by rw [List.length_take]; omega
      have hln2 : 150000 * (wd.take n).length ≤ 150000 * 3 := Nat.mul_le_mul_left _ htl
      obtain ⟨stn, hstn⟩ : ∃ s, (wd.take n).foldl (layStep R) (wByte st R.kind) = s := ⟨_, rfl⟩
      rw [hstn] at hxn hln hsn
      have hle := HLT.out c (List.mem_of_getElem? hc)
      have HSN := hid hsn
      have hlast : stn.1.length ≤ 1010000000 := by omega
      clear hsn hstn hln hln2 htl hc HLT
      have x1 := cell_at hbn 1
      have x2 := cell_at hbn 2
      have x3 := cell_at hbn 3
      have x4 := cell_at hbn 4
      have x5 := cell_at hbn 5
      simp at x1 x2 x3 x4 x5
      rcases hle with rfl | rfl | rfl | rfl | rfl | rfl | rfl | ⟨-, h12⟩
      · go_wp2_with fail
        refine (xtexts_any b stn _ R.entries 32 4096 wr hxn (HE.out.1.keeps_if KN (fun g hg hne h => hB g (HE.out.2 g hg (by simpa [texts] using hne)) h)) (by have := HS.out.e1; have := HS.out.e2; omega)).mono ?_
        rintro e w5 ⟨rfl, k5, h5⟩
        go_wp2_with fail
        go_roundw
        case rel => exact ⟨n + 1, by go_num, by omega, by rw [HSN.out]; exact h5, kn.trans k5⟩
        case measure => simp [intOf]; omega
      · go_wp2_with fail
        refine (xnum_any b stn R.a wr hxn (by omega)).mono ?_
        rintro e w5 ⟨rfl, k5, h5⟩
        go_wp2_with fail
        go_roundw
        case rel => exact ⟨n + 1, by go_num, by omega, by rw [HSN.out]; exact h5, kn.trans k5⟩
        case measure => simp [intOf]; omega
      · go_wp2_with fail
        refine (xnum_any b stn R.b wr hxn (by omega)).mono ?_
        rintro e w5 ⟨rfl, k5, h5⟩
        go_wp2_with fail
        go_roundw
        case rel => exact ⟨n + 1, by go_num, by omega, by rw [HSN.out]; exact h5, kn.trans k5⟩
        case measure => simp [intOf]; omega
      · go_wp2_with fail
        refine (xnum_any b stn R.size wr hxn (by omega)).mono ?_
        rintro e w5 ⟨rfl, k5, h5⟩
        go_wp2_with fail
        go_roundw
        case rel => exact ⟨n + 1, by go_num, by omega, by rw [HSN.out]; exact h5, kn.trans k5⟩
        case measure => simp [intOf]; omega
      · go_wp2_with fail
        refine (xrising_any b stn _ R.list wr hxn (HL.out.1.keeps_if KN (fun g hg hne h => hB g (HL.out.2 g hg (by simpa [ints] using hne)) h)) HS.out.l2 (by have := HS.out.l1; omega)).mono ?_
        rintro e w5 ⟨rfl, k5, h5⟩
        go_wp2_with fail
        go_roundw
        case rel => exact ⟨n + 1, by go_num, by omega, by rw [HSN.out]; exact h5, kn.trans k5⟩
        case measure => simp [intOf]; omega
      · go_wp2_with fail
        refine (xrising_any b stn _ R.list wr hxn (HL.out.1.keeps_if KN (fun g hg hne h => hB g (HL.out.2 g hg (by simpa [ints] using hne)) h)) HS.out.l2 (by have := HS.out.l1; omega)).mono ?_
        rintro e w5 ⟨rfl, k5, h5⟩
        go_wp2_with fail
        go_roundw
        case rel => exact ⟨n + 1, by go_num, by omega, by rw [HSN.out]; exact h5, kn.trans k5⟩
        case measure => simp [intOf]; omega
      · go_wp2_with fail
        go_roundw
        case rel => exact ⟨n + 1, by go_num, by omega, by rw [HSN.out]; exact hxn, kn⟩
        case measure => simp [intOf]; omega
      · exact absurd h12 hk
    · obtain rfl : n = wd.length := by omega
      rw [List.take_length] at hxn
      go_wp2_with fail
      go_end0
      exact ⟨rfl, KN, by rw [HF.out]; exact hxn⟩
end Go.Proofs.YtpccaodkgboefaaGreatDoor

namespace Go.Proofs.YtpccaodkgboefaaGreatDoor
open Go.RowKit

theorem wNum_err {st : WSt} {n : Int} (h : (wNum st n).2 = 0) : st.2 = 0 ∧ 0 ≤ n ∧ n ≤ 4611686018427387904 := by
  unfold wNum at h
  split at h
  · exact absurd h (refuse_ne _ _ (by decide))
  · exact ⟨h, by omega, by omega⟩
theorem mSize_err {st : WSt} {n : Int} (h : (mSize st n).2 = 0) : st.2 = 0 ∧ sizeP n := by
  unfold mSize at h
  split at h
  · exact absurd h (wNum_minus st)
  · obtain ⟨h1, h2, h3⟩ := wNum_err h
    exact ⟨h1, h2, by omega⟩
theorem mSize_right {st : WSt} {n : Int} (h : sizeP n) : mSize st n = wNum st n := by
  unfold mSize
  rw [if_neg (by have := h.2; omega)]
theorem rises_facts : ∀ (l : List Int) (a : Int), rises a l = true → ∀ (i : Nat) (x : Int), l[i]? = some x → a < x ∧ x ≤ l.getD (l.length - 1) 0 ∧ ∀ y, 0 < i → l[i - 1]? = some y → y < x
  | [], a, _, i, x, hx => by simp at hx
  | n :: r, a, h, i, x, hx => by
    simp only [rises, Bool.and_eq_true, decide_eq_true_eq] at h
    obtain ⟨⟨h1, h2⟩, h3⟩ := h
    have ih := rises_facts r n h3
    have hlast : ∀ j u, r[j]? = some u → (n :: r).getD ((n :: r).length - 1) 0 = r.getD (r.length - 1) 0 := fun j u hu => by
      have := (List.getElem?_eq_some_iff.1 hu).1
      obtain ⟨m, hm⟩ : ∃ m, r.length = m + 1 := ⟨r.length - 1, by omega⟩
      rw [List.length_cons, Nat.add_sub_cancel, hm, Nat.add_sub_cancel]
      simp
    cases i with
    | zero =>
      simp at hx
      subst hx
      refine ⟨h1, ?_, fun y h0 => absurd h0 (by omega)⟩
      cases r with
      | nil => simp
      | cons m r =>
        obtain ⟨q1, q2, -⟩ := ih 0 m rfl
        rw [hlast 0 m rfl]
        omega
    | succ j =>
      have hx' : r[j]? = some x := by simpa using hx
      obtain ⟨q1, q2, q3⟩ := ih j x hx'
      refine ⟨by omega, by rw [hlast j x hx']; exact q2, fun y _ hy => ?_⟩
      cases j with
      | zero =>
        simp at hy
        omega
      | succ k => exact q3 y (by omega) (by simpa using hy)
theorem mRising_err {st : WSt} {l : List Int} {most : Int} (h : (mRising st l most).2 = 0) : st.2 = 0 ∧ risesP l most := by
  unfold mRising at h
  split at h
  · exact absurd h (wNum_minus st)
  · unfold wRising at h
    split at h
    · rename_i hc hr
      refine ⟨h, by omega, by omega, fun i x hx => ?_⟩
      obtain ⟨h1, h2, h3⟩ := rises_facts l (-1) hr i x hx
      exact ⟨⟨by omega, by omega⟩, h3⟩
    · exact absurd h (refuse_ne _ _ (by decide))
theorem mRising_right {st : WSt} {l : List Int} {most : Int} (h : risesP l most) : mRising st l most = wRising st l := by
  obtain ⟨h1, h2, h3⟩ := h
  unfold mRising
  rw [if_neg]
  rintro (q | q | q)
  · omega
  · omega
  · obtain ⟨x, hx⟩ : ∃ x, l[l.length - 1]? = some x := ⟨l[l.length - 1]'(by omega), List.getElem?_eq_getElem (by omega)⟩
    have := (h3 _ _ hx).1.2
    rw [List.getD, hx] at q
    simp at q
    omega
theorem fits_iff {most : Int} : ∀ (l : List (List UInt8)), fits most l = true → ∀ (i : Nat) (x : List UInt8), l[i]? = some x → (x.length : Int) ≤ most
  | [], _, i, x, hx => by simp at hx
  | y :: r, h, i, x, hx => by
    simp only [fits, Bool.and_eq_true, decide_eq_true_eq] at h
    cases i with
    | zero => simp at hx; subst hx; exact h.1
    | succ i => exact fits_iff r h.2 i x (by simpa using hx)
theorem wTexts_err {st : WSt} {l : List (List UInt8)} (h : (wTexts st l 32 4096).2 = 0) : st.2 = 0 ∧ l.length ≤ 32 ∧ ∀ (i : Nat) (x : List UInt8), l[i]? = some x → (x.length : Int) ≤ 4096 := by
  by_cases hm : 32 < l.length
  · unfold wTexts at h
    rw [if_neg (by omega), if_pos (by omega)] at h
    exact absurd h (refuse_ne _ _ (by decide))
  · have ha := (Alike.texts (a := st) (x := st) ⟨rfl, fun _ => rfl⟩ l 32 4096 (by omega)).1
    rw [h] at ha
    unfold xTexts at ha
    rw [if_neg (by omega), if_neg (by omega)] at ha
    split at ha
    · rename_i hf
      exact ⟨ha.symm, by omega, fits_iff l hf⟩
    · exact absurd ha.symm (refuse_ne _ _ (by decide))
theorem bulk_le (m : Nat) : ∀ (l : List (List UInt8)), (∀ (i : Nat) (x : List UInt8), l[i]? = some x → x.length ≤ m) → bulk l ≤ (m + 10) * l.length
  | [], _ => by simp [bulk]
  | y :: r, h => by
    have h1 := h 0 y rfl
    have h2 := bulk_le m r (fun i x hx => h (i + 1) x (by simpa using hx))
    rw [bulk, List.length_cons, Nat.mul_succ]
    omega
theorem word_kind {k : Int} (h : wordOf k ≠ []) : 1 ≤ k ∧ k ≤ 12 := by
  by_cases h' : 1 ≤ k ∧ k ≤ 12
  · exact h'
  · exfalso
    apply h
    unfold wordOf
    rw [if_neg (by omega), if_neg (by omega), if_neg (by omega), if_neg (by omega), if_neg (by omega), if_neg (by omega), if_neg (by omega), if_neg (by omega), if_neg (by omega)]
theorem word_some {k : Int} (h1 : 1 ≤ k) (h2 : k ≤ 12) : wordOf k ≠ [] := by
  have h' : k = 1 ∨ k = 2 ∨ k = 3 ∨ k = 4 ∨ k = 5 ∨ k = 6 ∨ k = 7 ∨ k = 8 ∨ k = 9 ∨ k = 10 ∨ k = 11 ∨ k = 12 := by omega
  rcases h' with rfl | rfl | rfl | rfl | rfl | rfl | rfl | rfl | rfl | rfl | rfl | rfl <;> simp [wordOf]
theorem RightP.slight {R : Req} (h : RightP R) : Slight R := by
  obtain ⟨hw, hs, h1, h6, h7, -, -⟩ := (RightP_eq R).1 h
  have hsf := spare_fields hs
  have he : R.entries.length ≤ 32 ∧ bulk R.entries ≤ 140000 := by
    by_cases hk : R.kind = 1
    · obtain ⟨-, q2, q3⟩ := h1 hk
      have := bulk_le 4096 R.entries (fun i x hx => by have := q3 i x hx; omega)
      have h3 : (4096 + 10) * R.entries.length ≤ (4096 + 10) * 32 := Nat.mul_le_mul_left _ (by omega)
      exact ⟨by omega, by omega⟩
    · have := hsf.2.2.2.2.1 (by unfold whichOf; simp; exact hk)
      rw [this]
      simp [bulk]
  have hl : R.list.length ≤ 256 ∧ ∀ x ∈ R.list, -9223372036854775808 ≤ x ∧ x ≤ 9223372036854775807 := by
    have key : ∀ most : Int, most ≤ 256 → risesP R.list most → R.list.length ≤ 256 ∧ ∀ x ∈ R.list, -9223372036854775808 ≤ x ∧ x ≤ 9223372036854775807 := fun most hm hr => by
      refine ⟨by have := hr.2.1; omega, fun x hx => ?_⟩
      obtain ⟨i, hi⟩ := List.mem_iff_getElem?.1 hx
      have := (hr.2.2 i x hi).1
      exact ⟨by have := this.1; omega, by have := this.2; omega⟩
    by_cases hk : R.kind = 6
    · exact key 256 (by omega) (h6 hk)
    by_cases hk7 : R.kind = 7
    · exact key 64 (by omega) (h7 hk7)
    · have := hsf.2.2.2.1 (by unfold whichOf; simp; omega)
      rw [this]
      simp
  exact ⟨he.1, he.2, hl.1, hl.2⟩
theorem right_plain {R : Req} (h : RightP R) : plainOf R = true := by
  obtain ⟨hw, hs, -, -, -, -, h12⟩ := (RightP_eq R).1 h
  have hsf := spare_fields hs
  rw [plainOf_eq, hs]
  simp only [Bool.not_false, Bool.true_and]
  by_cases hk : R.kind = 12
  · obtain ⟨-, -, hr⟩ := h12 hk
    have key : ∀ l : List Req, RightAll l → plainAll l = true := by
      intro l
      induction l with
      | nil => intro _; rw [plainAll]
      | cons x r ih =>
        intro hr
        rw [RightAll] at hr
        obtain ⟨⟨hx, h3, h7⟩, hr⟩ := hr
        obtain ⟨-, hxs, -⟩ := (RightP_eq x).1 hx
        have := (spare_fields hxs).2.2.2.2.2 (by unfold whichOf; simp; omega)
        rw [plainAll_cons, plainOf_eq, hxs, this, ih hr, plainAll]
        rfl
    exact key _ hr
  · have := hsf.2.2.2.2.2 (by unfold whichOf; simp; exact hk)
    rw [this, plainAll]

set_option maxHeartbeats 1000000 in
theorem flat_alike {R : Req} (h : RightP R) (hk : R.kind ≠ 12) {a x : WSt} (hax : Alike a x) : Alike (fieldsFlat (wByte a R.kind) R) (layFlat x R) := by
  obtain ⟨hw, hs, h1, h6, h7, ⟨ha, hb, hz⟩, -⟩ := (RightP_eq R).1 h
  have hkk := word_kind hw
  clear h hs hw
  obtain ⟨k, A, B, S, l, e, qs⟩ := R
  simp only [Req.kind, Req.a, Req.b, Req.size, Req.list, Req.entries] at *
  have h' : k = 1 ∨ k = 2 ∨ k = 3 ∨ k = 4 ∨ k = 5 ∨ k = 6 ∨ k = 7 ∨ k = 8 ∨ k = 9 ∨ k = 10 ∨ k = 11 := by omega
  rcases h' with rfl | rfl | rfl | rfl | rfl | rfl | rfl | rfl | rfl | rfl | rfl
  · obtain ⟨q1, q2, q3⟩ := h1 rfl
    show Alike (wTexts (if e.length = 0 then wNum (wByte a 1) (-1) else wByte a 1) e 32 4096) (xTexts (wByte x 1) e 32 4096)
    rw [if_neg (by omega)]
    exact (hax.byte 1).texts e 32 4096 (by omega)
  · exact hax.byte 2
  · show Alike (mSize (wByte a 3) S) (wNum (wByte x 3) S)
    rw [mSize_right hz]
    exact (hax.byte 3).num S
  · show Alike (mSize (mSize (wByte a 4) A) S) (wNum (wNum (wByte x 4) A) S)
    rw [mSize_right hz, mSize_right ha]
    exact ((hax.byte 4).num A).num S
  · show Alike (mSize (mSize (wByte a 5) A) S) (wNum (wNum (wByte x 5) A) S)
    rw [mSize_right hz, mSize_right ha]
    exact ((hax.byte 5).num A).num S
  · show Alike (mRising (mSize (wByte a 6) S) l 256) (wRising (wNum (wByte x 6) S) l)
    rw [mSize_right hz, mRising_right (h6 rfl)]
    exact ((hax.byte 6).num S).rising l
  · show Alike (mRising (wByte a 7) l 64) (wRising (wByte x 7) l)
    rw [mRising_right (h7 rfl)]
    exact (hax.byte 7).rising l
  · show Alike (mSize (mSize (mSize (wByte a 8) A) B) S) (wNum (wNum (wNum (wByte x 8) A) B) S)
    rw [mSize_right hz, mSize_right hb, mSize_right ha]
    exact (((hax.byte 8).num A).num B).num S
  · show Alike (mSize (mSize (mSize (wByte a 9) A) B) S) (wNum (wNum (wNum (wByte x 9) A) B) S)
    rw [mSize_right hz, mSize_right hb, mSize_right ha]
    exact (((hax.byte 9).num A).num B).num S
  · show Alike (mSize (wByte a 10) A) (wNum (wByte x 10) A)
    rw [mSize_right ha]
    exact (hax.byte 10).num A
  · show Alike (mSize (wByte a 11) A) (wNum (wByte x 11) A)
    rw [mSize_right ha]
    exact (hax.byte 11).num A
theorem parts_alike : ∀ (qs : List Req) {a x : WSt}, Alike a x → RightAll qs → Alike (partsOf a qs) (layParts x qs)
  | [], _, _, h, _ => h
  | y :: r, a, x, h, hr => by
    rw [RightAll] at hr
    obtain ⟨⟨hy, h3, h7⟩, hr⟩ := hr
    rw [partsOf, layParts, if_neg (by simp [inPart]; omega)]
    exact parts_alike r (flat_alike hy (by omega) h) hr
theorem fields_alike {R : Req} (h : RightP R) : Alike (fieldsOf (wByte ([], 0) R.kind) R) (layOf ([], 0) R) := by
  have h0 : Alike ([], 0) ([], 0) := ⟨rfl, fun _ => rfl⟩
  by_cases hk : R.kind = 12
  · obtain ⟨-, -, -, -, -, -, h12⟩ := (RightP_eq R).1 h
    obtain ⟨q1, q2, q3⟩ := h12 hk
    unfold fieldsOf layOf
    rw [if_pos hk, if_pos hk, if_neg (by omega)]
    exact parts_alike _ ((h0.byte _).num _) q3
  · unfold fieldsOf layOf
    rw [if_neg hk, if_neg hk]
    exact flat_alike h hk h0
theorem framedW_alike {a x : WSt} (h : Alike a x) : framedW a = framedW x := by
  unfold framedW
  by_cases h0 : a.2 = 0
  · rw [h.2 h0, ← h.1]
  · rw [if_pos h0, if_pos (by rw [← h.1]; exact h0)]
/-- a request that is right -/
theorem enc_right {R : Req} (h : RightP R) : encOf R = framedW (layOf ([], 0) R) := by
  have hk := word_kind ((RightP_eq R).1 h).1
  unfold encOf
  rw [if_neg (by omega), if_neg (by rw [right_plain h]; decide), framedW_alike (fields_alike h)]

set_option maxHeartbeats 1000000 in
theorem right_flat {R : Req} (h1 : 1 ≤ R.kind) (h2 : R.kind ≤ 11) (hs : spareOf R = false) {st : WSt} (h : (fieldsFlat st R).2 = 0) : RightP R := by
  have hsf := spare_fields hs
  rw [RightP_eq]
  refine ⟨word_some h1 (by omega), hs, ?_⟩
  clear hs
  have z : sizeP 0 := ⟨by omega, by omega⟩
  obtain ⟨k, A, B, S, l, e, qs⟩ := R
  simp only [Req.kind, Req.a, Req.b, Req.size, Req.list, Req.entries, Req.asks] at *
  obtain ⟨ha, hb, hz, hl, he, hq⟩ := hsf
  have h' : k = 1 ∨ k = 2 ∨ k = 3 ∨ k = 4 ∨ k = 5 ∨ k = 6 ∨ k = 7 ∨ k = 8 ∨ k = 9 ∨ k = 10 ∨ k = 11 := by omega
  have no : ∀ {p : Prop} {i j : Int}, i ≠ j → i = j → p := fun h1 h2 => absurd h2 h1
  rcases h' with rfl | rfl | rfl | rfl | rfl | rfl | rfl | rfl | rfl | rfl | rfl
  · cases ha rfl; cases hb rfl; cases hz rfl
    have h : (wTexts (if e.length = 0 then wNum st (-1) else st) e 32 4096).2 = 0 := h
    obtain ⟨q1, q2, q3⟩ := wTexts_err h
    by_cases he0 : e.length = 0
    · rw [if_pos he0] at q1
      exact absurd q1 (wNum_minus st)
    · exact ⟨fun _ => ⟨by omega, by omega, q3⟩, no (by decide), no (by decide), ⟨z, z, z⟩, no (by decide)⟩
  · cases ha rfl; cases hb rfl; cases hz rfl
    exact ⟨no (by decide), no (by decide), no (by decide), ⟨z, z, z⟩, no (by decide)⟩
  · cases ha rfl; cases hb rfl
    exact ⟨no (by decide), no (by decide), no (by decide), ⟨z, z, (mSize_err (st := st) h).2⟩, no (by decide)⟩
  · cases hb rfl
    obtain ⟨q1, q2⟩ := mSize_err (st := mSize st A) h
    exact ⟨no (by decide), no (by decide), no (by decide), ⟨(mSize_err q1).2, z, q2⟩, no (by decide)⟩
  · cases hb rfl
    obtain ⟨q1, q2⟩ := mSize_err (st := mSize st A) h
    exact ⟨no (by decide), no (by decide), no (by decide), ⟨(mSize_err q1).2, z, q2⟩, no (by decide)⟩
  · cases ha rfl; cases hb rfl
    obtain ⟨q1, q2⟩ := mRising_err (st := mSize st S) (l := l) (most := 256) h
    exact ⟨no (by decide), fun _ => q2, no (by decide), ⟨z, z, (mSize_err q1).2⟩, no (by decide)⟩
  · cases ha rfl; cases hb rfl; cases hz rfl
    obtain ⟨q1, q2⟩ := mRising_err (st := st) (l := l) (most := 64) h
    exact ⟨no (by decide), no (by decide), fun _ => q2, ⟨z, z, z⟩, no (by decide)⟩
  · obtain ⟨q1, q2⟩ := mSize_err (st := mSize (mSize st A) B) h
    obtain ⟨q3, q4⟩ := mSize_err q1
    exact ⟨no (by decide), no (by decide), no (by decide), ⟨(mSize_err q3).2, q4, q2⟩, no (by decide)⟩
  · obtain ⟨q1, q2⟩ := mSize_err (st := mSize (mSize st A) B) h
    obtain ⟨q3, q4⟩ := mSize_err q1
    exact ⟨no (by decide), no (by decide), no (by decide), ⟨(mSize_err q3).2, q4, q2⟩, no (by decide)⟩
  · cases hb rfl; cases hz rfl
    exact ⟨no (by decide), no (by decide), no (by decide), ⟨(mSize_err (st := st) h).2, z, z⟩, no (by decide)⟩
  · cases hb rfl; cases hz rfl
    exact ⟨no (by decide), no (by decide), no (by decide), ⟨(mSize_err (st := st) h).2, z, z⟩, no (by decide)⟩
theorem right_parts : ∀ (qs : List Req) (st : WSt), plainAll qs = true → (partsOf st qs).2 = 0 → RightAll qs
  | [], _, _, _ => by rw [RightAll]; trivial
  | x :: r, st, hp, h => by
    rw [plainAll_cons, Bool.and_eq_true] at hp
    rw [partsOf] at h
    split at h
    · exact absurd h (wNum_minus st)
    · rename_i hk
      have hk3 : 3 ≤ x.kind ∧ x.kind ≤ 7 := by simp [inPart] at hk; omega
      have h1 := (round_parts 0 r _ hp.2 h).1
      have hxs : spareOf x = false := by
        have := hp.1
        rw [plainOf_eq, Bool.and_eq_true] at this
        simpa using this.1
      rw [RightAll]
      exact ⟨⟨right_flat (by omega) (by omega) hxs h1, hk3⟩, right_parts r _ hp.2 h⟩
/-- a request that is not right, of a kind that there is -/
theorem enc_wrong {R : Req} (hk : wordOf R.kind ≠ []) (h : ¬ RightP R) : encOf R = ([], 171) := by
  have hkk := word_kind hk
  rcases encOf_errors R with h0 | h0 | h0
  · exfalso
    apply h
    unfold encOf at h0
    rw [if_neg (by omega)] at h0
    by_cases hp : plainOf R = false
    · rw [if_pos hp] at h0
      exact absurd h0 (by decide)
    rw [if_neg hp] at h0
    have hp' : plainOf R = true := by simpa using hp
    rw [plainOf_eq, Bool.and_eq_true] at hp'
    have hs : spareOf R = false := by simpa using hp'.1
    unfold framedW at h0
    by_cases hf : (fieldsOf (wByte ([], 0) R.kind) R).2 ≠ 0
    · rw [if_pos hf] at h0
      exact absurd h0 (by decide)
    have hf' : (fieldsOf (wByte ([], 0) R.kind) R).2 = 0 := by simpa using hf
    by_cases h12 : R.kind = 12
    · unfold fieldsOf at hf'
      rw [if_pos h12] at hf'
      have hr := right_parts _ _ hp'.2 hf'
      have hsf := spare_fields hs
      rw [RightP_eq]
      by_cases hc : R.asks.length = 0 ∨ 64 < R.asks.length
      · rw [if_pos hc] at hf'
        obtain ⟨e1, -⟩ := round_parts 0 _ _ hp'.2 hf'
        obtain ⟨e2, -⟩ := wNum_err e1
        exact absurd e2 (wNum_minus _)
      · have z : sizeP 0 := ⟨by omega, by omega⟩
        refine ⟨hk, hs, fun q => by omega, fun q => by omega, fun q => by omega, ⟨?_, ?_, ?_⟩, fun _ => ⟨by omega, by omega, hr⟩⟩
        · rw [hsf.1 (by unfold whichOf; simp; omega)]; exact z
        · rw [hsf.2.1 (by unfold whichOf; simp; omega)]; exact z
        · rw [hsf.2.2.1 (by unfold whichOf; simp; omega)]; exact z
    · unfold fieldsOf at hf'
      rw [if_neg h12] at hf'
      exact right_flat (by omega) (by omega) hs hf'
  · exfalso
    unfold encOf at h0
    rw [if_neg (by omega)] at h0
    split at h0
    · exact absurd h0 (by decide)
    · unfold framedW at h0
      repeat' split at h0
      all_goals exact absurd h0 (by simp)
  · exact h0
end Go.Proofs.YtpccaodkgboefaaGreatDoor

namespace Go.Proofs.YtpccaodkgboefaaGreatDoor
open Go.RowKit

theorem layParts_len : ∀ (qs : List Req) (st : WSt), (∀ x ∈ qs, Slight x) → (layParts st qs).1.length ≤ st.1.length + 450001 * qs.length
  | [], st, _ => by simp [layParts]
  | x :: r, st, h => by
    have h1 := layFlat_len (h x (by simp)) st
    have h2 := layParts_len r (layFlat st x) (fun y hy => h y (by simp [hy]))
    rw [layParts, List.length_cons]
    omega
theorem layParts_snoc : ∀ (qs : List Req) (st : WSt) {n : Nat} {x : Req}, qs[n]? = some x → layParts st (qs.take (n + 1)) = layFlat (layParts st (qs.take n)) x
  | [], _, n, x, h => by simp at h
  | y :: r, st, 0, x, h => by
    simp at h
    subst h
    simp [layParts]
  | y :: r, st, n + 1, x, h => by
    have := layParts_snoc r (layFlat st y) (n := n) (x := x) (by simpa using h)
    simpa [layParts] using this

set_option maxRecDepth 100000 in
set_option maxHeartbeats 8000000 in
theorem dlayGroup_any (R : Req) (hk : R.kind = 12) (hn : R.asks.length ≤ 64) (hr : RightAll R.asks) (B : Nat → Prop) (b : Nat) (st : WSt) (v : Value) (w : World) (hx : XRep w b st) (hv : ReqAt B w R v) (hB : ∀ q, B q → q ≠ b) (hlen : st.1.length ≤ 1000000) :
    Calls Tryz.prog 36 #[.pointer (some ⟨b, 0, none⟩), v] w fun e w' => e = .returned (.tuple #[]) ∧ Keeps (fun k => k = b) w w' ∧ XRep w' b (layParts (wNum (wByte st R.kind) R.asks.length) R.asks) := by
  obtain ⟨lv, ev, ao, cap, rfl, ⟨hl1, -⟩, ⟨he1, -⟩, hreqs, hal⟩ := hv.parts
  have HQ := hid hreqs
  obtain ⟨al, cl, rfl, -⟩ := hl1.ints_
  obtain ⟨ae, ce, rfl, -⟩ := he1.texts
  rw [hk]
  have hsl : ∀ x ∈ R.asks, Slight x ∧ x.kind ≠ 12 := fun x hx => by
    obtain ⟨i, hi⟩ := List.mem_iff_getElem?.1 hx
    obtain ⟨h1, h2, h3⟩ := (RightAll_iff _).1 hr i x hi
    exact ⟨h1.slight, by omega⟩
  have hbw : b < w.heap.size := hx.cells.2.2.2.2
  have hbox := heap_alloc_new w (.cells #[.int .i64 12, .int .i64 R.a, .int .i64 R.b, .int .i64 R.size, .slice al R.list.length cl, .slice ae R.entries.length ce, .slice ao R.asks.length cap] 26)
  have f0 : Fresh w (w.alloc (.cells #[.int .i64 12, .int .i64 R.a, .int .i64 R.b, .int .i64 R.size, .slice al R.list.length cl, .slice ae R.entries.length ce, .slice ao R.asks.length cap] 26)) := (Keeps.refl _ _).alloc _
  obtain ⟨w1, hw1⟩ : ∃ w1, w.alloc (.cells #[.int .i64 12, .int .i64 R.a, .int .i64 R.b, .int .i64 R.size, .slice al R.list.length cl, .slice ae R.entries.length ce, .slice ao R.asks.length cap] 26) = w1 := ⟨_, rfl⟩
  obtain ⟨bx, hbx⟩ : ∃ bx, w.heap.size = bx := ⟨_, rfl⟩
  have hne : bx ≠ b := by omega
  rw [hw1, hbx] at hbox
  rw [hw1] at f0
  have hx1 := hx.keeps f0 (fun h => h)
  have x0 := cell_at hbox 0
  simp at x0
  have HBOX := hid hbox
  have HSL := hid hsl
  have hby := byte_len st 12
  have hwd : wordOf 12 = [103] := rfl
  have HWD := hid hwd
  clear hbox hl1 he1 hv hreqs hsl hwd hr
  go_enter Tryz.func36, Tryz.ntmps36
  go_wp2_with fail
  refine (xbyte_any b st 12 w1 hx1 (by omega)).mono ?_
  rintro e w2 ⟨rfl, k2, hx2⟩
  have hb2 := k2.at_ HBOX.out hne
  clear x0
  have x0 := cell_at hb2 0
  simp at x0
  have K2 : Keeps (fun k => k = b) w w2 := Keeps.trans' (S := fun k => k = b) (f0.mono fun _ _ h => h.elim) k2 fun _ _ h => h
  go_wp2_with fail
  refine (dfields_any 12 w2).mono ?_
  rintro e _ ⟨rfl, rfl⟩
  rw [HWD.out]
  have hsz := str_size ([103] : List UInt8)
  have HB2 := hid hb2
  have hst := hid hx2
  clear x0 hb2 hx2
  go_wp2_with fail
  go_loopw [5] (fun i wr => ∃ n : Nat, i = .int .i64 (n : Int) ∧ ((n = 0 ∧ XRep wr b (wByte st 12)) ∨ (n = 1 ∧ XRep wr b (layParts (wNum (wByte st 12) R.asks.length) R.asks))) ∧ Keeps (fun k => k = b) w2 wr) (fun i _ => 1 - (intOf i).toNat)
  case atStart => exact ⟨0, rfl, .inl ⟨rfl, hst.out⟩, Keeps.refl _ _⟩
  case round =>
    obtain ⟨n, rfl, hn | hn, kn⟩ := hrel
    · obtain ⟨rfl, hxn⟩ := hn
      have hbn := kn.at_ HB2.out hne
      have KN : Keeps (fun k => k = b) w wr := K2.trans kn
      have hidx := byteOf_idx (b := [103]) (j := 0)
      rw [show byteOf [103] 0 = 103 from rfl] at hidx
      have x6 := cell_at hbn 6
      simp at x6
      go_wp2_with fail
      refine (xnum_any b (wByte st 12) R.asks.length wr hxn (by omega)).mono ?_
      rintro e w3 ⟨rfl, k3, hx3⟩
      have hnl := num_len (wByte st 12) R.asks.length
      have K3 := KN.trans k3
      have hb3 := k3.at_ hbn hne
      have HB3 := hid hb3
      clear x6 hbn hb3
      go_wp2_with fail
      rename World => w3
      go_loopw [6] (fun i wr => ∃ m : Nat, i = .int .i64 (m : Int) ∧ m ≤ R.asks.length ∧ XRep wr b (layParts (wNum (wByte st 12) R.asks.length) (R.asks.take m)) ∧ Keeps (fun k => k = b) w3 wr) (fun i _ => R.asks.length - (intOf i).toNat)
      case atStart => exact ⟨0, rfl, by omega, hx3, Keeps.refl _ _⟩
      case round =>
        obtain ⟨m, rfl, hm, hxm, km⟩ := hrel
        have hbm := km.at_ HB3.out hne
        have x6 := cell_at hbm 6
        simp at x6
        clear hbm
        have KM : Keeps (fun k => k = b) w wr := K3.trans km
        by_cases hlt : m < R.asks.length
        · obtain ⟨u, hu⟩ : ∃ u, R.asks[m]? = some u := ⟨R.asks[m], by simp⟩
          have hr1 := (ReqsAt.keeps KM (fun q h hb => hB q hb h) _ _ _ HQ.out).get hu
          obtain ⟨bq, off, c0, c1, c2, c3, c4, c5, c6, rfl, -, hbq, y0, y1, y2, y3, y4, y5, y6, hxa⟩ := hr1
          rw [Nat.zero_add] at y0 y1 y2 y3 y4 y5 y6
          have HXA := hid hxa
          obtain ⟨lx, ex, ax, capx, hee, ⟨hl1, -⟩, ⟨hl2, -⟩, -⟩ := hxa.parts
          obtain ⟨alx, clx, rfl, -⟩ := hl1.ints_
          obtain ⟨aex, cex, rfl, -⟩ := hl2.texts
          clear hl1 hl2 hxa
          simp only [Value.agg.injEq, Array.mk.injEq, List.cons.injEq, and_true] at hee
          obtain ⟨rfl, rfl, rfl, rfl, rfl, rfl, rfl⟩ := hee
          obtain ⟨hus, hu12⟩ := HSL.out u (List.mem_of_getElem? hu)
          have hll := layParts_len (R.asks.take m) (wNum (wByte st 12) R.asks.length) (fun y hy => (HSL.out y (List.mem_of_mem_take hy)).1)
          have htk : (R.asks.take m).length ≤ 64 := by rw [List.length_take]; omega
          have hmul : 450001 * (R.asks.take m).length ≤ 450001 * 64 := Nat.mul_le_mul_left _ htk
          have hcall := dlayFlat_any u hus hu12 _ b _ _ wr hxm HXA.out hB (by omega)
          have HC := hid hcall
          have hsn := layParts_snoc R.asks (wNum (wByte st 12) R.asks.length) hu
          have HSN := hid hsn
          have hm0 : (0 : Int) ≤ (m : Int) := by omega
          have hm1 : (m : Int) < (R.asks.length : Int) := by omega
          clear hcall hu hll htk hmul hsn hus
          go_wp2_with fail
          refine HC.out.mono ?_
          rintro e w6 ⟨rfl, k6, hx6⟩
          go_wp2_with fail
          go_roundw
          case rel => exact ⟨m + 1, by go_num, by omega, by rw [HSN.out]; exact hx6, km.trans k6⟩
          case measure => simp [intOf]; omega
        · obtain rfl : m = R.asks.length := by omega
          rw [List.take_length] at hxm
          go_wp2_with fail
          go_roundw
          case rel => exact ⟨1, by go_num, .inr ⟨rfl, hxm⟩, kn.trans (k3.trans km)⟩
          case measure => simp [intOf]
    · obtain ⟨rfl, hxn⟩ := hn
      go_wp2_with fail
      go_end0
      exact ⟨rfl, K2.trans kn, hxn⟩

theorem layOf_len {R : Req} (h : RightP R) : (layOf ([], 0) R).1.length ≤ 40000000 := by
  unfold layOf
  split
  · rename_i hk
    obtain ⟨-, -, -, -, -, -, h12⟩ := (RightP_eq R).1 h
    obtain ⟨-, hn, hr⟩ := h12 hk
    have h1 := byte_len ([], 0) R.kind
    have h2 := num_len (wByte ([], 0) R.kind) R.asks.length
    have h3 := layParts_len R.asks (wNum (wByte ([], 0) R.kind) R.asks.length) (fun y hy => by
      obtain ⟨i, hi⟩ := List.mem_iff_getElem?.1 hy
      exact ((RightAll_iff _).1 hr i y hi).1.slight)
    have h4 : 450001 * R.asks.length ≤ 450001 * 64 := Nat.mul_le_mul_left _ hn
    simp at h1
    omega
  · have h3 := layFlat_len h.slight ([], 0)
    simp at h3
    omega
theorem dlay_any (R : Req) (h : RightP R) (B : Nat → Prop) (b : Nat) (v : Value) (w : World) (hx : XRep w b ([], 0)) (hv : ReqAt B w R v) (hB : ∀ q, B q → q ≠ b) :
    Calls Tryz.prog 36 #[.pointer (some ⟨b, 0, none⟩), v] w fun e w' => e = .returned (.tuple #[]) ∧ Keeps (fun k => k = b) w w' ∧ XRep w' b (layOf ([], 0) R) := by
  unfold layOf
  by_cases hk : R.kind = 12
  · rw [if_pos hk]
    obtain ⟨-, -, -, -, -, -, h12⟩ := (RightP_eq R).1 h
    obtain ⟨-, hn, hr⟩ := h12 hk
    exact dlayGroup_any R hk hn hr B b ([], 0) v w hx hv hB (by simp)
  · rw [if_neg hk]
    exact dlayFlat_any R h.slight hk B b ([], 0) v w hx hv hB (by simp)

set_option maxRecDepth 100000 in
set_option maxHeartbeats 8000000 in
theorem dencode_any (B : Nat → Prop) (R : Req) (v : Value) (w : World) (hl : Laid w) (hv : ReqAt B w R v) (hB : ∀ q, B q → q < w.heap.size) (hfi : Fine R) :
    Calls Tryz.prog 10 #[v] w fun e w' => e = .returned (.tuple #[.string (str (encOf R).1), .int .i64 (encOf R).2]) ∧ Fresh w w' := by
  have HV := hid hv
  obtain ⟨lv, ev, ao, cap, rfl, ⟨hl1, -⟩, ⟨he1, -⟩, hreqs, hal⟩ := hv.parts
  obtain ⟨al, cl, rfl, -⟩ := hl1.ints_
  obtain ⟨ae, ce, rfl, -⟩ := he1.texts
  have hbox := heap_alloc_new w (.cells #[.int .i64 R.kind, .int .i64 R.a, .int .i64 R.b, .int .i64 R.size, .slice al R.list.length cl, .slice ae R.entries.length ce, .slice ao R.asks.length cap] 26)
  have f0 : Fresh w (w.alloc (.cells #[.int .i64 R.kind, .int .i64 R.a, .int .i64 R.b, .int .i64 R.size, .slice al R.list.length cl, .slice ae R.entries.length ce, .slice ao R.asks.length cap] 26)) := (Keeps.refl _ _).alloc _
  obtain ⟨w1, hw1⟩ : ∃ w1, w.alloc (.cells #[.int .i64 R.kind, .int .i64 R.a, .int .i64 R.b, .int .i64 R.size, .slice al R.list.length cl, .slice ae R.entries.length ce, .slice ao R.asks.length cap] 26) = w1 := ⟨_, rfl⟩
  obtain ⟨bx, hbx⟩ : ∃ bx, w.heap.size = bx := ⟨_, rfl⟩
  rw [hw1, hbx] at hbox
  rw [hw1] at f0
  have x0 := cell_at hbox 0
  have x1 := cell_at hbox 1
  have x2 := cell_at hbox 2
  have x3 := cell_at hbox 3
  have x4 := cell_at hbox 4
  have x5 := cell_at hbox 5
  have x6 := cell_at hbox 6
  simp at x0 x1 x2 x3 x4 x5 x6
  have HBOX := hid hbox
  clear hbox hl1 he1 hv hreqs
  obtain ⟨wd, hwd⟩ : ∃ wd, wordOf R.kind = wd := ⟨_, rfl⟩
  have HWD := hid hwd
  have HFI := hid hfi
  clear hfi
  go_enter Tryz.func10, Tryz.ntmps10
  go_wp2_with fail
  refine (dfields_any R.kind w1).mono ?_
  rintro e _ ⟨rfl, rfl⟩
  rw [hwd]
  clear hwd
  by_cases hnil : wd = []
  · subst hnil
    have hie : (str ([] : List UInt8)).toList.isEmpty = true := by rw [str_toList]; rfl
    have hen : encOf R = ([], 170) := by
      unfold encOf
      rw [if_pos]
      by_cases hc : 1 ≤ R.kind ∧ R.kind ≤ 12
      · exact absurd HWD.out (word_some hc.1 hc.2)
      · omega
    have hen := hid hen
    go_wp2_with fail
    go_ret2
    exact ⟨by rw [hen.out]; rfl, f0⟩
  have hie : (str wd).toList.isEmpty = false := by
    rw [str_toList]
    cases wd with
    | nil => exact absurd rfl hnil
    | cons a r => rfl
  go_wp2_with fail
  refine (dright_any _ R (Nat.le_refl _) HFI.out B _ w1 (HV.out.fresh f0)).mono ?_
  rintro e w2 ⟨⟨br, rfl, hbr⟩, f2⟩
  have F2 := f0.trans f2
  have hb2 := f2.at_ HBOX.out (fun h => h)
  clear x0 x1 x2 x3 x4 x5 x6
  cases br with
  | false =>
    have hen : encOf R = ([], 171) := enc_wrong (by rw [HWD.out]; exact hnil) (fun h => by have := hbr.2 h; cases this)
    have hen := hid hen
    go_wp2_with fail
    go_ret2
    exact ⟨by rw [hen.out]; rfl, F2⟩
  | true =>
    have hri := hid (hbr.1 rfl)
    have hen := hid (enc_right (hbr.1 rfl))
    have hll := layOf_len (hbr.1 rfl)
    have her := hid (encOf_errors R)
    clear hbr
    go_wp2_with fail
    refine (xnew_any w2 (hl.fresh_ F2)).mono ?_
    rintro e w3 ⟨bw, rfl, f3, hbw, hx3⟩
    have F3 := F2.trans f3
    have hb3 := f3.at_ hb2 (fun h => h)
    have x0 := cell_at hb3 0
    have x1 := cell_at hb3 1
    have x2 := cell_at hb3 2
    have x3 := cell_at hb3 3
    have x4 := cell_at hb3 4
    have x5 := cell_at hb3 5
    have x6 := cell_at hb3 6
    simp at x0 x1 x2 x3 x4 x5 x6
    have hne2 : ∀ q, B q → q ≠ bw := fun q hq => by have := hB q hq; have := F2.size; omega
    have hlay := hid (dlay_any R hri.out B bw _ w3 hx3 (HV.out.fresh F3) hne2)
    clear hb2 hb3 hx3 HBOX
    go_wp2_with fail
    refine hlay.out.mono ?_
    rintro e w4 ⟨rfl, k4, hx4⟩
    have F4 : Fresh w w4 := F3.trans' k4 fun q hq h => by have h : q = bw := h; have := F2.size; omega
    clear x0 x1 x2 x3 x4 x5 x6 hlay
    obtain ⟨st, hst⟩ : ∃ st, layOf ([], 0) R = st := ⟨_, rfl⟩
    rw [hst] at hx4 hll hen
    go_wp2_with fail
    refine (xdone_any bw st w4 hx4).mono ?_
    rintro e w5 ⟨rfl, f5⟩
    have F5 := F4.trans f5
    clear hst hx4
    by_cases h0 : st.2 = 0
    · have hd : wDone st = (st.1, 0) := by unfold wDone; rw [if_pos h0, h0]
      rw [hd]
      go_wp2_with fail
      refine (refframe_any st.1 w5 (by omega)).mono ?_
      rintro e w6 ⟨rfl, f6⟩
      have hfr : framed st.1 = encOf R := by
        have h1 := hen.out
        unfold framedW at h1
        rw [if_neg (by omega)] at h1
        by_cases h2 : (framed st.1).2 ≠ 0
        · rw [if_pos h2] at h1
          rcases her.out with h | h | h
          · rw [h1] at h
            cases h
          · rw [h1] at h
            cases h
          · rw [h1] at h
            cases h
        · rw [if_neg h2] at h1
          rw [h1]
          have h3 : (framed st.1).2 = 0 := by simpa using h2
          exact Prod.ext rfl h3
      have hfr := hid hfr
      go_wp2_with fail
      go_ret2
      exact ⟨by rw [← hfr.out]; rfl, F5.trans f6⟩
    · have hd : wDone st = ([], st.2) := by unfold wDone; rw [if_neg h0]
      have hen2 : encOf R = ([], 171) := by
        rw [hen.out]
        unfold framedW
        rw [if_pos h0]
      have hq : (st.2 != 0) = true := bne_iff_ne.2 h0
      rw [hd]
      have hen2 := hid hen2
      go_wp2_with fail
      go_ret2
      exact ⟨by rw [hen2.out]; rfl, F5⟩
end Go.Proofs.YtpccaodkgboefaaGreatDoor
