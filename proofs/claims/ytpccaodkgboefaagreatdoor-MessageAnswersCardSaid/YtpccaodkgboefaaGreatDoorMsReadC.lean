/-
  Package message: read.
-/
import Derived.Test.YtpccaodkgboefaaGreatDoorMMsG
import Derived.Test.YtpccaodkgboefaaGreatDoorMMsA
import Derived.Deep.DeepCutAuto
import Derived.Deep.CutBlock
import Derived.Outline
namespace Go.Proofs.YtpccaodkgboefaaGreatDoor
open Go.RowKit

def hasC (h : Has) : Array Value := #[.bool h.a, .bool h.b, .bool h.size, .bool h.list, .bool h.entries, .bool h.asks]
/-- what read leaves -/
def MRead (S : Nat → Prop) (b : Nat) (w : World) (q : Req × RSt) (e : Ending) (w' : World) : Prop :=
  ∃ S' bl v, e = .returned v ∧ Grows S S' w w' ∧ Keeps S w w' ∧ RRep S' w' b q.2 ∧ ReqOwn w' q.1 v bl ∧ bl.Nodup ∧ ∀ q ∈ bl, ¬ S' q ∧ w.heap.size ≤ q

/-- the beginning: three structs, nothing read -/
theorem ruw_start {S : Nat → Prop} {w w1 : World} {b : Nat} {r : RSt} (k : Int) (h : RRep S w b r) (hv : Array Value)
    (f1 : Fresh ((w.alloc (.cells zeroReq 26)).alloc (.cells #[.int .i64 k, .int .i64 0, .int .i64 0, .int .i64 0, .slice none 0 0, .slice none 0 0, .slice none 0 0] 26)) w1) :
    RUw S w b w.heap.size (w.heap.size + 1) w1.heap.size hv k 0 0 0 [] [] [] (.slice none 0 0) (.slice none 0 0) (.slice none 0 0) [] S (w1.alloc (.cells hv 94)) r := by
  have f0 : Fresh w ((w.alloc (.cells zeroReq 26)).alloc (.cells #[.int .i64 k, .int .i64 0, .int .i64 0, .int .i64 0, .slice none 0 0, .slice none 0 0, .slice none 0 0] 26)) := ((Keeps.refl _ _).alloc _).alloc _
  have f2 : Fresh w1 (w1.alloc (.cells hv 94)) := (Keeps.refl _ _).alloc _
  have f12 := f1.trans f2
  have f := f0.trans f12
  have hs := f1.size
  simp only [World.size_alloc] at hs
  have hb4 : ((w.alloc (.cells zeroReq 26)).alloc (.cells #[.int .i64 k, .int .i64 0, .int .i64 0, .int .i64 0, .slice none 0 0, .slice none 0 0, .slice none 0 0] 26)).heap[w.heap.size]? = some (.cells zeroReq 26 (0, 0)) := by
    rw [Below.heap_alloc _ _ _ (by simp)]
    exact heap_alloc_new w _
  have hb5 : ((w.alloc (.cells zeroReq 26)).alloc (.cells #[.int .i64 k, .int .i64 0, .int .i64 0, .int .i64 0, .slice none 0 0, .slice none 0 0, .slice none 0 0] 26)).heap[w.heap.size + 1]? = some (.cells #[.int .i64 k, .int .i64 0, .int .i64 0, .int .i64 0, .slice none 0 0, .slice none 0 0, .slice none 0 0] 26 (0, 0)) := by
    have := heap_alloc_new (w.alloc (.cells zeroReq 26)) (.cells #[.int .i64 k, .int .i64 0, .int .i64 0, .int .i64 0, .slice none 0 0, .slice none 0 0, .slice none 0 0] 26)
    simpa only [World.size_alloc] using this
  have hl : ∀ q, S q → q < w.heap.size := fun q hq => (h.2.1 q hq).2
  refine ⟨⟨h.fresh f, fun _ h => .inl h, f.mono (fun _ _ h => h.elim), f12.at_ hb4 (fun h => h), f12.at_ hb5 (fun h => h), heap_alloc_new w1 _, Nat.le_refl _, by omega, by omega, fun hq => ?_, fun hq => ?_, fun hq => ?_, by omega⟩, ?_, List.nodup_nil, fun q hq => by cases hq⟩
  · have := hl _ hq; omega
  · have := hl _ hq; omega
  · have := hl _ hq; omega
  · rw [ReqOwn]
    exact ⟨_, _, _, [], [], rfl, World.ownsRow_nil _ _ _ _, World.ownsRow_nil _ _ _ _, World.ownsRow_nil _ _ _ _, by rw [ElemsOwn]; exact ⟨rfl, rfl⟩, rfl⟩

theorem ruw_end {S S1 : Nat → Prop} {w w1 w2 : World} {b b4 b5 b6 : Nat} {hv : Array Value} {k a bb s : Int} {l : List Int} {e : List (List UInt8)} {qs : List Req} {lv ev av : Value} {bl : List Nat} {r1 : RSt}
    (h : RUw S w b b4 b5 b6 hv k a bb s l e qs lv ev av bl S1 w1 r1) (hk : Keeps (fun q => q = b4) w1 w2) : MRead S b w (.mk k a bb s l e qs, r1) (.returned (.agg #[.int .i64 k, .int .i64 a, .int .i64 bb, .int .i64 s, lv, ev, av])) w2 := by
  have n4 := h.go.n4
  exact ⟨S1, bl, _, rfl, fun q hq => (h.go.grows q hq).imp id (fun h => ⟨h.1, Nat.lt_of_lt_of_le h.2 hk.size⟩), h.go.keeps.trans' hk (fun q hq (e : q = b4) => by omega), h.go.rep.keeps hk (fun q hq (e : q = b4) => h.go.o4 (by rw [← e]; exact hq)),
    ReqOwn.keeps hk _ _ _ h.own (fun q hq => (h.new q hq).2.2.1), h.nodup, fun q hq => ⟨(h.new q hq).1, (h.new q hq).2.1⟩⟩

/-- the three pairs beside it -/
structure RUp (S : Nat → Prop) (w : World) (b b4 b6 bt : Nat) (hv ps : Array Value) (k a bb s : Int) (e : List (List UInt8)) (qs : List Req) (ev av : Value) (bl : List Nat) (S1 : Nat → Prop) (w1 : World) (r1 : RSt) : Prop where
  u : RUw S w b b4 (b4 + 1) b6 hv k a bb s [] e qs (.slice none 0 0) ev av bl S1 w1 r1
  box : w1.heap[bt]? = some (.cells ps 120 (0, 0))
  ot : ¬ S1 bt
section
variable {S S1 S2 : Nat → Prop} {w w1 w2 : World} {b b4 b6 bt : Nat} {hv ps : Array Value} {k a bb s : Int} {e : List (List UInt8)} {qs : List Req} {ev av : Value} {bl : List Nat} {r1 r2 : RSt}
theorem RUp.start (h : RUw S w b b4 (b4 + 1) b6 hv k a bb s [] e qs (.slice none 0 0) ev av bl S1 w1 r1) (ps : Array Value) : RUp S w b b4 b6 w1.heap.size hv ps k a bb s e qs ev av bl S1 (w1.alloc (.cells ps 120)) r1 :=
  ⟨h.fresh ((Keeps.refl _ _).alloc _), heap_alloc_new _ _, fun hs => by have := (h.go.rep.2.1 _ hs).2; omega⟩
theorem RUp.call (h : RUp S w b b4 b6 bt hv ps k a bb s e qs ev av bl S1 w1 r1) (hg : Grows S1 S2 w1 w2) (hk : Keeps S1 w1 w2) (hr : RRep S2 w2 b r2) : RUp S w b b4 b6 bt hv ps k a bb s e qs ev av bl S2 w2 r2 :=
  ⟨h.u.call hg hk hr, hk.at_ h.box h.ot, fun h2 => by
    have := lt_of_block h.box
    rcases hg bt h2 with h3 | h3
    · exact h.ot h3
    · omega⟩
theorem RUp.fresh (h : RUp S w b b4 b6 bt hv ps k a bb s e qs ev av bl S1 w1 r1) (hk : Fresh w1 w2) : RUp S w b b4 b6 bt hv ps k a bb s e qs ev av bl S1 w2 r1 :=
  ⟨h.u.fresh hk, hk.at_ h.box (fun h => h), h.ot⟩
theorem RUp.ne (h : RUp S w b b4 b6 bt hv ps k a bb s e qs ev av bl S1 w1 r1) : bt ≠ b4 + 1 := by
  rintro rfl
  have := h.box
  rw [h.u.go.box5] at this
  injection this with this
  injection this with _ this
  revert this
  decide
theorem RUp.put (h : RUp S w b b4 b6 bt hv ps k a bb s e qs ev av bl S1 w1 r1) (o : Nat) (u : Value) : (w1.setCell ⟨b4 + 1, o, none⟩ u).heap[bt]? = some (.cells ps 120 (0, 0)) := by
  rw [heap_setCell_ne _ _ _ _ h.ne]
  exact h.box
theorem RUp.num1 (h : RUp S w b b4 b6 bt hv ps k a bb s e qs ev av bl S1 w1 r1) (n : Int) : RUp S w b b4 b6 bt hv ps k n bb s e qs ev av bl S1 (w1.setCell ⟨b4 + 1, 1, none⟩ (.int .i64 n)) r1 := ⟨h.u.num1 n, h.put _ _, h.ot⟩
theorem RUp.num2 (h : RUp S w b b4 b6 bt hv ps k a bb s e qs ev av bl S1 w1 r1) (n : Int) : RUp S w b b4 b6 bt hv ps k a n s e qs ev av bl S1 (w1.setCell ⟨b4 + 1, 2, none⟩ (.int .i64 n)) r1 := ⟨h.u.num2 n, h.put _ _, h.ot⟩
theorem RUp.num3 (h : RUp S w b b4 b6 bt hv ps k a bb s e qs ev av bl S1 w1 r1) (n : Int) : RUp S w b b4 b6 bt hv ps k a bb n e qs ev av bl S1 (w1.setCell ⟨b4 + 1, 3, none⟩ (.int .i64 n)) r1 := ⟨h.u.num3 n, h.put _ _, h.ot⟩
end
/-- how far the numbers are taken -/
def Stage (fa fb fs : Bool) (r1 : RSt) : Nat → Int → Int → Int → RSt → Prop
  | 0, a, b, s, r => a = 0 ∧ b = 0 ∧ s = 0 ∧ r = r1
  | 1, a, b, s, r => a = (rN fa r1).1 ∧ b = 0 ∧ s = 0 ∧ r = (rN fa r1).2
  | 2, a, b, s, r => a = (rN fa r1).1 ∧ b = (rN fb (rN fa r1).2).1 ∧ s = 0 ∧ r = (rN fb (rN fa r1).2).2
  | 3, a, b, s, r => a = (rN fa r1).1 ∧ b = (rN fb (rN fa r1).2).1 ∧ s = (rN fs (rN fb (rN fa r1).2).2).1 ∧ r = (rN fs (rN fb (rN fa r1).2).2).2
  | _, _, _, _, _ => False

section
variable {fa fb fs : Bool} {a bb s : Int} {r1 r2 : RSt}
theorem stage0f : Stage false fb fs r1 0 a bb s r2 → Stage false fb fs r1 1 a bb s r2 := by rintro ⟨rfl, rfl, rfl, rfl⟩; exact ⟨rfl, rfl, rfl, rfl⟩
theorem stage0t : Stage true fb fs r1 0 a bb s r2 → Stage true fb fs r1 1 (rN true r2).1 bb s (rN true r2).2 := by rintro ⟨rfl, rfl, rfl, rfl⟩; exact ⟨rfl, rfl, rfl, rfl⟩
theorem stage1f : Stage fa false fs r1 1 a bb s r2 → Stage fa false fs r1 2 a bb s r2 := by rintro ⟨rfl, rfl, rfl, rfl⟩; exact ⟨rfl, rfl, rfl, rfl⟩
theorem stage1t : Stage fa true fs r1 1 a bb s r2 → Stage fa true fs r1 2 a (rN true r2).1 s (rN true r2).2 := by rintro ⟨rfl, rfl, rfl, rfl⟩; exact ⟨rfl, rfl, rfl, rfl⟩
theorem stage2f : Stage fa fb false r1 2 a bb s r2 → Stage fa fb false r1 3 a bb s r2 := by rintro ⟨rfl, rfl, rfl, rfl⟩; exact ⟨rfl, rfl, rfl, rfl⟩
theorem stage2t : Stage fa fb true r1 2 a bb s r2 → Stage fa fb true r1 3 a bb (rN true r2).1 (rN true r2).2 := by rintro ⟨rfl, rfl, rfl, rfl⟩; exact ⟨rfl, rfl, rfl, rfl⟩
end

theorem rRest_end {fa fb fs fl fe fq : Bool} {a bb s k : Int} {r1 r2 : RSt} (e : List (List UInt8)) (qs : List Req) (hW : whichOf k = ⟨fa, fb, fs, fl, fe, fq⟩) (hS : Stage fa fb fs r1 3 a bb s r2) : rRest k e qs r1 = (.mk k a bb s (rL fl r2).1 e qs, (rL fl r2).2) := by
  unfold rRest
  rw [hW]
  obtain ⟨rfl, rfl, rfl, rfl⟩ := hS
  rfl

theorem ReqOwn.shape {w : World} {x : Req} {v : Value} {bl : List Nat} (h : ReqOwn w x v bl) : ∃ al cl ae ce aq cq, v = .agg #[.int .i64 x.kind, .int .i64 x.a, .int .i64 x.b, .int .i64 x.size, .slice al x.list.length cl, .slice ae x.entries.length ce, .slice aq x.asks.length cq] := by
  cases x
  rw [ReqOwn] at h
  obtain ⟨lv, ev, av, cs, b1, rfl, h1, h2, h3, -⟩ := h
  obtain ⟨al, cl, rfl⟩ := ownsRow_slice h1
  obtain ⟨ae, ce, rfl⟩ := ownsRow_slice h2
  obtain ⟨aq, cq, rfl⟩ := ownsRow_slice h3
  exact ⟨al, cl, ae, ce, aq, cq, rfl⟩
theorem Tryz.infoReq : (Tryz.prog.info? 26).map (fun i => (i.zero, i.size, i.bytes)) = some (some (.agg #[.int .i64 0, .int .i64 0, .int .i64 0, .int .i64 0, .slice none 0 0, .slice none 0 0, .slice none 0 0]), 7, 104) := by kernel_rfl

set_option maxRecDepth 100000 in
set_option maxHeartbeats 4000000 in
theorem mread_core (F : Int → RSt → Req × RSt) (n : Nat) (hFl : ∀ k r, (F k r).2.1.length ≤ r.1.length) (hFk : ∀ k r, (F k r).1.kind = k)
    (S : Nat → Prop) (b : Nat) (r : RSt) (k : Int) (w : World) (h : RRep S w b r) (hn : r.1.length ≤ n)
    (hF : (whichOf k).asks = true → ∀ (S : Nat → Prop) (b : Nat) (r : RSt) (w : World) (k : Int), RRep S w b r → r.1.length < n ∨ k = 0 → Calls Tryz.prog 48 #[.pointer (some ⟨b, 0, none⟩), .int .i64 k] w fun e w' => MRead S b w (F k r) e w') :
    Calls Tryz.prog 48 #[.pointer (some ⟨b, 0, none⟩), .int .i64 k] w fun e w' => MRead S b w (rReqF F k r) e w' := by
  have hwh := which_any k
  obtain ⟨H, hH⟩ : ∃ H, whichOf k = H := ⟨_, rfl⟩
  rw [hH] at hwh
  have HWH := hid hwh
  have HW := hid hH
  clear hwh hH
  obtain ⟨fa, fb, fs, fl, fe, fq⟩ := H
  go_enter Tryz.func48, Tryz.ntmps48
  go_wp2_with fail
  refine (HWH.out _).mono ?_
  rintro e w1 ⟨rfl, f1⟩
  unfold hasV
  go_upto_block 0 with fail
  have U0 := ruw_start k h (hasC ⟨fa, fb, fs, fl, fe, fq⟩) f1
  have HU0 := hid U0
  obtain ⟨b6, hb6⟩ : ∃ b6, w1.heap.size = b6 := ⟨_, rfl⟩
  rw [hb6] at HU0 ⊢
  obtain ⟨b4, hb4⟩ : ∃ b4, w.heap.size = b4 := ⟨_, rfl⟩
  rw [hb4] at HU0 ⊢
  obtain ⟨W0, hW0⟩ : ∃ W0, w1.alloc (.cells #[.bool fa, .bool fb, .bool fs, .bool fl, .bool fe, .bool fq] 94) = W0 := ⟨_, rfl⟩
  have HU1 : Hid (RUw S w b b4 (b4 + 1) b6 (hasC ⟨fa, fb, fs, fl, fe, fq⟩) k 0 0 0 [] [] [] (.slice none 0 0) (.slice none 0 0) (.slice none 0 0) [] S W0 r) := by rw [← hW0]; exact HU0.out
  rw [hW0]
  clear HU0 U0 hW0 hb6 f1
  go_cut [] (fun wx => ∃ (e : List (List UInt8)) (qs : List Req) (ev av : Value) (bl : List Nat) (S1 : Nat → Prop) (r1 : RSt), RUw S w b b4 (b4 + 1) b6 (hasC ⟨fa, fb, fs, fl, fe, fq⟩) k 0 0 0 [] e qs (.slice none 0 0) ev av bl S1 wx r1 ∧ Hid (rReqF F k r = rRest k e qs r1))
  case first =>
    have HN := hid hn
    have HFL := hid hFl
    have HFK := hid hFk
    have HFF := hid hF
    clear hn hFl hFk hF
    have c64 := cell_at HU1.out.go.box6 4
    have c65 := cell_at HU1.out.go.box6 5
    simp [hasC] at c64 c65
    cases fe with
    | true =>
      have ht := rtexts_any S b r 32 4096 W0 HU1.out.go.rep (by omega)
      have HT := hid ht
      clear ht
      go_wp2_with fail
      refine HT.out.mono ?_
      rintro e w3 ⟨v, S3, rfl, hg3, hk3, hr3, hrow3, hn3⟩
      obtain ⟨av3, cv3, rfl⟩ := ownsRow_slice hrow3
      have U3 := HU1.out.call hg3 hk3 hr3
      obtain ⟨bl', U4⟩ := U3.entries rfl hrow3 (fun g hg => ⟨(hn3 g hg).1, by have := (hn3 g hg).2; have := HU1.out.go.keeps.size; omega⟩)
      have x5 := cell_at U3.go.box5 5
      have t5 := free_at U3.go.box5 5
      simp at x5
      have HE : Hid (rReqF F k r = rRest k (rd (pTexts 32 4096) [] r).1 [] (rd (pTexts 32 4096) [] r).2) := by
        rw [Hid, rReqF, HW.out, if_pos rfl]
        rfl
      have HU4 := hid U4
      clear U3 U4 hr3 hg3 hk3 hn3 hrow3
      generalize rd (pTexts 32 4096) [] r = RR at *
      go_wp2_with fail
      go_meet
      exact ⟨_, [], _, _, bl', S3, _, HU4.out, HE⟩
    | false =>
      cases fq with
      | false =>
        have HE : Hid (rReqF F k r = rRest k [] [] r) := by
          rw [Hid, rReqF, HW.out, if_neg (by simp), if_neg (by simp)]
        go_wp2_with fail
        go_meet
        exact ⟨[], [], _, _, [], S, r, HU1.out, HE⟩
      | true =>
        have HFF := hid (HFF.out (by rw [HW.out]))
        have ht := rnum_any S b r W0 HU1.out.go.rep
        have HT := hid ht
        clear ht
        have HE : Hid (rReqF F k r = rRest k [] (rAsks F (min (rd (pNum 0 0) 0 r).1 65) (rd (pNum 0 0) 0 r).2).1 (rAsks F (min (rd (pNum 0 0) 0 r).1 65) (rd (pNum 0 0) 0 r).2).2) := by
          rw [Hid, rReqF, HW.out, if_neg (by simp), if_pos rfl]
        have HL := hid (rd_len takes_num 0 r)
        go_wp2_with fail
        refine HT.out.mono ?_
        rintro e w3 ⟨rfl, S3, hg3, hk3, hr3⟩
        have U3 := HU1.out.call hg3 hk3 hr3
        have HU3 := hid U3
        clear U3 hg3 hk3 hr3 HT HU1
        obtain ⟨n1, hn1⟩ : ∃ n1, (rd (pNum 0 0) 0 r).1 = n1 := ⟨_, rfl⟩
        obtain ⟨r3, hr3⟩ : ∃ r3, (rd (pNum 0 0) 0 r).2 = r3 := ⟨_, rfl⟩
        rw [hn1, hr3] at HE
        rw [hr3] at HU3 HL
        rw [hn1]
        clear hn1 hr3
        clear c64 c65
        obtain ⟨i0, hi, hz0, hz1, hz2⟩ := info_parts Tryz.infoReq
        go_upto_block 1 with fail
        obtain ⟨m0, hm0⟩ : ∃ m0 : Nat, (if 65 < (n1 : Int) then 65 else (n1 : Int)) = (m0 : Int) := ⟨min n1 65, by split <;> omega⟩
        have hm1 : m0 = min n1 65 := by split at hm0 <;> omega
        rw [hm0]
        rw [← hm1] at HE
        have hm2 : m0 ≤ 65 := by omega
        clear hm0 hm1
        go_wp2_with fail
        go_loopw [7] (fun i wr => ∃ (m : Nat) (A : List Req) (av : Value) (bl : List Nat) (S2 : Nat → Prop) (r2 : RSt), i = .int .i64 (m : Int) ∧ A.length + m ≤ 65 ∧ RUw S w b b4 (b4 + 1) b6 (hasC ⟨fa, fb, fs, fl, false, true⟩) k 0 0 0 [] [] A (.slice none 0 0) (.slice none 0 0) av bl S2 wr r2 ∧ Hid (rAsks F m0 r3 = (A ++ (rAsks F m r2).1, (rAsks F m r2).2)) ∧ Hid (r2.1.length ≤ n)) (fun i _ => (intOf i).toNat)
        case atStart =>
          exact ⟨m0, [], _, [], S3, r3, rfl, by simpa using hm2, HU3.out, by simp [Hid], Nat.le_trans HL.out HN.out⟩
        case round =>
          obtain ⟨m, A, av, bl, S2, r2, rfl, hm, U, HA, HR2⟩ := hrel
          rcases m with _ | m
          · have HE2 : Hid (rReqF F k r = rRest k [] A r2) := by rw [Hid, HE.out, HA.out]; simp [rAsks]
            go_wp2_with fail
            go_meet
            exact ⟨[], A, _, av, bl, S2, r2, U, HE2⟩
          · obtain ⟨aav, cav, rfl⟩ : ∃ ao cap, av = .slice ao A.length cap := by obtain ⟨_, _, -, -, h3, -⟩ := U.rows; exact ownsRow_slice h3
            go_upto_region 9 with fail
            go_cut [] (fun wx => ∃ av' bl' S4, RUw S w b b4 (b4 + 1) b6 (hasC ⟨fa, fb, fs, fl, false, true⟩) k 0 0 0 [] [] (A ++ [(F (rd pByte 0 r2).1 (rd pByte 0 r2).2).1]) (.slice none 0 0) (.slice none 0 0) av' bl' S4 wx (F (rd pByte 0 r2).1 (rd pByte 0 r2).2).2)
            case first =>
              obtain ⟨csA, blA, hm0⟩ := U.mid
              have hm := hm0
              have l6 := cell_at hm.go.box5 6
              simp at l6
              have f6 := free_at hm.go.box5 6
              have l5 := lt_of_block hm.go.box5
              have hbl : (rd pByte 0 r2).2.1.length < n ∨ (((rd pByte 0 r2).1 : Nat) : Int) = 0 := by
                have := HR2.out
                rcases rd_byte_lt r2 with h1 | h1
                · exact .inl (by omega)
                · exact .inr (by omega)
              have HB := hid hbl
              have hx1 : (A.length : Int) < (A.length : Int) + 1 := by omega
              clear hbl hm0 U HA HE HL HR2 HN HU3
              go_region_law (first
                | ((first | (have hq := hm; refine step_push_at rfl (.tmp 31) (.tmp 37) 24 rfl 26 i0 (.agg #[.int .i64 0, .int .i64 0, .int .i64 0, .int .i64 0, .slice none 0 0, .slice none 0 0, .slice none 0 0]) 7 104 Tryz.underlying24 hi hz0 hz1 hz2 rfl (by decide) _ hq.row _ [.int .i64 0, .int .i64 0, .int .i64 0, .int .i64 0, .slice none 0 0, .slice none 0 0, .slice none 0 0] rfl (hq.zero _ rfl).1 (by decide) (by rfl) (by rfl) (by omega) (by unfold maxLen; omega) ?_) | (have hq := hm.made; refine step_push_at rfl (.tmp 31) (.tmp 37) 24 rfl 26 i0 (.agg #[.int .i64 0, .int .i64 0, .int .i64 0, .int .i64 0, .slice none 0 0, .slice none 0 0, .slice none 0 0]) 7 104 Tryz.underlying24 hi hz0 hz1 hz2 rfl (by decide) _ hq.row _ [.int .i64 0, .int .i64 0, .int .i64 0, .int .i64 0, .slice none 0 0, .slice none 0 0, .slice none 0 0] rfl (hq.zero _ rfl).1 (by decide) (by rfl) (by rfl) (by omega) (by unfold maxLen; omega) ?_) | (have hq := hm.made.drew_; refine step_push_at rfl (.tmp 31) (.tmp 37) 24 rfl 26 i0 (.agg #[.int .i64 0, .int .i64 0, .int .i64 0, .int .i64 0, .slice none 0 0, .slice none 0 0, .slice none 0 0]) 7 104 Tryz.underlying24 hi hz0 hz1 hz2 rfl (by decide) _ hq.row _ [.int .i64 0, .int .i64 0, .int .i64 0, .int .i64 0, .slice none 0 0, .slice none 0 0, .slice none 0 0] rfl (hq.zero _ rfl).1 (by decide) (by rfl) (by rfl) (by omega) (by unfold maxLen; omega) ?_)); intro v4 w4 ha; have hm := hq.push ha; obtain ⟨g4, cp4, rfl⟩ := hm.some'; (try clear l6); (try clear f6); (try clear l5); have l6 := cell_at hm.go.box5 6; simp at l6; have f6 := free_at hm.go.box5 6; have l5 := lt_of_block hm.go.box5; (try clear tc0 tf0 tc1 tf1 tc2 tf2 tc3 tf3 tc4 tf4 tc5 tf5 tc6 tf6); (try (have hne := hm.ne; obtain ⟨tc0, tf0⟩ := hm.tail 0 _ rfl; rw [Nat.add_zero] at tc0 tf0; obtain ⟨tc1, tf1⟩ := hm.tail 1 _ rfl; obtain ⟨tc2, tf2⟩ := hm.tail 2 _ rfl; obtain ⟨tc3, tf3⟩ := hm.tail 3 _ rfl; obtain ⟨tc4, tf4⟩ := hm.tail 4 _ rfl; obtain ⟨tc5, tf5⟩ := hm.tail 5 _ rfl; obtain ⟨tc6, tf6⟩ := hm.tail 6 _ rfl)))
                | (go_simp; go_at_call 49; (first | (have hq := hm; (with_reducible refine (rbyte_any S2 b r2 _ hq.go.rep).mono ?_)) | (have hq := hm.drew_; (with_reducible refine (rbyte_any S2 b r2 _ hq.go.rep).mono ?_)) | (have hq := hm.made.drew_; (with_reducible refine (rbyte_any S2 b r2 _ hq.go.rep).mono ?_)) | (have hq := hm.made; (with_reducible refine (rbyte_any S2 b r2 _ hq.go.rep).mono ?_)) | (have hq := hm.put6 (.slice (some ⟨g4, 0, none⟩) (A.length + 1) cp4); (with_reducible refine (rbyte_any S2 b r2 _ hq.go.rep).mono ?_))); rintro e w3 ⟨rfl, S3, g3, k3, q3⟩; have hm := hq.call g3 k3 q3; (try clear l6); (try clear f6); (try clear l5); have l6 := cell_at hm.go.box5 6; simp at l6; have f6 := free_at hm.go.box5 6; have l5 := lt_of_block hm.go.box5; (try clear tc0 tf0 tc1 tf1 tc2 tf2 tc3 tf3 tc4 tf4 tc5 tf5 tc6 tf6); (try (have hne := hm.ne; obtain ⟨tc0, tf0⟩ := hm.tail 0 _ rfl; rw [Nat.add_zero] at tc0 tf0; obtain ⟨tc1, tf1⟩ := hm.tail 1 _ rfl; obtain ⟨tc2, tf2⟩ := hm.tail 2 _ rfl; obtain ⟨tc3, tf3⟩ := hm.tail 3 _ rfl; obtain ⟨tc4, tf4⟩ := hm.tail 4 _ rfl; obtain ⟨tc5, tf5⟩ := hm.tail 5 _ rfl; obtain ⟨tc6, tf6⟩ := hm.tail 6 _ rfl)))
                | (go_simp; go_at_call 48; (first | (have hq := hm; (with_reducible refine (HFF.out S3 b _ _ _ hq.go.rep HB.out).mono ?_)) | (have hq := hm.drew_; (with_reducible refine (HFF.out S3 b _ _ _ hq.go.rep HB.out).mono ?_)) | (have hq := hm.made.drew_; (with_reducible refine (HFF.out S3 b _ _ _ hq.go.rep HB.out).mono ?_)) | (have hq := hm.made; (with_reducible refine (HFF.out S3 b _ _ _ hq.go.rep HB.out).mono ?_)) | (have hq := hm.put6 (.slice (some ⟨g4, 0, none⟩) (A.length + 1) cp4); (with_reducible refine (HFF.out S3 b _ _ _ hq.go.rep HB.out).mono ?_))); rintro e w5 ⟨S5, bx, v5, rfl, g5, k5, q5, o5, n5, nb5⟩; obtain ⟨al5, cl5, ae5, ce5, aq5, cq5, rfl⟩ := o5.shape; have hm := hq.read g5 k5 q5 o5 n5 nb5; (try clear l6); (try clear f6); (try clear l5); have l6 := cell_at hm.go.box5 6; simp at l6; have f6 := free_at hm.go.box5 6; have l5 := lt_of_block hm.go.box5; (try clear tc0 tf0 tc1 tf1 tc2 tf2 tc3 tf3 tc4 tf4 tc5 tf5 tc6 tf6); (try (have hne := hm.ne; obtain ⟨tc0, tf0⟩ := hm.tail 0 _ rfl; rw [Nat.add_zero] at tc0 tf0; obtain ⟨tc1, tf1⟩ := hm.tail 1 _ rfl; obtain ⟨tc2, tf2⟩ := hm.tail 2 _ rfl; obtain ⟨tc3, tf3⟩ := hm.tail 3 _ rfl; obtain ⟨tc4, tf4⟩ := hm.tail 4 _ rfl; obtain ⟨tc5, tf5⟩ := hm.tail 5 _ rfl; obtain ⟨tc6, tf6⟩ := hm.tail 6 _ rfl))))
              all_goals
                go_wp2
                go_meet
                first
                | (with_reducible exact hm.finA)
                | (with_reducible exact hm.finB)
                | (with_reducible exact hm.finC)
            case rest =>
              obtain ⟨av', bl', S4, U4⟩ := hcut
              have HA2 : Hid (rAsks F m0 r3 = (A ++ (if inPart (F (rd pByte 0 r2).1 (rd pByte 0 r2).2).1.kind = false then ([(F (rd pByte 0 r2).1 (rd pByte 0 r2).2).1], (F (rd pByte 0 r2).1 (rd pByte 0 r2).2).2) else ((F (rd pByte 0 r2).1 (rd pByte 0 r2).2).1 :: (rAsks F m (F (rd pByte 0 r2).1 (rd pByte 0 r2).2).2).1, (rAsks F m (F (rd pByte 0 r2).1 (rd pByte 0 r2).2).2).2)).1, (if inPart (F (rd pByte 0 r2).1 (rd pByte 0 r2).2).1.kind = false then ([(F (rd pByte 0 r2).1 (rd pByte 0 r2).2).1], (F (rd pByte 0 r2).1 (rd pByte 0 r2).2).2) else ((F (rd pByte 0 r2).1 (rd pByte 0 r2).2).1 :: (rAsks F m (F (rd pByte 0 r2).1 (rd pByte 0 r2).2).2).1, (rAsks F m (F (rd pByte 0 r2).1 (rd pByte 0 r2).2).2).2)).2)) := HA.out
              have HL2 : Hid ((F (rd pByte 0 r2).1 (rd pByte 0 r2).2).2.1.length ≤ n) := Nat.le_trans (HFL.out _ _) (Nat.le_trans (rd_len takes_byte _ _) HR2.out)
              generalize F (rd pByte 0 r2).1 (rd pByte 0 r2).2 = X at *
              obtain ⟨x, rr⟩ := X
              obtain ⟨g, cg, rfl, y6, yk⟩ := U4.last
              have hni := inpart_any x.kind
              have HNI := hid hni
              have hx1 : (A.length : Int) < (A.length : Int) + 1 := by omega
              have HU4 := hid U4
              clear hni U4 U HA HFF HFL HFK HR2 HL HN HU3
              go_wp2_with fail
              refine (HNI.out _).mono ?_
              rintro e _ ⟨rfl, rfl⟩
              cases hin : inPart x.kind with
              | false =>
                have HE2 : Hid (rReqF F k r = rRest k [] (A ++ [x]) rr) := by rw [Hid, HE.out, HA2.out]; simp [hin]
                go_wp2_with fail
                go_meet
                exact ⟨[], A ++ [x], _, _, bl', S4, rr, HU4.out, HE2⟩
              | true =>
                have HA3 : Hid (rAsks F m0 r3 = ((A ++ [x]) ++ (rAsks F m rr).1, (rAsks F m rr).2)) := by rw [Hid, HA2.out]; simp [hin]
                go_wp2_with fail
                go_roundw
                case rel => exact ⟨m, A ++ [x], _, bl', S4, rr, by go_num, by simp; omega, HU4.out, HA3, HL2.out⟩
                case measure => simp [intOf]
  case rest =>
    obtain ⟨e, qs, ev, av, bl, S1, r1, U, HF⟩ := hcut
    obtain ⟨aev, cev, rfl⟩ : ∃ ao cap, ev = .slice ao e.length cap := by obtain ⟨_, _, -, h2, -⟩ := U.rows; exact ownsRow_slice h2
    obtain ⟨aav, cav, rfl⟩ : ∃ ao cap, av = .slice ao qs.length cap := by obtain ⟨_, _, -, -, h3, -⟩ := U.rows; exact ownsRow_slice h3
    have c60 := cell_at U.go.box6 0
    have c61 := cell_at U.go.box6 1
    have c62 := cell_at U.go.box6 2
    simp [hasC] at c60 c61 c62
    have P := RUp.start U #[.bool fa, .pointer (some ⟨b4 + 1, 1, none⟩), .bool fb, .pointer (some ⟨b4 + 1, 2, none⟩), .bool fs, .pointer (some ⟨b4 + 1, 3, none⟩)]
    have HP := hid P
    obtain ⟨bt, hbt⟩ : ∃ bt, wc.heap.size = bt := ⟨_, rfl⟩
    rw [hbt] at HP
    have HB := hid hbt
    clear P U hbt
    go_wp2_with fail
    rw [HB.out]
    have HP0 := HP.out
    generalize wc.alloc (.cells #[.bool fa, .pointer (some ⟨b4 + 1, 1, none⟩), .bool fb, .pointer (some ⟨b4 + 1, 2, none⟩), .bool fs, .pointer (some ⟨b4 + 1, 3, none⟩)] 120) = wl at HP0 ⊢
    clear HP HB c60 c61 c62
    have HP1 := hid HP0
    clear HP0
    go_loopw [66] (fun i wr => ∃ (m : Nat) (a bb s : Int) (S2 : Nat → Prop) (r2 : RSt), i = .int .i64 (m : Int) ∧ Hid (Stage fa fb fs r1 m a bb s r2) ∧ RUp S w b b4 b6 bt (hasC ⟨fa, fb, fs, fl, fe, fq⟩) #[.bool fa, .pointer (some ⟨b4 + 1, 1, none⟩), .bool fb, .pointer (some ⟨b4 + 1, 2, none⟩), .bool fs, .pointer (some ⟨b4 + 1, 3, none⟩)] k a bb s e qs (.slice aev e.length cev) (.slice aav qs.length cav) bl S2 wr r2) (fun i _ => 3 - (intOf i).toNat)
    case atStart => exact ⟨0, 0, 0, 0, S1, r1, rfl, ⟨rfl, rfl, rfl, rfl⟩, HP1.out⟩
    case round =>
      obtain ⟨m, a, bb, s, S2, r2, rfl, HS, P⟩ := hrel
      have p0 := cell_at P.box 0
      have p1 := cell_at P.box 1
      have p2 := cell_at P.box 2
      have p3 := cell_at P.box 3
      have p4 := cell_at P.box 4
      have p5 := cell_at P.box 5
      simp at p0 p1 p2 p3 p4 p5
      rcases m with _ | _ | _ | _ | m
      · have HSo := HS.out
        cases fa with
        | false =>
          clear HS
          have HSO := hid HSo
          clear HSo
          go_wp2_with fail
          go_roundw
          case rel => exact ⟨1, a, bb, s, S2, r2, by go_num, stage0f HSO.out, P.fresh ((Keeps.refl _ _).alloc _)⟩
          case measure => simp [intOf]
        | true =>
          clear HS
          have HSO := hid HSo
          clear HSo
          go_upto_region 15 with fail
          have P1 := P.fresh ((Keeps.refl (fun _ => False) wr).alloc (.cells #[.bool true, .pointer (some ⟨b4 + 1, 1, none⟩)] 120))
          have hb9 := heap_alloc_new wr (.cells #[.bool true, .pointer (some ⟨b4 + 1, 1, none⟩)] 120)
          have hn9 : ¬ S2 wr.heap.size := fun hs => by have := (P.u.go.rep.2.1 _ hs).2; omega
          clear p0 p1 p2 p3 p4 p5
          obtain ⟨b9, hb9e⟩ : ∃ b9, wr.heap.size = b9 := ⟨_, rfl⟩
          rw [hb9e] at hb9 hn9 ⊢
          clear hb9e
          generalize wr.alloc (.cells #[.bool true, .pointer (some ⟨b4 + 1, 1, none⟩)] 120) = W1 at P1 hb9 ⊢
          have P2 : RUp S w b b4 b6 bt _ _ k _ _ _ e qs (.slice aev e.length cev) (.slice aav qs.length cav) bl S2 W1.drew r2 := P1.fresh ((Keeps.refl _ _).drew)
          have y1 := cell_at hb9 1
          simp at y1
          have HB9 := hid hb9
          have HP2 := hid P2
          clear hb9 P1 P2
          go_region_law (first | (go_simp; go_at_call 87; refine (rnum_any S2 b r2 _ HP2.out.u.go.rep).mono ?_; rintro e w3 ⟨rfl, S3, hg3, hk3, hr3⟩; have P3 := HP2.out.call hg3 hk3 hr3; have z9 := cell_at (hk3.at_ (k := b9) HB9.out hn9) 1; have q1 := cell_at P3.u.go.box5 1; have q2 := free_at P3.u.go.box5 1; simp at z9 q1))
          all_goals
            go_wp2
            go_roundw
            case rel => exact ⟨1, (rN true r2).1, bb, s, S3, (rN true r2).2, by go_num, stage0t HSO.out, P3.num1 _⟩
            case measure => simp [intOf]
      · have HSo := HS.out
        cases fb with
        | false =>
          clear HS
          have HSO := hid HSo
          clear HSo
          go_wp2_with fail
          go_roundw
          case rel => exact ⟨2, a, bb, s, S2, r2, by go_num, stage1f HSO.out, P.fresh ((Keeps.refl _ _).alloc _)⟩
          case measure => simp [intOf]
        | true =>
          clear HS
          have HSO := hid HSo
          clear HSo
          go_upto_region 15 with fail
          have P1 := P.fresh ((Keeps.refl (fun _ => False) wr).alloc (.cells #[.bool true, .pointer (some ⟨b4 + 1, 2, none⟩)] 120))
          have hb9 := heap_alloc_new wr (.cells #[.bool true, .pointer (some ⟨b4 + 1, 2, none⟩)] 120)
          have hn9 : ¬ S2 wr.heap.size := fun hs => by have := (P.u.go.rep.2.1 _ hs).2; omega
          clear p0 p1 p2 p3 p4 p5
          obtain ⟨b9, hb9e⟩ : ∃ b9, wr.heap.size = b9 := ⟨_, rfl⟩
          rw [hb9e] at hb9 hn9 ⊢
          clear hb9e
          generalize wr.alloc (.cells #[.bool true, .pointer (some ⟨b4 + 1, 2, none⟩)] 120) = W1 at P1 hb9 ⊢
          have P2 : RUp S w b b4 b6 bt _ _ k _ _ _ e qs (.slice aev e.length cev) (.slice aav qs.length cav) bl S2 W1.drew r2 := P1.fresh ((Keeps.refl _ _).drew)
          have y1 := cell_at hb9 1
          simp at y1
          have HB9 := hid hb9
          have HP2 := hid P2
          clear hb9 P1 P2
          go_region_law (first | (go_simp; go_at_call 87; refine (rnum_any S2 b r2 _ HP2.out.u.go.rep).mono ?_; rintro e w3 ⟨rfl, S3, hg3, hk3, hr3⟩; have P3 := HP2.out.call hg3 hk3 hr3; have z9 := cell_at (hk3.at_ (k := b9) HB9.out hn9) 1; have q1 := cell_at P3.u.go.box5 2; have q2 := free_at P3.u.go.box5 2; simp at z9 q1))
          all_goals
            go_wp2
            go_roundw
            case rel => exact ⟨2, a, (rN true r2).1, s, S3, (rN true r2).2, by go_num, stage1t HSO.out, P3.num2 _⟩
            case measure => simp [intOf]
      · have HSo := HS.out
        cases fs with
        | false =>
          clear HS
          have HSO := hid HSo
          clear HSo
          go_wp2_with fail
          go_roundw
          case rel => exact ⟨3, a, bb, s, S2, r2, by go_num, stage2f HSO.out, P.fresh ((Keeps.refl _ _).alloc _)⟩
          case measure => simp [intOf]
        | true =>
          clear HS
          have HSO := hid HSo
          clear HSo
          go_upto_region 15 with fail
          have P1 := P.fresh ((Keeps.refl (fun _ => False) wr).alloc (.cells #[.bool true, .pointer (some ⟨b4 + 1, 3, none⟩)] 120))
          have hb9 := heap_alloc_new wr (.cells #[.bool true, .pointer (some ⟨b4 + 1, 3, none⟩)] 120)
          have hn9 : ¬ S2 wr.heap.size := fun hs => by have := (P.u.go.rep.2.1 _ hs).2; omega
          clear p0 p1 p2 p3 p4 p5
          obtain ⟨b9, hb9e⟩ : ∃ b9, wr.heap.size = b9 := ⟨_, rfl⟩
          rw [hb9e] at hb9 hn9 ⊢
          clear hb9e
          generalize wr.alloc (.cells #[.bool true, .pointer (some ⟨b4 + 1, 3, none⟩)] 120) = W1 at P1 hb9 ⊢
          have P2 : RUp S w b b4 b6 bt _ _ k _ _ _ e qs (.slice aev e.length cev) (.slice aav qs.length cav) bl S2 W1.drew r2 := P1.fresh ((Keeps.refl _ _).drew)
          have y1 := cell_at hb9 1
          simp at y1
          have HB9 := hid hb9
          have HP2 := hid P2
          clear hb9 P1 P2
          go_region_law (first | (go_simp; go_at_call 87; refine (rnum_any S2 b r2 _ HP2.out.u.go.rep).mono ?_; rintro e w3 ⟨rfl, S3, hg3, hk3, hr3⟩; have P3 := HP2.out.call hg3 hk3 hr3; have z9 := cell_at (hk3.at_ (k := b9) HB9.out hn9) 1; have q1 := cell_at P3.u.go.box5 3; have q2 := free_at P3.u.go.box5 3; simp at z9 q1))
          all_goals
            go_wp2
            go_roundw
            case rel => exact ⟨3, a, bb, (rN true r2).1, S3, (rN true r2).2, by go_num, stage2t HSO.out, P3.num3 _⟩
            case measure => simp [intOf]
      · have HSO := hid HS.out
        clear HS
        have d6 := cell_at P.u.go.box6 3
        simp [hasC] at d6
        have hr3 := rrising_any S2 b r2 256 wr P.u.go.rep (by omega)
        have HR3 := hid hr3
        have HP := hid P
        clear hr3 p0 p1 p2 p3 p4 p5 P
        cases fl with
        | false =>
          have q0 := cell_at HP.out.u.go.box5 0
          have q1 := cell_at HP.out.u.go.box5 1
          have q2 := cell_at HP.out.u.go.box5 2
          have q3 := cell_at HP.out.u.go.box5 3
          have q4 := cell_at HP.out.u.go.box5 4
          have q5 := cell_at HP.out.u.go.box5 5
          have q6 := cell_at HP.out.u.go.box5 6
          have z0 := cell_at HP.out.u.go.box4 0
          have z1 := cell_at HP.out.u.go.box4 1
          have z2 := cell_at HP.out.u.go.box4 2
          have z3 := cell_at HP.out.u.go.box4 3
          have z4 := cell_at HP.out.u.go.box4 4
          have z5 := cell_at HP.out.u.go.box4 5
          have z6 := cell_at HP.out.u.go.box4 6
          have y0 := free_at HP.out.u.go.box4 0
          have y1 := free_at HP.out.u.go.box4 1
          have y2 := free_at HP.out.u.go.box4 2
          have y3 := free_at HP.out.u.go.box4 3
          have y4 := free_at HP.out.u.go.box4 4
          have y5 := free_at HP.out.u.go.box4 5
          have y6 := free_at HP.out.u.go.box4 6
          simp [zeroReq] at q0 q1 q2 q3 q4 q5 q6 z0 z1 z2 z3 z4 z5 z6
          go_wp2_with fail
          (try simp only [Exit.inBlock, Exit.then])
          refine bodyPost_ret (results_cell_row rfl _ _ b4 26 _ (0, 0) _ rfl (by exact (heap_setCell_at (heap_setCell_at (heap_setCell_at (heap_setCell_at (heap_setCell_at (heap_setCell_at (heap_setCell_at (HP.out.u.go.box4) 0 _) 1 _) 2 _) 3 _) 4 _) 5 _) 6 _)) Tryz.underlying26 rfl (by kernel_rfl)) rfl ?_
          have hE := ruw_end HP.out.u (w2 := (((((((wr.setCell ⟨b4, 0, none⟩ (.int .i64 k)).setCell ⟨b4, 1, none⟩ (.int .i64 a)).setCell ⟨b4, 2, none⟩ (.int .i64 bb)).setCell ⟨b4, 3, none⟩ (.int .i64 s)).setCell ⟨b4, 4, none⟩ (.slice none 0 0)).setCell ⟨b4, 5, none⟩ (.slice aev e.length cev)).setCell ⟨b4, 6, none⟩ (.slice aav qs.length cav)))
            ((((((((Keeps.refl (fun q => q = b4) wr).setCell (fun _ => rfl) _).setCell (fun _ => rfl) _).setCell (fun _ => rfl) _).setCell (fun _ => rfl) _).setCell (fun _ => rfl) _).setCell (fun _ => rfl) _).setCell (fun _ => rfl) _)
          rw [HF.out, rRest_end e qs HW.out HSO.out]
          exact hE
        | true =>
          go_wp2_with fail
          refine HR3.out.mono ?_
          rintro e2 w3 ⟨v, S3, rfl, hg3, hk3, hr3, hrow3, hn3⟩
          obtain ⟨av3, cv3, rfl⟩ := ownsRow_slice hrow3
          have U3 := HP.out.u.call hg3 hk3 hr3
          obtain ⟨bl', U4⟩ := U3.list rfl hrow3 (fun g hg => ⟨(hn3 g hg).1, by have := (hn3 g hg).2; have := HP.out.u.go.keeps.size; omega, fun hm => by have := ReqOwn.there _ _ _ HP.out.u.own g hm; have := (hn3 g hg).2; omega⟩)
          have x4 := cell_at U3.go.box5 4
          have t4 := free_at U3.go.box5 4
          simp at x4
          have HE2 : Hid (rRest k e qs r1 = (.mk k a bb s (rd (pRising 256) [] r2).1 e qs, (rd (pRising 256) [] r2).2)) := rRest_end e qs HW.out HSO.out
          generalize rd (pRising 256) [] r2 = RR at *
          have HU4 := hid U4
          clear U3 U4 hrow3 hr3 hg3 hk3 hn3
          have q0 := cell_at HU4.out.go.box5 0
          have q1 := cell_at HU4.out.go.box5 1
          have q2 := cell_at HU4.out.go.box5 2
          have q3 := cell_at HU4.out.go.box5 3
          have q4 := cell_at HU4.out.go.box5 4
          have q5 := cell_at HU4.out.go.box5 5
          have q6 := cell_at HU4.out.go.box5 6
          have z0 := cell_at HU4.out.go.box4 0
          have z1 := cell_at HU4.out.go.box4 1
          have z2 := cell_at HU4.out.go.box4 2
          have z3 := cell_at HU4.out.go.box4 3
          have z4 := cell_at HU4.out.go.box4 4
          have z5 := cell_at HU4.out.go.box4 5
          have z6 := cell_at HU4.out.go.box4 6
          have y0 := free_at HU4.out.go.box4 0
          have y1 := free_at HU4.out.go.box4 1
          have y2 := free_at HU4.out.go.box4 2
          have y3 := free_at HU4.out.go.box4 3
          have y4 := free_at HU4.out.go.box4 4
          have y5 := free_at HU4.out.go.box4 5
          have y6 := free_at HU4.out.go.box4 6
          simp [zeroReq] at q0 q1 q2 q3 q4 q5 q6 z0 z1 z2 z3 z4 z5 z6
          go_wp2_with fail
          (try simp only [Exit.inBlock, Exit.then])
          refine bodyPost_ret (results_cell_row rfl _ _ b4 26 _ (0, 0) _ rfl (by exact (heap_setCell_at (heap_setCell_at (heap_setCell_at (heap_setCell_at (heap_setCell_at (heap_setCell_at (heap_setCell_at (HU4.out.go.box4) 0 _) 1 _) 2 _) 3 _) 4 _) 5 _) 6 _)) Tryz.underlying26 rfl (by kernel_rfl)) rfl ?_
          have hE := ruw_end HU4.out (w2 := ((((((((w3.setCell ⟨b4 + 1, 4, none⟩ (.slice av3 RR.1.length cv3)).setCell ⟨b4, 0, none⟩ (.int .i64 k)).setCell ⟨b4, 1, none⟩ (.int .i64 a)).setCell ⟨b4, 2, none⟩ (.int .i64 bb)).setCell ⟨b4, 3, none⟩ (.int .i64 s)).setCell ⟨b4, 4, none⟩ (.slice av3 RR.1.length cv3)).setCell ⟨b4, 5, none⟩ (.slice aev e.length cev)).setCell ⟨b4, 6, none⟩ (.slice aav qs.length cav)))
            ((((((((Keeps.refl (fun q => q = b4) _).setCell (fun _ => rfl) _).setCell (fun _ => rfl) _).setCell (fun _ => rfl) _).setCell (fun _ => rfl) _).setCell (fun _ => rfl) _).setCell (fun _ => rfl) _).setCell (fun _ => rfl) _)
          rw [HF.out, HE2.out]
          exact hE
      · exact HS.out.elim
theorem mread_zero (S : Nat → Prop) (b : Nat) (r : RSt) (w : World) (h : RRep S w b r) : Calls Tryz.prog 48 #[.pointer (some ⟨b, 0, none⟩), .int .i64 0] w fun e w' => MRead S b w (.mk 0 0 0 0 [] [] [], r) e w' :=
  mread_core (fun k r => (.mk k 0 0 0 [] [] [], r)) r.1.length (fun _ _ => Nat.le_refl _) (fun _ _ => rfl) S b r 0 w h (Nat.le_refl _) (fun h => absurd h (by decide))
/-- read, whatever the bytes -/
theorem mread_any : ∀ (n : Nat) (S : Nat → Prop) (b : Nat) (r : RSt) (w : World) (k : Int), RRep S w b r → r.1.length < n ∨ k = 0 → Calls Tryz.prog 48 #[.pointer (some ⟨b, 0, none⟩), .int .i64 k] w fun e w' => MRead S b w (rReq n k r) e w'
  | n, S, b, r, w, k, h, hn => by
    by_cases hk : k = 0
    · subst hk
      rw [rReq_zero]
      exact mread_zero S b r w h
    · cases n with
      | zero => exact absurd (hn.resolve_right hk) (by omega)
      | succ n =>
        have hn := hn.resolve_right hk
        rw [rReq_succ]
        exact mread_core (rReq n) n (rReq_len n) (rReq_kind n) S b r k w h (by omega) (fun _ => mread_any n)
end Go.Proofs.YtpccaodkgboefaaGreatDoor
