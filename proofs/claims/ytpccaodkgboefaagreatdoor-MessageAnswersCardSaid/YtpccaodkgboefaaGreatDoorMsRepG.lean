/-
  Package message: a group's replies, laid down.
-/
import Derived.Test.YtpccaodkgboefaaGreatDoorMsRepF
import Derived.Test.YtpccaodkgboefaaGreatDoorMsRepM
namespace Go.Proofs.YtpccaodkgboefaaGreatDoor
open Go.RowKit

def wtP (x : Rep) : Nat := 33 * x.hashes.length + x.root.length + 100
def wtPs : List Rep → Nat
  | [] => 0
  | x :: r => wtP x + wtPs r
theorem mRest_len (st : WSt) (R : Rep) : (mRest st R).1.length ≤ st.1.length + 10 := by
  unfold mRest
  split
  · exact wNum_len _ _
  · omega
theorem mRoot_len (st : WSt) (s : List UInt8) : (mRoot st s).1.length ≤ st.1.length + s.length + 10 := by
  unfold mRoot wRaw
  have := wNum_len st (-1)
  simp only [List.length_append]
  split <;> omega
theorem mStatus_len (st : WSt) (s : Int) : (mStatus st s).1.length ≤ st.1.length + 1 := wByte_len _ _
theorem mPart_len (st : WSt) (x : Rep) : (mPart st x).1.length ≤ st.1.length + wtP x := by
  cases x with
  | mk z s a b r h e p =>
    unfold wtP
    simp only [Rep.hashes, Rep.root]
    rw [mPart]
    have h0 := mStatus_len st z
    split
    · split
      · have h1 := wByte_len (mStatus st z) 1
        have h2 := mRoot_len (wByte (mStatus st z) 1) r
        have h3 := mRest_len (mRoot (wByte (mStatus st z) 1) r) (.mk z s a b [] h e p)
        omega
      · have h1 := wByte_len (mStatus st z) 0
        have h2 := wHashes_len (wByte (mStatus st z) 0) h 32768
        have h3 := mRest_len (wHashes (wByte (mStatus st z) 0) h 32768) (.mk z s a b r [] e p)
        omega
    · have h3 := mRest_len (mStatus st z) (.mk z s a b r h e p)
      omega

set_option maxRecDepth 100000 in
set_option maxHeartbeats 4000000 in
theorem xparts_w (B : Nat → Prop) (S : Nat → Prop) (wb br : Nat) (st : WSt) (z s a b : Int) (t : List UInt8) (hv ev : Value) (P : List Rep) (ap : Option Addr) (cp : Nat) (w : World) (hwr : WRep S w wb st)
    (hb : w.heap[br]? = some (.cells #[.int .i64 z, .int .i64 s, .int .i64 a, .int .i64 b, .string (str t), hv, ev, .slice ap P.length cp] 48 (0, 0))) (ho : ¬ S br) (hrs : RepsAt B w P ap 0) (hB : ∀ q, B q → q < w.heap.size) (hSB : ∀ q, S q ∨ q = br → ¬ B q) (hpl : P.length ≤ 9223372036854775807) (hlen : st.1.length + wtPs P + 100 < 70368744177664) :
    Calls Tryz.prog 100 #[aggW wb br] w fun e' w' => e' = .returned (.tuple #[]) ∧ XW S w br wb (mParts st P) #[.int .i64 z, .int .i64 s, .int .i64 a, .int .i64 b, .string (str t), hv, ev, .slice none 0 0] w' := by
  obtain ⟨M, hM0⟩ : ∃ M, mParts st P = M := ⟨_, rfl⟩
  rw [hM0]
  have HM := hid hM0
  clear hM0
  have fx : Fresh w (w.alloc (.cells #[.pointer (some ⟨wb, 0, none⟩), .pointer none, .pointer (some ⟨br, 0, none⟩)] 87)) := (Keeps.refl _ _).alloc _
  have hx : XSt S (w.alloc (.cells #[.pointer (some ⟨wb, 0, none⟩), .pointer none, .pointer (some ⟨br, 0, none⟩)] 87)) br S (w.alloc (.cells #[.pointer (some ⟨wb, 0, none⟩), .pointer none, .pointer (some ⟨br, 0, none⟩)] 87)) #[.int .i64 z, .int .i64 s, .int .i64 a, .int .i64 b, .string (str t), hv, ev, .slice ap P.length cp] := XSt.start (fx.at_ hb (fun h => h)) ho
  have hr := hwr.keeps (T := fun _ => False) (w' := w.alloc (.cells #[.pointer (some ⟨wb, 0, none⟩), .pointer none, .pointer (some ⟨br, 0, none⟩)] 87)) fx (fun _ _ h => h)
  have hbx := heap_alloc_new w (.cells #[.pointer (some ⟨wb, 0, none⟩), .pointer none, .pointer (some ⟨br, 0, none⟩)] 87)
  have hsz : ¬ S w.heap.size := fun h' => by have := (hwr.2.1 _ h').2; omega
  have hrs0 := RepsAt.keeps fx (fun _ h => h.elim) P ap 0 hrs
  have hX0 := (XSt.start hb ho).fresh fx
  unfold aggW
  go_enter Tryz.func100, Tryz.ntmps100
  go_upto_region 1 with fail
  obtain ⟨bx, hbxe⟩ : ∃ bx, w.heap.size = bx := ⟨_, rfl⟩
  have hne : bx ≠ br := by have := lt_of_block hb; omega
  have hne2 : br ≠ bx := fun h => hne h.symm
  rw [hbxe] at hbx hsz hB ⊢
  generalize w.alloc (.cells #[.pointer (some ⟨wb, 0, none⟩), .pointer none, .pointer (some ⟨br, 0, none⟩)] 87) = W0 at hx hr hbx hrs0 hX0 ⊢
  have hB0 : ∀ q, B q → q < W0.heap.size := fun q hq => by have := hB q hq; have := lt_of_block hbx; omega
  have x0 := cell_at hbx 0
  have x1 := cell_at hbx 1
  have x2 := cell_at hbx 2
  have c7 := cell_at hx.box 7
  simp at x0 x1 x2 c7
  have HBX := hid hbx
  have HX := hid hx
  have HX0 := hid hX0
  have HR := hid hr
  have HRS := hid hrs0
  have HB0 := hid hB0
  have HSB := hid hSB
  clear hx hr hbx hb hwr hbxe hrs hrs0 hB hB0 hSB fx hX0
  by_cases h0 : P.length = 0
  · have h0b : ((P.length : Int) == 0) = true := by rw [h0]; rfl
    have HP0 := hid h0
    clear h0
    have hif : (if P.length = 0 ∨ 64 < P.length then wNum st (-1) else st) = wNum st (-1) := if_pos (.inl HP0.out)
    have HIF := hid hif
    have hwn := hid (wnum_any S wb st (-1) _ HR.out (by omega))
    have hwl := wNum_len st (-1)
    clear hif
    go_wp2_with fail
    refine hwn.out.mono ?_
    rintro e' w1 ⟨rfl, hA0⟩
    obtain ⟨S1, X1, R1, g1, k1⟩ := HX.out.acts hA0
    have hb1 := k1.at_ HBX.out hsz
    have HSZ1 : Hid (¬ S1 bx) := fun h' => by
      rcases g1 bx h' with h2 | h2
      · exact hsz h2
      · have := lt_of_block HBX.out; omega
    have HX1 := hid X1
    have HR1 := hid R1
    have HB1 := hid hb1
    have y0 := cell_at hb1 0
    have y1 := cell_at hb1 1
    have y2 := cell_at hb1 2
    simp at y0 y1 y2
    clear hA0 X1 R1 hb1 c7 g1 k1
    have HRD := hid (HR1.out.keeps (T := fun _ => False) (w' := w1.drew) ((Keeps.refl _ _).drew) (fun _ _ h => h))
    have HXD : Hid (XSt S W0 br _ w1.drew _) := HX1.out.drew
    have HBD : Hid (w1.drew.heap[bx]? = _) := HB1.out
    have d7 := cell_at HX1.out.box 7
    simp at d7
    have HC := hid (wnum_any _ wb (wNum st (-1)) (P.length : Int) _ HRD.out (by omega))
    have hl1 := wNum_len (wNum st (-1)) (P.length : Int)
    have hM2 : Hid (M = P.foldl mPart (wNum (wNum st (-1)) (P.length : Int))) := by rw [Hid, ← HM.out, mParts, HIF.out]
    go_upto_region 11 with fail
    go_region_law (first | (go_simp; go_at_call 64; refine HC.out.mono ?_; rintro e' w3 ⟨rfl, hA⟩))
    all_goals
      obtain ⟨S3, X3, R3, g3, k3⟩ := HXD.out.acts hA
      have hb3 := k3.at_ HBD.out HSZ1.out
      have y0 := cell_at hb3 0
      have y1 := cell_at hb3 1
      have y2 := cell_at hb3 2
      have y7 := cell_at X3.box 7
      simp at y0 y1 y2 y7
      have HX3 := hid X3
      have HR3 := hid R3
      clear X3 R3 hb3 hA g3 k3
      go_wp2_with fail
      clear x0 x1 x2 d7 y0 y1 y2 y7
      go_loopw [84] (fun i wr => ∃ (m : Nat) (Sr : Nat → Prop) (sq : WSt), i = .int .i64 (m : Int) ∧ m ≤ P.length ∧ XSt S W0 br Sr wr #[.int .i64 z, .int .i64 s, .int .i64 a, .int .i64 b, .string (str t), hv, ev, .slice ap P.length cp] ∧ WRep Sr wr wb sq ∧ Hid (M = (P.drop m).foldl mPart sq) ∧ sq.1.length + wtPs (P.drop m) + 40 < 70368744177664) (fun i _ => P.length - (intOf i).toNat)
      case atStart => exact ⟨0, S3, _, rfl, by omega, HX3.out, HR3.out, hM2, by simp only [List.drop_zero]; omega⟩
      case round =>
        obtain ⟨m, Sr, sq, rfl, hm, Xr, Rr, HMr, hlr⟩ := hrel
        have hbr := Xr.keepBlock HBX.out hsz hne
        have hsr : ¬ Sr bx := Xr.notIn (lt_of_block HBX.out) hsz
        have y0 := cell_at hbr 0
        have y1 := cell_at hbr 1
        have y2 := cell_at hbr 2
        simp at y0 y1 y2
        by_cases hlt : m < P.length
        · obtain ⟨x, hx⟩ : ∃ x, P[m]? = some x := ⟨P[m], by simp⟩
          have hreq := (RepsAt.keeps Xr.keeps HSB.out P ap 0 HRS.out).get hx
          obtain ⟨bb, off, c0, c1, c2, c3, c4, c5, c6, c7, rfl, hb1, hb2, q0, q1, q2, q3, q4, q5, q6, q7, hxa⟩ := hreq
          rw [Nat.zero_add] at q0 q1 q2 q3 q4 q5 q6 q7
          obtain ⟨lx, ex, ax, capx, he, ⟨hl1, hlow⟩, ⟨he1, -⟩, -⟩ := hxa.parts
          obtain ⟨al, cl, rfl, -⟩ := hl1.texts
          obtain ⟨ae, ce, rfl, -⟩ := he1.texts
          simp only [Value.agg.injEq, Array.mk.injEq, List.cons.injEq, and_true] at he
          obtain ⟨rfl, rfl, rfl, rfl, rfl, rfl, rfl, rfl⟩ := he
          have hd : P.drop m = x :: P.drop (m + 1) := by
            obtain ⟨hm', rfl⟩ := List.getElem?_eq_some_iff.1 hx
            exact List.drop_eq_getElem_cons hm'
          have hM3 := HMr.out
          rw [hd] at hM3 hlr
          rw [List.foldl_cons] at hM3
          simp only [wtPs] at hlr
          have hpl2 := mPart_len sq x
          have hfa : Fresh wr (wr.alloc (.cells #[.int .i64 x.status, .int .i64 x.size, .int .i64 x.a, .int .i64 x.b, .string (Go.Proofs.YtpccaodkgboefaaGreatDoor.str x.root), .slice al x.hashes.length cl, .slice ae x.entries.length ce, .slice ax x.replies.length capx] 48)) := (Keeps.refl _ _).alloc _
          have X5 := Xr.fresh hfa
          have hbr2 := hfa.at_ hbr (fun h => h)
          have v0 := cell_at hbr2 0
          have v1 := cell_at hbr2 1
          have v2 := cell_at hbr2 2
          simp at v0 v1 v2
          have HPC := hid (xpart_any Sr wb br sq x.status x.size x.a x.b x.root x.hashes x.entries x.replies al ae ax cl ce capx _ (Rr.keeps hfa (fun _ _ h => h)) (hl1.keeps hfa (fun _ _ h => h)) (fun g hg hx' => ⟨fun hs => HSB.out g (by
            rcases Xr.grows g hs with h2 | h2
            · exact .inl h2
            · have := HB0.out g (hlow g hg hx'); omega) (hlow g hg hx'), by have := HB0.out g (hlow g hg hx'); have := Xr.keeps.size; have := hfa.size; omega⟩) (by unfold wtP at hlr; omega))
          have HX5 := hid X5
          have HM3 : Hid (M = (P.drop (m + 1)).foldl mPart (mPart sq x)) := hM3
          have hrep : Rep.mk x.status x.size x.a x.b x.root x.hashes x.entries x.replies = x := by cases x; rfl
          rw [hrep] at HPC
          clear hM3 hxa hl1 he1 hlow hd hx HMr X5 hfa hrep Xr Rr hbr hsr hbr2
          unfold aggW at HPC
          go_wp2_with fail
          refine HPC.out.mono ?_
          rintro e' w5 ⟨rfl, hA5⟩
          obtain ⟨S6, X6, R6, -, -⟩ := HX5.out.acts hA5
          clear y0 y1 y2 v0 v1 v2 q0 q1 q2 q3 q4 q5 q6 q7
          go_wp2_with fail
          go_roundw
          case rel => exact ⟨m + 1, S6, _, by go_num, by omega, X6, R6, HM3, by omega⟩
          case measure => simp [intOf]; omega
        · obtain rfl : m = P.length := by omega
          have hM3 := HMr.out
          rw [List.drop_length, List.foldl_nil] at hM3
          have HM3 := hid hM3
          have z7 := cell_at Xr.box 7
          have f7 := free_at Xr.box 7
          simp at z7
          have X6 := (HX0.out.after Xr).put 7 (.slice none 0 0)
          have R6 := Rr.keeps (XSt.putKeeps wr br 7 (.slice none 0 0)) (fun q hq (e : q = br) => Xr.out (by rw [← e]; exact hq))
          have HX6 := hid X6
          have HR6 := hid R6
          clear hM3 HMr X6 R6 Xr Rr hbr hsr
          go_wp2_with fail
          go_end0
          rw [HM3.out]
          exact ⟨rfl, Sr, HX6.out, HR6.out⟩
  · by_cases h64 : 64 < P.length
    · have h0b : ((P.length : Int) == 0) = false := by rw [beq_eq_false_iff_ne]; omega
      have h64b : decide (64 < (P.length : Int)) = true := by rw [decide_eq_true_eq]; omega
      have h64c : (64 : Int) < (P.length : Int) := by omega
      have hif : (if P.length = 0 ∨ 64 < P.length then wNum st (-1) else st) = wNum st (-1) := if_pos (.inr h64)
      have HIF := hid hif
      have hwn := hid (wnum_any S wb st (-1) _ HR.out (by omega))
      have hwl := wNum_len st (-1)
      clear hif
      go_wp2_with fail
      refine hwn.out.mono ?_
      rintro e' w1 ⟨rfl, hA0⟩
      obtain ⟨S1, X1, R1, g1, k1⟩ := HX.out.acts hA0
      have hb1 := k1.at_ HBX.out hsz
      have HSZ1 : Hid (¬ S1 bx) := fun h' => by
        rcases g1 bx h' with h2 | h2
        · exact hsz h2
        · have := lt_of_block HBX.out; omega
      have HX1 := hid X1
      have HR1 := hid R1
      have HB1 := hid hb1
      have y0 := cell_at hb1 0
      have y1 := cell_at hb1 1
      have y2 := cell_at hb1 2
      simp at y0 y1 y2
      clear hA0 X1 R1 hb1 c7 g1 k1
      have HRD := hid (HR1.out.keeps (T := fun _ => False) (w' := w1.drew) ((Keeps.refl _ _).drew) (fun _ _ h => h))
      have HXD : Hid (XSt S W0 br _ w1.drew _) := HX1.out.drew
      have HBD : Hid (w1.drew.heap[bx]? = _) := HB1.out
      have d7 := cell_at HX1.out.box 7
      simp at d7
      have HC := hid (wnum_any _ wb (wNum st (-1)) (P.length : Int) _ HRD.out (by omega))
      have hl1 := wNum_len (wNum st (-1)) (P.length : Int)
      have hM2 : Hid (M = P.foldl mPart (wNum (wNum st (-1)) (P.length : Int))) := by rw [Hid, ← HM.out, mParts, HIF.out]
      go_upto_region 11 with fail
      go_region_law (first | (go_simp; go_at_call 64; refine HC.out.mono ?_; rintro e' w3 ⟨rfl, hA⟩))
      all_goals
        obtain ⟨S3, X3, R3, g3, k3⟩ := HXD.out.acts hA
        have hb3 := k3.at_ HBD.out HSZ1.out
        have y0 := cell_at hb3 0
        have y1 := cell_at hb3 1
        have y2 := cell_at hb3 2
        have y7 := cell_at X3.box 7
        simp at y0 y1 y2 y7
        have HX3 := hid X3
        have HR3 := hid R3
        clear X3 R3 hb3 hA g3 k3
        go_wp2_with fail
        clear x0 x1 x2 d7 y0 y1 y2 y7
        go_loopw [84] (fun i wr => ∃ (m : Nat) (Sr : Nat → Prop) (sq : WSt), i = .int .i64 (m : Int) ∧ m ≤ P.length ∧ XSt S W0 br Sr wr #[.int .i64 z, .int .i64 s, .int .i64 a, .int .i64 b, .string (str t), hv, ev, .slice ap P.length cp] ∧ WRep Sr wr wb sq ∧ Hid (M = (P.drop m).foldl mPart sq) ∧ sq.1.length + wtPs (P.drop m) + 40 < 70368744177664) (fun i _ => P.length - (intOf i).toNat)
        case atStart => exact ⟨0, S3, _, rfl, by omega, HX3.out, HR3.out, hM2, by simp only [List.drop_zero]; omega⟩
        case round =>
          obtain ⟨m, Sr, sq, rfl, hm, Xr, Rr, HMr, hlr⟩ := hrel
          have hbr := Xr.keepBlock HBX.out hsz hne
          have hsr : ¬ Sr bx := Xr.notIn (lt_of_block HBX.out) hsz
          have y0 := cell_at hbr 0
          have y1 := cell_at hbr 1
          have y2 := cell_at hbr 2
          simp at y0 y1 y2
          by_cases hlt : m < P.length
          · obtain ⟨x, hx⟩ : ∃ x, P[m]? = some x := ⟨P[m], by simp⟩
            have hreq := (RepsAt.keeps Xr.keeps HSB.out P ap 0 HRS.out).get hx
            obtain ⟨bb, off, c0, c1, c2, c3, c4, c5, c6, c7, rfl, hb1, hb2, q0, q1, q2, q3, q4, q5, q6, q7, hxa⟩ := hreq
            rw [Nat.zero_add] at q0 q1 q2 q3 q4 q5 q6 q7
            obtain ⟨lx, ex, ax, capx, he, ⟨hl1, hlow⟩, ⟨he1, -⟩, -⟩ := hxa.parts
            obtain ⟨al, cl, rfl, -⟩ := hl1.texts
            obtain ⟨ae, ce, rfl, -⟩ := he1.texts
            simp only [Value.agg.injEq, Array.mk.injEq, List.cons.injEq, and_true] at he
            obtain ⟨rfl, rfl, rfl, rfl, rfl, rfl, rfl, rfl⟩ := he
            have hd : P.drop m = x :: P.drop (m + 1) := by
              obtain ⟨hm', rfl⟩ := List.getElem?_eq_some_iff.1 hx
              exact List.drop_eq_getElem_cons hm'
            have hM3 := HMr.out
            rw [hd] at hM3 hlr
            rw [List.foldl_cons] at hM3
            simp only [wtPs] at hlr
            have hpl2 := mPart_len sq x
            have hfa : Fresh wr (wr.alloc (.cells #[.int .i64 x.status, .int .i64 x.size, .int .i64 x.a, .int .i64 x.b, .string (Go.Proofs.YtpccaodkgboefaaGreatDoor.str x.root), .slice al x.hashes.length cl, .slice ae x.entries.length ce, .slice ax x.replies.length capx] 48)) := (Keeps.refl _ _).alloc _
            have X5 := Xr.fresh hfa
            have hbr2 := hfa.at_ hbr (fun h => h)
            have v0 := cell_at hbr2 0
            have v1 := cell_at hbr2 1
            have v2 := cell_at hbr2 2
            simp at v0 v1 v2
            have HPC := hid (xpart_any Sr wb br sq x.status x.size x.a x.b x.root x.hashes x.entries x.replies al ae ax cl ce capx _ (Rr.keeps hfa (fun _ _ h => h)) (hl1.keeps hfa (fun _ _ h => h)) (fun g hg hx' => ⟨fun hs => HSB.out g (by
              rcases Xr.grows g hs with h2 | h2
              · exact .inl h2
              · have := HB0.out g (hlow g hg hx'); omega) (hlow g hg hx'), by have := HB0.out g (hlow g hg hx'); have := Xr.keeps.size; have := hfa.size; omega⟩) (by unfold wtP at hlr; omega))
            have HX5 := hid X5
            have HM3 : Hid (M = (P.drop (m + 1)).foldl mPart (mPart sq x)) := hM3
            have hrep : Rep.mk x.status x.size x.a x.b x.root x.hashes x.entries x.replies = x := by cases x; rfl
            rw [hrep] at HPC
            clear hM3 hxa hl1 he1 hlow hd hx HMr X5 hfa hrep Xr Rr hbr hsr hbr2
            unfold aggW at HPC
            go_wp2_with fail
            refine HPC.out.mono ?_
            rintro e' w5 ⟨rfl, hA5⟩
            obtain ⟨S6, X6, R6, -, -⟩ := HX5.out.acts hA5
            clear y0 y1 y2 v0 v1 v2 q0 q1 q2 q3 q4 q5 q6 q7
            go_wp2_with fail
            go_roundw
            case rel => exact ⟨m + 1, S6, _, by go_num, by omega, X6, R6, HM3, by omega⟩
            case measure => simp [intOf]; omega
          · obtain rfl : m = P.length := by omega
            have hM3 := HMr.out
            rw [List.drop_length, List.foldl_nil] at hM3
            have HM3 := hid hM3
            have z7 := cell_at Xr.box 7
            have f7 := free_at Xr.box 7
            simp at z7
            have X6 := (HX0.out.after Xr).put 7 (.slice none 0 0)
            have R6 := Rr.keeps (XSt.putKeeps wr br 7 (.slice none 0 0)) (fun q hq (e : q = br) => Xr.out (by rw [← e]; exact hq))
            have HX6 := hid X6
            have HR6 := hid R6
            clear hM3 HMr X6 R6 Xr Rr hbr hsr
            go_wp2_with fail
            go_end0
            rw [HM3.out]
            exact ⟨rfl, Sr, HX6.out, HR6.out⟩
    · have h0b : ((P.length : Int) == 0) = false := by rw [beq_eq_false_iff_ne]; omega
      have h64b : decide (64 < (P.length : Int)) = false := by rw [decide_eq_false_iff_not]; omega
      have h64c : ¬ (64 : Int) < (P.length : Int) := by omega
      have hif : (if P.length = 0 ∨ 64 < P.length then wNum st (-1) else st) = st := if_neg (by omega)
      have HIF := hid hif
      have HSZ1 := hid hsz
      clear hif
      have HRD := hid (HR.out.keeps (T := fun _ => False) (w' := W0.drew) ((Keeps.refl _ _).drew) (fun _ _ h => h))
      have HXD : Hid (XSt S W0 br _ W0.drew _) := HX.out.drew
      have HBD : Hid (W0.drew.heap[bx]? = _) := HBX.out
      have d7 := cell_at HX.out.box 7
      simp at d7
      have HC := hid (wnum_any _ wb st (P.length : Int) _ HRD.out (by omega))
      have hl1 := wNum_len st (P.length : Int)
      have hM2 : Hid (M = P.foldl mPart (wNum st (P.length : Int))) := by rw [Hid, ← HM.out, mParts, HIF.out]
      go_upto_region 11 with fail
      go_region_law (first | (go_simp; go_at_call 64; refine HC.out.mono ?_; rintro e' w3 ⟨rfl, hA⟩))
      all_goals
        obtain ⟨S3, X3, R3, g3, k3⟩ := HXD.out.acts hA
        have hb3 := k3.at_ HBD.out HSZ1.out
        have y0 := cell_at hb3 0
        have y1 := cell_at hb3 1
        have y2 := cell_at hb3 2
        have y7 := cell_at X3.box 7
        simp at y0 y1 y2 y7
        have HX3 := hid X3
        have HR3 := hid R3
        clear X3 R3 hb3 hA g3 k3
        go_wp2_with fail
        clear x0 x1 x2 c7 d7 y0 y1 y2 y7
        go_loopw [84] (fun i wr => ∃ (m : Nat) (Sr : Nat → Prop) (sq : WSt), i = .int .i64 (m : Int) ∧ m ≤ P.length ∧ XSt S W0 br Sr wr #[.int .i64 z, .int .i64 s, .int .i64 a, .int .i64 b, .string (str t), hv, ev, .slice ap P.length cp] ∧ WRep Sr wr wb sq ∧ Hid (M = (P.drop m).foldl mPart sq) ∧ sq.1.length + wtPs (P.drop m) + 40 < 70368744177664) (fun i _ => P.length - (intOf i).toNat)
        case atStart => exact ⟨0, S3, _, rfl, by omega, HX3.out, HR3.out, hM2, by simp only [List.drop_zero]; omega⟩
        case round =>
          obtain ⟨m, Sr, sq, rfl, hm, Xr, Rr, HMr, hlr⟩ := hrel
          have hbr := Xr.keepBlock HBX.out hsz hne
          have hsr : ¬ Sr bx := Xr.notIn (lt_of_block HBX.out) hsz
          have y0 := cell_at hbr 0
          have y1 := cell_at hbr 1
          have y2 := cell_at hbr 2
          simp at y0 y1 y2
          by_cases hlt : m < P.length
          · obtain ⟨x, hx⟩ : ∃ x, P[m]? = some x := ⟨P[m], by simp⟩
            have hreq := (RepsAt.keeps Xr.keeps HSB.out P ap 0 HRS.out).get hx
            obtain ⟨bb, off, c0, c1, c2, c3, c4, c5, c6, c7, rfl, hb1, hb2, q0, q1, q2, q3, q4, q5, q6, q7, hxa⟩ := hreq
            rw [Nat.zero_add] at q0 q1 q2 q3 q4 q5 q6 q7
            obtain ⟨lx, ex, ax, capx, he, ⟨hl1, hlow⟩, ⟨he1, -⟩, -⟩ := hxa.parts
            obtain ⟨al, cl, rfl, -⟩ := hl1.texts
            obtain ⟨ae, ce, rfl, -⟩ := he1.texts
            simp only [Value.agg.injEq, Array.mk.injEq, List.cons.injEq, and_true] at he
            obtain ⟨rfl, rfl, rfl, rfl, rfl, rfl, rfl, rfl⟩ := he
            have hd : P.drop m = x :: P.drop (m + 1) := by
              obtain ⟨hm', rfl⟩ := List.getElem?_eq_some_iff.1 hx
              exact List.drop_eq_getElem_cons hm'
            have hM3 := HMr.out
            rw [hd] at hM3 hlr
            rw [List.foldl_cons] at hM3
            simp only [wtPs] at hlr
            have hpl2 := mPart_len sq x
            have hfa : Fresh wr (wr.alloc (.cells #[.int .i64 x.status, .int .i64 x.size, .int .i64 x.a, .int .i64 x.b, .string (Go.Proofs.YtpccaodkgboefaaGreatDoor.str x.root), .slice al x.hashes.length cl, .slice ae x.entries.length ce, .slice ax x.replies.length capx] 48)) := (Keeps.refl _ _).alloc _
            have X5 := Xr.fresh hfa
            have hbr2 := hfa.at_ hbr (fun h => h)
            have v0 := cell_at hbr2 0
            have v1 := cell_at hbr2 1
            have v2 := cell_at hbr2 2
            simp at v0 v1 v2
            have HPC := hid (xpart_any Sr wb br sq x.status x.size x.a x.b x.root x.hashes x.entries x.replies al ae ax cl ce capx _ (Rr.keeps hfa (fun _ _ h => h)) (hl1.keeps hfa (fun _ _ h => h)) (fun g hg hx' => ⟨fun hs => HSB.out g (by
              rcases Xr.grows g hs with h2 | h2
              · exact .inl h2
              · have := HB0.out g (hlow g hg hx'); omega) (hlow g hg hx'), by have := HB0.out g (hlow g hg hx'); have := Xr.keeps.size; have := hfa.size; omega⟩) (by unfold wtP at hlr; omega))
            have HX5 := hid X5
            have HM3 : Hid (M = (P.drop (m + 1)).foldl mPart (mPart sq x)) := hM3
            have hrep : Rep.mk x.status x.size x.a x.b x.root x.hashes x.entries x.replies = x := by cases x; rfl
            rw [hrep] at HPC
            clear hM3 hxa hl1 he1 hlow hd hx HMr X5 hfa hrep Xr Rr hbr hsr hbr2
            unfold aggW at HPC
            go_wp2_with fail
            refine HPC.out.mono ?_
            rintro e' w5 ⟨rfl, hA5⟩
            obtain ⟨S6, X6, R6, -, -⟩ := HX5.out.acts hA5
            clear y0 y1 y2 v0 v1 v2 q0 q1 q2 q3 q4 q5 q6 q7
            go_wp2_with fail
            go_roundw
            case rel => exact ⟨m + 1, S6, _, by go_num, by omega, X6, R6, HM3, by omega⟩
            case measure => simp [intOf]; omega
          · obtain rfl : m = P.length := by omega
            have hM3 := HMr.out
            rw [List.drop_length, List.foldl_nil] at hM3
            have HM3 := hid hM3
            have z7 := cell_at Xr.box 7
            have f7 := free_at Xr.box 7
            simp at z7
            have X6 := (HX0.out.after Xr).put 7 (.slice none 0 0)
            have R6 := Rr.keeps (XSt.putKeeps wr br 7 (.slice none 0 0)) (fun q hq (e : q = br) => Xr.out (by rw [← e]; exact hq))
            have HX6 := hid X6
            have HR6 := hid R6
            clear hM3 HMr X6 R6 Xr Rr hbr hsr
            go_wp2_with fail
            go_end0
            rw [HM3.out]
            exact ⟨rfl, Sr, HX6.out, HR6.out⟩
end Go.Proofs.YtpccaodkgboefaaGreatDoor
