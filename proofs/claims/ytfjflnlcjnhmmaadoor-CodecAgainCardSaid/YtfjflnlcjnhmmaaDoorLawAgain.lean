/-
  The law CodecAgain: its walk.
-/
import Derived.Test.YtfjflnlcjnhmmaaDoorAgainPlain
import Derived.Test.YtfjflnlcjnhmmaaDoorLawRow
namespace Go.Proofs.YtfjflnlcjnhmmaaDoor
open Go.RowKit

theorem wdone_ok (S : Nat → Prop) (b : Nat) (st : List UInt8) (w : World) (hl : Laid w) (h : WRep S w b (st, 0)) :
    Calls Tryd.prog 18 #[.pointer (some ⟨b, 0, none⟩)] w fun e w' => e = .returned (.tuple #[.string (str st), .int .i64 0]) ∧ Fresh w w' :=
  (wdone_any S b (st, 0) w hl h).mono fun _ _ h => h

theorem tdiv7 {x : Int} (h1 : -9223372036854775808 ≤ x) (h2 : x ≤ 9223372036854775807) : -9223372036854775808 ≤ x.tdiv 7 ∧ x.tdiv 7 ≤ 9223372036854775807 := by
  rw [Int.tdiv_eq_ediv]
  split
  · omega
  · have : Int.sign 7 = 1 := rfl
    rw [this]
    omega

/-- a Reader and a Writer side by side, both made since w -/
structure Pair (w W1 : World) (br bw : Nat) (Sr Sw : Nat → Prop) (r : RSt) (st : List UInt8 × Int) : Prop where
  rd : RRep Sr W1 br r
  wr : WRep Sw W1 bw st
  apart : ∀ k, Sr k → ¬ Sw k
  fr : Fresh w W1
  newR : ∀ k, Sr k → w.heap.size ≤ k
  newW : ∀ k, Sw k → w.heap.size ≤ k
section
variable {w wr w' : World} {br bw : Nat} {Sr Sw S' : Nat → Prop} {r r' : RSt} {st st' : List UInt8 × Int}
theorem Pair.reads (h : Pair w wr br bw Sr Sw r st) (hg : Grows Sr S' wr w') (hk : Keeps Sr wr w') (hr : RRep S' w' br r') : Pair w w' br bw S' Sw r' st :=
  ⟨hr, h.wr.keeps hk (fun k h1 h2 => h.apart k h2 h1), (fun k h1 h2 => by
    rcases hg k h1 with h3 | h3
    · exact h.apart k h3 h2
    · have := (h.wr.2.1 k h2).2; omega), h.fr.trans' hk (fun i hi hs => by have := h.newR i hs; omega), (fun k h1 => by
    rcases hg k h1 with h3 | h3
    · exact h.newR k h3
    · have := h.fr.size; omega), h.newW⟩
theorem Pair.writes (h : Pair w wr br bw Sr Sw r st) (hg : Grows Sw S' wr w') (hk : Keeps Sw wr w') (hr : WRep S' w' bw st') : Pair w w' br bw Sr S' r st' :=
  ⟨h.rd.keeps hk h.apart, hr, (fun k h1 h2 => by
    rcases hg k h2 with h3 | h3
    · exact h.apart k h1 h3
    · have := (h.rd.2.1 k h1).2; omega), h.fr.trans' hk (fun i hi hs => by have := h.newW i hs; omega), h.newR, (fun k h1 => by
    rcases hg k h1 with h3 | h3
    · exact h.newW k h3
    · have := h.fr.size; omega)⟩
theorem Pair.step (h : Pair w wr br bw Sr Sw r st) (hk : Fresh wr w') : Pair w w' br bw Sr Sw r st :=
  ⟨h.rd.fresh hk, h.wr.keeps hk (fun _ _ h => h), h.apart, h.fr.trans hk, h.newR, h.newW⟩
end

set_option maxRecDepth 100000 in
set_option maxHeartbeats 16000000 in
theorem codecAgain_walk (s : List UInt8) (v : Value) (ks : List Int) (w : World) (hl : Laid w) (hs : s.length ≤ 9223372036854775807) (hv : ListAt w v (ints ks)) (hkn : ks.length ≤ 9223372036854775807)
    (hkb : ∀ x ∈ ks, -9223372036854775808 ≤ x ∧ x ≤ 9223372036854775807) :
    Calls Tryd.prog 7 #[.string (str s), v] w fun e w' => e = .returned (.bool true) ∧ Fresh w w' := by
  have hll : (ints ks).length = ks.length := by simp [ints]
  obtain ⟨ao, cap, rfl, HC⟩ : ∃ ao cap, v = .slice ao ks.length cap ∧ Hid (∀ (k : Nat) (x : Int), ks[k]? = some x → ∃ bb off, ao = some ⟨bb, off, none⟩ ∧ bb < w.heap.size ∧ w.cell? ⟨bb, off + k, none⟩ = some (.int .i64 x)) := by
    rcases hv with ⟨hx, ao, cap, rfl⟩ | ⟨bb, off, cap, rfl, hbb, hc⟩
    · have : ks = [] := by simpa [ints] using hx
      subst this
      exact ⟨ao, cap, rfl, fun k p hk => by simp at hk⟩
    · exact ⟨_, cap, by rw [hll], fun k p hk => ⟨bb, off, rfl, hbb, hc k _ (by simp [ints, hk])⟩⟩
  have HKB := hid hkb
  clear hkb hv hll
  have hsz := str_size s
  go_enter Tryd.func7, Tryd.ntmps7
  go_wp2_with fail
  refine (known_any w hl).mono ?_
  rintro e w1 ⟨rfl, f1⟩
  have hl1 := hl.keeps f1 (fun h => h)
  go_wp2_with fail
  refine (newReader_any (str s) w1 hl1 (by omega)).mono ?_
  rintro e w2 ⟨br, rfl, f2, hb2, hr2⟩
  have hr2 : RRep (fun k => k = br) w2 br (s, 0, 0) := hr2
  have f12 := f1.trans f2
  have hl2 := hl.keeps f12 (fun h => h)
  go_wp2_with fail
  refine (newWriter_any w2 hl2).mono ?_
  rintro e w3 ⟨bw, rfl, f3, hb3, hw3⟩
  have hP0 : Pair w w3 br bw (fun k => k = br) (fun k => k = bw) (s, 0, 0) ([], 0) :=
    ⟨hr2.fresh f3, hw3, (fun k h1 h2 => by have := (hr2.2.1 br rfl).2; omega), f12.trans f3, (fun k h1 => by have := f1.size; omega), (fun k h1 => by have := f12.size; omega)⟩
  clear hr2 hw3 hl1 hl2 f1 f2 f3 f12 hb2 hb3
  go_wp2
  go_loopw [8] (fun i wr => ∃ (k : Nat) (l st : List UInt8) (Sr Sw : Nat → Prop), i = .int .i64 (k : Int) ∧ k ≤ 100 ∧ k ≤ ks.length ∧ Hid (s = st ++ l ∧ st.length ≤ 2000 * k) ∧ Pair w wr br bw Sr Sw (l, st.length, 0) (st, 0)) (fun i _ => 100 - (intOf i).toNat)
  case atStart => exact ⟨0, s, [], _, _, rfl, by omega, by omega, ⟨rfl, by simp⟩, hP0⟩
  case round =>
    obtain ⟨k, l, st, Sr, Sw, rfl, hk100, hkl, HSP, hP⟩ := hrel
    have hfr := hP.fr
    by_cases hin : k < ks.length ∧ k < 100
    · obtain ⟨hk1, hk2⟩ := hin
      obtain ⟨x, hx0⟩ : ∃ x, ks[k]? = some x := ⟨ks[k], by simp [hk1]⟩
      obtain ⟨bb, off, hao, hbb, hcw⟩ := HC.out k x hx0
      have hcell := (hfr.cell (p := ⟨bb, off + k, none⟩) hbb (fun h => h)).trans hcw
      obtain ⟨hxb1, hxb2⟩ := HKB.out x (List.mem_of_getElem? hx0)
      obtain ⟨ht1, ht2⟩ := tdiv7 hxb1 hxb2
      have hstl : st.length ≤ 200000 := by have := HSP.out.2; omega
      have hslen : s.length = st.length + l.length := by rw [HSP.out.1, List.length_append]
      subst hao
      clear hx0 hcw hfr
      go_wp2_with fail
      refine (rleft_any Sr br _ wr hP.rd).mono ?_
      rintro e w4 ⟨rfl, rfl⟩
      go_wp2_with fail
      refine (pick_any (x.tdiv 7) 40 wr (by omega) (by omega) ht1 ht2).mono ?_
      rintro e w4 ⟨rfl, rfl⟩
      have hm40 := pickN_lt (x.tdiv 7) (show 0 < 40 by omega)
      generalize pickN (x.tdiv 7) 40 = m at *
      go_wp2_with fail
      refine (pick_any x 7 wr (by omega) (by omega) hxb1 hxb2).mono ?_
      rintro e w4 ⟨rfl, rfl⟩
      have hc7 := pickN_lt x (show 0 < 7 by omega)
      generalize pickN x 7 = c at *
      rcases (by omega : (c : Int) = 0 ∨ (c : Int) = 1 ∨ (c : Int) = 2 ∨ (c : Int) = 3 ∨ (c : Int) = 4 ∨ (c : Int) = 5 ∨ (c : Int) = 6) with hc | hc | hc | hc | hc | hc | hc
      · rw [hc]
        clear hc hc7
        have hO := out_byte l st st.length
        go_wp2_with fail
        refine (rbyte_any Sr br _ wr hP.rd).mono ?_
        generalize hQ : rd pByte 0 (l, st.length, 0) = Q at *
        obtain ⟨x2, r2⟩ := Q
        clear hQ
        rintro e w2 ⟨rfl, Sr2, hg2, hk2, hr2⟩
        have hP1 := hP.reads hg2 hk2 hr2
        clear hr2 hk2 hg2
        simp only at hO
        go_wp2_with fail
        refine (wbyte_any Sw bw _ _ w2 hP1.wr (by simp only; omega)).mono ?_
        rintro e w3 ⟨rfl, Sw2, hg3, hk3, hw3⟩
        have hP2 := hP1.writes hg3 hk3 hw3
        clear hg3 hk3 hw3 hP1
        generalize wByte (st, 0) (x2 : Int) = st2 at *
        have hf3 := hP2.fr
        have hl3 := hl.keeps hf3 (fun h => h)
        clear hP
        rcases hO with ⟨ho1, ho2, ho3, ho4⟩ | ⟨enc, l', ho1, ho2, rfl, rfl⟩
        · obtain ⟨q1, q2, q3⟩ := r2
          simp only at ho1 ho2 ho3 ho4
          subst ho1 ho2
          have hD : Hid (rDone (q1, st.length, q3) = (q3, st.length)) := by simp [Hid, rDone, ho3]
          have hb1 : (q3 != 0) = true := by simp [ho3]
          have hb2 : (q3 != 24) = true := by simp [ho4]
          go_wp2_with fail
          refine (rdone_any Sr2 br _ _ hl3 hP2.rd).mono ?_
          rw [hD.out]
          rintro e w4 ⟨rfl, f4⟩
          have hP4 := hP2.step f4
          clear hP2 hl3 hf3 hD
          go_wp2_with fail
          refine (rleft_any Sr2 br _ _ hP4.rd).mono ?_
          rintro e w5 ⟨rfl, rfl⟩
          go_wp2
          go_ret
          exact ⟨rfl, hP4.fr⟩
        · obtain ⟨fD, hfD, hfO⟩ : ∃ f : Int, rDone (l', st.length + enc.length, 0) = (f, st.length + enc.length) ∧ (f = 0 ∨ f = 24) := by
            unfold rDone
            by_cases hz : l' = []
            · exact ⟨0, by simp [hz], .inl rfl⟩
            · exact ⟨24, by simp [hz], .inr rfl⟩
          have HFD := hid hfD
          have HO1 := hid ho1
          have hsum : l.length = enc.length + l'.length := by rw [ho1, List.length_append]
          have hst2 : (st ++ enc).length = st.length + enc.length := by simp
          have hS2 : Hid (s = (st ++ enc) ++ l') := by rw [Hid, HSP.out.1, ho1, List.append_assoc]
          have hto : (str s).extract 0 (st.length + enc.length) = str (st ++ enc) := by
            rw [str_to, hS2.out]
            have := List.take_left' (l₁ := st ++ enc) (l₂ := l') hst2
            rw [this]
          obtain ⟨st3, hst3⟩ : ∃ st3, st3 = st ++ enc := ⟨_, rfl⟩
          obtain ⟨n3, hn3⟩ : ∃ n3, n3 = st.length + enc.length := ⟨_, rfl⟩
          rw [← hn3] at HFD hst2 hto hP2
          rw [← hst3] at hst2 hS2 hto hP2
          have hs3 : s.length = n3 + l'.length := by omega
          have hb3 : n3 ≤ 2000 * (k + 1) := by have := HSP.out.2; omega
          have HST := hid hst2
          have hle3 : n3 ≤ s.length := by omega
          clear hfD ho1 hslen hsum hst2 hst3 hn3 ho2 HO1
          rcases hfO with rfl | rfl
          all_goals
            go_wp2_with fail
            refine (rdone_any Sr2 br _ _ hl3 hP2.rd).mono ?_
            rw [HFD.out]
            rintro e w4 ⟨rfl, f4⟩
            have hP4 := hP2.step f4
            have hl4 := hl.keeps hP4.fr (fun h => h)
            go_wp2_with fail
            refine (wdone_ok Sw2 bw _ _ hl4 hP4.wr).mono ?_
            rintro e w5 ⟨rfl, f5⟩
            have hP5 := hP4.step f5
            clear hP2 hl3 hf3 hP4 hl4 f4 f5
            have hb5 : n3 ≤ 9223372036854775807 := by omega
            go_wp2_with fail
            refine (rleft_any Sr2 br _ _ hP5.rd).mono ?_
            rintro e w6 ⟨rfl, rfl⟩
            go_wp2
            go_roundw
            case rel => exact ⟨k + 1, l', st3, Sr2, Sw2, by go_num, by omega, by omega, ⟨hS2.out, by rw [HST.out]; exact hb3⟩, by rw [HST.out]; exact hP5⟩
            case measure => simp [intOf]; omega
      · rw [hc]
        clear hc hc7
        have hO := out_num l st st.length
        go_wp2_with fail
        refine (rnum_any Sr br _ wr hP.rd).mono ?_
        generalize hQ : rd (pNum 0 0) 0 (l, st.length, 0) = Q at *
        obtain ⟨x2, r2⟩ := Q
        clear hQ
        rintro e w2 ⟨rfl, Sr2, hg2, hk2, hr2⟩
        have hP1 := hP.reads hg2 hk2 hr2
        clear hr2 hk2 hg2
        simp only at hO
        go_wp2_with fail
        refine (wnum_any Sw bw _ _ w2 hP1.wr (by simp only; omega)).mono ?_
        rintro e w3 ⟨rfl, Sw2, hg3, hk3, hw3⟩
        have hP2 := hP1.writes hg3 hk3 hw3
        clear hg3 hk3 hw3 hP1
        generalize wNum (st, 0) (x2 : Int) = st2 at *
        have hf3 := hP2.fr
        have hl3 := hl.keeps hf3 (fun h => h)
        clear hP
        rcases hO with ⟨ho1, ho2, ho3, ho4⟩ | ⟨enc, l', ho1, ho2, rfl, rfl⟩
        · obtain ⟨q1, q2, q3⟩ := r2
          simp only at ho1 ho2 ho3 ho4
          subst ho1 ho2
          have hD : Hid (rDone (q1, st.length, q3) = (q3, st.length)) := by simp [Hid, rDone, ho3]
          have hb1 : (q3 != 0) = true := by simp [ho3]
          have hb2 : (q3 != 24) = true := by simp [ho4]
          go_wp2_with fail
          refine (rdone_any Sr2 br _ _ hl3 hP2.rd).mono ?_
          rw [hD.out]
          rintro e w4 ⟨rfl, f4⟩
          have hP4 := hP2.step f4
          clear hP2 hl3 hf3 hD
          go_wp2_with fail
          refine (rleft_any Sr2 br _ _ hP4.rd).mono ?_
          rintro e w5 ⟨rfl, rfl⟩
          go_wp2
          go_ret
          exact ⟨rfl, hP4.fr⟩
        · obtain ⟨fD, hfD, hfO⟩ : ∃ f : Int, rDone (l', st.length + enc.length, 0) = (f, st.length + enc.length) ∧ (f = 0 ∨ f = 24) := by
            unfold rDone
            by_cases hz : l' = []
            · exact ⟨0, by simp [hz], .inl rfl⟩
            · exact ⟨24, by simp [hz], .inr rfl⟩
          have HFD := hid hfD
          have HO1 := hid ho1
          have hsum : l.length = enc.length + l'.length := by rw [ho1, List.length_append]
          have hst2 : (st ++ enc).length = st.length + enc.length := by simp
          have hS2 : Hid (s = (st ++ enc) ++ l') := by rw [Hid, HSP.out.1, ho1, List.append_assoc]
          have hto : (str s).extract 0 (st.length + enc.length) = str (st ++ enc) := by
            rw [str_to, hS2.out]
            have := List.take_left' (l₁ := st ++ enc) (l₂ := l') hst2
            rw [this]
          obtain ⟨st3, hst3⟩ : ∃ st3, st3 = st ++ enc := ⟨_, rfl⟩
          obtain ⟨n3, hn3⟩ : ∃ n3, n3 = st.length + enc.length := ⟨_, rfl⟩
          rw [← hn3] at HFD hst2 hto hP2
          rw [← hst3] at hst2 hS2 hto hP2
          have hs3 : s.length = n3 + l'.length := by omega
          have hb3 : n3 ≤ 2000 * (k + 1) := by have := HSP.out.2; omega
          have HST := hid hst2
          have hle3 : n3 ≤ s.length := by omega
          clear hfD ho1 hslen hsum hst2 hst3 hn3 ho2 HO1
          rcases hfO with rfl | rfl
          all_goals
            go_wp2_with fail
            refine (rdone_any Sr2 br _ _ hl3 hP2.rd).mono ?_
            rw [HFD.out]
            rintro e w4 ⟨rfl, f4⟩
            have hP4 := hP2.step f4
            have hl4 := hl.keeps hP4.fr (fun h => h)
            go_wp2_with fail
            refine (wdone_ok Sw2 bw _ _ hl4 hP4.wr).mono ?_
            rintro e w5 ⟨rfl, f5⟩
            have hP5 := hP4.step f5
            clear hP2 hl3 hf3 hP4 hl4 f4 f5
            have hb5 : n3 ≤ 9223372036854775807 := by omega
            go_wp2_with fail
            refine (rleft_any Sr2 br _ _ hP5.rd).mono ?_
            rintro e w6 ⟨rfl, rfl⟩
            go_wp2
            go_roundw
            case rel => exact ⟨k + 1, l', st3, Sr2, Sw2, by go_num, by omega, by omega, ⟨hS2.out, by rw [HST.out]; exact hb3⟩, by rw [HST.out]; exact hP5⟩
            case measure => simp [intOf]; omega
      · rw [hc]
        clear hc hc7
        obtain ⟨hO, hx⟩ := out_rising l st st.length m hm40
        go_wp2_with fail
        refine (rrising_any Sr br _ m wr hP.rd (.inl (by omega))).mono ?_
        generalize hQ : rd (pRising m) [] (l, st.length, 0) = Q at *
        obtain ⟨x2, r2⟩ := Q
        clear hQ
        rintro e w2 ⟨xv, Sr2, rfl, hg2, hk2, hr2, hrow, hown⟩
        have hxl := ListAt.ofRow hrow
        have hP1 := hP.reads hg2 hk2 hr2
        have hwS : ∀ g, xv.ownBlock = some g → ¬ Sw g := fun g hg h => by have := (hP.wr.2.1 g h).2; have := (hown g hg).2; omega
        obtain ⟨xo, xc, rfl⟩ := ownsRow_slice hrow
        clear hrow hown hr2 hk2 hg2
        simp only at hO hx
        go_wp2_with fail
        refine (wrising_any Sw bw _ _ x2 w2 hP1.wr hxl hwS (by simp only; omega)).mono ?_
        rintro e w3 ⟨rfl, Sw2, hg3, hk3, hw3⟩
        have hP2 := hP1.writes hg3 hk3 hw3
        clear hg3 hk3 hw3 hP1
        generalize wRising (st, 0) x2 = st2 at *
        have hf3 := hP2.fr
        have hl3 := hl.keeps hf3 (fun h => h)
        clear hP
        rcases hO with ⟨ho1, ho2, ho3, ho4⟩ | ⟨enc, l', ho1, ho2, rfl, rfl⟩
        · obtain ⟨q1, q2, q3⟩ := r2
          simp only at ho1 ho2 ho3 ho4
          subst ho1 ho2
          have hD : Hid (rDone (q1, st.length, q3) = (q3, st.length)) := by simp [Hid, rDone, ho3]
          have hb1 : (q3 != 0) = true := by simp [ho3]
          have hb2 : (q3 != 24) = true := by simp [ho4]
          go_wp2_with fail
          refine (rdone_any Sr2 br _ _ hl3 hP2.rd).mono ?_
          rw [hD.out]
          rintro e w4 ⟨rfl, f4⟩
          have hP4 := hP2.step f4
          clear hP2 hl3 hf3 hD
          go_wp2_with fail
          refine (rleft_any Sr2 br _ _ hP4.rd).mono ?_
          rintro e w5 ⟨rfl, rfl⟩
          go_wp2
          go_ret
          exact ⟨rfl, hP4.fr⟩
        · obtain ⟨fD, hfD, hfO⟩ : ∃ f : Int, rDone (l', st.length + enc.length, 0) = (f, st.length + enc.length) ∧ (f = 0 ∨ f = 24) := by
            unfold rDone
            by_cases hz : l' = []
            · exact ⟨0, by simp [hz], .inl rfl⟩
            · exact ⟨24, by simp [hz], .inr rfl⟩
          have HFD := hid hfD
          have HO1 := hid ho1
          have hsum : l.length = enc.length + l'.length := by rw [ho1, List.length_append]
          have hst2 : (st ++ enc).length = st.length + enc.length := by simp
          have hS2 : Hid (s = (st ++ enc) ++ l') := by rw [Hid, HSP.out.1, ho1, List.append_assoc]
          have hto : (str s).extract 0 (st.length + enc.length) = str (st ++ enc) := by
            rw [str_to, hS2.out]
            have := List.take_left' (l₁ := st ++ enc) (l₂ := l') hst2
            rw [this]
          obtain ⟨st3, hst3⟩ : ∃ st3, st3 = st ++ enc := ⟨_, rfl⟩
          obtain ⟨n3, hn3⟩ : ∃ n3, n3 = st.length + enc.length := ⟨_, rfl⟩
          rw [← hn3] at HFD hst2 hto hP2
          rw [← hst3] at hst2 hS2 hto hP2
          have hs3 : s.length = n3 + l'.length := by omega
          have hb3 : n3 ≤ 2000 * (k + 1) := by have := HSP.out.2; omega
          have HST := hid hst2
          have hle3 : n3 ≤ s.length := by omega
          clear hfD ho1 hslen hsum hst2 hst3 hn3 ho2 HO1
          rcases hfO with rfl | rfl
          all_goals
            go_wp2_with fail
            refine (rdone_any Sr2 br _ _ hl3 hP2.rd).mono ?_
            rw [HFD.out]
            rintro e w4 ⟨rfl, f4⟩
            have hP4 := hP2.step f4
            have hl4 := hl.keeps hP4.fr (fun h => h)
            go_wp2_with fail
            refine (wdone_ok Sw2 bw _ _ hl4 hP4.wr).mono ?_
            rintro e w5 ⟨rfl, f5⟩
            have hP5 := hP4.step f5
            clear hP2 hl3 hf3 hP4 hl4 f4 f5
            have hb5 : n3 ≤ 9223372036854775807 := by omega
            go_wp2_with fail
            refine (rleft_any Sr2 br _ _ hP5.rd).mono ?_
            rintro e w6 ⟨rfl, rfl⟩
            go_wp2
            go_roundw
            case rel => exact ⟨k + 1, l', st3, Sr2, Sw2, by go_num, by omega, by omega, ⟨hS2.out, by rw [HST.out]; exact hb3⟩, by rw [HST.out]; exact hP5⟩
            case measure => simp [intOf]; omega
      · rw [hc]
        clear hc hc7
        obtain ⟨hO, hx⟩ := out_text l st st.length m hm40
        go_wp2_with fail
        refine (rtxt_any Sr br _ m wr hP.rd).mono ?_
        generalize hQ : rd (pTextM m) [] (l, st.length, 0) = Q at *
        obtain ⟨x2, r2⟩ := Q
        clear hQ
        rintro e w2 ⟨rfl, Sr2, hg2, hk2, hr2⟩
        have hP1 := hP.reads hg2 hk2 hr2
        clear hr2 hk2 hg2
        have hszx := str_size x2
        simp only at hO hx
        go_wp2_with fail
        refine (wtext_any Sw bw _ (str x2) m w2 hP1.wr (by simp only; omega)).mono ?_
        rintro e w3 ⟨rfl, Sw2, hg3, hk3, hw3⟩
        have hP2 := hP1.writes hg3 hk3 hw3
        have hP2 : Pair w w3 br bw Sr2 Sw2 r2 (wText (st, 0) x2 m) := hP2
        clear hg3 hk3 hw3 hP1
        generalize wText (st, 0) x2 m = st2 at *
        have hf3 := hP2.fr
        have hl3 := hl.keeps hf3 (fun h => h)
        clear hP
        rcases hO with ⟨ho1, ho2, ho3, ho4⟩ | ⟨enc, l', ho1, ho2, rfl, rfl⟩
        · obtain ⟨q1, q2, q3⟩ := r2
          simp only at ho1 ho2 ho3 ho4
          subst ho1 ho2
          have hD : Hid (rDone (q1, st.length, q3) = (q3, st.length)) := by simp [Hid, rDone, ho3]
          have hb1 : (q3 != 0) = true := by simp [ho3]
          have hb2 : (q3 != 24) = true := by simp [ho4]
          go_wp2_with fail
          refine (rdone_any Sr2 br _ _ hl3 hP2.rd).mono ?_
          rw [hD.out]
          rintro e w4 ⟨rfl, f4⟩
          have hP4 := hP2.step f4
          clear hP2 hl3 hf3 hD
          go_wp2_with fail
          refine (rleft_any Sr2 br _ _ hP4.rd).mono ?_
          rintro e w5 ⟨rfl, rfl⟩
          go_wp2
          go_ret
          exact ⟨rfl, hP4.fr⟩
        · obtain ⟨fD, hfD, hfO⟩ : ∃ f : Int, rDone (l', st.length + enc.length, 0) = (f, st.length + enc.length) ∧ (f = 0 ∨ f = 24) := by
            unfold rDone
            by_cases hz : l' = []
            · exact ⟨0, by simp [hz], .inl rfl⟩
            · exact ⟨24, by simp [hz], .inr rfl⟩
          have HFD := hid hfD
          have HO1 := hid ho1
          have hsum : l.length = enc.length + l'.length := by rw [ho1, List.length_append]
          have hst2 : (st ++ enc).length = st.length + enc.length := by simp
          have hS2 : Hid (s = (st ++ enc) ++ l') := by rw [Hid, HSP.out.1, ho1, List.append_assoc]
          have hto : (str s).extract 0 (st.length + enc.length) = str (st ++ enc) := by
            rw [str_to, hS2.out]
            have := List.take_left' (l₁ := st ++ enc) (l₂ := l') hst2
            rw [this]
          obtain ⟨st3, hst3⟩ : ∃ st3, st3 = st ++ enc := ⟨_, rfl⟩
          obtain ⟨n3, hn3⟩ : ∃ n3, n3 = st.length + enc.length := ⟨_, rfl⟩
          rw [← hn3] at HFD hst2 hto hP2
          rw [← hst3] at hst2 hS2 hto hP2
          have hs3 : s.length = n3 + l'.length := by omega
          have hb3 : n3 ≤ 2000 * (k + 1) := by have := HSP.out.2; omega
          have HST := hid hst2
          have hle3 : n3 ≤ s.length := by omega
          clear hfD ho1 hslen hsum hst2 hst3 hn3 ho2 HO1
          rcases hfO with rfl | rfl
          all_goals
            go_wp2_with fail
            refine (rdone_any Sr2 br _ _ hl3 hP2.rd).mono ?_
            rw [HFD.out]
            rintro e w4 ⟨rfl, f4⟩
            have hP4 := hP2.step f4
            have hl4 := hl.keeps hP4.fr (fun h => h)
            go_wp2_with fail
            refine (wdone_ok Sw2 bw _ _ hl4 hP4.wr).mono ?_
            rintro e w5 ⟨rfl, f5⟩
            have hP5 := hP4.step f5
            clear hP2 hl3 hf3 hP4 hl4 f4 f5
            have hb5 : n3 ≤ 9223372036854775807 := by omega
            go_wp2_with fail
            refine (rleft_any Sr2 br _ _ hP5.rd).mono ?_
            rintro e w6 ⟨rfl, rfl⟩
            go_wp2
            go_roundw
            case rel => exact ⟨k + 1, l', st3, Sr2, Sw2, by go_num, by omega, by omega, ⟨hS2.out, by rw [HST.out]; exact hb3⟩, by rw [HST.out]; exact hP5⟩
            case measure => simp [intOf]; omega
      · rw [hc]
        clear hc hc7
        obtain ⟨hO, hx, hx2⟩ := out_texts l st st.length m hm40
        go_wp2_with fail
        refine (rtexts_any Sr br _ m 9 wr hP.rd (.inl (by omega))).mono ?_
        generalize hQ : rd (pTexts m 9) [] (l, st.length, 0) = Q at *
        obtain ⟨x2, r2⟩ := Q
        clear hQ
        rintro e w2 ⟨xv, Sr2, rfl, hg2, hk2, hr2, hrow, hown⟩
        have hxl := ListAt.ofRow hrow
        have hP1 := hP.reads hg2 hk2 hr2
        have hwS : ∀ g, xv.ownBlock = some g → ¬ Sw g := fun g hg h => by have := (hP.wr.2.1 g h).2; have := (hown g hg).2; omega
        obtain ⟨xo, xc, rfl⟩ := ownsRow_slice hrow
        clear hrow hown hr2 hk2 hg2
        simp only at hO hx hx2
        go_wp2_with fail
        refine (wtexts_any Sw bw _ _ x2 m 9 w2 hP1.wr hxl hwS (by simp only; omega)).mono ?_
        rintro e w3 ⟨rfl, Sw2, hg3, hk3, hw3⟩
        have hP2 := hP1.writes hg3 hk3 hw3
        clear hg3 hk3 hw3 hP1
        generalize wTexts (st, 0) x2 m 9 = st2 at *
        have hf3 := hP2.fr
        have hl3 := hl.keeps hf3 (fun h => h)
        clear hP
        rcases hO with ⟨ho1, ho2, ho3, ho4⟩ | ⟨enc, l', ho1, ho2, rfl, rfl⟩
        · obtain ⟨q1, q2, q3⟩ := r2
          simp only at ho1 ho2 ho3 ho4
          subst ho1 ho2
          have hD : Hid (rDone (q1, st.length, q3) = (q3, st.length)) := by simp [Hid, rDone, ho3]
          have hb1 : (q3 != 0) = true := by simp [ho3]
          have hb2 : (q3 != 24) = true := by simp [ho4]
          go_wp2_with fail
          refine (rdone_any Sr2 br _ _ hl3 hP2.rd).mono ?_
          rw [hD.out]
          rintro e w4 ⟨rfl, f4⟩
          have hP4 := hP2.step f4
          clear hP2 hl3 hf3 hD
          go_wp2_with fail
          refine (rleft_any Sr2 br _ _ hP4.rd).mono ?_
          rintro e w5 ⟨rfl, rfl⟩
          go_wp2
          go_ret
          exact ⟨rfl, hP4.fr⟩
        · obtain ⟨fD, hfD, hfO⟩ : ∃ f : Int, rDone (l', st.length + enc.length, 0) = (f, st.length + enc.length) ∧ (f = 0 ∨ f = 24) := by
            unfold rDone
            by_cases hz : l' = []
            · exact ⟨0, by simp [hz], .inl rfl⟩
            · exact ⟨24, by simp [hz], .inr rfl⟩
          have HFD := hid hfD
          have HO1 := hid ho1
          have hsum : l.length = enc.length + l'.length := by rw [ho1, List.length_append]
          have hst2 : (st ++ enc).length = st.length + enc.length := by simp
          have hS2 : Hid (s = (st ++ enc) ++ l') := by rw [Hid, HSP.out.1, ho1, List.append_assoc]
          have hto : (str s).extract 0 (st.length + enc.length) = str (st ++ enc) := by
            rw [str_to, hS2.out]
            have := List.take_left' (l₁ := st ++ enc) (l₂ := l') hst2
            rw [this]
          obtain ⟨st3, hst3⟩ : ∃ st3, st3 = st ++ enc := ⟨_, rfl⟩
          obtain ⟨n3, hn3⟩ : ∃ n3, n3 = st.length + enc.length := ⟨_, rfl⟩
          rw [← hn3] at HFD hst2 hto hP2
          rw [← hst3] at hst2 hS2 hto hP2
          have hs3 : s.length = n3 + l'.length := by omega
          have hb3 : n3 ≤ 2000 * (k + 1) := by have := HSP.out.2; omega
          have HST := hid hst2
          have hle3 : n3 ≤ s.length := by omega
          clear hfD ho1 hslen hsum hst2 hst3 hn3 ho2 HO1
          rcases hfO with rfl | rfl
          all_goals
            go_wp2_with fail
            refine (rdone_any Sr2 br _ _ hl3 hP2.rd).mono ?_
            rw [HFD.out]
            rintro e w4 ⟨rfl, f4⟩
            have hP4 := hP2.step f4
            have hl4 := hl.keeps hP4.fr (fun h => h)
            go_wp2_with fail
            refine (wdone_ok Sw2 bw _ _ hl4 hP4.wr).mono ?_
            rintro e w5 ⟨rfl, f5⟩
            have hP5 := hP4.step f5
            clear hP2 hl3 hf3 hP4 hl4 f4 f5
            have hb5 : n3 ≤ 9223372036854775807 := by omega
            go_wp2_with fail
            refine (rleft_any Sr2 br _ _ hP5.rd).mono ?_
            rintro e w6 ⟨rfl, rfl⟩
            go_wp2
            go_roundw
            case rel => exact ⟨k + 1, l', st3, Sr2, Sw2, by go_num, by omega, by omega, ⟨hS2.out, by rw [HST.out]; exact hb3⟩, by rw [HST.out]; exact hP5⟩
            case measure => simp [intOf]; omega
      · rw [hc]
        clear hc hc7
        obtain ⟨hO, hx⟩ := out_hashes l st st.length m hm40
        go_wp2_with fail
        refine (rhashes_any Sr br _ m wr hP.rd (.inl (by omega))).mono ?_
        generalize hQ : rd (pHashes m) [] (l, st.length, 0) = Q at *
        obtain ⟨x2, r2⟩ := Q
        clear hQ
        rintro e w2 ⟨xv, Sr2, rfl, hg2, hk2, hr2, hrow, hown⟩
        have hxl := ListAt.ofRow hrow
        have hP1 := hP.reads hg2 hk2 hr2
        have hwS : ∀ g, xv.ownBlock = some g → ¬ Sw g := fun g hg h => by have := (hP.wr.2.1 g h).2; have := (hown g hg).2; omega
        obtain ⟨xo, xc, rfl⟩ := ownsRow_slice hrow
        clear hrow hown hr2 hk2 hg2
        simp only at hO hx
        go_wp2_with fail
        refine (whashes_any Sw bw _ _ x2 m w2 hP1.wr hxl hwS (by simp only; omega)).mono ?_
        rintro e w3 ⟨rfl, Sw2, hg3, hk3, hw3⟩
        have hP2 := hP1.writes hg3 hk3 hw3
        clear hg3 hk3 hw3 hP1
        generalize wHashes (st, 0) x2 m = st2 at *
        have hf3 := hP2.fr
        have hl3 := hl.keeps hf3 (fun h => h)
        clear hP
        rcases hO with ⟨ho1, ho2, ho3, ho4⟩ | ⟨enc, l', ho1, ho2, rfl, rfl⟩
        · obtain ⟨q1, q2, q3⟩ := r2
          simp only at ho1 ho2 ho3 ho4
          subst ho1 ho2
          have hD : Hid (rDone (q1, st.length, q3) = (q3, st.length)) := by simp [Hid, rDone, ho3]
          have hb1 : (q3 != 0) = true := by simp [ho3]
          have hb2 : (q3 != 24) = true := by simp [ho4]
          go_wp2_with fail
          refine (rdone_any Sr2 br _ _ hl3 hP2.rd).mono ?_
          rw [hD.out]
          rintro e w4 ⟨rfl, f4⟩
          have hP4 := hP2.step f4
          clear hP2 hl3 hf3 hD
          go_wp2_with fail
          refine (rleft_any Sr2 br _ _ hP4.rd).mono ?_
          rintro e w5 ⟨rfl, rfl⟩
          go_wp2
          go_ret
          exact ⟨rfl, hP4.fr⟩
        · obtain ⟨fD, hfD, hfO⟩ : ∃ f : Int, rDone (l', st.length + enc.length, 0) = (f, st.length + enc.length) ∧ (f = 0 ∨ f = 24) := by
            unfold rDone
            by_cases hz : l' = []
            · exact ⟨0, by simp [hz], .inl rfl⟩
            · exact ⟨24, by simp [hz], .inr rfl⟩
          have HFD := hid hfD
          have HO1 := hid ho1
          have hsum : l.length = enc.length + l'.length := by rw [ho1, List.length_append]
          have hst2 : (st ++ enc).length = st.length + enc.length := by simp
          have hS2 : Hid (s = (st ++ enc) ++ l') := by rw [Hid, HSP.out.1, ho1, List.append_assoc]
          have hto : (str s).extract 0 (st.length + enc.length) = str (st ++ enc) := by
            rw [str_to, hS2.out]
            have := List.take_left' (l₁ := st ++ enc) (l₂ := l') hst2
            rw [this]
          obtain ⟨st3, hst3⟩ : ∃ st3, st3 = st ++ enc := ⟨_, rfl⟩
          obtain ⟨n3, hn3⟩ : ∃ n3, n3 = st.length + enc.length := ⟨_, rfl⟩
          rw [← hn3] at HFD hst2 hto hP2
          rw [← hst3] at hst2 hS2 hto hP2
          have hs3 : s.length = n3 + l'.length := by omega
          have hb3 : n3 ≤ 2000 * (k + 1) := by have := HSP.out.2; omega
          have HST := hid hst2
          have hle3 : n3 ≤ s.length := by omega
          clear hfD ho1 hslen hsum hst2 hst3 hn3 ho2 HO1
          rcases hfO with rfl | rfl
          all_goals
            go_wp2_with fail
            refine (rdone_any Sr2 br _ _ hl3 hP2.rd).mono ?_
            rw [HFD.out]
            rintro e w4 ⟨rfl, f4⟩
            have hP4 := hP2.step f4
            have hl4 := hl.keeps hP4.fr (fun h => h)
            go_wp2_with fail
            refine (wdone_ok Sw2 bw _ _ hl4 hP4.wr).mono ?_
            rintro e w5 ⟨rfl, f5⟩
            have hP5 := hP4.step f5
            clear hP2 hl3 hf3 hP4 hl4 f4 f5
            have hb5 : n3 ≤ 9223372036854775807 := by omega
            go_wp2_with fail
            refine (rleft_any Sr2 br _ _ hP5.rd).mono ?_
            rintro e w6 ⟨rfl, rfl⟩
            go_wp2
            go_roundw
            case rel => exact ⟨k + 1, l', st3, Sr2, Sw2, by go_num, by omega, by omega, ⟨hS2.out, by rw [HST.out]; exact hb3⟩, by rw [HST.out]; exact hP5⟩
            case measure => simp [intOf]; omega
      · rw [hc]
        clear hc hc7
        obtain ⟨hO, hx⟩ := out_raw l st st.length m hm40
        go_wp2_with fail
        refine (rraw_any Sr br _ m wr hP.rd (by omega)).mono ?_
        generalize hQ : rd (pRaw m) [] (l, st.length, 0) = Q at *
        obtain ⟨x2, r2⟩ := Q
        clear hQ
        rintro e w2 ⟨rfl, Sr2, hg2, hk2, hr2⟩
        have hP1 := hP.reads hg2 hk2 hr2
        clear hr2 hk2 hg2
        have hszx := str_size x2
        simp only at hO hx
        go_wp2_with fail
        refine (wraw_any Sw bw _ (str x2) w2 hP1.wr (by simp only; omega)).mono ?_
        rintro e w3 ⟨rfl, Sw2, hg3, hk3, hw3⟩
        have hP2 := hP1.writes hg3 hk3 hw3
        have hP2 : Pair w w3 br bw Sr2 Sw2 r2 (wRaw (st, 0) x2) := hP2
        clear hg3 hk3 hw3 hP1
        generalize wRaw (st, 0) x2 = st2 at *
        have hf3 := hP2.fr
        have hl3 := hl.keeps hf3 (fun h => h)
        clear hP
        rcases hO with ⟨ho1, ho2, ho3, ho4⟩ | ⟨enc, l', ho1, ho2, rfl, rfl⟩
        · obtain ⟨q1, q2, q3⟩ := r2
          simp only at ho1 ho2 ho3 ho4
          subst ho1 ho2
          have hD : Hid (rDone (q1, st.length, q3) = (q3, st.length)) := by simp [Hid, rDone, ho3]
          have hb1 : (q3 != 0) = true := by simp [ho3]
          have hb2 : (q3 != 24) = true := by simp [ho4]
          go_wp2_with fail
          refine (rdone_any Sr2 br _ _ hl3 hP2.rd).mono ?_
          rw [hD.out]
          rintro e w4 ⟨rfl, f4⟩
          have hP4 := hP2.step f4
          clear hP2 hl3 hf3 hD
          go_wp2_with fail
          refine (rleft_any Sr2 br _ _ hP4.rd).mono ?_
          rintro e w5 ⟨rfl, rfl⟩
          go_wp2
          go_ret
          exact ⟨rfl, hP4.fr⟩
        · obtain ⟨fD, hfD, hfO⟩ : ∃ f : Int, rDone (l', st.length + enc.length, 0) = (f, st.length + enc.length) ∧ (f = 0 ∨ f = 24) := by
            unfold rDone
            by_cases hz : l' = []
            · exact ⟨0, by simp [hz], .inl rfl⟩
            · exact ⟨24, by simp [hz], .inr rfl⟩
          have HFD := hid hfD
          have HO1 := hid ho1
          have hsum : l.length = enc.length + l'.length := by rw [ho1, List.length_append]
          have hst2 : (st ++ enc).length = st.length + enc.length := by simp
          have hS2 : Hid (s = (st ++ enc) ++ l') := by rw [Hid, HSP.out.1, ho1, List.append_assoc]
          have hto : (str s).extract 0 (st.length + enc.length) = str (st ++ enc) := by
            rw [str_to, hS2.out]
            have := List.take_left' (l₁ := st ++ enc) (l₂ := l') hst2
            rw [this]
          obtain ⟨st3, hst3⟩ : ∃ st3, st3 = st ++ enc := ⟨_, rfl⟩
          obtain ⟨n3, hn3⟩ : ∃ n3, n3 = st.length + enc.length := ⟨_, rfl⟩
          rw [← hn3] at HFD hst2 hto hP2
          rw [← hst3] at hst2 hS2 hto hP2
          have hs3 : s.length = n3 + l'.length := by omega
          have hb3 : n3 ≤ 2000 * (k + 1) := by have := HSP.out.2; omega
          have HST := hid hst2
          have hle3 : n3 ≤ s.length := by omega
          clear hfD ho1 hslen hsum hst2 hst3 hn3 ho2 HO1
          rcases hfO with rfl | rfl
          all_goals
            go_wp2_with fail
            refine (rdone_any Sr2 br _ _ hl3 hP2.rd).mono ?_
            rw [HFD.out]
            rintro e w4 ⟨rfl, f4⟩
            have hP4 := hP2.step f4
            have hl4 := hl.keeps hP4.fr (fun h => h)
            go_wp2_with fail
            refine (wdone_ok Sw2 bw _ _ hl4 hP4.wr).mono ?_
            rintro e w5 ⟨rfl, f5⟩
            have hP5 := hP4.step f5
            clear hP2 hl3 hf3 hP4 hl4 f4 f5
            have hb5 : n3 ≤ 9223372036854775807 := by omega
            go_wp2_with fail
            refine (rleft_any Sr2 br _ _ hP5.rd).mono ?_
            rintro e w6 ⟨rfl, rfl⟩
            go_wp2
            go_roundw
            case rel => exact ⟨k + 1, l', st3, Sr2, Sw2, by go_num, by omega, by omega, ⟨hS2.out, by rw [HST.out]; exact hb3⟩, by rw [HST.out]; exact hP5⟩
            case measure => simp [intOf]; omega
    · by_cases hk1 : k < ks.length
      · have hk2 : ¬ k < 100 := by omega
        go_wp2
        go_ret
        exact ⟨rfl, hP.fr⟩
      · go_wp2
        go_ret
        exact ⟨rfl, hP.fr⟩
end Go.Proofs.YtfjflnlcjnhmmaaDoor
