/-
  One step of the two writers: Hashes.
-/
import Derived.Test.YtfjflnlcjnhmmaaDoorXwRun
import Derived.BigQuiet
namespace Go.Proofs.YtfjflnlcjnhmmaaDoor
open Go.RowKit

set_option maxRecDepth 100000 in
set_option maxHeartbeats 1000000 in
theorem step6_any (S : Nat → Prop) (a c : Nat) (A X : List UInt8 × Int) (v0 v4 v5 v6 lv : Value) (kb : Bool) (n : Int) (l : List (List UInt8)) (w : World) (hw : WRep S w a A) (hx : XRep w c X) (hS : ¬ S c) (hl : Laid w) (hal : Alike A X)
    (hv : ListAt w lv (texts l)) (hnil : lv = .slice none 0 0 ∨ ∃ a n cap, lv = .slice (some a) n cap) (hvB : l ≠ [] → ∀ g, lv.ownBlock = some g → g < w.heap.size ∧ ¬ S g ∧ g ≠ c) (hll : l.length ≤ 4294967296) (hA : A.1.length + 2 * bulk l + 40 * l.length + 60 < 70368744177664) (hX : X.1.length + 2 * bulk l + 40 * l.length + 60 < 70368744177664) :
    Calls Tryd.prog 17 #[.agg #[.pointer (some ⟨a, 0, none⟩), .pointer (some ⟨c, 0, none⟩)], .agg #[v0, .bool kb, .int .i64 6, .int .i64 n, v4, v5, v6, lv]] w
      fun e w' => e = .returned (.bool true) ∧ Stepped S a c w w' (if kb then wHashes (wHashes (A) (l) n) (l.reverse) n else wHashes (A) (l) n) (if kb then xHashes (xHashes (X) (l) n) (l.reverse) n else xHashes (X) (l) n) := by
  have R := Run.start hw hx hS hl #[v0, .bool kb, .int .i64 6, .int .i64 n, v4, v5, v6, lv]
  have HAL := hid hal
  have hS0 : ∀ k, S k → k < w.heap.size := fun k hk => (hw.2.1 k hk).2
  have hsnoc : (texts (l ++ [[126], [126], [126], [126]])).take l.length = texts l := by simp [texts]
  have HSN := hid hsnoc
  obtain ⟨ao0, cap0, hlv, hcl⟩ := hv.texts
  subst hlv
  have HCL := hid hcl
  have HV := hid hv
  have HN := hid hnil
  have HVB := hid hvB
  have HS0 := hid hS0
  have hvk : ∀ (w' : World) (T : Nat → Prop), Keeps T w w' → (∀ k, T k → S k ∨ k = c) → ListAt w' (.slice ao0 l.length cap0) (texts l) := fun _ _ hk hT => by
    by_cases hl0 : l = []
    · exact .inl ⟨by rw [hl0]; rfl, _, _, by rw [hl0]; rfl⟩
    · exact HV.out.keeps hk fun g hg ht => by
        rcases hT g ht with h | h
        · exact (HVB.out hl0 g hg).2.1 h
        · exact (HVB.out hl0 g hg).2.2 h
  have HVK := hid hvk
  have hlb := len_bulk l
  clear hv hnil hvB hS0 hsnoc hcl hvk
  clear hw hx hS hl hal
  go_enter Tryd.func17, Tryd.ntmps17
  go_wp2_with fail
  refine (lentTexts_any (.slice ao0 l.length cap0) l _ (HVK.out _ _ R.keeps (fun _ h => h)) HN.out hll).mono ?_
  rintro e w1 ⟨v', rfl, hna, hf1, hL1⟩
  replace R := R.fresh hf1
  have hL1 : LentAt (w.heap.size + 2) w1 9 v' l.length (texts (l ++ [[126], [126], [126], [126]])) := by simpa using hL1
  obtain ⟨ao, cap, hv', _⟩ := id hL1
  subst hv'
  have hown1 := hL1.own
  have hvS : ∀ g, (Value.slice ao l.length cap).ownBlock = some g → ¬ S g := fun g hg h => by
    have := (hown1 g hg).1
    have := HS0.out g h
    omega
  have hl1 : ListAt w1 (.slice ao l.length cap) (texts l) := by
    have := hL1.list
    rwa [HSN.out] at this
  have HNA := hid hna
  clear hna hf1
  obtain ⟨p0, p1⟩ := R.box1s
  obtain ⟨q1, q2, q3, q4, q5, q6, q7⟩ := R.box2s
  go_wp2_with fail
  refine (whashes_any S a A (.slice ao l.length cap) l n w1 R.wr hl1 hvS (by omega)).mono ?_
  rintro e w2 ⟨rfl, S2, hg2, hk2, hr2⟩
  replace R := R.pstep hg2 hk2 hr2
  have hL2 := hL1.keeps hk2 hvS
  have hvS2 : ∀ g, (Value.slice ao l.length cap).ownBlock = some g → ¬ S2 g := fun g hg h => by
    rcases hg2 g h with h1 | h1
    · exact hvS g hg h1
    · have := (hown1 g hg).2; omega
  clear hg2 hk2 hr2 hl1 p0 p1 q1 q2 q3 q4 q5 q6 q7
  obtain ⟨p0, p1⟩ := R.box1s
  obtain ⟨q1, q2, q3, q4, q5, q6, q7⟩ := R.box2s
  go_wp2_with fail
  refine (xhashes_any c X (.slice ao0 l.length cap0) l n w2 R.xr (HVK.out _ _ R.keeps (fun _ h => h)) (by omega)).mono ?_
  rintro e w3 ⟨rfl, hk3, hr3⟩
  have hold := R.old
  replace R := R.xstep hk3 hr3
  have hL3 := hL2.keeps hk3 (fun g hg h => by have := (hown1 g hg).1; omega)
  clear hk3 hr3 hL1 hL2 p0 p1 q1 q2 q3 q4 q5 q6 q7
  obtain ⟨p0, p1⟩ := R.box1s
  obtain ⟨q1, q2, q3, q4, q5, q6, q7⟩ := R.box2s
  go_wp2_with fail
  refine (asTexts_any (w.heap.size + 2) (.slice ao0 l.length cap0) (.slice ao l.length cap) l w3 (HVK.out _ _ R.keeps (fun _ h => h)) (fun h0 g hg => by have := (HVB.out h0 g hg).1; omega) hL3 HNA.out hll).mono ?_
  rintro e w4 ⟨rfl, hk4, xs4, hL4⟩
  replace R := R.other hk4 (fun k hk => ⟨(hown1 k hk).1, hvS2 k hk⟩)
  have hAl := HAL.out.hashes (l) n (by omega)
  have hA1 := hashes_len (A) (l) n
  have hX1 := xhashes_len (X) (l) n (by omega)
  generalize hA1e : wHashes (A) (l) n = A1 at R hAl hA1 ⊢
  generalize hX1e : xHashes (X) (l) n = X1 at R hAl hX1 ⊢
  have HA1 := hid hA1e
  have HX1 := hid hX1e
  clear hk4 hL3 p0 p1 q1 q2 q3 q4 q5 q6 q7 hA1e hX1e
  have hown4 := hL4.own
  have HAL1 := hid hAl
  clear hAl
  obtain ⟨p0, p1⟩ := R.box1s
  obtain ⟨q1, q2, q3, q4, q5, q6, q7⟩ := R.box2s
  cases kb with
  | false =>
    have hd := HAL1.out.done
    go_wp2_with fail
    refine (wdone2_any _ a _ _ R.laid R.wr).mono ?_
    rw [hd]
    rintro e w8 ⟨rfl, hf8⟩
    replace R := R.fresh hf8
    obtain ⟨p0, p1⟩ := R.box1s
    go_wp2_with fail
    refine (xdone_any c _ _ R.xr).mono ?_
    rintro e w9 ⟨rfl, hf9⟩
    replace R := R.fresh hf9
    clear hd
    go_wp2
    go_ret
    refine ⟨rfl, ?_⟩
    try simp only [Bool.false_eq_true, if_false]
    rw [HA1.out, HX1.out]
    exact R.stepped
  | true =>
    obtain ⟨i0, hi, hz0, hz1, hz2⟩ := info_parts Tryd.infoString
    go_wp2
    go_loopw [13, 14] (fun nv i wr => ∃ (k : Nat) (xs : List Value), i = .int .i64 (k : Int) ∧ k ≤ l.length ∧ Run S a c w #[v0, .bool true, .int .i64 6, .int .i64 n, v4, v5, v6, (.slice ao0 l.length cap0)] S2 wr A1 X1 ∧ LentAt (w.heap.size + 2) wr 9 (.slice ao l.length cap) l.length xs ∧
      Hid (xs.take k = texts (l.reverse.take (k))) ∧ wr.ownsRow 0 9 1 nv k (texts (l.reverse.take (k))) ∧ (∀ g, nv.ownBlock = some g → w4.heap.size ≤ g) ∧ w4.heap.size ≤ wr.heap.size) (fun _ i _ => l.length - (intOf i).toNat)
    case atStart => exact ⟨0, xs4, rfl, Nat.zero_le _, R, hL4, by simp [Hid, texts], by simpa [texts] using World.ownsRow_nil w4 0 9 1, (fun g hg => by cases hg), Nat.le_refl _⟩
    case round =>
      have hS4 : ∀ k, S2 k → k < w4.heap.size := fun k hk => (R.wr.2.1 k hk).2
      have hb4 := R.base
      clear R p0 p1 q1 q2 q3 q4 q5 q6 q7 hL4
      obtain ⟨k, xs, rfl, hk, R, hL, HT, hrow, hnew, hsz⟩ := hrel
      obtain ⟨p0, p1⟩ := R.box1s
      obtain ⟨q1, q2, q3, q4, q5, q6, q7⟩ := R.box2s
      by_cases hlt : k < l.length
      · obtain ⟨_, _, he, hxl, ⟨_, h0, _⟩ | ⟨g, hao, hgB, hrg⟩⟩ := hL
        · omega
        injection he with he1 he2 he3
        subst he1; subst he3; subst hao
        obtain ⟨u, hu⟩ : ∃ u, xs[k]? = some u := ⟨xs[k]'(by omega), by simp⟩
        have hcg := hrg.cells (g := g) rfl k u (by simpa using hu)
        rw [addr_add0] at hcg
        have hfz : wr.frozen? ⟨g, k, none⟩ = false := by
          rcases hrg.2 with ⟨h0, _⟩ | ⟨g', cap', cur, h0, _, hg, _⟩
          · cases h0
          · injection h0 with h1 h2 h3; injection h1 with h1; injection h1 with h1; subst h1; exact free_at hg k
        have hgS := hvS2 g rfl
        have hg4 := (hown4 g rfl).2
        obtain ⟨j, hj⟩ : ∃ j, l.length = k + 1 + j := ⟨l.length - (k + 1), by omega⟩
        obtain ⟨x, hx⟩ : ∃ x, l[j]? = some x := ⟨l[j]'(by omega), by simp⟩
        have hxr : l.reverse[k]? = some x := by rw [List.getElem?_reverse (by omega), show l.length - 1 - k = j by omega]; exact hx
        obtain ⟨bb, off, hao0, hbb, hcw⟩ := HCL.out j x hx
        have hcell : wr.cell? ⟨bb, off + j, none⟩ = some (.string (str x)) := (R.keeps.cell (p := ⟨bb, off + j, none⟩) hbb (fun h => by
          have h2 := HVB.out (List.ne_nil_of_length_pos (by omega)) bb (by rw [hao0]; rfl)
          rcases h with h | h
          · exact h2.2.1 h
          · exact h2.2.2 h)).trans hcw
        have hneb : ¬ bb = g := by have := (HVB.out (List.ne_nil_of_length_pos (by omega)) bb (by rw [hao0]; rfl)).1; omega
        have hjj : (l.length : Int) - 1 - (k : Int) = (j : Int) := by omega
        have hjlt : j < l.length := by omega
        subst hao0
        have HXR := hid hxr
        have HJ := hid hj
        clear hx hcw hxr hj
        have hset := ownsRow_set hrg (i := k) (by omega) (.string (str x))
        have hnow : (wr.setCell ⟨g, k, none⟩ (.string (str x))).ownsRow 0 9 1 u13 k (texts (l.reverse.take (k))) := ownsRow_setCell_ne hrow (fun h => by have := hnew g h; omega) _
        have R2 := R.other (T := fun k => k = g) (Keeps.setCell (S := fun k => k = g) (Keeps.refl _ wr) (p := ⟨g, k, none⟩) (fun _ => rfl) (.string (str x))) (fun k hk => by subst hk; exact ⟨hgB, hgS⟩)
        have HSET := hid hset
        have HNOW := hid hnow
        have HNEW := hid hnew
        clear hset hrow hrg hu hnow hnew
        go_wp2_with (at_builtin; refine wpList_push rfl (.tmp 216) (.tmp 221) 32 rfl 9 i0 (.string ⟨#[]⟩) 16 Tryd.underlying32 hi hz0 hz1 hz2 rfl _ HNOW.out _ (by rfl) (by rw [World.size_setCell]; rfl) rfl (by omega) (by unfold maxLen; omega) ?_)
        intro v5 w5 ha
        have hk5 := ha.keeps
        have R3 := R2.other hk5 (fun k hk => by
          have h1 := HNEW.out k hk
          exact ⟨by omega, fun h => by have := hS4 k h; omega⟩)
        have hL5 : LentAt (w.heap.size + 2) w5 9 (.slice (some ⟨g, 0, none⟩) l.length cap) l.length (xs.set k (.string (str x))) :=
          ⟨_, _, rfl, by simpa using hxl, .inr ⟨g, rfl, hgB, ownsRow_keeps HSET.out hk5 (fun g' hg' h => by
            have h1 := HNEW.out g' h
            simp [Value.ownBlock] at hg'
            omega)⟩⟩
        have hT5 : Hid ((xs.set k (.string (str x))).take (k + 1) = texts (l.reverse.take (k + 1))) := by
          rw [Hid, List.take_succ_eq_append_getElem (by simp; omega), List.take_set_of_le (by omega), HT.out]
          rw [List.take_add_one, HXR.out]; simp [texts]
        have hrow5 : w5.ownsRow 0 9 1 v5 (k + 1) (texts (l.reverse.take (k + 1))) := by
          have h1 := ha.row
          rw [List.take_add_one, HXR.out]; simpa [texts] using h1
        have hnew5 : ∀ g, v5.ownBlock = some g → w4.heap.size ≤ g := fun g' hg' => by
          rcases ha.own g' hg' with h1 | h1
          · exact HNEW.out g' h1
          · have := h1.1; simp at this; omega
        have hsz5 : w4.heap.size ≤ w5.heap.size := by have := hk5.size; simp at this; omega
        have HR5 := hid hrow5
        clear ha hk5 R R2 hrow5
        go_wp2
        go_roundw
        case rel => exact ⟨k + 1, _, by go_num, by omega, R3, hL5, hT5, HR5.out, hnew5, hsz5⟩
        case measure => simp [intOf]; omega
      · have hke : k = l.length := by omega
        have hls : ListAt wr (.slice ao l.length cap) (texts (l.reverse)) := by
          have h1 := hL.list
          have h2 := HT.out
          rw [hke] at h2
          rw [h2] at h1
          rw [List.take_of_length_le (by simp)] at h1; exact h1
        have hln : ListAt wr u13 (texts (l.reverse)) := by
          have h1 := ListAt.ofRow hrow
          rw [hke] at h1
          rw [List.take_of_length_le (by simp)] at h1; exact h1
        have hns : ∀ g, u13.ownBlock = some g → ¬ S2 g ∧ g ≠ c := fun g hg => by
          have h1 := hnew g hg
          exact ⟨fun h => by have := hS4 g h; omega, by omega⟩
        have htl : l.reverse.length = l.length := by simp
        have hbl := bulk_reverse l
        have HLN := hid hln
        have HKE := hid hke
        clear hke hln hL hrow hnew
        generalize hsec : l.reverse = sec at hls HLN htl hbl ⊢
        have HSEC := hid hsec
        clear hsec
        go_wp2_with fail
        refine (whashes_any S2 a A1 (.slice ao l.length cap) sec n wr R.wr hls hvS2 (by omega)).mono ?_
        rintro e w6 ⟨rfl, S6, hg6, hk6, hr6⟩
        replace R := R.pstep hg6 hk6 hr6
        have hln6 := HLN.out.keeps hk6 (fun g hg => (hns g hg).1)
        clear hg6 hk6 hr6 p0 p1 q1 q2 q3 q4 q5 q6 q7
        obtain ⟨p0, p1⟩ := R.box1s
        obtain ⟨q1, q2, q3, q4, q5, q6, q7⟩ := R.box2s
        go_wp2_with fail
        refine (xhashes_any c X1 u13 sec n w6 R.xr hln6 (by omega)).mono ?_
        rintro e w7 ⟨rfl, hk7, hr7⟩
        replace R := R.xstep hk7 hr7
        clear hk7 hr7 p0 p1 q1 q2 q3 q4 q5 q6 q7
        obtain ⟨p0, p1⟩ := R.box1s
        obtain ⟨q1, q2, q3, q4, q5, q6, q7⟩ := R.box2s
        have hd := (HAL1.out.hashes (sec) n (by omega)).done
        go_wp2_with fail
        refine (wdone2_any _ a _ _ R.laid R.wr).mono ?_
        rw [hd]
        rintro e w8 ⟨rfl, hf8⟩
        replace R := R.fresh hf8
        obtain ⟨p0, p1⟩ := R.box1s
        go_wp2_with fail
        refine (xdone_any c _ _ R.xr).mono ?_
        rintro e w9 ⟨rfl, hf9⟩
        replace R := R.fresh hf9
        clear hd
        go_wp2
        go_ret
        refine ⟨rfl, ?_⟩
        try simp only [if_true]
        rw [HA1.out, HX1.out, HSEC.out]
        exact R.stepped

end Go.Proofs.YtfjflnlcjnhmmaaDoor
