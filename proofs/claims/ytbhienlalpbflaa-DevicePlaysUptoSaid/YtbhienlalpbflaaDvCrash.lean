/-
  The device: Crash.
-/
import Derived.Test.YtbhienlalpbflaaMDvF
import Derived.BigRegion
namespace Go.Proofs.Ytbhienlalpbflaa
open Go.RowKit Go.Maps

/-- a list of keeps -/
def KeepsAt (w : World) (v : Value) (ks : List (Int × Int)) : Prop :=
  ∃ ao cap, v = .slice ao ks.length cap ∧ ∀ (k : Nat) (x : Int × Int), ks[k]? = some x → ∃ bb off, ao = some ⟨bb, off, none⟩ ∧ bb < w.heap.size ∧ w.cell? ⟨bb, off + k * 2, none⟩ = some (.int .i64 x.1) ∧ w.cell? ⟨bb, off + k * 2 + 1, none⟩ = some (.int .i64 x.2)
theorem KeepsAt.fresh {w w' : World} {v : Value} {ks : List (Int × Int)} (h : KeepsAt w v ks) (f : Fresh w w') : KeepsAt w' v ks := by
  obtain ⟨ao, cap, rfl, hc⟩ := h
  exact ⟨ao, cap, rfl, fun k x hx => by
    obtain ⟨bb, off, e1, e2, e3, e4⟩ := hc k x hx
    exact ⟨bb, off, e1, Nat.lt_of_lt_of_le e2 f.size, (f.cell (p := ⟨bb, off + k * 2, none⟩) e2 (fun h => h)).trans e3, (f.cell (p := ⟨bb, off + k * 2 + 1, none⟩) e2 (fun h => h)).trans e4⟩⟩
theorem zeroNum (w : World) : (zeroValue 3).run Try.prog w = .ok (.int .i64 0) w := by kernel_rfl
theorem num_elem {x : Int} (h : (Lit.int .i64 x).wf = true) : plainElem (H := Unit) Try.prog 3 (.int .i64 x) = some (.lit (.int .i64 x), []) := plainElem_int Try.underlying3 h

set_option maxRecDepth 100000 in
set_option maxHeartbeats 4000000 in
theorem crash_any (B : Nat → Prop) (d : Nat) (l : List (List UInt8)) (D : DD) (n : Nat) (dead : Bool) (armed : Int) (f : Int → Option (List UInt8)) (v : Value) (ks : List (Int × Int)) (w : World) (h : Dev B w d l D n dead armed)
    (hP : Pends D f) (hr : ∀ p, (f p).isSome = true → 0 ≤ p ∧ p < l.length) (hll : l.length ≤ 4096) (hn : n ≤ 100000) (hl256 : ∀ s ∈ l, s.length = 256) (hf256 : ∀ p s, f p = some s → s.length = 256)
    (hv : KeepsAt w v ks) (hkl : ks.length ≤ 1000000000) (hkw : ∀ k ∈ ks, (Lit.int .i64 k.1).wf = true ∧ (Lit.int .i64 k.2).wf = true) :
    Calls Try.prog 26 #[.pointer (some ⟨d, 0, none⟩), v] w fun e w' => (¬ KeepsOk (told f l.length).length ks ∧ e = .returned (.int .i64 92) ∧ Fresh w w') ∨
      (KeepsOk (told f l.length).length ks ∧ e = .returned (.int .i64 0) ∧ (∃ D', Dev B w' d (crashed l f ks) D' n false 0 ∧ Pends D' (fun _ => none)) ∧ Keeps B w w') := by
  obtain ⟨pv, mb, h1, h2, h3, hBm, hBd⟩ := h.ex
  have hsz := h3.size_le
  have c1 := cell_at h1 1
  simp at c1
  have hrise := rising_any d mb n D w c1 h3 (by omega)
  have hL := rise_told h3 Try.intKeyed Try.underlying3 hP hr
  have nd := cells_ne_map h1 h3
  have ndp := cells_ne_row h1 h2.1 (by decide)
  have nmp := row_ne_map h2.1 h3
  have hmm := @run_makeMap Try.prog
  have hml := h3.lt
  have hdl := lt_of_block h1
  have hpl := fun g hg => (h2.1.lt g hg).2
  have hLn : (told f l.length).length ≤ 4096 := by
    unfold told
    exact Nat.le_trans (List.length_filter_le _ _) (by simp; exact hll)
  have hmem : ∀ p, p ∈ told f l.length ↔ (f p).isSome = true := fun p => by rw [told_mem]; exact ⟨fun h => h.2.2, fun h => ⟨(hr p h).1, (hr p h).2, h⟩⟩
  have hsrt := told_sorted f l.length
  have hcr : crashed l f ks = mix f ks (told f l.length) l (told f l.length).length := rfl
  obtain ⟨L, hLL⟩ : ∃ L, told f l.length = L := ⟨_, rfl⟩
  rw [hLL] at hL hmem hsrt hLn hcr
  rw [hLL, hcr]
  have HM := hid hmem
  have HS := hid hsrt
  clear hcr hmem hsrt hLL
  obtain ⟨aok, capk, rfl, hkc⟩ := hv
  have HKC := hid hkc
  have HKW := hid hkw
  have H1 := hid h1
  have H2 := hid h2
  have H3 := hid h3
  have HR := hid hrise
  have HPP := hid hP
  have HRR := hid hr
  have HPL := hid hpl
  have HL256 := hid hl256
  have HF256 := hid hf256
  clear h1 h2 h3 hrise c1 hP hr h hkc hkw hpl hl256 hf256
  go_enter Try.func26, Try.ntmps26
  go_wp2_with fail
  refine HR.out.mono ?_
  rintro e w1 ⟨v1, ss, rfl, hperm, hrow, -, hbel⟩
  have f1 : Fresh w w1 := (Keeps.of_below hbel).mono fun k hk hk2 => absurd hk (by omega)
  have hsorted : ss.mergeSort (fun x y => decide (x ≤ y)) = L := (mergeSort_of_perm_i hperm).trans hL
  have hlen : ss.length = L.length := by rw [← hsorted, List.length_mergeSort]
  rw [hsorted, hlen] at hrow
  have hge := fun g hg => (hrow.lt g hg).1
  obtain ⟨ao1, cp1, rfl, hcells⟩ := ownsRow_at hrow
  have HGE := hid hge
  have HC := hid hcells
  have hmap := World.ownsMap_made w1 Try.prog 3 (plainElem (H := Unit) Try.prog 3)
  have f2 : Fresh w (w1.alloc (.map #[] 0)) := f1.trans ((Keeps.refl _ _).alloc _)
  obtain ⟨w2, hw2⟩ : ∃ w2, w1.alloc (.map #[] 0) = w2 := ⟨_, rfl⟩
  have hw2s : w2.heap.size = w1.heap.size + 1 := by rw [← hw2]; simp
  have f12 : Fresh w1 w2 := by rw [← hw2]; exact (Keeps.refl _ _).alloc _
  rw [hw2] at hmap f2
  obtain ⟨ms, hms⟩ : ∃ ms, w1.heap.size = ms := ⟨_, rfl⟩
  rw [hms] at hmap hw2s
  have hmsw : w.heap.size ≤ ms := by have := f1.size; omega
  clear hcells hrow hsorted hperm hlen hL hbel HR hge
  go_wp2_with fail
  have HFR := hid f2
  have HF12 := hid f12
  have hbms : ∀ q, q < w1.heap.size → q ≠ ms := fun q h => by omega
  have HBMS := hid hbms
  clear hw2 hms f2 f12 hbms
  go_loopw [19] (fun i wr => ∃ (m : Nat) (Ds : DD) (ns : Nat), i = .int .i64 (m : Int) ∧ m ≤ ks.length ∧ ns ≤ m ∧ wr.ownsMap Try.prog 3 (plainElem Try.prog 3) ms ns Ds ∧ Stays Ds (stayOf (ks.take m)) ∧ Hid (KeepsOk L.length (ks.take m)) ∧ Keeps (fun q => q = ms) w2 wr) (fun i _ => ks.length - (intOf i).toNat)
  case atStart =>
    exact ⟨0, .map [], 0, rfl, by omega, by omega, hmap, Stays.empty, fun m k h => by (rw [List.take_zero] at h; cases h), Keeps.refl _ _⟩
  case round =>
    obtain ⟨m, Ds, ns, rfl, hm, hns, hown, hSt, HOK, fr⟩ := hrel
    have fr0 : Fresh w wr := HFR.out.trans' fr (fun i hi h => by have h : i = ms := h; omega)
    by_cases hlt : m < ks.length
    · obtain ⟨⟨N, b⟩, hk⟩ : ∃ k, ks[m]? = some k := ⟨ks[m], by simp⟩
      obtain ⟨bk, offk, rfl, hbk, hk1, hk2⟩ := HKC.out m (N, b) hk
      have hk1 := (fr0.cell (p := ⟨bk, offk + m * 2, none⟩) hbk (fun h => h)).trans hk1
      have hk2 := (fr0.cell (p := ⟨bk, offk + m * 2 + 1, none⟩) hbk (fun h => h)).trans hk2
      have hwf := HKW.out (N, b) (List.mem_of_getElem? hk)
      simp only at hk1 hk2 hwf
      have htk : ks.take (m + 1) = ks.take m ++ [(N, b)] := by rw [List.take_add_one, hk]; rfl
      have g3 : Fresh wr (wr.alloc (.cells #[.int .i64 N, .int .i64 b] 71)) := (Keeps.refl _ _).alloc _
      have hown3 := map_keeps hown g3 (fun h => h)
      have hlook := look_ok_num hown3 Try.intKeyed Try.underlying3 Try.underlying93 Try.underlying3 zeroNum hSt N hwf.1
      have hkey : keyOf Try.prog 3 (.int .i64 N) = some (pkey N) := keyOf_int_mk Try.underlying3 hwf.1
      obtain ⟨tw, htw⟩ : ∃ tw, (stayOf (ks.take m) N).isSome = tw := ⟨_, rfl⟩
      have hsnoc : KeepsOk L.length (ks.take m) → ¬ BadKeep (stayOf (ks.take m)) L.length (N, b) → KeepsOk L.length (ks.take (m + 1)) := fun h1 h2 i x hx => by
        rw [htk] at hx ⊢
        have hl1 : (ks.take m).length = m := by rw [List.length_take]; omega
        by_cases hi : i < m
        · rw [List.getElem?_append_left (by omega)] at hx
          rw [List.take_append_of_le_length (by omega)]
          exact h1 i x hx
        · have hi2 : i = m := by
            have := (List.getElem?_eq_some_iff.1 hx).1
            simp at this
            omega
          subst hi2
          rw [List.getElem?_append_right (by omega), hl1] at hx
          simp at hx
          rw [List.take_append_of_le_length (by omega), List.take_of_length_le (by omega), ← hx]
          exact h2
      have hbad : BadKeep (stayOf (ks.take m)) L.length (N, b) → ¬ KeepsOk L.length ks := fun h1 h2 => h2 m (N, b) hk h1
      unfold BadKeep at hbad hsnoc
      simp only at hbad hsnoc
      rw [htw] at hlook hbad hsnoc
      have HB := hid hbad
      have HSN := hid hsnoc
      have hst2 := hSt.put N b
      have hst3 : Stays (Ds.put (pkey N) (.lit (.int .i64 b))) (stayOf (ks.take (m + 1))) := by rw [htk, stayOf_snoc]; exact hst2
      have HST := hid hst3
      have hf3 : Fresh w (wr.alloc (.cells #[.int .i64 N, .int .i64 b] 71)) := fr0.trans g3
      obtain ⟨w5, hrun, hown5, hgr5⟩ := hown3.update Try.intKeyed Try.underlying93 (by unfold maxLen; omega) hkey (num_elem hwf.2)
      have hf5 : Keeps (fun q => q = ms) w2 w5 := (fr.trans (g3.mono (fun _ _ h => h.elim))).trans ((Keeps.refl _ _).grown hgr5 (fun k h _ => by cases h; rfl))
      have HF3 := hid hf3
      have HF5 := hid hf5
      clear hk hst2 hst3 hbad hsnoc htk htw hSt hown g3 hown3 hf3 hf5 hgr5
      cases tw with
      | true =>
        go_wp2_with fail
        go_ret
        exact .inl ⟨HB.out (.inl (by first | rfl | trivial)), rfl, HF3.out⟩
      | false =>
        by_cases b1 : N < 0
        · go_wp2_with fail
          go_ret
          exact .inl ⟨HB.out (.inr (.inl b1)), rfl, HF3.out⟩
        · by_cases b2 : (L.length : Int) ≤ N
          · go_wp2_with fail
            go_ret
            exact .inl ⟨HB.out (.inr (.inr (.inl b2))), rfl, HF3.out⟩
          · by_cases b3 : b < 0
            · go_wp2_with fail
              go_ret
              exact .inl ⟨HB.out (.inr (.inr (.inr (.inl b3)))), rfl, HF3.out⟩
            · by_cases b4 : 256 < b
              · go_wp2_with fail
                go_ret
                exact .inl ⟨HB.out (.inr (.inr (.inr (.inr b4)))), rfl, HF3.out⟩
              · have hok2 := HSN.out HOK.out (fun h => by rcases h with h | h | h | h | h <;> first | cases h | exact b1 h | exact b2 h | exact b3 h | exact b4 h)
                go_wp2_with fail
                go_roundw
                case rel => exact ⟨m + 1, _, ns + 1, by go_num, by omega, by omega, hown5, HST.out, hok2, HF5.out⟩
                case measure => simp [intOf]; omega
    · obtain rfl : m = ks.length := by omega
      rw [List.take_length] at hSt HOK
      have hstay := stay_le HOK.out
      have HSL := hid hstay
      clear hstay hmap hns
      go_wp2_with fail
      obtain ⟨w3, rfl⟩ : ∃ w3, w3 = wr := ⟨_, rfl⟩
      go_loopw [61] (fun i wx => ∃ (m : Nat) (Dm : DD), i = .int .i64 (m : Int) ∧ m ≤ L.length ∧ wx.ownsRow 0 9 1 pv l.length (texts (mix f ks L l m)) ∧ wx.ownsMap Try.prog 3 (plainElem Try.prog 9) mb n Dm ∧ Pends Dm (less f (L.take m)) ∧ Keeps (fun q => q = mb ∨ pv.ownBlock = some q) w3 wx) (fun i _ => L.length - (intOf i).toNat)
      case atStart =>
        refine ⟨0, D, rfl, by omega, ?_, map_keeps H3.out fr0 (fun h => h), ?_, Keeps.refl _ _⟩
        · exact ownsRow_keeps H2.out.1 fr0 (fun _ _ h => h)
        · rw [List.take_zero, less_nil]; exact HPP.out
      case round =>
        obtain ⟨m, Dm, rfl, hm, hrow, hownP, hPm, frx⟩ := hrel
        have fr0x : Keeps (fun q => q = mb ∨ pv.ownBlock = some q) w wr := (fr0.mono (fun _ _ h => h.elim)).trans' frx (fun _ _ h => h)
        have Q := fr0x.at_ H1.out (fun h => h.elim nd ndp)
        have hnms : ¬ (ms = mb ∨ pv.ownBlock = some ms) := fun h => h.elim (fun h => by omega) (fun h => by have := HPL.out _ h; omega)
        have hownS := map_keeps hown frx hnms
        by_cases hlt : m < L.length
        · obtain ⟨p0, hp⟩ : ∃ p, L[m]? = some p := ⟨L[m], by simp⟩
          have hpm : (f p0).isSome = true := (HM.out p0).1 (List.mem_of_getElem? hp)
          obtain ⟨hp0, hp1⟩ := HRR.out p0 hpm
          obtain ⟨p, rfl⟩ : ∃ p : Nat, p0 = (p : Int) := ⟨p0.toNat, by omega⟩
          have hp2 : p < l.length := by omega
          obtain ⟨s, hs⟩ := Option.isSome_iff_exists.1 hpm
          obtain ⟨bb, rfl, hbb, hcell⟩ := HC.out m (.int .i64 (p : Int)) (by rw [List.getElem?_map, hp]; rfl)
          have hbw := HGE.out bb rfl
          have hcell := (HF12.out.cell (p := ⟨bb, m, none⟩) hbb (fun h => h)).trans hcell
          have hbb2 := Nat.lt_of_lt_of_le hbb HF12.out.size
          have hcell := (fr.cell (p := ⟨bb, m, none⟩) hbb2 (HBMS.out bb hbb)).trans hcell
          have hbb3 := Nat.lt_of_lt_of_le hbb2 fr.size
          have hcell := (frx.cell (p := ⟨bb, m, none⟩) hbb3 (fun h => h.elim (fun h => by have h : bb = mb := h; omega) (fun h => by have : bb < w.heap.size := HPL.out _ h; omega))).trans hcell
          obtain ⟨t, ht⟩ : ∃ t, l[p]? = some t := ⟨l[p], by simp⟩
          have hs256 := HF256.out _ _ hs
          have ht256 := HL256.out t (List.mem_of_getElem? ht)
          have hmixp : (mix f ks L l m)[p]? = some t := (mix_other (fun q hq => (HRR.out q ((HM.out q).1 hq)).1) m p (take_not_mem HS.out hp)).trans ht
          have D0 := cell_at Q 0
          have D1 := cell_at Q 1
          simp at D0 D1
          obtain ⟨g, cap, rfl, hg, hgc, hgz⟩ := row_here hrow (p := p) (by rw [mix_len]; exact hp2) (by rw [mix_len])
          rw [show (mix f ks L l m)[p]'(by rw [mix_len]; exact hp2) = t from (List.getElem_eq_iff _).2 hmixp] at hgc
          have hless : less f (L.take m) (p : Int) = some s := by unfold less; rw [if_neg (take_not_mem HS.out hp)]; exact hs
          have hwf : (Lit.int .i64 (p : Int)).wf = true := WalkArith.wf_i64 (by omega)
          have hlook := look_text (map_keeps hownP ((Keeps.refl (fun _ => False) wr).drew) (fun h => h)) hPm (p : Int) hwf
          rw [hless, Option.getD_some] at hlook
          have hlooks := look_num hownS Try.intKeyed Try.underlying3 Try.underlying93 Try.underlying3 zeroNum hSt (m : Int) (WalkArith.wf_i64 (by omega))
          obtain ⟨hc256, hcs⟩ := HSL.out m
          have hmix := mix_succ (ks := ks) hp hs hmixp
          obtain ⟨c, hc⟩ : ∃ c, stay ks m = c := ⟨_, rfl⟩
          rw [hc] at hc256 hcs hmix
          rw [hcs] at hlooks
          have hkey : keyOf Try.prog 3 (.int .i64 (p : Int)) = some (pkey p) := keyOf_int_mk Try.underlying3 hwf
          have htk : L.take (m + 1) = L.take m ++ [(p : Int)] := by rw [List.take_add_one, hp]; rfl
          have hPm2 := hPm.del (p : Int)
          rw [← less_snoc, ← htk] at hPm2
          have hsz1 : (str s).size = 256 := by rw [str_size]; exact hs256
          have hsz2 : (str t).size = 256 := by rw [str_size]; exact ht256
          have D0' : wr.drew.cell? ⟨d, 0, none⟩ = _ := D0
          have D1' : wr.drew.cell? ⟨d, 1, none⟩ = _ := D1
          have G0' : wr.drew.cell? ⟨g, p, none⟩ = _ := hgc
          have G1' : wr.drew.frozen? ⟨g, p, none⟩ = _ := hgz
          have hp0 : (0 : Int) ≤ (p : Int) := by omega
          have hpll : (p : Int) < (l.length : Int) := by omega
          have hc0 : (0 : Int) ≤ (c : Int) := by omega
          have hc1 : (c : Int) ≤ 256 := by omega
          have hval : (str s).extract 0 c ++ (str t).extract c 256 = str (s.take c ++ t.drop c) := by
            have e1 := str_from t c
            rw [ht256] at e1
            rw [str_to, e1, str_join]
          have k2 : Keeps (fun q => q = g) wr (wr.setCell ⟨g, p, none⟩ (.string (str (s.take c ++ t.drop c)))).drew := (Keeps.setCell (S := fun q => q = g) (p := ⟨g, p, none⟩) (Keeps.refl _ wr) (fun _ => rfl) _).drew
          have hgmb : mb ≠ g := fun e => nmp (by rw [e]; rfl)
          have hown2 := map_keeps hownP k2 hgmb
          have hrow2 := ownsRow_keeps (ownsRow_set1 hrow p (.string (str (s.take c ++ t.drop c)))) ((Keeps.refl (fun _ => False) _).drew) (fun _ _ h => h)
          rw [← texts_put, ← hmix] at hrow2
          have D2 := cell_at (k2.at_ Q (fun h => ndp (by rw [h]; rfl))) 1
          simp at D2
          have hfr2 := frx.trans (k2.mono (fun q _ h => Or.inr (by rw [h]; rfl)))
          have HO := hid hown2
          have HRW := hid hrow2
          have HPM := hid hPm2
          have HF := hid hfr2
          have HVAL := hid hval
          clear hval hown2 hrow2 hfr2 hownP hrow hPm Q hPm2 htk hless hs hp hpm hmix hmixp ht hcs hc
          go_wp2_with fail
          go_region
          all_goals
            rw [HVAL.out]
            go_wp2_with (at_delete; refine wpList_delete_own _ rfl (.tmp 96) (.tmp 97) 80 3 rfl 9 Try.intKeyed Try.underlying80 (plainElem Try.prog 9) mb n Dm (by rfl) HO.out _ _ (by rfl) hkey ?_)
            intro w4 hown4 hturn4
            have k4 : Keeps (fun q => q = mb) (wr.setCell ⟨g, p, none⟩ (.string (str (s.take c ++ t.drop c)))).drew w4 := (Keeps.refl _ _).grown hturn4.grown (fun k h _ => by cases h; rfl)
            have hrow4 := ownsRow_keeps HRW.out k4 (fun q hq e => hgmb (by cases hq; exact e.symm))
            have hfr4 := HF.out.trans (k4.mono (fun q _ h => Or.inl h))
            go_wp2
            go_roundw
            case rel => exact ⟨m + 1, _, by go_num, by omega, hrow4, hown4, HPM.out, hfr4⟩
            case measure => simp [intOf]; omega
        · obtain rfl : m = L.length := by omega
          rw [List.take_length, less_all f L HM.out] at hPm
          have D2 := cell_at Q 2
          have D3 := cell_at Q 3
          have Z2 := free_at Q 2
          have Z3 := free_at Q 3
          simp at D2 D3
          have k2 : Keeps (fun q => q = d) wr (wr.setCell ⟨d, 2, none⟩ (.bool false)) := Keeps.setCell (S := fun q => q = d) (p := ⟨d, 2, none⟩) (Keeps.refl _ wr) (fun _ => rfl) _
          have Q2 := heap_setCell_at Q 2 (.bool false)
          have E3 := cell_at Q2 3
          have F3 := free_at Q2 3
          simp at E3
          have Q3 := heap_setCell_at Q2 3 (.int .i64 0)
          have k3 : Keeps (fun q => q = d) wr ((wr.setCell ⟨d, 2, none⟩ (.bool false)).setCell ⟨d, 3, none⟩ (.int .i64 0)) := Keeps.setCell (S := fun q => q = d) (p := ⟨d, 3, none⟩) k2 (fun _ => rfl) _
          have hrow3 := ownsRow_keeps hrow k3 (fun g hg e => ndp (by rw [hg, e]))
          have hown3 := map_keeps hownP k3 (fun e => nd e.symm)
          have hk3 : Keeps B w ((wr.setCell ⟨d, 2, none⟩ (.bool false)).setCell ⟨d, 3, none⟩ (.int .i64 0)) := (fr0x.mono (fun q _ h => h.elim (fun h => by rw [h]; exact hBm) (fun h => H2.out.2 q h))).trans (k3.mono (fun q _ h => by rw [show q = d from h]; exact hBd))
          have R3 := hid hrow3
          have O3 := hid hown3
          have K3 := hid hk3
          have QQ := hid Q3
          clear hrow hownP hrow3 hown3 hk3 Q3 k3 Q2 Q
          go_wp2_with fail
          go_ret
          exact .inr ⟨HOK.out, rfl, ⟨Dm, ⟨⟨pv, mb, QQ.out, ⟨by rw [mix_len]; exact R3.out, H2.out.2⟩, O3.out, hBm, hBd⟩⟩, hPm⟩, K3.out⟩
end Go.Proofs.Ytbhienlalpbflaa
