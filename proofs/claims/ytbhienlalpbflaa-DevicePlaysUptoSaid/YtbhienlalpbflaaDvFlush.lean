/-
  The device: what Flush does to the pages and to what is pending.
-/
import Derived.Test.YtbhienlalpbflaaDvTold
import Derived.Test.YtbhienlalpbflaaDvPend
import Derived.Test.YtbhienlalpbflaaDvArm
namespace Go.Proofs.Ytbhienlalpbflaa
open Go.RowKit Go.Maps

theorem cells_ne_map {w : World} {a mb n : Nat} {c : Array Value} {t : TypeId} {z : Nat × Nat} {P : Program} {k : TypeId} {R : Value → Option (DD × List MemPlace)} {D : DD} (h : w.heap[a]? = some (.cells c t z)) (hm : w.ownsMap P k R mb n D) : a ≠ mb := fun e => by
  obtain ⟨es, clock, hb, _⟩ := hm
  rw [← e, h] at hb
  cases hb
theorem cells_ne_row {w : World} {a B size n : Nat} {c : Array Value} {t e : TypeId} {z : Nat × Nat} {v : Value} {xs : List Value} (h : w.heap[a]? = some (.cells c t z)) (hr : w.ownsRow B e size v n xs) (ht : t ≠ e) : v.ownBlock ≠ some a := fun hg => by
  rcases hr.2 with ⟨rfl, _⟩ | ⟨g', cap, cur, rfl, _, hb2, _⟩
  · cases hg
  · simp only [Value.ownBlock, Option.some.injEq] at hg
    rw [hg, h] at hb2
    injection hb2 with hb2
    injection hb2 with _ hb2
    exact ht hb2
theorem row_ne_map {w : World} {B size n mb m : Nat} {e : TypeId} {v : Value} {xs : List Value} {P : Program} {k : TypeId} {R : Value → Option (DD × List MemPlace)} {D : DD} (hr : w.ownsRow B e size v n xs) (hm : w.ownsMap P k R mb m D) : v.ownBlock ≠ some mb := fun hg => by
  obtain ⟨es, clock, hb, _⟩ := hm
  rcases hr.2 with ⟨rfl, _⟩ | ⟨g', cap, cur, rfl, _, hb2, _⟩
  · cases hg
  · simp only [Value.ownBlock, Option.some.injEq] at hg
    rw [hg, hb] at hb2
    cases hb2
theorem ownsRow_set1 {w : World} {base g n cap : Nat} {e : TypeId} {xs : List Value} (h : w.ownsRow base e 1 (.slice (some ⟨g, 0, none⟩) n cap) n xs) (i : Nat) (u : Value) :
    (w.setCell ⟨g, i, none⟩ u).ownsRow base e 1 (.slice (some ⟨g, 0, none⟩) n cap) n (xs.set i u) := by
  have hl := h.1
  rcases h.2 with ⟨h0, _⟩ | ⟨g', cap', cur, h0, hb, hg, hn, hc, hs, ht⟩
  · cases h0
  · injection h0 with h1 h2 h3
    injection h1 with h1
    injection h1 with h1
    subst h1; subst h3
    refine ⟨by simpa using hl, .inr ⟨g, cap, _, rfl, hb, heap_setCell_at hg i u, hn, hc, by simpa using hs, ?_⟩⟩
    simp only [Nat.mul_one] at ht ⊢
    rw [← ht]
    simp [List.take_set]
theorem texts_put (l : List (List UInt8)) (r : Nat) (s : List UInt8) : texts (l.set r s) = (texts l).set r (.string (str s)) := by simp [texts, List.map_set]
/-- a row of texts that is not empty: its block, a cell of it -/
theorem row_here {w : World} {B n : Nat} {v : Value} {l : List (List UInt8)} {p : Nat} (h : w.ownsRow B 9 1 v n (texts l)) (hp : p < l.length) (_hn : n = l.length) :
    ∃ g cap, v = .slice (some ⟨g, 0, none⟩) n cap ∧ g < w.heap.size ∧ w.cell? ⟨g, p, none⟩ = some (.string (str l[p])) ∧ w.frozen? ⟨g, p, none⟩ = false := by
  have hat := ownsRow_at h
  obtain ⟨ao, cap, rfl, hc⟩ := hat
  obtain ⟨g, rfl, h1, h2⟩ := hc p (.string (str l[p])) (by simp [texts, hp])
  refine ⟨g, cap, rfl, h1, h2, ?_⟩
  rcases h.2 with ⟨h0, _⟩ | ⟨g', cap', cur, h0, hb, hg, _⟩
  · cases h0
  · injection h0 with h1 h2 h3
    injection h1 with h1
    injection h1 with h1
    subst h1
    exact free_at hg p

set_option maxRecDepth 100000 in
set_option maxHeartbeats 2000000 in
theorem flush1_any (bx d mb n : Nat) (pv : Value) (l : List (List UInt8)) (D : DD) (dead : Bool) (armed : Int) (f : Int → Option (List UInt8)) (w : World)
    (hx : w.heap[bx]? = some (.cells #[.pointer (some ⟨d, 0, none⟩)] 23 (0, 0))) (h1 : w.heap[d]? = some (.cells #[pv, .map (some mb), .bool dead, .int .i64 armed] 82 (0, 0)))
    (h2 : w.ownsRow 0 9 1 pv l.length (texts l)) (h3 : w.ownsMap Try.prog 3 (plainElem Try.prog 9) mb n D) (hP : Pends D f) (hr : ∀ p, (f p).isSome = true → 0 ≤ p ∧ p < l.length) (hll : l.length ≤ 4096) (hn : n ≤ 100000) :
    Calls Try.prog 48 #[.pointer (some ⟨bx, 0, none⟩)] w fun e w' => e = .returned (.tuple #[]) ∧ (w'.ownsRow 0 9 1 pv l.length (texts (flushed l f)) ∧ ∃ D', w'.ownsMap Try.prog 3 (plainElem Try.prog 9) mb n D' ∧ Pends D' (fun _ => none)) ∧ Keeps (fun q => q = mb ∨ pv.ownBlock = some q) w w' := by
  have hsz := h3.size_le
  have c1 := cell_at h1 1
  have cx := cell_at hx 0
  simp at c1 cx
  have hrise := rising_any d mb n D w c1 h3 (by omega)
  have hL := rise_told h3 Try.intKeyed Try.underlying3 hP hr
  have nx := cells_ne_map hx h3
  have nd := cells_ne_map h1 h3
  have nxp := cells_ne_row hx h2 (by decide)
  have ndp := cells_ne_row h1 h2 (by decide)
  have nmp := row_ne_map h2 h3
  have HX := hid hx
  have H1 := hid h1
  have H2 := hid h2
  have H3 := hid h3
  have HR := hid hrise
  have HPP := hid hP
  have HRR := hid hr
  clear hx h1 h2 h3 hrise c1 hP hr
  go_enter Try.func48, Try.ntmps48
  go_wp2_with fail
  refine HR.out.mono ?_
  rintro e w1 ⟨v1, ss, rfl, hperm, hrow, -, hbel⟩
  have f1 : Fresh w w1 := (Keeps.of_below hbel).mono fun k hk hk2 => absurd hk (by omega)
  have hsorted : ss.mergeSort (fun x y => decide (x ≤ y)) = told f l.length := (mergeSort_of_perm_i hperm).trans hL
  have hlen : ss.length = (told f l.length).length := by rw [← hsorted, List.length_mergeSort]
  have hmem : ∀ p, p ∈ told f l.length ↔ (f p).isSome = true := fun p => by rw [told_mem]; exact ⟨fun h => h.2.2, fun h => ⟨(HRR.out p h).1, (HRR.out p h).2, h⟩⟩
  have hsrt := told_sorted f l.length
  have hLn : (told f l.length).length ≤ 4096 := by
    unfold told
    exact Nat.le_trans (List.length_filter_le _ _) (by simp; exact hll)
  rw [hsorted, hlen] at hrow
  obtain ⟨L, hLL⟩ : ∃ L, told f l.length = L := ⟨_, rfl⟩
  rw [hLL] at hrow hmem hsrt hLn
  have hge := fun g hg => (hrow.lt g hg).1
  obtain ⟨ao1, cp1, rfl, hcells⟩ := ownsRow_at hrow
  have HGE := hid hge
  have HC := hid hcells
  have HM := hid hmem
  have HS := hid hsrt
  have hpl := fun g hg => (H2.out.lt g hg).2
  have hml := H3.out.lt
  have HPL := hid hpl
  clear hcells hrow hsorted hperm hlen hmem hL hbel HR hLL hsrt hge hpl
  go_wp2_with fail
  go_loopw [6] (fun i wr => ∃ (m : Nat) (Dm : DD), i = .int .i64 (m : Int) ∧ m ≤ L.length ∧ wr.ownsRow 0 9 1 pv l.length (texts (lasts l f (L.take m))) ∧ wr.ownsMap Try.prog 3 (plainElem Try.prog 9) mb n Dm ∧ Pends Dm (less f (L.take m)) ∧ Keeps (fun q => q = mb ∨ pv.ownBlock = some q) w1 wr) (fun i _ => L.length - (intOf i).toNat)
  case atStart =>
    refine ⟨0, D, rfl, by omega, ?_, map_keeps H3.out f1 (fun h => h), ?_, Keeps.refl _ _⟩
    · rw [List.take_zero, lasts_nil]; exact ownsRow_keeps H2.out f1 (fun _ _ h => h)
    · rw [List.take_zero, less_nil]; exact HPP.out
  case round =>
    obtain ⟨m, Dm, rfl, hm, hrow, hown, hPm, fr⟩ := hrel
    have fr0 : Keeps (fun q => q = mb ∨ pv.ownBlock = some q) w wr := (f1.mono (fun _ _ h => h.elim)).trans fr
    have X0 := cell_at (fr0.at_ HX.out (fun h => h.elim nx nxp)) 0
    have Q := fr0.at_ H1.out (fun h => h.elim nd ndp)
    simp at X0
    by_cases hlt : m < L.length
    · obtain ⟨p0, hp⟩ : ∃ p, L[m]? = some p := ⟨L[m], by simp⟩
      have hpm : (f p0).isSome = true := (HM.out p0).1 (List.mem_of_getElem? hp)
      obtain ⟨hp0, hp1⟩ := HRR.out p0 hpm
      obtain ⟨p, rfl⟩ : ∃ p : Nat, p0 = (p : Int) := ⟨p0.toNat, by omega⟩
      have hp2 : p < l.length := by omega
      obtain ⟨s, hs⟩ := Option.isSome_iff_exists.1 hpm
      obtain ⟨bb, rfl, hbb, hcell⟩ := HC.out m (.int .i64 (p : Int)) (by rw [List.getElem?_map, hp]; rfl)
      have hbw := HGE.out bb rfl
      have hcell := (fr.cell (p := ⟨bb, m, none⟩) hbb (fun h => h.elim (fun h => by simp only at h; omega) (fun h => by have := HPL.out _ h; simp only at this; omega))).trans hcell
      have D0 := cell_at Q 0
      have D1 := cell_at Q 1
      simp at D0 D1
      obtain ⟨g, cap, rfl, hg, hgc, hgz⟩ := row_here hrow (p := p) (by rw [lasts_len]; exact hp2) (by rw [lasts_len])
      have hless : less f (L.take m) (p : Int) = some s := by unfold less; rw [if_neg (take_not_mem HS.out hp)]; exact hs
      have hwf : (Lit.int .i64 (p : Int)).wf = true := WalkArith.wf_i64 (by omega)
      have hlook := look_text (map_keeps hown ((Keeps.refl (fun _ => False) wr).drew) (fun h => h)) hPm (p : Int) hwf
      rw [hless, Option.getD_some] at hlook
      have hkey : keyOf Try.prog 3 (.int .i64 (p : Int)) = some (pkey p) := keyOf_int_mk Try.underlying3 hwf
      have htk : L.take (m + 1) = L.take m ++ [(p : Int)] := by rw [List.take_add_one, hp]; rfl
      have hPm2 := hPm.del (p : Int)
      rw [← less_snoc, ← htk] at hPm2
      have k2 : Keeps (fun q => q = g) wr (wr.setCell ⟨g, p, none⟩ (.string (str s))).drew := (Keeps.setCell (S := fun q => q = g) (p := ⟨g, p, none⟩) (Keeps.refl _ wr) (fun _ => rfl) _).drew
      have hgmb : mb ≠ g := fun e => nmp (by rw [e]; rfl)
      have hown2 := map_keeps hown k2 hgmb
      have hrow2 := ownsRow_keeps (ownsRow_set1 hrow p (.string (str s))) ((Keeps.refl (fun _ => False) _).drew) (fun _ _ h => h)
      rw [← texts_put, ← lasts_snoc l f (L.take m) p s hs, ← htk] at hrow2
      have X2 := (cell_at (k2.at_ (fr0.at_ HX.out (fun h => h.elim nx nxp)) (fun h => nxp (by rw [h]; rfl))) 0)
      have D2 := cell_at (k2.at_ Q (fun h => ndp (by rw [h]; rfl))) 1
      simp at X2 D2
      have X0' : wr.drew.cell? ⟨bx, 0, none⟩ = _ := X0
      have D0' : wr.drew.cell? ⟨d, 0, none⟩ = _ := D0
      have D1' : wr.drew.cell? ⟨d, 1, none⟩ = _ := D1
      have G0' : wr.drew.cell? ⟨g, p, none⟩ = _ := hgc
      have G1' : wr.drew.frozen? ⟨g, p, none⟩ = _ := hgz
      have hp0 : (0 : Int) ≤ (p : Int) := by omega
      have hpll : (p : Int) < (l.length : Int) := by omega
      have hfr2 := fr.trans (k2.mono (fun q _ h => Or.inr (by rw [h]; rfl)))
      have HO := hid hown2
      have HRW := hid hrow2
      have HPM := hid hPm2
      have HF := hid hfr2
      clear hown hrow hPm hPm2 hrow2 hown2 hfr2 htk hless hs hp Q hpm
      go_wp2_with fail
      go_region
      all_goals
        go_wp2_with (at_delete; refine wpList_delete_own _ rfl (.tmp 25) (.tmp 26) 80 3 rfl 9 Try.intKeyed Try.underlying80 (plainElem Try.prog 9) mb n Dm (by rfl) HO.out _ _ (by rfl) hkey ?_)
        intro w4 hown4 hturn4
        have k4 : Keeps (fun q => q = mb) (wr.setCell ⟨g, p, none⟩ (.string (str s))).drew w4 := (Keeps.refl _ _).grown hturn4.grown (fun k h _ => by cases h; rfl)
        have hrow4 := ownsRow_keeps HRW.out k4 (fun q hq e => hgmb (by cases hq; exact e.symm))
        have hfr4 := HF.out.trans (k4.mono (fun q _ h => Or.inl h))
        go_wp2
        go_roundw
        case rel => exact ⟨m + 1, _, by go_num, by omega, hrow4, hown4, HPM.out, hfr4⟩
        case measure => simp [intOf]; omega
    · obtain rfl : m = L.length := by omega
      rw [List.take_length] at hrow hPm
      rw [lasts_all l f L HM.out] at hrow
      rw [less_all f L HM.out] at hPm
      go_wp2
      go_end0
      exact ⟨rfl, ⟨hrow, Dm, hown, hPm⟩, fr0⟩
end Go.Proofs.Ytbhienlalpbflaa
