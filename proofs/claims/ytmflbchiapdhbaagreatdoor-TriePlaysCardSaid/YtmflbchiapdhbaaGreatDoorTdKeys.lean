/-
  The document's trie map: Keys.
-/
import Derived.Test.YtmflbchiapdhbaaGreatDoorMTdA
import Derived.Test.YtmflbchiapdhbaaGreatDoorMTrI
import Derived.Test.YtmflbchiapdhbaaGreatDoorMShaA
import Derived.Test.YtmflbchiapdhbaaGreatDoorMTrB
import Derived.BigQuiet
import Derived.Sort.Walk0
namespace Go.Proofs.YtmflbchiapdhbaaGreatDoor
open Go.RowKit

theorem texts_append (l m : List (List UInt8)) : texts (l ++ m) = texts l ++ texts m := by simp [texts]
theorem TextsAt.take {w : World} {ao : Option Addr} {cap : Nat} {l : List (List UInt8)} (h : TextsAt w (.slice ao l.length cap) l) {m : Nat} (hm : m ≤ l.length) : TextsAt w (.slice ao m cap) (l.take m) := by
  obtain ⟨ao', cap', e, hc⟩ := h
  simp only [Value.slice.injEq, true_and] at e
  obtain ⟨rfl, rfl⟩ := e
  refine ⟨ao, cap, by rw [List.length_take, Nat.min_eq_left hm], fun k s hs => hc k s ?_⟩
  rw [List.getElem?_take] at hs
  split at hs
  · exact hs
  · cases hs
theorem texts_from {w : World} {g cap m : Nat} {l : List (List UInt8)} (h : TextsAt w (.slice (some ⟨g, 0, none⟩) l.length cap) l) : TextsAt w (.slice (some ⟨g, m, none⟩) (l.length - m) (cap - m)) (l.drop m) := by
  obtain ⟨ao', cap', e, hc⟩ := h
  simp only [Value.slice.injEq, true_and] at e
  obtain ⟨rfl, rfl⟩ := e
  refine ⟨_, _, by rw [List.length_drop], fun k s hs => ?_⟩
  rw [List.getElem?_drop] at hs
  obtain ⟨bb, off, e1, e2, e3⟩ := hc (m + k) s hs
  simp only [Option.some.injEq, Addr.mk.injEq, and_true] at e1
  obtain ⟨rfl, rfl⟩ := e1
  exact ⟨g, m, rfl, e2, by rw [Nat.zero_add] at e3; exact e3⟩

set_option maxRecDepth 100000 in
set_option maxHeartbeats 8000000 in
theorem dkeys_any (y : Nat) (dv : Value) (L : List Ent) (w : World) (h : DocAt w y dv L) (hl : L.length ≤ 1000000) :
    Calls Tryz.prog 23 #[.pointer (some ⟨y, 0, none⟩)] w fun e w' => ∃ v', e = .returned v' ∧ Fresh w w' ∧ OwnTexts w.heap.size w' v' (rising (L.map Prod.fst)) := by
  obtain ⟨i0, hi, hz0, hz1, hz2⟩ := info_parts Tryz.infoText
  have H := hid h
  obtain ⟨ao, cap, rfl, -⟩ := h.row.at_
  have HC : Hid (∀ W, Fresh w W → W.cell? ⟨y, 0, none⟩ = some (.slice ao L.length cap) ∧ ∀ (k : Nat) (x : Ent), L[k]? = some x → ∃ bb, ao = some ⟨bb, 0, none⟩ ∧ bb < W.heap.size ∧ W.cell? ⟨bb, k * 4, none⟩ = some (.string (str x.1))) := fun W f => by
    have hD := h.fresh f
    obtain ⟨ao', cap', e1, hc⟩ := hD.row.at_
    simp only [Value.slice.injEq, true_and] at e1
    obtain ⟨rfl, rfl⟩ := e1
    refine ⟨by have := cell_at hD.box 0; simpa using this, fun k x hx => ?_⟩
    obtain ⟨bb, e, hb, c0, -⟩ := hc k x hx
    exact ⟨bb, e, hb, c0⟩
  clear h H
  go_enter Tryz.func23, Tryz.ntmps23
  go_wp2_with fail
  go_loopw [3, 4] (fun lv i wr => ∃ n : Nat, i = .int .i64 (n : Int) ∧ n ≤ L.length ∧ OwnTexts w.heap.size wr lv (rising ((L.take n).map Prod.fst)) ∧ Fresh w wr) (fun _ i _ => L.length - (intOf i).toNat)
  case atStart =>
    have e0 : rising ((L.take 0).map Prod.fst) = [] := List.eq_nil_of_length_eq_zero (by rw [rising_length]; rfl)
    refine ⟨0, rfl, Nat.zero_le _, ?_, Keeps.refl _ _⟩
    rw [e0]
    exact ⟨World.ownsRow_nil _ _ _ _, fun _ h => nomatch h⟩
  case round =>
    obtain ⟨n, rfl, hn, hown, fr⟩ := hrel
    obtain ⟨c0, hc⟩ := HC.out wr fr
    have hrl : (rising ((L.take n).map Prod.fst)).length = n := by rw [rising_length, List.length_map, List.length_take]; omega
    by_cases hlt : n < L.length
    · obtain ⟨x, hx⟩ : ∃ x, L[n]? = some x := ⟨L[n], by simp⟩
      obtain ⟨bb, rfl, hbb, x0⟩ := hc n x hx
      have hn0 : (0 : Int) ≤ (n : Int) := by omega
      have hn1 : (n : Int) < (L.length : Int) := by omega
      have HX : Hid ((L.take (n + 1)).map Prod.fst = (L.take n).map Prod.fst ++ [x.1]) := by
        obtain ⟨hl', hx'⟩ := List.getElem?_eq_some_iff.1 hx
        rw [Hid, List.take_succ_eq_append_getElem hl', hx', List.map_append]
        rfl
      obtain ⟨R, hR⟩ : ∃ R, rising ((L.take n).map Prod.fst) = R := ⟨_, rfl⟩
      have HR := hid hR
      rw [hR] at hown hrl
      have HRL := hid hrl
      have HOWN := hid hown
      obtain ⟨so, scap, rfl⟩ := ownsRow_slice hown.1
      rw [hrl]
      have hown' : OwnTexts w.heap.size wr (.slice so n scap) R := by rw [← hrl]; exact hown
      have hcells : 0 < n → ∃ g, so = some ⟨g, 0, none⟩ ∧ g < wr.heap.size ∧ ∀ j s, R[j]? = some s → wr.cell? ⟨g, j, none⟩ = some (.string (str s)) := fun h0 => by
        obtain ⟨g, e, hg⟩ := rowCellsB hown.1 (by omega)
        refine ⟨g, e, ?_, fun j s hs => (hg j _ (by simp [texts, hs])).2⟩
        obtain ⟨s, hs⟩ : ∃ s, R[0]? = some s := ⟨R[0]'(by omega), by simp⟩
        exact (hg 0 (.string (str s)) (by simp [texts, hs])).1
      have HCL := hid hcells
      clear hR hrl hc hx hown hcells
      go_wp2_with fail
      go_loopw [5] (fun i wk => ∃ m d : Nat, i = .int .i64 (m : Int) ∧ m ≤ n ∧ Hid (∀ j s, j < m → R[j]? = some s → s < x.1) ∧ wk = wr.drewN d) (fun i _ => n - (intOf i).toNat)
      case atStart => exact ⟨0, 0, rfl, Nat.zero_le _, (fun j s h _ => by omega), rfl⟩
      case round =>
        obtain ⟨m, d, rfl, hm, HLT, rfl⟩ := hrel
        by_cases hmn : m < n
        · obtain ⟨g, rfl, hgl, hcells⟩ := HCL.out (by omega)
          obtain ⟨s, hs⟩ : ∃ s, R[m]? = some s := ⟨R[m]'(by have := HRL.out; omega), by simp⟩
          have y0 := hcells m s hs
          have hm0 : (0 : Int) ≤ (m : Int) := by omega
          have hm1 : (m : Int) < (n : Int) := by omega
          have g01 : decide (m < n) = true := decide_eq_true hmn
          have g02 : decide ((m : Int) < (n : Int)) = true := decide_eq_true hm1
          have c0d : (wr.drewN d).cell? ⟨y, 0, none⟩ = some (.slice (some ⟨bb, 0, none⟩) L.length cap) := c0
          have x0d : (wr.drewN d).cell? ⟨bb, n * 4, none⟩ = some (.string (str x.1)) := x0
          have y0d : (wr.drewN d).cell? ⟨g, m, none⟩ = some (.string (str s)) := y0
          have HS := hid hs
          clear hs hcells
          by_cases hlx : s < x.1
          · have hbl : Op.bytesLess (str s).toList (str x.1).toList = true := by rw [bytesLess_eq, str_toList, str_toList]; exact decide_eq_true hlx
            have HLT2 : Hid (∀ j q, j < m + 1 → R[j]? = some q → q < x.1) := fun j q hj hq => by
              by_cases e : j = m
              · subst e
                rw [HS.out] at hq
                injection hq with hq
                rw [← hq]; exact hlx
              · exact HLT.out j q (by omega) hq
            clear hlx
            go_wp2_with fail
            go_quiet (fail)
            go_wp2_with fail
            go_roundw
            case rel => exact ⟨m + 1, _, by go_num, by omega, HLT2, rfl⟩
            case measure => simp [intOf]; omega
          · have hbl : Op.bytesLess (str s).toList (str x.1).toList = false := by rw [bytesLess_eq, str_toList, str_toList]; exact decide_eq_false hlx
            have HGE : Hid (∀ q, (R.drop m)[0]? = some q → ¬ q < x.1) := fun q hq => by
              rw [List.getElem?_drop, Nat.add_zero, HS.out] at hq
              injection hq with hq
              rw [← hq]; exact hlx
            clear hlx
            go_wp2_with fail
            go_quiet (fail)
            obtain ⟨so, hso⟩ : ∃ so, some (⟨g, 0, none⟩ : Addr) = so := ⟨_, rfl⟩
            rw [hso] at HOWN hown' HCL ⊢
            clear hso y0 y0d hgl HS hbl
            generalize hwd : (wr.drewN d).drewN nq = wd
            have fW : Fresh wr wd := by rw [← hwd]; exact ((Keeps.refl _ _).drewN _).drewN _
            clear hwd
            have frd := fr.trans fW
            have hrowd : OwnTexts w.heap.size wd (.slice so n scap) R := ⟨by have := ownsRow_keeps HOWN.out.1 fW (fun _ _ h => h); rwa [HRL.out] at this ⊢, fun g hg => HOWN.out.2 g (by cases so <;> exact hg)⟩
            have hcap : n ≤ scap := by
              rcases hrowd.1.2 with ⟨e, -⟩ | ⟨g', c', cur, e, -, -, h1, -⟩
              · simp only [Value.slice.injEq] at e; omega
              · simp only [Value.slice.injEq] at e; have := HRL.out; omega
            have hso : (so = none ∧ scap = 0) ∨ ∃ g, so = some ⟨g, 0, none⟩ := by
              rcases hrowd.1.2 with ⟨e, -⟩ | ⟨g', c', cur, e, -, -, h1, -⟩
              · simp only [Value.slice.injEq] at e; exact .inl ⟨e.1, e.2.2⟩
              · simp only [Value.slice.injEq] at e; exact .inr ⟨g', e.1⟩
            have HSO := hid hso
            have hRn : R.length = n := HRL.out
            have hta : TextsAt wd (.slice so R.length scap) R := by rw [hRn]; exact hrowd.at_
            have hsrc1 := fun W (f : Fresh wd W) => Src.ofTexts (P := Tryz.prog) Tryz.underlying41 ((hta.take (m := m) (by omega)).fresh f)
            have hlt1 : (R.take m).length = m := by rw [List.length_take]; omega
            rw [hlt1] at hsrc1
            have HS1 := hid hsrc1
            have HTA := hid hta
            have c0 := (fW.cell (p := ⟨y, 0, none⟩) (World.block_lt_of_cell? wr _ c0) (fun h => h)).trans c0
            have x0 := (fW.cell (p := ⟨bb, n * 4, none⟩) hbb (fun h => h)).trans x0
            have hyl : y < wd.heap.size := World.block_lt_of_cell? wd _ c0
            have hbl2 : bb < wd.heap.size := World.block_lt_of_cell? wd _ x0
            have hm2 : (m : Int) ≤ (scap : Int) := by omega
            have hm3 : (0 : Int) ≤ (m : Int) := by omega
            have HRN := hid hRn
            have HFR := hid frd
            have HCAP := hid hcap
            clear hta hsrc1 hlt1 hrowd fW hRn hso hcap fr hown' HCL HOWN
            go_wp2_with (at_builtin; refine wpList_append_src rfl (.tmp 37) (.tmp 40) 41 41 rfl 9 i0 (.string ⟨#[]⟩) 1 16 Tryz.underlying41 hi hz0 hz1 hz2 rfl (by decide) (World.ownsRow_nil _ _ _ _) _ m (texts (R.take m)) (by rfl) (by rfl) (HS1.out _ (Keeps.refl _ _)) (by unfold maxLen; omega) (by omega) ?_)
            intro v5 w5 ha5
            obtain ⟨a5, c5, rfl⟩ := ownsRow_slice ha5.row
            have f5 : Fresh wd w5 := ha5.keeps.mono fun q _ h => by cases h
            have n5 : ∀ g, (Value.slice a5 m c5).ownBlock = some g → wd.heap.size ≤ g := fun g hg => by
              rcases ha5.own g hg with h | h
              · cases h
              · exact h.1
            have hrow5 := ha5.row
            have c0 := (f5.cell (p := ⟨y, 0, none⟩) hyl (fun h => h)).trans c0
            have x0 := (f5.cell (p := ⟨bb, n * 4, none⟩) hbl2 (fun h => h)).trans x0
            have HR5 := hid hrow5
            have HN5 := hid n5
            clear ha5 hrow5 n5
            go_wp2_with (at_builtin; refine wpList_push rfl (.tmp 42) (.tmp 51) 41 rfl 9 i0 (.string ⟨#[]⟩) 16 Tryz.underlying41 hi hz0 hz1 hz2 rfl w5 HR5.out _ (by rfl) (by rfl) rfl (by omega) (by unfold maxLen; omega) ?_)
            intro v6 w6 ha6
            obtain ⟨a6, c6, rfl⟩ := ownsRow_slice ha6.row
            have f6 : Fresh wd w6 := f5.trans' ha6.keeps fun i hi h => by have := HN5.out i h; omega
            have n6 : ∀ g, (Value.slice a6 (m + 1) c6).ownBlock = some g → wd.heap.size ≤ g := fun g hg => by
              rcases ha6.own g hg with h | h
              · exact HN5.out g h
              · have := f5.size; omega
            have hrow6 := ha6.row
            have HR6 := hid hrow6
            have HN6 := hid n6
            have hm4 : (m : Int) ≤ (n : Int) := by omega
            clear ha6 hrow6 n6 c0 x0
            by_cases hcp : scap = m
            · exfalso
              have := HCAP.out
              omega
            · have hcp2 : ¬ (scap : Int) = (m : Int) := by omega
              obtain ⟨g2, rfl⟩ : ∃ g, so = some ⟨g, 0, none⟩ := by
                rcases HSO.out with ⟨-, h⟩ | h
                · have := HCAP.out; omega
                · exact h
              have hsrc3 := fun W (f : Fresh wd W) => Src.ofTexts (P := Tryz.prog) Tryz.underlying41 ((texts_from (m := m) HTA.out).fresh f)
              rw [List.length_drop, HRN.out] at hsrc3
              have HS3 := hid hsrc3
              clear hsrc3
              go_wp2_with (at_builtin; refine wpList_append_src rfl (.tmp 53) (.tmp 56) 41 41 rfl 9 i0 (.string ⟨#[]⟩) 1 16 Tryz.underlying41 hi hz0 hz1 hz2 rfl (by decide) HR6.out _ (n - m) (texts (R.drop m)) (by rfl) (by rfl) (HS3.out _ f6) (by unfold maxLen; omega) (by omega) ?_)
              intro v7 w7 ha7
              obtain ⟨a7, c7, rfl⟩ := ownsRow_slice ha7.row
              have f7 : Fresh w w7 := HFR.out.trans (f6.trans' ha7.keeps fun i hi h => by have := HN6.out i h; omega)
              have n7 : ∀ g, (Value.slice a7 (m + 1 + (n - m)) c7).ownBlock = some g → w.heap.size ≤ g := fun g hg => by
                have := HFR.out.size
                rcases ha7.own g hg with h | h
                · have := HN6.out g h; omega
                · have := f6.size; omega
              have hrow7 := ha7.row
              have HFIN := hid (show OwnTexts w.heap.size w7 (.slice a7 (m + 1 + (n - m)) c7) (rising ((L.take (n + 1)).map Prod.fst)) from by
                have hput : rising ((L.take (n + 1)).map Prod.fst) = R.take m ++ [x.1] ++ R.drop m := by
                  rw [HX.out]
                  refine rising_put x.1 (R.take m) (R.drop m) (by rw [HR.out, List.take_append_drop]) (fun q hq => ?_) HGE.out
                  obtain ⟨i, hi, e⟩ := List.getElem_of_mem hq
                  rw [List.length_take] at hi
                  rw [List.getElem_take] at e
                  exact HLT.out i q (by omega) (by rw [List.getElem?_eq_getElem (by omega), e])
                refine ⟨?_, n7⟩
                rw [hput, texts_append, texts_append, show texts (R.take m) ++ texts [x.1] ++ texts (R.drop m) = texts (R.take m) ++ Value.string (str x.1) :: texts (R.drop m) from by simp [texts]]
                have hlen : (R.take m ++ [x.1] ++ R.drop m).length = m + 1 + (n - m) := by
                  simp only [List.length_append, List.length_take, List.length_drop, List.length_cons, List.length_nil]
                  have := HRN.out
                  omega
                rw [hlen]
                exact hrow7)
              have hnb : n ≤ 1000000 := by omega
              clear n7 hrow7 ha7
              go_wp2_with fail
              go_roundw
              case rel => exact ⟨n + 1, by go_num, by omega, HFIN.out, f7⟩
              case measure => simp [intOf]; omega
        · have hge : n ≤ m := by omega
          have HGE : Hid (∀ q, (R.drop m)[0]? = some q → ¬ q < x.1) := fun q hq => by
            rw [List.drop_eq_nil_of_le (by have := HRL.out; omega)] at hq
            cases hq
          have g01 : decide (m < n) = false := decide_eq_false (by omega)
          have g02 : decide ((m : Int) < (n : Int)) = false := decide_eq_false (by omega)
          go_wp2_with fail
          go_quiet (fail)
          generalize hwd : (wr.drewN d).drewN nq = wd
          have fW : Fresh wr wd := by rw [← hwd]; exact ((Keeps.refl _ _).drewN _).drewN _
          clear hwd
          have frd := fr.trans fW
          have hrowd : OwnTexts w.heap.size wd (.slice so n scap) R := ⟨by have := ownsRow_keeps HOWN.out.1 fW (fun _ _ h => h); rwa [HRL.out] at this ⊢, fun g hg => HOWN.out.2 g (by cases so <;> exact hg)⟩
          have hcap : n ≤ scap := by
            rcases hrowd.1.2 with ⟨e, -⟩ | ⟨g', c', cur, e, -, -, h1, -⟩
            · simp only [Value.slice.injEq] at e; omega
            · simp only [Value.slice.injEq] at e; have := HRL.out; omega
          have hso : (so = none ∧ scap = 0) ∨ ∃ g, so = some ⟨g, 0, none⟩ := by
            rcases hrowd.1.2 with ⟨e, -⟩ | ⟨g', c', cur, e, -, -, h1, -⟩
            · simp only [Value.slice.injEq] at e; exact .inl ⟨e.1, e.2.2⟩
            · simp only [Value.slice.injEq] at e; exact .inr ⟨g', e.1⟩
          have HSO := hid hso
          have hRn : R.length = n := HRL.out
          have hta : TextsAt wd (.slice so R.length scap) R := by rw [hRn]; exact hrowd.at_
          have hsrc1 := fun W (f : Fresh wd W) => Src.ofTexts (P := Tryz.prog) Tryz.underlying41 ((hta.take (m := m) (by omega)).fresh f)
          have hlt1 : (R.take m).length = m := by rw [List.length_take]; omega
          rw [hlt1] at hsrc1
          have HS1 := hid hsrc1
          have HTA := hid hta
          have c0 := (fW.cell (p := ⟨y, 0, none⟩) (World.block_lt_of_cell? wr _ c0) (fun h => h)).trans c0
          have x0 := (fW.cell (p := ⟨bb, n * 4, none⟩) hbb (fun h => h)).trans x0
          have hyl : y < wd.heap.size := World.block_lt_of_cell? wd _ c0
          have hbl2 : bb < wd.heap.size := World.block_lt_of_cell? wd _ x0
          have hm2 : (m : Int) ≤ (scap : Int) := by omega
          have hm3 : (0 : Int) ≤ (m : Int) := by omega
          have HRN := hid hRn
          have HFR := hid frd
          have HCAP := hid hcap
          clear hta hsrc1 hlt1 hrowd fW hRn hso hcap fr hown' HCL HOWN
          go_wp2_with (at_builtin; refine wpList_append_src rfl (.tmp 37) (.tmp 40) 41 41 rfl 9 i0 (.string ⟨#[]⟩) 1 16 Tryz.underlying41 hi hz0 hz1 hz2 rfl (by decide) (World.ownsRow_nil _ _ _ _) _ m (texts (R.take m)) (by rfl) (by rfl) (HS1.out _ (Keeps.refl _ _)) (by unfold maxLen; omega) (by omega) ?_)
          intro v5 w5 ha5
          obtain ⟨a5, c5, rfl⟩ := ownsRow_slice ha5.row
          have f5 : Fresh wd w5 := ha5.keeps.mono fun q _ h => by cases h
          have n5 : ∀ g, (Value.slice a5 m c5).ownBlock = some g → wd.heap.size ≤ g := fun g hg => by
            rcases ha5.own g hg with h | h
            · cases h
            · exact h.1
          have hrow5 := ha5.row
          have c0 := (f5.cell (p := ⟨y, 0, none⟩) hyl (fun h => h)).trans c0
          have x0 := (f5.cell (p := ⟨bb, n * 4, none⟩) hbl2 (fun h => h)).trans x0
          have HR5 := hid hrow5
          have HN5 := hid n5
          clear ha5 hrow5 n5
          go_wp2_with (at_builtin; refine wpList_push rfl (.tmp 42) (.tmp 51) 41 rfl 9 i0 (.string ⟨#[]⟩) 16 Tryz.underlying41 hi hz0 hz1 hz2 rfl w5 HR5.out _ (by rfl) (by rfl) rfl (by omega) (by unfold maxLen; omega) ?_)
          intro v6 w6 ha6
          obtain ⟨a6, c6, rfl⟩ := ownsRow_slice ha6.row
          have f6 : Fresh wd w6 := f5.trans' ha6.keeps fun i hi h => by have := HN5.out i h; omega
          have n6 : ∀ g, (Value.slice a6 (m + 1) c6).ownBlock = some g → wd.heap.size ≤ g := fun g hg => by
            rcases ha6.own g hg with h | h
            · exact HN5.out g h
            · have := f5.size; omega
          have hrow6 := ha6.row
          have HR6 := hid hrow6
          have HN6 := hid n6
          have hm4 : (m : Int) ≤ (n : Int) := by omega
          clear ha6 hrow6 n6 c0 x0
          by_cases hcp : scap = m
          · have hsrc3 := fun W => Src.ofTexts (P := Tryz.prog) (w := W) (v := .slice so 0 0) (l := []) Tryz.underlying41 ⟨so, 0, rfl, fun k s hs => by simp at hs⟩
            go_wp2_with (at_builtin; refine wpList_append_src rfl (.tmp 53) (.tmp 56) 41 41 rfl 9 i0 (.string ⟨#[]⟩) 1 16 Tryz.underlying41 hi hz0 hz1 hz2 rfl (by decide) HR6.out _ 0 [] (by rfl) (by rfl) (hsrc3 _) (by unfold maxLen; omega) (by omega) ?_)
            intro v7 w7 ha7
            obtain ⟨a7, c7, rfl⟩ := ownsRow_slice ha7.row
            have f7 : Fresh w w7 := HFR.out.trans (f6.trans' ha7.keeps fun i hi h => by have := HN6.out i h; omega)
            have n7 : ∀ g, (Value.slice a7 (m + 1 + 0) c7).ownBlock = some g → w.heap.size ≤ g := fun g hg => by
              have := HFR.out.size
              rcases ha7.own g hg with h | h
              · have := HN6.out g h; omega
              · have := f6.size; omega
            have hrow7 := ha7.row
            have HFIN := hid (show OwnTexts w.heap.size w7 (.slice a7 (m + 1 + 0) c7) (rising ((L.take (n + 1)).map Prod.fst)) from by
              have hput : rising ((L.take (n + 1)).map Prod.fst) = R.take m ++ [x.1] ++ R.drop m := by
                rw [HX.out]
                refine rising_put x.1 (R.take m) (R.drop m) (by rw [HR.out, List.take_append_drop]) (fun q hq => ?_) HGE.out
                obtain ⟨i, hi, e⟩ := List.getElem_of_mem hq
                rw [List.length_take] at hi
                rw [List.getElem_take] at e
                exact HLT.out i q (by omega) (by rw [List.getElem?_eq_getElem (by omega), e])
              refine ⟨?_, n7⟩
              have hdr : R.drop m = [] := List.drop_eq_nil_of_le (by have := HRN.out; omega)
              rw [hput, hdr, texts_append, texts_append, show texts (R.take m) ++ texts [x.1] ++ texts [] = texts (R.take m) ++ [Value.string (str x.1)] from by simp [texts]]
              have hlen : (R.take m ++ [x.1] ++ []).length = m + 1 := by
                simp only [List.length_append, List.length_take, List.length_cons, List.length_nil]
                have := HRN.out
                omega
              rw [hlen]
              exact hrow7)
            have hnb : n ≤ 1000000 := by omega
            clear n7 hrow7 ha7
            go_wp2_with fail
            go_roundw
            case rel => exact ⟨n + 1, by go_num, by omega, HFIN.out, f7⟩
            case measure => simp [intOf]; omega
          · have hcp2 : ¬ (scap : Int) = (m : Int) := by omega
            obtain ⟨g2, rfl⟩ : ∃ g, so = some ⟨g, 0, none⟩ := by
              rcases HSO.out with ⟨-, h⟩ | h
              · have := HCAP.out; omega
              · exact h
            have hsrc3 := fun W => Src.ofTexts (P := Tryz.prog) (w := W) (v := .slice (some ⟨g2, m, none⟩) 0 (scap - m)) (l := []) Tryz.underlying41 ⟨_, _, rfl, fun k s hs => by simp at hs⟩
            go_wp2_with (at_builtin; refine wpList_append_src rfl (.tmp 53) (.tmp 56) 41 41 rfl 9 i0 (.string ⟨#[]⟩) 1 16 Tryz.underlying41 hi hz0 hz1 hz2 rfl (by decide) HR6.out _ 0 [] (by rfl) (by rfl) (hsrc3 _) (by unfold maxLen; omega) (by omega) ?_)
            intro v7 w7 ha7
            obtain ⟨a7, c7, rfl⟩ := ownsRow_slice ha7.row
            have f7 : Fresh w w7 := HFR.out.trans (f6.trans' ha7.keeps fun i hi h => by have := HN6.out i h; omega)
            have n7 : ∀ g, (Value.slice a7 (m + 1 + 0) c7).ownBlock = some g → w.heap.size ≤ g := fun g hg => by
              have := HFR.out.size
              rcases ha7.own g hg with h | h
              · have := HN6.out g h; omega
              · have := f6.size; omega
            have hrow7 := ha7.row
            have HFIN := hid (show OwnTexts w.heap.size w7 (.slice a7 (m + 1 + 0) c7) (rising ((L.take (n + 1)).map Prod.fst)) from by
              have hput : rising ((L.take (n + 1)).map Prod.fst) = R.take m ++ [x.1] ++ R.drop m := by
                rw [HX.out]
                refine rising_put x.1 (R.take m) (R.drop m) (by rw [HR.out, List.take_append_drop]) (fun q hq => ?_) HGE.out
                obtain ⟨i, hi, e⟩ := List.getElem_of_mem hq
                rw [List.length_take] at hi
                rw [List.getElem_take] at e
                exact HLT.out i q (by omega) (by rw [List.getElem?_eq_getElem (by omega), e])
              refine ⟨?_, n7⟩
              have hdr : R.drop m = [] := List.drop_eq_nil_of_le (by have := HRN.out; omega)
              rw [hput, hdr, texts_append, texts_append, show texts (R.take m) ++ texts [x.1] ++ texts [] = texts (R.take m) ++ [Value.string (str x.1)] from by simp [texts]]
              have hlen : (R.take m ++ [x.1] ++ []).length = m + 1 := by
                simp only [List.length_append, List.length_take, List.length_cons, List.length_nil]
                have := HRN.out
                omega
              rw [hlen]
              exact hrow7)
            have hnb : n ≤ 1000000 := by omega
            clear n7 hrow7 ha7
            go_wp2_with fail
            go_roundw
            case rel => exact ⟨n + 1, by go_num, by omega, HFIN.out, f7⟩
            case measure => simp [intOf]; omega
    · have hn1 : ¬ (n : Int) < (L.length : Int) := by omega
      have hown2 : OwnTexts w.heap.size wr u3 (rising (L.map Prod.fst)) := by
        rw [List.take_of_length_le (by omega)] at hown; exact hown
      have HO2 := hid hown2
      obtain ⟨so, scap, rfl⟩ := ownsRow_slice hown2.1
      clear hown hown2
      go_wp2_with fail
      go_ret
      exact ⟨_, rfl, fr, HO2.out⟩
end Go.Proofs.YtmflbchiapdhbaaGreatDoor
