/-
  SpanRight: the law's walk.
-/
import Derived.Test.YtgikabafaocemaaDoorSpAsk
import Derived.Test.YtgikabafaocemaaDoorSpKnown
import Derived.Test.YtgikabafaocemaaDoorSpLawW
import Derived.Deep.CutBlock
namespace Go.Proofs.YtgikabafaocemaaDoor
open Go.RowKit

theorem texts_tail {w : World} {ao : Option Addr} {cap : Nat} {x : List UInt8} {r : List (List UInt8)} (h : TextsAt w (.slice ao (r.length + 1) cap) (x :: r)) (c2 : Nat) : ∃ bb off, ao = some ⟨bb, off, none⟩ ∧ TextsAt w (.slice (some ⟨bb, off + 1, none⟩) r.length c2) r := by
  obtain ⟨ao', cap', e, hk⟩ := h
  simp only [Value.slice.injEq] at e
  obtain ⟨e1, -, -⟩ := e
  subst e1
  obtain ⟨bb, off, e0, -, -⟩ := hk 0 x rfl
  subst e0
  refine ⟨bb, off, rfl, ⟨_, c2, rfl, fun k s hs => ?_⟩⟩
  obtain ⟨b2, o2, e2, h1, h2⟩ := hk (k + 1) s hs
  simp only [Option.some.injEq, Addr.mk.injEq, and_true] at e2
  obtain ⟨rfl, rfl⟩ := e2
  exact ⟨bb, off + 1, rfl, h1, by rw [show off + 1 + k = off + (k + 1) by omega]; exact h2⟩
theorem TextsAt.keepsOff {S : Nat → Prop} {w w' : World} {g o n cap : Nat} {l : List (List UInt8)} (h : TextsAt w (.slice (some ⟨g, o, none⟩) n cap) l) (K : Keeps S w w') (hg : ¬ S g) : TextsAt w' (.slice (some ⟨g, o, none⟩) n cap) l := by
  obtain ⟨ao, cap', e, hk⟩ := h
  refine ⟨ao, cap', e, fun k s hs => ?_⟩
  simp only [Value.slice.injEq] at e
  obtain ⟨bb, off, e2, h1, h2⟩ := hk k s hs
  rw [e2] at e
  simp only [Option.some.injEq, Addr.mk.injEq, and_true] at e
  obtain ⟨⟨rfl, rfl⟩, -, -⟩ := e
  exact ⟨g, o, e2, Nat.lt_of_lt_of_le h1 K.size, (K.cell (p := ⟨g, o + k, none⟩) h1 hg).trans h2⟩
theorem texts_none {w : World} {ao : Option Addr} {n cap : Nat} {l : List (List UInt8)} (hn : n = 0) (hl : l = []) : TextsAt w (.slice ao n cap) l := by
  subst hn
  subst hl
  exact ⟨ao, cap, rfl, fun k s hs => by simp at hs⟩
theorem own_at {w : World} {B : Nat} {v : Value} {l : List (List UInt8)} (h : OwnTexts B w v l) (hl : 0 < l.length) : ∃ g cap, v = .slice (some ⟨g, 0, none⟩) l.length cap ∧ l.length ≤ cap := by
  rcases h.1.2 with ⟨-, e⟩ | ⟨g, cap, cur, he, -, -⟩
  · omega
  · subst he
    exact ⟨g, cap, rfl, row_le h.1⟩

set_option maxRecDepth 100000 in
set_option maxHeartbeats 4000000 in
theorem right_any (size at_ many c more : Int) (w : World) (hN : Nums w) (hs : -9223372036854775808 ≤ size) (hs2 : size ≤ 9223372036854775807) (ha : -9223372036854775808 ≤ at_) (ha2 : at_ ≤ 9223372036854775807) (hm : -9223372036854775808 ≤ many) (hm2 : many ≤ 9223372036854775807) (ho : -9223372036854775808 ≤ more) (ho2 : more ≤ 9223372036854775807) :
    Calls Tryd.prog 5 #[.int .i64 size, .int .i64 at_, .int .i64 many, .int .i64 c, .int .i64 more] w fun x w' => x = .returned (.bool true) ∧ Fresh w w' := by
  have hk := hid (known_any w hN)
  have hrun := hid (fun W => run_any size at_ many c W hs hs2 ha ha2 hm hm2)
  have p1 := fun W => pick_any more 12 W (by omega) (by omega) ho ho2
  have q1 := pickN_in more 12 (by omega)
  generalize pickN more 12 = P at p1 q1
  obtain ⟨hP0, hP1⟩ := q1
  have HP := hid p1
  have HN := hid hN
  obtain ⟨i0, hi, hz0, hz1, hz2⟩ := info_parts Tryd.infoText
  clear p1 hs hs2 ha ha2 hm hm2 ho ho2 hN
  go_enter Tryd.func5, Tryd.ntmps5
  go_wp2_with fail
  refine hk.out.mono ?_
  rintro x w1 ⟨rfl, f1⟩
  go_wp2_with fail
  refine (hrun.out w1).mono ?_
  rintro x w2 ⟨n, b, e, vH, vL, H, L, rfl, hR⟩
  have f2 := f1.trans hR.fresh
  obtain ⟨aoH, cpH, evH⟩ := ownsRow_slice hR.ownH.1
  obtain ⟨aoL, cpL, evL⟩ := ownsRow_slice hR.ownL.1
  obtain ⟨nH, hnH⟩ : ∃ nH, H.length = nH := ⟨_, rfl⟩
  obtain ⟨nL, hnL⟩ : ∃ nL, L.length = nL := ⟨_, rfl⟩
  rw [hnH] at evH
  rw [hnL] at evL
  have HR := hid hR
  have HNH := hid hnH
  have HNLL := hid hnL
  unfold runV
  clear hk hrun hR hnH hnL
  subst evH
  subst evL
  go_wp2_with fail
  refine (HP.out _).mono ?_
  rintro x w3 ⟨rfl, rfl⟩
  go_upto_block 0 with fail
  have f3 := f2.alloc (.cells #[.int .i64 (n : Int), .int .i64 (b : Int), .int .i64 (e : Int), .slice aoH nH cpH] 41)
  have hb := heap_alloc_new w2 (.cells #[.int .i64 (n : Int), .int .i64 (b : Int), .int .i64 (e : Int), .slice aoH nH cpH] 41)
  have fa := (Keeps.refl (fun _ => False) w2).alloc (.cells #[.int .i64 (n : Int), .int .i64 (b : Int), .int .i64 (e : Int), .slice aoH nH cpH] 41)
  have hrowH := ownsRow_keeps HR.out.ownH.1 fa (fun _ _ h => h)
  have hrowL := ownsRow_keeps HR.out.ownL.1 fa (fun _ _ h => h)
  have hneH : (Value.slice aoH nH cpH).ownBlock ≠ some w2.heap.size := fun q => by have := ((World.ownsRow.lt HR.out.ownH.1) _ q).2; omega
  generalize w2.alloc (.cells #[.int .i64 (n : Int), .int .i64 (b : Int), .int .i64 (e : Int), .slice aoH nH cpH] 41) = wB at f3 hb fa hrowH hrowL ⊢
  generalize hrb : w2.heap.size = rb at hb hneH ⊢
  have HRB := hid hrb
  have HRA := hid (show RunAt wB rb n b e (.slice aoH nH cpH) H from ⟨hb, hrowH, hneH⟩)
  have HRL := hid hrowL
  have HNL := hid (show (Value.slice aoL nL cpL).ownBlock ≠ some rb from fun q => by have := ((World.ownsRow.lt HR.out.ownL.1) _ q).2; have := HRB.out; omega)
  clear hrowH hrowL hneH hb hrb fa
  go_cut [13] from 26 to 55 (fun v wx => ∃ (vH vL : Value) (H L : List (List UInt8)), v = vL ∧ wx.heap[rb]? = some (.cells #[.int .i64 (n : Int), .int .i64 (b : Int), .int .i64 (e : Int), vH] 41 (0, 0)) ∧ TextsAt wx vH H ∧ TextsAt wx vL L ∧ H.length ≤ 8796093022200 ∧ L.length ≤ 8796093022200 ∧ Fresh w wx)
  case first =>
    have hHl : nH ≤ 1099511627776 := by have := HNH.out; have := HR.out.told; have := toldF_len 40 b e 0 n; simp only [Nat.reducePow] at this; omega
    have hLl : nL ≤ 300 := by have := HNLL.out; have := HR.out.len; have := HR.out.few; omega
    have hL1 : 1 ≤ nL := by have := HNLL.out; have := HR.out.len; have := HR.out.be; omega
    have HAP := hid HR.out.apart
    have f3B := f3
    have HHL := hid hHl
    have HLL := hid hLl
    have hRA := HRA.out
    have HB0 := hid hRA.1
    have TH := hid (OwnTexts_at hRA.2.1)
    have TL := hid (OwnTexts_at HRL.out)
    have r0' := (cell_at hRA.1 3).trans (show _ = some (Value.slice aoH nH cpH) from rfl)
    have r1' := free_at hRA.1 3
    have n3 := lt_of_block hRA.1
    rcases (show P = 1 ∨ P = 2 ∨ P = 3 ∨ P = 4 ∨ (P ≠ 1 ∧ P ≠ 2 ∧ P ≠ 3 ∧ P ≠ 4) by omega) with q | q | q | q | q
    · subst q
      obtain ⟨vk, hvk⟩ : ∃ vk, Value.slice aoH nH cpH = vk := ⟨_, rfl⟩
      have HRV := hid hvk.symm
      have hne2 := hRA.2.2
      have HROW := hid hRA.2.1
      have HLEN := hid (show H.length + 1 ≤ 1099511627777 by have := HNH.out; omega)
      clear hRA hHl hLl hL1
      rw [hvk] at r0' hne2 HROW
      clear hvk
      as_aux_lemma =>
        go_wp2_with fail
        refine wp_region_keep 8 (fun w' => Keeps (fun q => q = rb ∨ vk.ownBlock = some q) wB w') (fun w' => w'.cell? ⟨rb, 3, none⟩ = some vk ∧ w'.frozen? ⟨rb, 3, none⟩ = false) (fun j => !(j == 7)) (by kernel_rfl) (by kernel_rfl) ?_
        (try (change wpKeep _ _ _ _ _ _ _ _ _ _ (World.drew _)))
        refine wpKeep_takeT (i := 0) (oi := ⟨some 28, _, _, _, _, _⟩) (v := ?_) rfl (by kernel_rfl) (by kernel_rfl) (by kernel_rfl) (by kernel_rfl) (fun _ _ _ h => h) (Or.inl ⟨by rfl, ?_⟩) (Keeps.refl _ _).drew (fun _ => ⟨r0', r1'⟩) ?_
        rotate_left
        · intro w' hT
          go_simp
          (try rw [if_pos (by omega)])
          (try with_reducible rfl)
        rotate_left
        (try simp only [Act.put, List.setIfInBounds_toArray, List.set_cons_zero, List.set_cons_succ])
        refine wpKeep_take (i := 1) (oi := ⟨some 29, _, _, _, _, _⟩) (v := ?_) rfl (by kernel_rfl) (by kernel_rfl) (by kernel_rfl) (by kernel_rfl) (fun _ _ _ h => h) (Or.inl ⟨by rfl, ?_⟩) ⟨(Keeps.refl _ _).drew, ⟨r0', r1'⟩⟩ ?_
        rotate_left
        · intro w' hT
          have hS0 := hT.2
          replace hT := hT.1
          go_simp
          (try rw [if_pos (by omega)])
          (try with_reducible rfl)
        rotate_left
        (try simp only [Act.put, List.setIfInBounds_toArray, List.set_cons_zero, List.set_cons_succ])
        refine wpKeep_takeT (i := 2) (oi := ⟨some 30, _, _, _, _, _⟩) (v := ?_) rfl (by kernel_rfl) (by kernel_rfl) (by kernel_rfl) (by kernel_rfl) (fun _ _ _ h => h) (Or.inl ⟨by rfl, ?_⟩) (Keeps.refl _ _).drew (fun _ => ⟨r0', r1'⟩) ?_
        rotate_left
        · intro w' hT
          go_simp
          (try rw [if_pos (by omega)])
          (try with_reducible rfl)
        rotate_left
        (try simp only [Act.put, List.setIfInBounds_toArray, List.set_cons_zero, List.set_cons_succ])
        refine wpKeep_ready (rs := [3]) (by kernel_rfl) (by simp) ?_
        refine AllKeep.cons (o := ⟨some 31, _, _, _, _, _⟩) rfl (fun K hK => ?_) AllKeep.nil
        go_simp
        go_at_call 22
        with_reducible refine (leaf_some _ _).mono ?_
        rintro x w3 ⟨sf, rfl, hsl, f3⟩
        have f3' : Fresh wB w3 := (Keeps.refl (fun _ => False) wB).drew.trans f3
        have s0 := (f3'.cell (p := ⟨rb, 3, none⟩) n3 (fun h => h)).trans r0'
        have s1 := (f3'.frozen (p := ⟨rb, 3, none⟩) n3 (fun h => h)).trans r1'
        have hrow3 := ownsRow_keeps HROW.out f3' (fun _ _ h => h)
        have T3 : Keeps (fun q => q = rb ∨ vk.ownBlock = some q) wB w3 := f3'.mono (fun _ _ h => h.elim)
        dsimp only
        refine hK.out _ _ T3 (fun _ => ⟨s0, s1⟩) ?_
        clear hK K
        (try simp only [Act.put, List.setIfInBounds_toArray, List.set_cons_zero, List.set_cons_succ])
        refine wpKeep_ready (rs := [4]) (by kernel_rfl) (by simp) ?_
        refine AllKeep.cons (o := ⟨some 32, _, _, _, _, _⟩) rfl (fun K hK => ?_) AllKeep.nil
        go_simp
        have fal := (Keeps.refl (fun _ => False) w3).alloc (.cells #[.string (str sf)] 9)
        have n33 : rb < w3.heap.size := Nat.lt_of_lt_of_le n3 f3'.size
        refine hK.out _ _ (T3.alloc _) (fun _ => ⟨(fal.cell (p := ⟨rb, 3, none⟩) n33 (fun h => h)).trans s0, (fal.frozen (p := ⟨rb, 3, none⟩) n33 (fun h => h)).trans s1⟩) ?_
        clear hK K
        (try simp only [Act.put, List.setIfInBounds_toArray, List.set_cons_zero, List.set_cons_succ])
        refine wpKeep_ready (rs := [5]) (by kernel_rfl) (by simp) ?_
        refine AllKeep.cons (o := ⟨some 33, _, _, _, _, _⟩) rfl (fun K hK => ?_) AllKeep.nil
        refine step_push rfl (.tmp 29) (.tmp 32) 26 rfl 9 i0 (.string ⟨#[]⟩) 16 Tryd.underlying26 hi hz0 hz1 hz2 rfl w3 hrow3 (.string (str sf)) (by rfl) (by rfl) rfl (by have := HLEN.out; omega) (by have := HLEN.out; unfold maxLen; omega) ?_
        intro v6 w6 ha
        have s60 := (ha.keeps.cell (p := ⟨rb, 3, none⟩) n33 hne2).trans s0
        have s61 := (ha.keeps.frozen (p := ⟨rb, 3, none⟩) n33 hne2).trans s1
        have T6 : Keeps (fun q => q = rb ∨ vk.ownBlock = some q) wB w6 := T3.trans (ha.keeps.mono (fun _ _ h => .inr h))
        refine hK.out _ _ T6 (fun _ => ⟨s60, s61⟩) ?_
        clear hK K
        (try simp only [Act.put, List.setIfInBounds_toArray, List.set_cons_zero, List.set_cons_succ])
        refine wpKeep_takeT (i := 6) (oi := ⟨some 34, _, _, _, _, _⟩) (v := ?_) rfl (by kernel_rfl) (by kernel_rfl) (by kernel_rfl) (by kernel_rfl) (fun _ _ _ h => h) (Or.inl ⟨by rfl, ?_⟩) T6 (fun _ => ⟨s60, s61⟩) ?_
        rotate_left
        · intro w' hT
          go_simp
          (try rw [if_pos (by omega)])
          (try with_reducible rfl)
        rotate_left
        (try simp only [Act.put, List.setIfInBounds_toArray, List.set_cons_zero, List.set_cons_succ])
        refine wpKeep_ready (rs := [7]) (by kernel_rfl) (by simp) ?_
        refine AllKeep.cons (o := ⟨none, _, _, _, _, _⟩) rfl (fun K hK => ?_) AllKeep.nil
        obtain ⟨ao6, cp6, e6⟩ := ownsRow_slice ha.row
        subst e6
        go_simp
        refine hK.out _ _ (T6.setCell (p := ⟨rb, 3, none⟩) (fun _ => .inl rfl) _) (not_early (by kernel_rfl)) ?_
        clear hK K
        (try simp only [Act.put, List.setIfInBounds_toArray, List.set_cons_zero, List.set_cons_succ])
        refine wpKeep_done (by kernel_rfl) ?_ _
        have J6 := ha.keeps.at_ (f3'.at_ HB0.out (fun h => h)) hne2
        have hv6 : ∀ g, (Value.slice ao6 (H.length + 1) cp6).ownBlock = some g → g ≠ rb := fun g hg e => by
          rcases ha.own g hg with z | z
          · rw [e] at z; exact hne2 z
          · omega
        have hJ7 := heap_setCell_at J6 3 (.slice ao6 (H.length + 1) cp6)
        have hrow7 : (w6.setCell ⟨rb, 3, none⟩ (.slice ao6 (H.length + 1) cp6)).ownsRow 0 9 1 (.slice ao6 (H.length + 1) cp6) (H ++ [sf]).length (texts (H ++ [sf])) := by
          rw [texts_snoc, List.length_append]
          exact ownsRow_setCell_ne ha.row (fun e => hv6 _ e rfl) _
        have K7 := T6.setCell (p := ⟨rb, 3, none⟩) (fun _ => .inl rfl) (.slice ao6 (H.length + 1) cp6)
        have hrowL7 := ownsRow_keeps HRL.out K7 (fun q hq e => by
          rcases e with e | e
          · rw [e] at hq; exact HNL.out hq
          · rw [HRV.out] at e; exact HAP.out q e hq)
        have f7 : Fresh w (w6.setCell ⟨rb, 3, none⟩ (.slice ao6 (H.length + 1) cp6)) := f3B.trans' K7 (fun q hq e => by
          have h1 := HRB.out
          have h2 := f2.size
          have h4 := f1.size
          rcases e with e | e
          · omega
          · rw [HRV.out] at e; have := HR.out.ownH.2 q e; omega)
        go_wp2_with fail
        go_meet
        case rel => exact ⟨_, _, H ++ [sf], L, rfl, hJ7, OwnTexts_at hrow7, OwnTexts_at hrowL7, by rw [List.length_append]; have := HHL.out; have := HNH.out; simp only [List.length_singleton]; omega, by have := HLL.out; have := HNLL.out; omega, f7⟩
    · subst q
      clear hRA hHl hLl hL1
      by_cases h0 : 0 < nH
      · obtain ⟨x, r, rfl⟩ : ∃ x r, H = x :: r := by
          cases H with
          | nil => have := HNH.out; simp at this; omega
          | cons x r => exact ⟨x, r, rfl⟩
        have hnr : nH = r.length + 1 := HNH.out.symm
        have ht0 : TextsAt wB (.slice aoH (r.length + 1) cpH) (x :: r) := by rw [← hnr]; exact TH.out
        obtain ⟨bb, off, ea, ht⟩ := texts_tail ht0 (cpH - 1)
        obtain ⟨gg, cc, eo, hc1⟩ := own_at (B := 0) ⟨HRA.out.2.1, fun _ _ => Nat.zero_le _⟩ (by simp)
        simp only [Value.slice.injEq] at eo
        obtain ⟨eo, -, eo2⟩ := eo
        rw [ea] at eo
        simp only [Option.some.injEq, Addr.mk.injEq, and_true] at eo
        obtain ⟨rfl, rfl⟩ := eo
        subst ea
        have hne : bb ≠ rb := fun q => HRA.out.2.2 (by rw [← q]; rfl)
        rw [← eo2, show (x :: r).length = nH from HNH.out] at hc1
        have HC := hid hc1
        have HT := hid ht
        have HNR := hid hnr
        have HNE := hid hne
        have hi0 : (0 : Int) < (nH : Int) := by omega
        have hnb : (nH : Int) ≤ 1099511627776 := by have := HHL.out; omega
        have hcl : (1 : Int) ≤ (nH : Int) := by omega
        have hc2 : (nH : Int) ≤ (cpH : Int) := by omega
        clear ht h0 hnr ht0 hc1 hne eo2
        by_cases hcp : cpH = 1
        · subst hcp
          as_aux_lemma =>
            go_wp2_with fail
            have hr1 : r.length = 0 := by have := HNR.out; have := HC.out; omega
            have hr : r = [] := List.eq_nil_of_length_eq_zero hr1
            have K := (Keeps.refl (fun q => q = rb) wB).setCell (p := ⟨rb, 3, none⟩) (fun _ => rfl) (.slice (some ⟨bb, 0, none⟩) (nH - 1) 0)
            have hrowL := ownsRow_keeps HRL.out K (fun q hq e => HNL.out (by rw [← (show q = rb from e)]; exact hq))
            have f7 := f3B.trans' K (fun q hq e => by have h1 := HRB.out; have h2 := f2.size; have e' : q = rb := e; omega)
            go_meet
            case rel => exact ⟨_, _, r, L, rfl, heap_setCell_at HB0.out 3 _, texts_none (by have := HNR.out; omega) hr, OwnTexts_at hrowL, by omega, by have := HLL.out; have := HNLL.out; omega, f7⟩
        · as_aux_lemma =>
            go_wp2_with fail
            have K := (Keeps.refl (fun q => q = rb) wB).setCell (p := ⟨rb, 3, none⟩) (fun _ => rfl) (.slice (some ⟨bb, 1, none⟩) (nH - 1) (cpH - 1))
            have hrowL := ownsRow_keeps HRL.out K (fun q hq e => HNL.out (by rw [← (show q = rb from e)]; exact hq))
            have f7 := f3B.trans' K (fun q hq e => by have h1 := HRB.out; have h2 := f2.size; have e' : q = rb := e; omega)
            have hT := HT.out.keepsOff K HNE.out
            rw [show r.length = nH - 1 by have := HNR.out; omega] at hT
            go_meet
            case rel => exact ⟨_, _, r, L, rfl, heap_setCell_at HB0.out 3 _, hT, OwnTexts_at hrowL, by have := HNR.out; have := HHL.out; omega, by have := HLL.out; have := HNLL.out; omega, f7⟩
      · have h0' : nH = 0 := by omega
        subst h0'
        clear h0
        as_aux_lemma =>
          go_wp2_with fail
          go_meet
          case rel => exact ⟨_, _, H, L, rfl, HB0.out, TH.out, TL.out, by have := HNH.out; omega, by have := HLL.out; have := HNLL.out; omega, f3⟩
    · subst q
      have hb0 := HNL.out
      have HLEN := hid (show nL + 1 ≤ 301 by omega)
      have HROW := hid (show wB.ownsRow 0 9 1 (.slice aoL nL cpL) nL (texts L) by have := HRL.out; rw [HNLL.out] at this; exact this)
      clear hRA hHl hLl hL1
      as_aux_lemma =>
        go_wp2_with fail
        refine (leaf_some _ _).mono ?_
        rintro x w5 ⟨sf, rfl, hsl, f5⟩
        have hrow5 := ownsRow_keeps HROW.out f5 (fun _ _ h => h)
        have fal := (Keeps.refl (fun _ => False) w5).alloc (.cells #[.string (str sf)] 9)
        have hlb := heap_alloc_new w5 (.cells #[.string (str sf)] 9)
        have hAt : TextsAt (w5.alloc (.cells #[.string (str sf)] 9)) (.slice (some ⟨w5.heap.size, 0, none⟩) 1 1) [sf] := ⟨_, 1, rfl, fun k s hs => by
          match k, hs with
          | 0, hs => simp at hs; subst hs; exact ⟨_, 0, rfl, lt_of_block hlb, cell_at hlb 0⟩
          | (k + 1), hs => simp at hs⟩
        have hsrc : Src Tryd.prog 1 26 (.slice (some ⟨w5.heap.size, 0, none⟩) 1 1) 1 (texts [sf]) (w5.alloc (.cells #[.string (str sf)] 9)) := Src.ofTexts (P := Tryd.prog) Tryd.underlying26 hAt
        have hrow6 := ownsRow_keeps hrow5 fal (fun _ _ h => h)
        have HB0' := fal.at_ (f5.at_ HB0.out (fun h => h)) (fun h => h)
        clear hlb hrow5 hAt
        go_wp2_with (at_builtin; refine wpList_append_src rfl (.tmp 47) (.tmp 50) 26 26 rfl 9 i0 (.string ⟨#[]⟩) 1 16 Tryd.underlying26 hi hz0 hz1 hz2 rfl (by decide) hrow6 _ 1 (texts [sf]) (by rfl) (by rfl) hsrc (by have := HLEN.out; unfold maxLen; omega) (by have := HLEN.out; omega) ?_)
        intro v6 w6 ha
        replace ha : Appended 9 1 (w5.alloc (.cells #[.string (str sf)] 9)) w6 (.slice aoL nL cpL) v6 (nL + 1) (texts L ++ texts [sf]) := ha
        have K5 : Fresh wB (w5.alloc (.cells #[.string (str sf)] 9)) := f5.trans fal
        have f7 : Fresh w w6 := (f3B.trans K5).trans' ha.keeps (fun q hq e => by have := HR.out.ownL.2 q e; have := f1.size; omega)
        have hb7 := ha.keeps.at_ HB0' HNL.out
        have hrowH := ownsRow_keeps (ownsRow_keeps HRA.out.2.1 K5 (fun _ _ h => h)) ha.keeps (fun q hq e => HAP.out q hq e)
        have hrow7 : w6.ownsRow 0 9 1 v6 (L ++ [sf]).length (texts (L ++ [sf])) := by
          rw [texts_snoc, List.length_append, HNLL.out]
          exact ha.row
        obtain ⟨ao6, cp6, rfl⟩ := ownsRow_slice ha.row
        clear ha hsrc hrow6
        go_wp2_with fail
        go_meet
        case rel => exact ⟨_, _, H, L ++ [sf], rfl, hb7, OwnTexts_at hrowH, OwnTexts_at hrow7, by have := HHL.out; have := HNH.out; omega, by rw [List.length_append]; have := HLL.out; have := HNLL.out; simp only [List.length_singleton]; omega, f7⟩
    · subst q
      obtain ⟨x, r, rfl⟩ : ∃ x r, L = x :: r := by
        cases L with
        | nil => have := HNLL.out; simp at this; omega
        | cons x r => exact ⟨x, r, rfl⟩
      have hnr : nL = r.length + 1 := HNLL.out.symm
      have ht0 : TextsAt wB (.slice aoL (r.length + 1) cpL) (x :: r) := by rw [← hnr]; exact TL.out
      obtain ⟨bb, off, ea, ht⟩ := texts_tail ht0 (cpL - 1)
      obtain ⟨gg, cc, eo, hc1⟩ := own_at (B := 0) ⟨HRL.out, fun _ _ => Nat.zero_le _⟩ (by simp)
      simp only [Value.slice.injEq] at eo
      obtain ⟨eo, -, eo2⟩ := eo
      rw [ea] at eo
      simp only [Option.some.injEq, Addr.mk.injEq, and_true] at eo
      obtain ⟨rfl, rfl⟩ := eo
      subst ea
      rw [← eo2, show (x :: r).length = nL from HNLL.out] at hc1
      have HC := hid hc1
      have HT := hid ht
      have HNR := hid hnr
      have hnb : (nL : Int) ≤ 300 := by omega
      have hcl : (1 : Int) ≤ (nL : Int) := by omega
      have hc2 : (nL : Int) ≤ (cpL : Int) := by omega
      clear hRA hHl hLl hL1 ht hnr ht0 hc1 eo2 r0' r1'
      by_cases hcp : cpL = 1
      · subst hcp
        as_aux_lemma =>
          go_wp2_with fail
          have hr1 : r.length = 0 := by have := HNR.out; have := HC.out; omega
          have hr : r = [] := List.eq_nil_of_length_eq_zero hr1
          go_meet
          case rel => exact ⟨_, _, H, r, rfl, HB0.out, TH.out, texts_none (by have := HNR.out; omega) hr, by have := HHL.out; have := HNH.out; omega, by omega, f3⟩
      · as_aux_lemma =>
          go_wp2_with fail
          have hT := HT.out
          rw [show r.length = nL - 1 by have := HNR.out; omega] at hT
          go_meet
          case rel => exact ⟨_, _, H, r, rfl, HB0.out, TH.out, hT, by have := HHL.out; have := HNH.out; omega, by have := HNR.out; have := HLL.out; omega, f3⟩
    · obtain ⟨q1, q2, q3, q4⟩ := q
      have e1 : (P == 1) = false := by simpa using q1
      have e2 : (P == 2) = false := by simpa using q2
      have e3 : (P == 3) = false := by simpa using q3
      have e4 : (P == 4) = false := by simpa using q4
      clear hRA hHl hLl hL1 q1 q2 q3 q4 r0' r1'
      go_wp2_with fail
      go_meet
      case rel => exact ⟨_, _, H, L, rfl, HB0.out, TH.out, TL.out, by have := HHL.out; have := HNH.out; omega, by have := HLL.out; have := HNLL.out; omega, f3⟩
  case rest =>
    obtain ⟨vH, vL, H, L, rfl, hb, hH, hL, hHl, hLl, f4⟩ := hcut
    have hask := fun rt W (f : Fresh wc W) => asks_any n b e vH _ H L rt W (hH.fresh f) (hL.fresh f) ((HN.out.fresh f4).fresh f).dig hHl hLl
    unfold runV at hask
    have hH' := hH
    obtain ⟨aH, cH, evH, -⟩ := hH'
    subst evH
    have HASK := hid hask
    have R0 := (cell_at hb 0).trans (show _ = some (Value.int .i64 (n : Int)) from rfl)
    have R1 := (cell_at hb 1).trans (show _ = some (Value.int .i64 (b : Int)) from rfl)
    have R2 := (cell_at hb 2).trans (show _ = some (Value.int .i64 (e : Int)) from rfl)
    have R3 := (cell_at hb 3).trans (show _ = some (Value.slice aH H.length cH) from rfl)
    have RL := lt_of_block hb
    clear hask hb hH hL hHl hLl HRA HRL HR
    go_wp2_with fail
    refine wp_region_keep 6 (fun w' => Fresh wc w') (fun _ => True) (fun _ => true) (by kernel_rfl) (by kernel_rfl) ?_
    (try (change wpKeep _ _ _ _ _ _ _ _ _ _ (World.drew _)))
    refine wpKeep_takeT (i := 0) (oi := ⟨some 56, _, _, _, _, _⟩) (v := ?_) rfl (by kernel_rfl) (by kernel_rfl) (by kernel_rfl) (by kernel_rfl) (fun _ _ _ h => h) (Or.inl ⟨by rfl, ?_⟩) (Keeps.refl _ _).drew (fun _ => trivial) ?_
    rotate_left
    · intro w' hT
      have yR0 := (hT.cell (p := ⟨rb, 0, none⟩) RL (fun h => h)).trans R0
      have yR1 := (hT.cell (p := ⟨rb, 1, none⟩) RL (fun h => h)).trans R1
      have yR2 := (hT.cell (p := ⟨rb, 2, none⟩) RL (fun h => h)).trans R2
      have yR3 := (hT.cell (p := ⟨rb, 3, none⟩) RL (fun h => h)).trans R3
      go_simp
      (try rw [if_pos (by omega)])
      (try with_reducible rfl)
    rotate_left
    (try simp only [Act.put, List.setIfInBounds_toArray, List.set_cons_zero, List.set_cons_succ])
    refine wpKeep_takeT (i := 1) (oi := ⟨some 57, _, _, _, _, _⟩) (v := ?_) rfl (by kernel_rfl) (by kernel_rfl) (by kernel_rfl) (by kernel_rfl) (fun _ _ _ h => h) (Or.inl ⟨by rfl, ?_⟩) (Keeps.refl _ _).drew (fun _ => trivial) ?_
    rotate_left
    · intro w' hT
      go_simp
      (try rw [if_pos (by omega)])
      (try with_reducible rfl)
    rotate_left
    (try simp only [Act.put, List.setIfInBounds_toArray, List.set_cons_zero, List.set_cons_succ])
    refine wpKeep_takeT (i := 2) (oi := ⟨some 58, _, _, _, _, _⟩) (v := ?_) rfl (by kernel_rfl) (by kernel_rfl) (by kernel_rfl) (by kernel_rfl) (fun _ _ _ h => h) (Or.inl ⟨by rfl, ?_⟩) (Keeps.refl _ _).drew (fun _ => trivial) ?_
    rotate_left
    · intro w' hT
      go_simp
      (try rw [if_pos (by omega)])
      (try with_reducible rfl)
    rotate_left
    (try simp only [Act.put, List.setIfInBounds_toArray, List.set_cons_zero, List.set_cons_succ])
    refine wpKeep_ready (rs := [3]) (by kernel_rfl) (by simp) ?_
    refine AllKeep.cons (o := ⟨some 59, _, _, _, _, _⟩) rfl (fun K hK => ?_) AllKeep.nil
    go_simp
    go_at_call 22
    with_reducible refine (leaf_some _ _).mono ?_
    rintro x w7 ⟨sf, rfl, hsl, g1⟩
    have g1 : Fresh wc w7 := (Keeps.refl (fun _ => False) wc).drew.trans g1
    dsimp only
    refine hK.out _ _ g1 (fun _ => trivial) ?_
    clear hK K
    (try simp only [Act.put, List.setIfInBounds_toArray, List.set_cons_zero, List.set_cons_succ])
    refine wpKeep_ready (rs := [4]) (by kernel_rfl) (by simp) ?_
    refine AllKeep.cons (o := ⟨some 60, _, _, _, _, _⟩) rfl (fun K hK => ?_) AllKeep.nil
    go_simp
    go_at_call 20
    with_reducible refine (HASK.out sf _ g1).mono ?_
    rintro x w8 ⟨rfl, g2⟩
    have g2 : Fresh wc w8 := g1.trans g2
    dsimp only
    refine hK.out _ _ g2 (fun _ => trivial) ?_
    clear hK K
    (try simp only [Act.put, List.setIfInBounds_toArray, List.set_cons_zero, List.set_cons_succ])
    refine wpKeep_takeT (i := 5) (oi := ⟨some 14, _, _, _, _, _⟩) (v := ?_) rfl (by kernel_rfl) (by kernel_rfl) (by kernel_rfl) (by kernel_rfl) (fun _ _ _ h => h) (Or.inl ⟨by rfl, ?_⟩) g2 (fun _ => trivial) ?_
    rotate_left
    · intro w' hT
      go_simp
      (try rw [if_pos (by omega)])
      (try with_reducible rfl)
    rotate_left
    (try simp only [Act.put, List.setIfInBounds_toArray, List.set_cons_zero, List.set_cons_succ])
    refine wpKeep_done (by kernel_rfl) ?_ _
    go_wp2_with fail
    go_ret
    exact ⟨rfl, f4.trans g2⟩
end Go.Proofs.YtgikabafaocemaaDoor
