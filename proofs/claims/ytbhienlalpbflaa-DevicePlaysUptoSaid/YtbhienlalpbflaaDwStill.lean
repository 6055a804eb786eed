/-
  The law's world: does each list read as it must? Those that are untouched are marked, grown, all are looked at. Printed by gen_dwstill.py.
-/
import Derived.Test.YtbhienlalpbflaaDwGrow
namespace Go.Proofs.Ytbhienlalpbflaa
open Go.RowKit Go.Maps

theorem Pen.texts {c : Nat → Nat} {w : World} {x : Nat} {v : Value} {l : Texts} (h : Pen c w 9 1 (texts l) x v l.length) : TextsAt w v l := by
  by_cases h0 : 0 < l.length
  · obtain ⟨g, cap, rfl, hg, -, hc⟩ := h.cells h0
    exact ⟨_, _, rfl, fun k s hs => ⟨g, 0, rfl, hg, by rw [Nat.zero_add]; exact hc k _ (by simp [Go.Proofs.Ytbhienlalpbflaa.texts, hs])⟩⟩
  · obtain ⟨ao, cap, rfl⟩ := h.slice
    exact ⟨ao, cap, rfl, fun k s hs => by have := (List.getElem?_eq_some_iff.1 hs).1; omega⟩
theorem mark_sum (a b : Nat) (ha : a ≤ 1000000) (hb : b ≤ 1000000) (w : World) :
    Calls Try.prog 46 #[.int .i64 (IntKind.i64.wrap ((a : Int) + (b : Int)))] w fun e w' => e = .returned (.string (str (markL (a + b)))) ∧ Fresh w w' := by
  have := mark_any (a + b) w
  have hw : IntKind.i64.wrap ((a : Int) + (b : Int)) = ((a + b : Nat) : Int) := by rw [IntKind.wrap_i64]; omega
  rw [hw]
  exact this
theorem mark_quo (n : Nat) (hn : n ≤ 1099511627776) (w : World) :
    Calls Try.prog 46 #[.int .i64 (IntKind.i64.wrap ((n : Int) / 12))] w fun e w' => e = .returned (.string (str (markL (n / 12)))) ∧ Fresh w w' := by
  have := mark_any (n / 12) w
  have hw : IntKind.i64.wrap ((n : Int) / 12) = (n : Int) / 12 := by rw [IntKind.wrap_i64]; omega
  rw [hw]
  rwa [show ((n / 12 : Nat) : Int) = (n : Int) / 12 by omega] at this
theorem reps_one (u : Value) : ∀ (k j : Nat), j < k → (reps k [u])[j]? = some u := fun k j h => by
  have := reps_get [u] k j 0 h (by simp)
  simpa using this
theorem Marks.keeps {S : Nat → Prop} {α : Type} {c : Nat → Nat} {w w' : World} {e : TypeId} {size G M i : Nat} {cells : α → List Value} {len : α → Nat} {U : Nat → List Value} {col : Nat → Nat} {F : List Value} {C : List α} (h : Marks c w e size cells len U col G M i F C) (k : Keeps S w w') (hS : ∀ g, S g → ∀ a, c g ≠ col a) : Marks c w' e size cells len U col G M i F C :=
  ⟨fun j v hj hv => by
    obtain ⟨k', h1, h2⟩ := h.done j v hj hv
    exact ⟨k', h1, h2.keeps k (fun g hg _ => hS g hg j) (fun _ _ h => h)⟩, fun j v l hj hv hl => (h.todo j v l hj hv hl).keeps k (fun g hg _ => hS g hg j) (fun _ _ h => h)⟩
theorem HPen.cell2 {c : Nat → Nat} {w : World} {e : TypeId} {x k i : Nat} {us : List Value} {v : Value} (h : HPen c w e 2 us x v k i) (hi : i < k) : ∃ g cap u1 u2, v = .slice (some ⟨g, 0, none⟩) k cap ∧ g < w.heap.size ∧ c g = x ∧ w.cell? ⟨g, i * 2, none⟩ = some u1 ∧ w.cell? ⟨g, i * 2 + 1, none⟩ = some u2 ∧ w.frozen? ⟨g, i * 2, none⟩ = false ∧ w.frozen? ⟨g, i * 2 + 1, none⟩ = false := by
  obtain ⟨ys, hp, -⟩ := h
  obtain ⟨g, cap, rfl, hg, hc, hcell⟩ := hp.cells (by omega)
  obtain ⟨y, h1, h2, h3⟩ := hp
  have hl := h2.1
  obtain ⟨ao, n', cap1, cap2, rfl, e, -⟩ := h1
  simp only [Value.slice.injEq] at e
  obtain ⟨rfl, rfl, rfl⟩ := e
  exact ⟨g, cap, _, _, rfl, hg, hc, hcell (i * 2) _ (List.getElem?_eq_getElem (by omega)), hcell (i * 2 + 1) _ (List.getElem?_eq_getElem (by omega)), h2.frozenAt _, h2.frozenAt _⟩

set_option maxRecDepth 100000 in
set_option maxHeartbeats 8000000 in
theorem still_any (B ob n N : Nat) (c : Nat → Nat) (w : World) (v : WV) (sd sx : Nat → St) (h : DW B c w ob v sd sx n N) (hN : N ≤ 1000) :
    Calls Try.prog 19 #[.pointer (some ⟨ob, 0, none⟩)] w fun e w' => e = .returned (.bool true) ∧ (∃ c' v', DW B c' w' ob v' sd sx n N) ∧ Keeps (fun q => B ≤ q) w w' := by
  obtain ⟨G, hG, hGN⟩ := h.lw.lists
  obtain ⟨G2, hG2, hGN2⟩ := h.lw.listsW
  obtain ⟨aof, cpf, ef⟩ := ownsRow_slice h.lw.free.frow
  obtain ⟨aow, cpw, ew⟩ := ownsRow_slice h.lw.free.wrow
  obtain ⟨agf, cgf, eg⟩ := ownsRow_slice h.lw.freeW.frow
  obtain ⟨ahf, chf, eh⟩ := ownsRow_slice h.lw.freeW.wrow
  obtain ⟨aod, cpd, ed⟩ := ownsRow_slice h.lw.pack.row
  obtain ⟨aoe, cpe, ee⟩ := ownsRow_slice h.lw.packW.row
  have H := hid h
  have HC : Hid (∀ W, Keeps (fun g => (∃ a, c g = fcolT a) ∨ ∃ a, c g = fcolW a) w W → W.cell? ⟨ob, 1, none⟩ = some (.slice aof v.F.length cpf) ∧ W.cell? ⟨ob, 2, none⟩ = some (.slice aow v.Wv.length cpw) ∧ W.cell? ⟨ob, 3, none⟩ = some (.slice agf v.F2.length cgf) ∧ W.cell? ⟨ob, 4, none⟩ = some (.slice ahf v.Wv2.length chf) ∧ W.cell? ⟨ob, 5, none⟩ = some (.slice aod v.A.length cpd) ∧ W.cell? ⟨ob, 6, none⟩ = some (.slice aoe v.Wd.length cpe) ∧
      W.ownsRow 0 30 1 (.slice aof v.F.length cpf) v.F.length v.F ∧ W.ownsRow 0 30 1 (.slice aow v.Wv.length cpw) v.Wv.length v.Wv ∧ W.ownsRow 0 38 1 (.slice agf v.F2.length cgf) v.F2.length v.F2 ∧ W.ownsRow 0 38 1 (.slice ahf v.Wv2.length chf) v.Wv2.length v.Wv2) := fun W f => by
    have hS : ∀ g, ((∃ a, c g = fcolT a) ∨ ∃ a, c g = fcolW a) → 24 ≤ c g := fun g e => by
      rcases e with ⟨a, e⟩ | ⟨a, e⟩
      · unfold fcolT at e; omega
      · unfold fcolW at e; omega
    have hb := f.at_ h.box (fun e => by have := hS _ e; have := h.cbox; omega)
    refine ⟨(cell_at hb 1).trans (by rw [← ef]; rfl), (cell_at hb 2).trans (by rw [← ew]; rfl), (cell_at hb 3).trans (by rw [← eg]; rfl), (cell_at hb 4).trans (by rw [← eh]; rfl), (cell_at hb 5).trans (by rw [← ed]; rfl), (cell_at hb 6).trans (by rw [← ee]; rfl), ?_, ?_, ?_, ?_⟩
    · rw [← ef]; exact ownsRow_keeps h.lw.free.frow f fun g hg e => by have := hS g e; have := h.lw.free.cfrow g hg; omega
    · rw [← ew]; exact ownsRow_keeps h.lw.free.wrow f fun g hg e => by have := hS g e; have := h.lw.free.cwrow g hg; omega
    · rw [← eg]; exact ownsRow_keeps h.lw.freeW.frow f fun g hg e => by have := hS g e; have := h.lw.freeW.cfrow g hg; omega
    · rw [← eh]; exact ownsRow_keeps h.lw.freeW.wrow f fun g hg e => by have := hS g e; have := h.lw.freeW.cwrow g hg; omega
  have EE := hid (And.intro ef (And.intro eg (And.intro ed ee)))
  have hFb : (v.F.length : Int) ≤ 1000 := by omega
  have hFb2 : (v.F2.length : Int) ≤ 1000 := by omega
  have hG12 : (v.A.length : Int) / 12 = (G : Int) := by omega
  have hG212 : (v.Wd.length : Int) / 12 = (G2 : Int) := by omega
  have hGb : (G : Int) ≤ 1000 := by omega
  have hGb2 : (G2 : Int) ≤ 1000 := by omega
  have bl := lt_of_block h.box
  have HG := hid (And.intro hG hGN)
  have HG2 := hid (And.intro hG2 hGN2)
  obtain ⟨c1, c2, c3, c4, c5, c6, rF, rW, rF2, rW2⟩ := HC.out w (Keeps.refl _ _)
  clear h hG hGN hG2 hGN2 ef ew eg eh ed ee rF rW rF2 rW2
  go_enter Try.func19, Try.ntmps19
  go_wp2_with fail
  clear c1 c2 c3 c4 c5 c6
  go_loopw [3] (fun i wr => ∃ k : Nat, i = .int .i64 (k : Int) ∧ k ≤ v.F.length ∧ Fresh w wr) (fun i _ => v.F.length - (intOf i).toNat)
  case atStart => exact ⟨0, rfl, Nat.zero_le _, Keeps.refl _ _⟩
  case round =>
    obtain ⟨k, rfl, hk, fr⟩ := hrel
    obtain ⟨c1, c2, c3, c4, c5, c6, rF, rW, rF2, rW2⟩ := HC.out wr (fr.mono fun _ _ h => h.elim)
    by_cases hlt : k < v.F.length
    · as_aux_lemma =>
      obtain ⟨x, hx⟩ : ∃ x, v.F[k]? = some x := ⟨v.F[k], by simp⟩
      obtain ⟨u, hu⟩ : ∃ u, v.Wv[k]? = some u := ⟨v.Wv[k]'(by have := H.out.lw.free.lenW; omega), by simp⟩
      obtain ⟨l, hl⟩ : ∃ l, v.C[k]? = some l := ⟨v.C[k]'(by have := H.out.lw.free.lenC; omega), by simp⟩
      have hp1 := (H.out.lw.free.lists k x l hx hl).keeps fr (fun _ h => h.elim) (fun _ _ h => h)
      have hp2 := (H.out.lw.free.was k u l hu hl).keeps fr (fun _ h => h.elim) (fun _ _ h => h)
      have hls := H.out.lw.small l (List.mem_of_getElem? hl)
      obtain ⟨gf, e1, hgf, hcf⟩ := ownsRow_cells rF (by omega)
      obtain ⟨gw, e2, hgw, hcw⟩ := ownsRow_cells rW (by have := H.out.lw.free.lenW; omega)
      subst e1 e2
      have hk2 : k < v.Wv.length := by have := H.out.lw.free.lenW; omega
      obtain ⟨xo, xc, rfl⟩ := hp1.slice
      obtain ⟨uo, uc, rfl⟩ := hp2.slice
      have hfx := hcf k _ hx
      have hwx := hcw k _ hu
      have hbl : ob < wr.heap.size := World.block_lt_of_cell? wr _ c1
      have hk0 : (0 : Int) ≤ (k : Int) := by omega
      have hkI : (k : Int) < (v.F.length : Int) := by omega
      have hkI2 : (k : Int) < (v.Wv.length : Int) := by omega
      have HSAME := hid fun W (f : Fresh wr W) => sameTexts_any (.slice xo l.length xc) (.slice uo l.length uc) l l W (hp1.texts.fresh f) (hp2.texts.fresh f) (by omega) (by omega)
      rw [decide_eq_true (rfl : l = l)] at HSAME
      have ca := c1
      have cb := c2
      clear hcf hcw hx hu hl rF rW rF2 rW2 
      go_wp2_with fail
      refine wp_region_keep 16 (fun w' => w'.cell? ⟨ob, 1, none⟩ = some (.slice (some ⟨gf, 0, none⟩) v.F.length cpf) ∧ w'.cell? ⟨ob, 2, none⟩ = some (.slice (some ⟨gw, 0, none⟩) v.Wv.length cpw) ∧ w'.cell? ⟨gf, k, none⟩ = some (.slice xo l.length xc) ∧ w'.cell? ⟨gw, k, none⟩ = some (.slice uo l.length uc)) (fun _ => True) (fun _ => true) (by kernel_rfl) (by kernel_rfl) ?_
      (try (change wpKeep _ _ _ _ _ _ _ _ _ _ (World.drew _)))
      refine wpKeep_takeT (i := 0) (oi := ⟨some 32, _, _, _, _, _⟩) (v := ?_) rfl (by kernel_rfl) (by kernel_rfl) (by kernel_rfl) (by kernel_rfl) (fun _ _ _ h => h) (Or.inl ⟨by rfl, ?_⟩) ⟨ca, cb, hfx, hwx⟩ (fun _ => trivial) ?_
      rotate_left
      · intro w' hT
        obtain ⟨t1, t2, t3, t4⟩ := hT
        go_simp
        (try rw [if_pos (by omega)])
        (try with_reducible rfl)
      rotate_left
      (try simp only [Act.put, List.setIfInBounds_toArray, List.set_cons_zero, List.set_cons_succ])
      refine wpKeep_takeT (i := 1) (oi := ⟨some 33, _, _, _, _, _⟩) (v := ?_) rfl (by kernel_rfl) (by kernel_rfl) (by kernel_rfl) (by kernel_rfl) (fun _ _ _ h => h) (Or.inl ⟨by rfl, ?_⟩) ⟨ca, cb, hfx, hwx⟩ (fun _ => trivial) ?_
      rotate_left
      · intro w' hT
        obtain ⟨t1, t2, t3, t4⟩ := hT
        go_simp
        (try rw [if_pos (by omega)])
        (try with_reducible rfl)
      rotate_left
      (try simp only [Act.put, List.setIfInBounds_toArray, List.set_cons_zero, List.set_cons_succ])
      refine wpKeep_takeT (i := 2) (oi := ⟨some 34, _, _, _, _, _⟩) (v := ?_) rfl (by kernel_rfl) (by kernel_rfl) (by kernel_rfl) (by kernel_rfl) (fun _ _ _ h => h) (Or.inl ⟨by rfl, ?_⟩) ⟨ca, cb, hfx, hwx⟩ (fun _ => trivial) ?_
      rotate_left
      · intro w' hT
        obtain ⟨t1, t2, t3, t4⟩ := hT
        go_simp
        (try rw [if_pos (by omega)])
        (try with_reducible rfl)
      rotate_left
      (try simp only [Act.put, List.setIfInBounds_toArray, List.set_cons_zero, List.set_cons_succ])
      refine wpKeep_takeT (i := 3) (oi := ⟨some 35, _, _, _, _, _⟩) (v := ?_) rfl (by kernel_rfl) (by kernel_rfl) (by kernel_rfl) (by kernel_rfl) (fun _ _ _ h => h) (Or.inl ⟨by rfl, ?_⟩) ⟨ca, cb, hfx, hwx⟩ (fun _ => trivial) ?_
      rotate_left
      · intro w' hT
        obtain ⟨t1, t2, t3, t4⟩ := hT
        go_simp
        (try rw [if_pos (by omega)])
        (try with_reducible rfl)
      rotate_left
      (try simp only [Act.put, List.setIfInBounds_toArray, List.set_cons_zero, List.set_cons_succ])
      refine wpKeep_takeT (i := 4) (oi := ⟨some 36, _, _, _, _, _⟩) (v := ?_) rfl (by kernel_rfl) (by kernel_rfl) (by kernel_rfl) (by kernel_rfl) (fun _ _ _ h => h) (Or.inl ⟨by rfl, ?_⟩) ⟨ca, cb, hfx, hwx⟩ (fun _ => trivial) ?_
      rotate_left
      · intro w' hT
        obtain ⟨t1, t2, t3, t4⟩ := hT
        go_simp
        (try rw [if_pos (by omega)])
        (try with_reducible rfl)
      rotate_left
      (try simp only [Act.put, List.setIfInBounds_toArray, List.set_cons_zero, List.set_cons_succ])
      refine wpKeep_takeT (i := 5) (oi := ⟨some 37, _, _, _, _, _⟩) (v := ?_) rfl (by kernel_rfl) (by kernel_rfl) (by kernel_rfl) (by kernel_rfl) (fun _ _ _ h => h) (Or.inl ⟨by rfl, ?_⟩) ⟨ca, cb, hfx, hwx⟩ (fun _ => trivial) ?_
      rotate_left
      · intro w' hT
        obtain ⟨t1, t2, t3, t4⟩ := hT
        go_simp
        (try rw [if_pos (by omega)])
        (try with_reducible rfl)
      rotate_left
      (try simp only [Act.put, List.setIfInBounds_toArray, List.set_cons_zero, List.set_cons_succ])
      refine wpKeep_takeT (i := 6) (oi := ⟨some 38, _, _, _, _, _⟩) (v := ?_) rfl (by kernel_rfl) (by kernel_rfl) (by kernel_rfl) (by kernel_rfl) (fun _ _ _ h => h) (Or.inl ⟨by rfl, ?_⟩) ⟨ca, cb, hfx, hwx⟩ (fun _ => trivial) ?_
      rotate_left
      · intro w' hT
        obtain ⟨t1, t2, t3, t4⟩ := hT
        go_simp
        (try rw [if_pos (by omega)])
        (try with_reducible rfl)
      rotate_left
      (try simp only [Act.put, List.setIfInBounds_toArray, List.set_cons_zero, List.set_cons_succ])
      refine wpKeep_takeT (i := 7) (oi := ⟨some 39, _, _, _, _, _⟩) (v := ?_) rfl (by kernel_rfl) (by kernel_rfl) (by kernel_rfl) (by kernel_rfl) (fun _ _ _ h => h) (Or.inl ⟨by rfl, ?_⟩) ⟨ca, cb, hfx, hwx⟩ (fun _ => trivial) ?_
      rotate_left
      · intro w' hT
        obtain ⟨t1, t2, t3, t4⟩ := hT
        go_simp
        (try rw [if_pos (by omega)])
        (try with_reducible rfl)
      rotate_left
      (try simp only [Act.put, List.setIfInBounds_toArray, List.set_cons_zero, List.set_cons_succ])
      refine wpKeep_takeT (i := 8) (oi := ⟨some 40, _, _, _, _, _⟩) (v := ?_) rfl (by kernel_rfl) (by kernel_rfl) (by kernel_rfl) (by kernel_rfl) (fun _ _ _ h => h) (Or.inl ⟨by rfl, ?_⟩) ⟨ca, cb, hfx, hwx⟩ (fun _ => trivial) ?_
      rotate_left
      · intro w' hT
        obtain ⟨t1, t2, t3, t4⟩ := hT
        go_simp
        (try rw [if_pos (by omega)])
        (try with_reducible rfl)
      rotate_left
      (try simp only [Act.put, List.setIfInBounds_toArray, List.set_cons_zero, List.set_cons_succ])
      refine wpKeep_takeT (i := 9) (oi := ⟨some 41, _, _, _, _, _⟩) (v := ?_) rfl (by kernel_rfl) (by kernel_rfl) (by kernel_rfl) (by kernel_rfl) (fun _ _ _ h => h) (Or.inl ⟨by rfl, ?_⟩) ⟨ca, cb, hfx, hwx⟩ (fun _ => trivial) ?_
      rotate_left
      · intro w' hT
        obtain ⟨t1, t2, t3, t4⟩ := hT
        go_simp
        (try rw [if_pos (by omega)])
        (try with_reducible rfl)
      rotate_left
      (try simp only [Act.put, List.setIfInBounds_toArray, List.set_cons_zero, List.set_cons_succ])
      refine wpKeep_takeT (i := 10) (oi := ⟨some 42, _, _, _, _, _⟩) (v := ?_) rfl (by kernel_rfl) (by kernel_rfl) (by kernel_rfl) (by kernel_rfl) (fun _ _ _ h => h) (Or.inl ⟨by rfl, ?_⟩) ⟨ca, cb, hfx, hwx⟩ (fun _ => trivial) ?_
      rotate_left
      · intro w' hT
        obtain ⟨t1, t2, t3, t4⟩ := hT
        go_simp
        (try rw [if_pos (by omega)])
        (try with_reducible rfl)
      rotate_left
      (try simp only [Act.put, List.setIfInBounds_toArray, List.set_cons_zero, List.set_cons_succ])
      refine wpKeep_takeT (i := 11) (oi := ⟨some 43, _, _, _, _, _⟩) (v := ?_) rfl (by kernel_rfl) (by kernel_rfl) (by kernel_rfl) (by kernel_rfl) (fun _ _ _ h => h) (Or.inl ⟨by rfl, ?_⟩) ⟨ca, cb, hfx, hwx⟩ (fun _ => trivial) ?_
      rotate_left
      · intro w' hT
        obtain ⟨t1, t2, t3, t4⟩ := hT
        go_simp
        (try rw [if_pos (by omega)])
        (try with_reducible rfl)
      rotate_left
      (try simp only [Act.put, List.setIfInBounds_toArray, List.set_cons_zero, List.set_cons_succ])
      refine wpKeep_takeT (i := 12) (oi := ⟨some 44, _, _, _, _, _⟩) (v := ?_) rfl (by kernel_rfl) (by kernel_rfl) (by kernel_rfl) (by kernel_rfl) (fun _ _ _ h => h) (Or.inl ⟨by rfl, ?_⟩) ⟨ca, cb, hfx, hwx⟩ (fun _ => trivial) ?_
      rotate_left
      · intro w' hT
        obtain ⟨t1, t2, t3, t4⟩ := hT
        go_simp
        (try rw [if_pos (by omega)])
        (try with_reducible rfl)
      rotate_left
      (try simp only [Act.put, List.setIfInBounds_toArray, List.set_cons_zero, List.set_cons_succ])
      refine wpKeep_takeT (i := 13) (oi := ⟨some 45, _, _, _, _, _⟩) (v := ?_) rfl (by kernel_rfl) (by kernel_rfl) (by kernel_rfl) (by kernel_rfl) (fun _ _ _ h => h) (Or.inl ⟨by rfl, ?_⟩) ⟨ca, cb, hfx, hwx⟩ (fun _ => trivial) ?_
      rotate_left
      · intro w' hT
        obtain ⟨t1, t2, t3, t4⟩ := hT
        go_simp
        (try rw [if_pos (by omega)])
        (try with_reducible rfl)
      rotate_left
      (try simp only [Act.put, List.setIfInBounds_toArray, List.set_cons_zero, List.set_cons_succ])
      refine wpKeep_ready (rs := [14]) (by kernel_rfl) (by simp) ?_
      refine AllKeep.cons (o := ⟨some 46, _, _, _, _, _⟩) rfl (fun Kq hK => ?_) AllKeep.nil
      go_simp
      go_at_call 15
      refine (HSAME.out _ (Keeps.refl (fun _ => False) wr).drew).mono ?_
      rintro e w3 ⟨rfl, f0⟩
      have f : Fresh wr w3 := (Keeps.refl (fun _ => False) wr).drew.trans f0
      clear f0
      have ca3 := (f.cell (p := ⟨ob, 1, none⟩) hbl (fun h => h)).trans ca
      have cb3 := (f.cell (p := ⟨ob, 2, none⟩) hbl (fun h => h)).trans cb
      have hfx3 := (f.cell (p := ⟨gf, k, none⟩) hgf (fun h => h)).trans hfx
      have hwx3 := (f.cell (p := ⟨gw, k, none⟩) hgw (fun h => h)).trans hwx
      refine hK.out _ _ ⟨ca3, cb3, hfx3, hwx3⟩ (fun _ => trivial) ?_
      clear hK Kq
      (try simp only [Act.put, List.setIfInBounds_toArray, List.set_cons_zero, List.set_cons_succ])
      refine wpKeep_takeT (i := 15) (oi := ⟨some 4, _, _, _, _, _⟩) (v := ?_) rfl (by kernel_rfl) (by kernel_rfl) (by kernel_rfl) (by kernel_rfl) (fun _ _ _ h => h) (Or.inl ⟨by rfl, ?_⟩) ⟨ca3, cb3, hfx3, hwx3⟩ (fun _ => trivial) ?_
      rotate_left
      · intro w' hT
        obtain ⟨t1, t2, t3, t4⟩ := hT
        go_simp
        (try rw [if_pos (by omega)])
        (try with_reducible rfl)
      rotate_left
      (try simp only [Act.put, List.setIfInBounds_toArray, List.set_cons_zero, List.set_cons_succ])
      refine wpKeep_done (by kernel_rfl) ?_ _
      clear hfx hwx ca cb ca3 cb3 hfx3 hwx3
      go_wp2_with fail
      go_roundw
      case rel => exact ⟨k + 1, by go_num, by omega, fr.trans f⟩
      case measure => simp [intOf]; omega
    · obtain rfl : k = v.F.length := by omega
      clear rF rW rF2 rW2
      go_wp2_with fail
      as_aux_lemma =>
        have fr0 := fr
        clear c1 c2 c3 c4 c5 c6 hlt hk
        clear fr
        go_loopw [5] (fun i wr => ∃ k : Nat, i = .int .i64 (k : Int) ∧ k ≤ v.F2.length ∧ Fresh w wr) (fun i _ => v.F2.length - (intOf i).toNat)
        case atStart => exact ⟨0, rfl, Nat.zero_le _, fr0⟩
        case round =>
          obtain ⟨k, rfl, hk, fr⟩ := hrel
          obtain ⟨c1, c2, c3, c4, c5, c6, rF, rW, rF2, rW2⟩ := HC.out wr (fr.mono fun _ _ h => h.elim)
          by_cases hlt : k < v.F2.length
          · as_aux_lemma =>
            obtain ⟨x, hx⟩ : ∃ x, v.F2[k]? = some x := ⟨v.F2[k], by simp⟩
            obtain ⟨u, hu⟩ : ∃ u, v.Wv2[k]? = some u := ⟨v.Wv2[k]'(by have := H.out.lw.freeW.lenW; omega), by simp⟩
            obtain ⟨l, hl⟩ : ∃ l, v.C2[k]? = some l := ⟨v.C2[k]'(by have := H.out.lw.freeW.lenC; omega), by simp⟩
            have hp1 := (H.out.lw.freeW.lists k x l hx hl).keeps fr (fun _ h => h.elim) (fun _ _ h => h)
            have hp2 := (H.out.lw.freeW.was k u l hu hl).keeps fr (fun _ h => h.elim) (fun _ _ h => h)
            have hls := H.out.lw.smallW l (List.mem_of_getElem? hl)
            obtain ⟨gf, e1, hgf, hcf⟩ := ownsRow_cells rF2 (by omega)
            obtain ⟨gw, e2, hgw, hcw⟩ := ownsRow_cells rW2 (by have := H.out.lw.freeW.lenW; omega)
            subst e1 e2
            have hk2 : k < v.Wv2.length := by have := H.out.lw.freeW.lenW; omega
            obtain ⟨xo, xc, rfl⟩ := hp1.slice
            obtain ⟨uo, uc, rfl⟩ := hp2.slice
            have hfx := hcf k _ hx
            have hwx := hcw k _ hu
            have hbl : ob < wr.heap.size := World.block_lt_of_cell? wr _ c1
            have hk0 : (0 : Int) ≤ (k : Int) := by omega
            have hkI : (k : Int) < (v.F2.length : Int) := by omega
            have hkI2 : (k : Int) < (v.Wv2.length : Int) := by omega
            obtain ⟨y1, cl1, ro1, -⟩ := hp1
            obtain ⟨y2, cl2, ro2, -⟩ := hp2
            have HSAME := hid fun W (f : Fresh wr W) => sameWrites_same (.slice xo l.length xc) (.slice uo l.length uc) l W y1 y2 l.length l.length cl1 cl2 (ownsRow_keeps ro1 f (fun _ _ h => h)) rfl (ownsRow_keeps ro2 f (fun _ _ h => h)) rfl (by omega)
            have ca := c3
            have cb := c4
            clear hcf hcw hx hu hl rF rW rF2 rW2 
            go_wp2_with fail
            refine wp_region_keep 16 (fun w' => w'.cell? ⟨ob, 3, none⟩ = some (.slice (some ⟨gf, 0, none⟩) v.F2.length cgf) ∧ w'.cell? ⟨ob, 4, none⟩ = some (.slice (some ⟨gw, 0, none⟩) v.Wv2.length chf) ∧ w'.cell? ⟨gf, k, none⟩ = some (.slice xo l.length xc) ∧ w'.cell? ⟨gw, k, none⟩ = some (.slice uo l.length uc)) (fun _ => True) (fun _ => true) (by kernel_rfl) (by kernel_rfl) ?_
            (try (change wpKeep _ _ _ _ _ _ _ _ _ _ (World.drew _)))
            refine wpKeep_takeT (i := 0) (oi := ⟨some 58, _, _, _, _, _⟩) (v := ?_) rfl (by kernel_rfl) (by kernel_rfl) (by kernel_rfl) (by kernel_rfl) (fun _ _ _ h => h) (Or.inl ⟨by rfl, ?_⟩) ⟨ca, cb, hfx, hwx⟩ (fun _ => trivial) ?_
            rotate_left
            · intro w' hT
              obtain ⟨t1, t2, t3, t4⟩ := hT
              go_simp
              (try rw [if_pos (by omega)])
              (try with_reducible rfl)
            rotate_left
            (try simp only [Act.put, List.setIfInBounds_toArray, List.set_cons_zero, List.set_cons_succ])
            refine wpKeep_takeT (i := 1) (oi := ⟨some 59, _, _, _, _, _⟩) (v := ?_) rfl (by kernel_rfl) (by kernel_rfl) (by kernel_rfl) (by kernel_rfl) (fun _ _ _ h => h) (Or.inl ⟨by rfl, ?_⟩) ⟨ca, cb, hfx, hwx⟩ (fun _ => trivial) ?_
            rotate_left
            · intro w' hT
              obtain ⟨t1, t2, t3, t4⟩ := hT
              go_simp
              (try rw [if_pos (by omega)])
              (try with_reducible rfl)
            rotate_left
            (try simp only [Act.put, List.setIfInBounds_toArray, List.set_cons_zero, List.set_cons_succ])
            refine wpKeep_takeT (i := 2) (oi := ⟨some 60, _, _, _, _, _⟩) (v := ?_) rfl (by kernel_rfl) (by kernel_rfl) (by kernel_rfl) (by kernel_rfl) (fun _ _ _ h => h) (Or.inl ⟨by rfl, ?_⟩) ⟨ca, cb, hfx, hwx⟩ (fun _ => trivial) ?_
            rotate_left
            · intro w' hT
              obtain ⟨t1, t2, t3, t4⟩ := hT
              go_simp
              (try rw [if_pos (by omega)])
              (try with_reducible rfl)
            rotate_left
            (try simp only [Act.put, List.setIfInBounds_toArray, List.set_cons_zero, List.set_cons_succ])
            refine wpKeep_takeT (i := 3) (oi := ⟨some 61, _, _, _, _, _⟩) (v := ?_) rfl (by kernel_rfl) (by kernel_rfl) (by kernel_rfl) (by kernel_rfl) (fun _ _ _ h => h) (Or.inl ⟨by rfl, ?_⟩) ⟨ca, cb, hfx, hwx⟩ (fun _ => trivial) ?_
            rotate_left
            · intro w' hT
              obtain ⟨t1, t2, t3, t4⟩ := hT
              go_simp
              (try rw [if_pos (by omega)])
              (try with_reducible rfl)
            rotate_left
            (try simp only [Act.put, List.setIfInBounds_toArray, List.set_cons_zero, List.set_cons_succ])
            refine wpKeep_takeT (i := 4) (oi := ⟨some 62, _, _, _, _, _⟩) (v := ?_) rfl (by kernel_rfl) (by kernel_rfl) (by kernel_rfl) (by kernel_rfl) (fun _ _ _ h => h) (Or.inl ⟨by rfl, ?_⟩) ⟨ca, cb, hfx, hwx⟩ (fun _ => trivial) ?_
            rotate_left
            · intro w' hT
              obtain ⟨t1, t2, t3, t4⟩ := hT
              go_simp
              (try rw [if_pos (by omega)])
              (try with_reducible rfl)
            rotate_left
            (try simp only [Act.put, List.setIfInBounds_toArray, List.set_cons_zero, List.set_cons_succ])
            refine wpKeep_takeT (i := 5) (oi := ⟨some 63, _, _, _, _, _⟩) (v := ?_) rfl (by kernel_rfl) (by kernel_rfl) (by kernel_rfl) (by kernel_rfl) (fun _ _ _ h => h) (Or.inl ⟨by rfl, ?_⟩) ⟨ca, cb, hfx, hwx⟩ (fun _ => trivial) ?_
            rotate_left
            · intro w' hT
              obtain ⟨t1, t2, t3, t4⟩ := hT
              go_simp
              (try rw [if_pos (by omega)])
              (try with_reducible rfl)
            rotate_left
            (try simp only [Act.put, List.setIfInBounds_toArray, List.set_cons_zero, List.set_cons_succ])
            refine wpKeep_takeT (i := 6) (oi := ⟨some 64, _, _, _, _, _⟩) (v := ?_) rfl (by kernel_rfl) (by kernel_rfl) (by kernel_rfl) (by kernel_rfl) (fun _ _ _ h => h) (Or.inl ⟨by rfl, ?_⟩) ⟨ca, cb, hfx, hwx⟩ (fun _ => trivial) ?_
            rotate_left
            · intro w' hT
              obtain ⟨t1, t2, t3, t4⟩ := hT
              go_simp
              (try rw [if_pos (by omega)])
              (try with_reducible rfl)
            rotate_left
            (try simp only [Act.put, List.setIfInBounds_toArray, List.set_cons_zero, List.set_cons_succ])
            refine wpKeep_takeT (i := 7) (oi := ⟨some 65, _, _, _, _, _⟩) (v := ?_) rfl (by kernel_rfl) (by kernel_rfl) (by kernel_rfl) (by kernel_rfl) (fun _ _ _ h => h) (Or.inl ⟨by rfl, ?_⟩) ⟨ca, cb, hfx, hwx⟩ (fun _ => trivial) ?_
            rotate_left
            · intro w' hT
              obtain ⟨t1, t2, t3, t4⟩ := hT
              go_simp
              (try rw [if_pos (by omega)])
              (try with_reducible rfl)
            rotate_left
            (try simp only [Act.put, List.setIfInBounds_toArray, List.set_cons_zero, List.set_cons_succ])
            refine wpKeep_takeT (i := 8) (oi := ⟨some 66, _, _, _, _, _⟩) (v := ?_) rfl (by kernel_rfl) (by kernel_rfl) (by kernel_rfl) (by kernel_rfl) (fun _ _ _ h => h) (Or.inl ⟨by rfl, ?_⟩) ⟨ca, cb, hfx, hwx⟩ (fun _ => trivial) ?_
            rotate_left
            · intro w' hT
              obtain ⟨t1, t2, t3, t4⟩ := hT
              go_simp
              (try rw [if_pos (by omega)])
              (try with_reducible rfl)
            rotate_left
            (try simp only [Act.put, List.setIfInBounds_toArray, List.set_cons_zero, List.set_cons_succ])
            refine wpKeep_takeT (i := 9) (oi := ⟨some 67, _, _, _, _, _⟩) (v := ?_) rfl (by kernel_rfl) (by kernel_rfl) (by kernel_rfl) (by kernel_rfl) (fun _ _ _ h => h) (Or.inl ⟨by rfl, ?_⟩) ⟨ca, cb, hfx, hwx⟩ (fun _ => trivial) ?_
            rotate_left
            · intro w' hT
              obtain ⟨t1, t2, t3, t4⟩ := hT
              go_simp
              (try rw [if_pos (by omega)])
              (try with_reducible rfl)
            rotate_left
            (try simp only [Act.put, List.setIfInBounds_toArray, List.set_cons_zero, List.set_cons_succ])
            refine wpKeep_takeT (i := 10) (oi := ⟨some 68, _, _, _, _, _⟩) (v := ?_) rfl (by kernel_rfl) (by kernel_rfl) (by kernel_rfl) (by kernel_rfl) (fun _ _ _ h => h) (Or.inl ⟨by rfl, ?_⟩) ⟨ca, cb, hfx, hwx⟩ (fun _ => trivial) ?_
            rotate_left
            · intro w' hT
              obtain ⟨t1, t2, t3, t4⟩ := hT
              go_simp
              (try rw [if_pos (by omega)])
              (try with_reducible rfl)
            rotate_left
            (try simp only [Act.put, List.setIfInBounds_toArray, List.set_cons_zero, List.set_cons_succ])
            refine wpKeep_takeT (i := 11) (oi := ⟨some 69, _, _, _, _, _⟩) (v := ?_) rfl (by kernel_rfl) (by kernel_rfl) (by kernel_rfl) (by kernel_rfl) (fun _ _ _ h => h) (Or.inl ⟨by rfl, ?_⟩) ⟨ca, cb, hfx, hwx⟩ (fun _ => trivial) ?_
            rotate_left
            · intro w' hT
              obtain ⟨t1, t2, t3, t4⟩ := hT
              go_simp
              (try rw [if_pos (by omega)])
              (try with_reducible rfl)
            rotate_left
            (try simp only [Act.put, List.setIfInBounds_toArray, List.set_cons_zero, List.set_cons_succ])
            refine wpKeep_takeT (i := 12) (oi := ⟨some 70, _, _, _, _, _⟩) (v := ?_) rfl (by kernel_rfl) (by kernel_rfl) (by kernel_rfl) (by kernel_rfl) (fun _ _ _ h => h) (Or.inl ⟨by rfl, ?_⟩) ⟨ca, cb, hfx, hwx⟩ (fun _ => trivial) ?_
            rotate_left
            · intro w' hT
              obtain ⟨t1, t2, t3, t4⟩ := hT
              go_simp
              (try rw [if_pos (by omega)])
              (try with_reducible rfl)
            rotate_left
            (try simp only [Act.put, List.setIfInBounds_toArray, List.set_cons_zero, List.set_cons_succ])
            refine wpKeep_takeT (i := 13) (oi := ⟨some 71, _, _, _, _, _⟩) (v := ?_) rfl (by kernel_rfl) (by kernel_rfl) (by kernel_rfl) (by kernel_rfl) (fun _ _ _ h => h) (Or.inl ⟨by rfl, ?_⟩) ⟨ca, cb, hfx, hwx⟩ (fun _ => trivial) ?_
            rotate_left
            · intro w' hT
              obtain ⟨t1, t2, t3, t4⟩ := hT
              go_simp
              (try rw [if_pos (by omega)])
              (try with_reducible rfl)
            rotate_left
            (try simp only [Act.put, List.setIfInBounds_toArray, List.set_cons_zero, List.set_cons_succ])
            refine wpKeep_ready (rs := [14]) (by kernel_rfl) (by simp) ?_
            refine AllKeep.cons (o := ⟨some 72, _, _, _, _, _⟩) rfl (fun Kq hK => ?_) AllKeep.nil
            go_simp
            go_at_call 21
            refine (HSAME.out _ (Keeps.refl (fun _ => False) wr).drew).mono ?_
            rintro e w3 ⟨rfl, f0⟩
            have f : Fresh wr w3 := (Keeps.refl (fun _ => False) wr).drew.trans f0
            clear f0
            have ca3 := (f.cell (p := ⟨ob, 3, none⟩) hbl (fun h => h)).trans ca
            have cb3 := (f.cell (p := ⟨ob, 4, none⟩) hbl (fun h => h)).trans cb
            have hfx3 := (f.cell (p := ⟨gf, k, none⟩) hgf (fun h => h)).trans hfx
            have hwx3 := (f.cell (p := ⟨gw, k, none⟩) hgw (fun h => h)).trans hwx
            refine hK.out _ _ ⟨ca3, cb3, hfx3, hwx3⟩ (fun _ => trivial) ?_
            clear hK Kq
            (try simp only [Act.put, List.setIfInBounds_toArray, List.set_cons_zero, List.set_cons_succ])
            refine wpKeep_takeT (i := 15) (oi := ⟨some 6, _, _, _, _, _⟩) (v := ?_) rfl (by kernel_rfl) (by kernel_rfl) (by kernel_rfl) (by kernel_rfl) (fun _ _ _ h => h) (Or.inl ⟨by rfl, ?_⟩) ⟨ca3, cb3, hfx3, hwx3⟩ (fun _ => trivial) ?_
            rotate_left
            · intro w' hT
              obtain ⟨t1, t2, t3, t4⟩ := hT
              go_simp
              (try rw [if_pos (by omega)])
              (try with_reducible rfl)
            rotate_left
            (try simp only [Act.put, List.setIfInBounds_toArray, List.set_cons_zero, List.set_cons_succ])
            refine wpKeep_done (by kernel_rfl) ?_ _
            clear hfx hwx ca cb ca3 cb3 hfx3 hwx3
            go_wp2_with fail
            go_roundw
            case rel => exact ⟨k + 1, by go_num, by omega, fr.trans f⟩
            case measure => simp [intOf]; omega
          · obtain rfl : k = v.F2.length := by omega
            clear rF rW rF2 rW2
            go_wp2_with fail
            as_aux_lemma =>
              have hM0 : MarksT c wr G 0 v.F v.C := ⟨fun j x hj _ => by omega, fun j x l _ hv hl => (H.out.lw.free.lists j x l hv hl).keeps fr (fun _ h => h.elim) (fun _ _ h => h)⟩
              have K0 : Hid (Keeps (fun g => ∃ a, c g = fcolT a) w wr) := fr.mono fun _ _ h => h.elim
              have HM0 := hid hM0
              clear c1 c2 c3 c4 c5 c6 fr hM0 hlt hk fr0
              go_loopw [8] (fun i wr => ∃ i' : Nat, i = .int .i64 (i' : Int) ∧ i' ≤ v.F.length ∧ MarksT c wr G i' v.F v.C ∧ Keeps (fun g => ∃ a, c g = fcolT a) w wr) (fun i _ => v.F.length - (intOf i).toNat)
              case atStart => exact ⟨0, rfl, Nat.zero_le _, HM0.out, K0.out⟩
              case round =>
                clear HM0 K0 
                obtain ⟨i, rfl, hi, hm, kr⟩ := hrel
                obtain ⟨c1, c2, c3, c4, c5, c6, rF, rW, rF2, rW2⟩ := HC.out wr (kr.mono fun _ _ e => .inl e)
                by_cases hlt : i < v.F.length
                · as_aux_lemma =>
                  obtain ⟨x, hx⟩ : ∃ x, v.F[i]? = some x := ⟨v.F[i], by simp⟩
                  obtain ⟨l, hl⟩ : ∃ l, v.C[i]? = some l := ⟨v.C[i]'(by have := H.out.lw.free.lenC; omega), by simp⟩
                  have hp1 := hm.todo i x l (Nat.le_refl _) hx hl
                  have hls := H.out.lw.small l (List.mem_of_getElem? hl)
                  obtain ⟨xo, xc, rfl⟩ := hp1.slice
                  obtain ⟨gf, e1, hgf, hcf⟩ := ownsRow_cells rF (by omega)
                  subst e1
                  have hfx := hcf i _ hx
                  have hi0 : (0 : Int) ≤ (i : Int) := by omega
                  have hi1 : (i : Int) < (v.F.length : Int) := by omega
                  have HX := hid hx
                  have HM := hid hm
                  have KR := hid kr
                  have HP0 := hid (HPen.begin (us := markU (G + i)) hp1)
                  obtain ⟨q, hq⟩ : ∃ q, l.length = q := ⟨_, rfl⟩
                  rw [hq] at HP0 hfx hls
                  have hqb : (q : Int) ≤ 4096 := by omega
                  rw [hq] at HX
                  clear hx hl hm kr hp1 rF rW rF2 rW2 hcf hq
                  go_wp2_with fail
                  clear c1 c2 c3 c4 c5 c6 hfx
                  clear hgf
                  obtain ⟨w6, rfl⟩ : ∃ w6, w6 = wr := ⟨_, rfl⟩
                  go_loopw [9] (fun jj wk => ∃ j : Nat, jj = .int .i64 (j : Int) ∧ j ≤ q ∧ HPen c wk 9 1 (markU (G + i)) (fcolT i) (.slice xo q xc) q j ∧ Keeps (fun g => c g = fcolT i) w6 wk) (fun jj _ => q - (intOf jj).toNat)
                  case atStart => exact ⟨0, rfl, Nat.zero_le _, HP0.out, Keeps.refl _ _⟩
                  case round =>
                    obtain ⟨wk, rfl⟩ : ∃ wk, wk = wr := ⟨_, rfl⟩
                    obtain ⟨j, rfl, hj, hp, kk⟩ := hrel
                    have kw : Keeps (fun g => ∃ a, c g = fcolT a) w wk := KR.out.trans (kk.mono fun g _ e => ⟨i, e⟩)
                    obtain ⟨c1, c2, c3, c4, c5, c6, rF, rW, rF2, rW2⟩ := HC.out wk (kw.mono fun _ _ e => .inl e)
                    obtain ⟨gf2, e2, hgf2, hcf⟩ := ownsRow_cells rF (by omega)
                    simp only [Option.some.injEq, Addr.mk.injEq, and_true] at e2
                    subst e2
                    have hfx := hcf i _ HX.out
                    have HP := hid hp
                    have KK := hid kk
                    by_cases hjq : j < q
                    · as_aux_lemma =>
                      obtain ⟨g, cap, u, e, hgl, hcg, hcell, hfr⟩ := hp.cell hjq
                      simp only [Value.slice.injEq, true_and] at e
                      obtain ⟨rfl, rfl⟩ := e
                      have hj0 : (0 : Int) ≤ (j : Int) := by omega
                      have hj1 : (j : Int) < (q : Int) := by omega
                      have hmk := fun W => mark_sum G i (by omega) (by omega) W
                      have hbl : ob < wk.heap.size := World.block_lt_of_cell? wk _ c1
                      have hgob : ¬ (ob = g) := fun e => by have := H.out.cbox; rw [e, hcg] at this; unfold fcolT at this; omega
                      have hggf : ¬ (gf = g) := fun e => by
                        have h5 := H.out.lw.free.cfrow gf (by rw [EE.out.1]; rfl)
                        rw [e, hcg] at h5; unfold fcolT at h5; omega
                      clear hp kk kw rF rW rF2 rW2 hcf
                      go_wp2_with fail
                      refine wp_region_keep 14 (fun w' => w'.cell? ⟨ob, 1, none⟩ = some (.slice (some ⟨gf, 0, none⟩) v.F.length cpf) ∧ w'.cell? ⟨gf, i, none⟩ = some (.slice (some ⟨g, 0, none⟩) q xc)) (fun w' => w'.cell? ⟨g, j, none⟩ = some u ∧ w'.frozen? ⟨g, j, none⟩ = false) (fun j => !(j == 13)) (by kernel_rfl) (by kernel_rfl) ?_
                      (try (change wpKeep _ _ _ _ _ _ _ _ _ _ (World.drew _)))
                      refine wpKeep_takeT (i := 0) (oi := ⟨some 102, _, _, _, _, _⟩) (v := ?_) rfl (by kernel_rfl) (by kernel_rfl) (by kernel_rfl) (by kernel_rfl) (fun _ _ _ h => h) (Or.inl ⟨by rfl, ?_⟩) ⟨c1, hfx⟩ (fun _ => ⟨hcell, hfr⟩) ?_
                      rotate_left
                      · intro w' hT
                        obtain ⟨t1, t2⟩ := hT
                        go_simp
                        (try rw [if_pos (by omega)])
                        (try with_reducible rfl)
                      rotate_left
                      (try simp only [Act.put, List.setIfInBounds_toArray, List.set_cons_zero, List.set_cons_succ])
                      refine wpKeep_takeT (i := 1) (oi := ⟨some 103, _, _, _, _, _⟩) (v := ?_) rfl (by kernel_rfl) (by kernel_rfl) (by kernel_rfl) (by kernel_rfl) (fun _ _ _ h => h) (Or.inl ⟨by rfl, ?_⟩) ⟨c1, hfx⟩ (fun _ => ⟨hcell, hfr⟩) ?_
                      rotate_left
                      · intro w' hT
                        obtain ⟨t1, t2⟩ := hT
                        go_simp
                        (try rw [if_pos (by omega)])
                        (try with_reducible rfl)
                      rotate_left
                      (try simp only [Act.put, List.setIfInBounds_toArray, List.set_cons_zero, List.set_cons_succ])
                      refine wpKeep_takeT (i := 2) (oi := ⟨some 104, _, _, _, _, _⟩) (v := ?_) rfl (by kernel_rfl) (by kernel_rfl) (by kernel_rfl) (by kernel_rfl) (fun _ _ _ h => h) (Or.inl ⟨by rfl, ?_⟩) ⟨c1, hfx⟩ (fun _ => ⟨hcell, hfr⟩) ?_
                      rotate_left
                      · intro w' hT
                        obtain ⟨t1, t2⟩ := hT
                        go_simp
                        (try rw [if_pos (by omega)])
                        (try with_reducible rfl)
                      rotate_left
                      (try simp only [Act.put, List.setIfInBounds_toArray, List.set_cons_zero, List.set_cons_succ])
                      refine wpKeep_takeT (i := 3) (oi := ⟨some 105, _, _, _, _, _⟩) (v := ?_) rfl (by kernel_rfl) (by kernel_rfl) (by kernel_rfl) (by kernel_rfl) (fun _ _ _ h => h) (Or.inl ⟨by rfl, ?_⟩) ⟨c1, hfx⟩ (fun _ => ⟨hcell, hfr⟩) ?_
                      rotate_left
                      · intro w' hT
                        obtain ⟨t1, t2⟩ := hT
                        go_simp
                        (try rw [if_pos (by omega)])
                        (try with_reducible rfl)
                      rotate_left
                      (try simp only [Act.put, List.setIfInBounds_toArray, List.set_cons_zero, List.set_cons_succ])
                      refine wpKeep_takeT (i := 4) (oi := ⟨some 106, _, _, _, _, _⟩) (v := ?_) rfl (by kernel_rfl) (by kernel_rfl) (by kernel_rfl) (by kernel_rfl) (fun _ _ _ h => h) (Or.inl ⟨by rfl, ?_⟩) ⟨c1, hfx⟩ (fun _ => ⟨hcell, hfr⟩) ?_
                      rotate_left
                      · intro w' hT
                        obtain ⟨t1, t2⟩ := hT
                        go_simp
                        (try rw [if_pos (by omega)])
                        (try with_reducible rfl)
                      rotate_left
                      (try simp only [Act.put, List.setIfInBounds_toArray, List.set_cons_zero, List.set_cons_succ])
                      refine wpKeep_takeT (i := 5) (oi := ⟨some 107, _, _, _, _, _⟩) (v := ?_) rfl (by kernel_rfl) (by kernel_rfl) (by kernel_rfl) (by kernel_rfl) (fun _ _ _ h => h) (Or.inl ⟨by rfl, ?_⟩) ⟨c1, hfx⟩ (fun _ => ⟨hcell, hfr⟩) ?_
                      rotate_left
                      · intro w' hT
                        obtain ⟨t1, t2⟩ := hT
                        go_simp
                        (try rw [if_pos (by omega)])
                        (try with_reducible rfl)
                      rotate_left
                      (try simp only [Act.put, List.setIfInBounds_toArray, List.set_cons_zero, List.set_cons_succ])
                      refine wpKeep_takeT (i := 6) (oi := ⟨some 108, _, _, _, _, _⟩) (v := ?_) rfl (by kernel_rfl) (by kernel_rfl) (by kernel_rfl) (by kernel_rfl) (fun _ _ _ h => h) (Or.inl ⟨by rfl, ?_⟩) ⟨c1, hfx⟩ (fun _ => ⟨hcell, hfr⟩) ?_
                      rotate_left
                      · intro w' hT
                        obtain ⟨t1, t2⟩ := hT
                        go_simp
                        (try rw [if_pos (by omega)])
                        (try with_reducible rfl)
                      rotate_left
                      (try simp only [Act.put, List.setIfInBounds_toArray, List.set_cons_zero, List.set_cons_succ])
                      refine wpKeep_takeT (i := 7) (oi := ⟨some 109, _, _, _, _, _⟩) (v := ?_) rfl (by kernel_rfl) (by kernel_rfl) (by kernel_rfl) (by kernel_rfl) (fun _ _ _ h => h) (Or.inl ⟨by rfl, ?_⟩) ⟨c1, hfx⟩ (fun _ => ⟨hcell, hfr⟩) ?_
                      rotate_left
                      · intro w' hT
                        obtain ⟨t1, t2⟩ := hT
                        go_simp
                        (try rw [if_pos (by omega)])
                        (try with_reducible rfl)
                      rotate_left
                      (try simp only [Act.put, List.setIfInBounds_toArray, List.set_cons_zero, List.set_cons_succ])
                      refine wpKeep_takeT (i := 8) (oi := ⟨some 110, _, _, _, _, _⟩) (v := ?_) rfl (by kernel_rfl) (by kernel_rfl) (by kernel_rfl) (by kernel_rfl) (fun _ _ _ h => h) (Or.inl ⟨by rfl, ?_⟩) ⟨c1, hfx⟩ (fun _ => ⟨hcell, hfr⟩) ?_
                      rotate_left
                      · intro w' hT
                        obtain ⟨t1, t2⟩ := hT
                        go_simp
                        (try rw [if_pos (by omega)])
                        (try with_reducible rfl)
                      rotate_left
                      (try simp only [Act.put, List.setIfInBounds_toArray, List.set_cons_zero, List.set_cons_succ])
                      refine wpKeep_takeT (i := 9) (oi := ⟨some 111, _, _, _, _, _⟩) (v := ?_) rfl (by kernel_rfl) (by kernel_rfl) (by kernel_rfl) (by kernel_rfl) (fun _ _ _ h => h) (Or.inl ⟨by rfl, ?_⟩) ⟨c1, hfx⟩ (fun _ => ⟨hcell, hfr⟩) ?_
                      rotate_left
                      · intro w' hT
                        obtain ⟨t1, t2⟩ := hT
                        go_simp
                        (try rw [if_pos (by omega)])
                        (try with_reducible rfl)
                      rotate_left
                      (try simp only [Act.put, List.setIfInBounds_toArray, List.set_cons_zero, List.set_cons_succ])
                      refine wpKeep_takeT (i := 10) (oi := ⟨some 112, _, _, _, _, _⟩) (v := ?_) rfl (by kernel_rfl) (by kernel_rfl) (by kernel_rfl) (by kernel_rfl) (fun _ _ _ h => h) (Or.inl ⟨by rfl, ?_⟩) ⟨c1, hfx⟩ (fun _ => ⟨hcell, hfr⟩) ?_
                      rotate_left
                      · intro w' hT
                        obtain ⟨t1, t2⟩ := hT
                        go_simp
                        (try rw [if_pos (by omega)])
                        (try with_reducible rfl)
                      rotate_left
                      (try simp only [Act.put, List.setIfInBounds_toArray, List.set_cons_zero, List.set_cons_succ])
                      refine wpKeep_ready (rs := [11]) (by kernel_rfl) (by simp) ?_
                      refine AllKeep.cons (o := ⟨some 113, _, _, _, _, _⟩) rfl (fun Kq hK => ?_) AllKeep.nil
                      go_simp
                      go_at_call 46
                      refine (hmk _).mono ?_
                      rintro e w3 ⟨rfl, f0⟩
                      have f : Fresh wk w3 := (Keeps.refl (fun _ => False) wk).drew.trans f0
                      clear f0
                      have c13 := (f.cell (p := ⟨ob, 1, none⟩) hbl (fun h => h)).trans c1
                      have hfx3 := (f.cell (p := ⟨gf, i, none⟩) hgf2 (fun h => h)).trans hfx
                      have hcell3 := (f.cell (p := ⟨g, j, none⟩) hgl (fun h => h)).trans hcell
                      have hfr3 := (f.frozen (p := ⟨g, j, none⟩) hgl (fun h => h)).trans hfr
                      refine hK.out _ _ ⟨c13, hfx3⟩ (fun _ => ⟨hcell3, hfr3⟩) ?_
                      clear hK Kq
                      (try simp only [Act.put, List.setIfInBounds_toArray, List.set_cons_zero, List.set_cons_succ])
                      refine wpKeep_takeT (i := 12) (oi := ⟨some 114, _, _, _, _, _⟩) (v := ?_) rfl (by kernel_rfl) (by kernel_rfl) (by kernel_rfl) (by kernel_rfl) (fun _ _ _ h => h) (Or.inl ⟨by rfl, ?_⟩) ⟨c13, hfx3⟩ (fun _ => ⟨hcell3, hfr3⟩) ?_
                      rotate_left
                      · intro w' hT
                        obtain ⟨t1, t2⟩ := hT
                        go_simp
                        (try rw [if_pos (by omega)])
                        (try with_reducible rfl)
                      rotate_left
                      (try simp only [Act.put, List.setIfInBounds_toArray, List.set_cons_zero, List.set_cons_succ])
                      refine wpKeep_ready (rs := [13]) (by kernel_rfl) (by simp) ?_
                      refine AllKeep.cons (o := ⟨none, _, _, _, _, _⟩) rfl (fun Kq hK => ?_) AllKeep.nil
                      have kset : Keeps (fun q => q = g) w3 (w3.setCell ⟨g, j, none⟩ (.string (str (markL (G + i))))) := (Keeps.refl (fun q => q = g) w3).setCell (p := ⟨g, j, none⟩) (fun _ => rfl) _
                      have c14 := (kset.cell (p := ⟨ob, 1, none⟩) (Nat.lt_of_lt_of_le hbl f.size) hgob).trans c13
                      have hfx4 := (kset.cell (p := ⟨gf, i, none⟩) (Nat.lt_of_lt_of_le hgf2 f.size) hggf).trans hfx3
                      go_simp
                      refine hK.out _ _ ⟨c14, hfx4⟩ (not_early (by kernel_rfl)) ?_
                      clear hK Kq
                      (try simp only [Act.put, List.setIfInBounds_toArray, List.set_cons_zero, List.set_cons_succ])
                      refine wpKeep_done (by kernel_rfl) ?_ _
                      have HP3 := hid ((HP.out.fresh f).put1 (u := .string (str (markL (G + i)))) hjq)
                      have KK3 := hid ((KK.out.trans (f.mono fun _ _ h => h.elim)).setCell (p := ⟨g, j, none⟩) (fun _ => hcg) (.string (str (markL (G + i)))))
                      clear c1 c2 c3 c4 c5 c6 hfx hcell hfr c13 hfx3 hcell3 hfr3 c14 hfx4 kset
                      go_wp2_with fail
                      go_roundw
                      case rel => exact ⟨j + 1, by go_num, by omega, HP3.out, KK3.out⟩
                      case measure => simp [intOf]; omega
                    · obtain rfl : j = q := by omega
                      have hnj : ¬ (j : Int) < (j : Int) := by omega
                      have hM2 : MarksT c wk G (i + 1) v.F v.C := by
                        obtain ⟨q1, q2⟩ := HM.out.turn fcolT_inj kk (fun g h => h)
                        refine ⟨fun a x ha hv => ?_, fun a x l ha hv hl => q2 a x l (by omega) hv hl⟩
                        by_cases e : a = i
                        · subst e
                          rw [HX.out] at hv
                          injection hv with hv
                          subst hv
                          exact ⟨j, hls, hp.fin rfl⟩
                        · exact q1 a x (by omega) hv
                      have HM2 := hid hM2
                      have KW := hid kw
                      clear hp kk kw rF rW rF2 rW2 hcf hM2
                      go_wp2_with fail
                      go_roundw
                      case rel => exact ⟨i + 1, by go_num, by omega, HM2.out, KW.out⟩
                      case measure => simp [intOf]; omega
                · obtain rfl : i = v.F.length := by omega
                  clear rF rW rF2 rW2
                  have HM1T := hid hm
                  have K1 := hid kr
                  clear hm kr
                  go_wp2_with fail
                  as_aux_lemma =>
                    have hW0 : MarksW c wr G2 0 v.F2 v.C2 := ⟨fun j x hj _ => by omega, fun j x l _ hv hl => (H.out.lw.freeW.lists j x l hv hl).keeps K1.out (fun g ⟨a, q⟩ _ e => by rw [e] at q; unfold fcolT fcolW at q; omega) (fun _ _ h => h)⟩
                    have HM0 := hid hW0
                    have K0 : Hid (Keeps (fun g => (∃ a, c g = fcolT a) ∨ ∃ a, c g = fcolW a) w wr) := K1.out.mono fun _ _ e => .inl e
                    clear hW0 K1 c1 c2 c3 c4 c5 c6 hlt hi
                    go_loopw [11] (fun i wr => ∃ i' : Nat, i = .int .i64 (i' : Int) ∧ i' ≤ v.F2.length ∧ MarksW c wr G2 i' v.F2 v.C2 ∧ MarksT c wr G v.F.length v.F v.C ∧ Keeps (fun g => (∃ a, c g = fcolT a) ∨ ∃ a, c g = fcolW a) w wr) (fun i _ => v.F2.length - (intOf i).toNat)
                    case atStart => exact ⟨0, rfl, Nat.zero_le _, HM0.out, HM1T.out, K0.out⟩
                    case round =>
                      clear HM0 K0 HM1T
                      obtain ⟨i, rfl, hi, hm, HMTT, kr⟩ := hrel
                      replace HMTT := hid HMTT
                      obtain ⟨c1, c2, c3, c4, c5, c6, rF, rW, rF2, rW2⟩ := HC.out wr (kr)
                      by_cases hlt : i < v.F2.length
                      · as_aux_lemma =>
                        obtain ⟨x, hx⟩ : ∃ x, v.F2[i]? = some x := ⟨v.F2[i], by simp⟩
                        obtain ⟨l, hl⟩ : ∃ l, v.C2[i]? = some l := ⟨v.C2[i]'(by have := H.out.lw.freeW.lenC; omega), by simp⟩
                        have hp1 := hm.todo i x l (Nat.le_refl _) hx hl
                        have hls := H.out.lw.smallW l (List.mem_of_getElem? hl)
                        obtain ⟨xo, xc, rfl⟩ := hp1.slice
                        obtain ⟨gf, e1, hgf, hcf⟩ := ownsRow_cells rF2 (by omega)
                        subst e1
                        have hfx := hcf i _ hx
                        have hi0 : (0 : Int) ≤ (i : Int) := by omega
                        have hi1 : (i : Int) < (v.F2.length : Int) := by omega
                        have HX := hid hx
                        have HM := hid hm
                        have KR := hid kr
                        have HP0 := hid (HPen.begin (us := markW (G2 + i)) hp1)
                        obtain ⟨q, hq⟩ : ∃ q, l.length = q := ⟨_, rfl⟩
                        rw [hq] at HP0 hfx hls
                        have hqb : (q : Int) ≤ 4096 := by omega
                        rw [hq] at HX
                        clear hx hl hm kr hp1 rF rW rF2 rW2 hcf hq
                        go_wp2_with fail
                        clear c1 c2 c3 c4 c5 c6 hfx
                        clear hgf
                        obtain ⟨w6, rfl⟩ : ∃ w6, w6 = wr := ⟨_, rfl⟩
                        go_loopw [12] (fun jj wk => ∃ j : Nat, jj = .int .i64 (j : Int) ∧ j ≤ q ∧ HPen c wk 69 2 (markW (G2 + i)) (fcolW i) (.slice xo q xc) q j ∧ Keeps (fun g => c g = fcolW i) w6 wk) (fun jj _ => q - (intOf jj).toNat)
                        case atStart => exact ⟨0, rfl, Nat.zero_le _, HP0.out, Keeps.refl _ _⟩
                        case round =>
                          obtain ⟨wk, rfl⟩ : ∃ wk, wk = wr := ⟨_, rfl⟩
                          obtain ⟨j, rfl, hj, hp, kk⟩ := hrel
                          have kw : Keeps (fun g => (∃ a, c g = fcolT a) ∨ ∃ a, c g = fcolW a) w wk := KR.out.trans (kk.mono fun g _ e => .inr ⟨i, e⟩)
                          obtain ⟨c1, c2, c3, c4, c5, c6, rF, rW, rF2, rW2⟩ := HC.out wk (kw)
                          obtain ⟨gf2, e2, hgf2, hcf⟩ := ownsRow_cells rF2 (by omega)
                          simp only [Option.some.injEq, Addr.mk.injEq, and_true] at e2
                          subst e2
                          have hfx := hcf i _ HX.out
                          have HP := hid hp
                          have KK := hid kk
                          by_cases hjq : j < q
                          · as_aux_lemma =>
                            obtain ⟨g, cap, u1, u2, e, hgl, hcg, hcell1, hcell2, hfr1, hfr2⟩ := hp.cell2 hjq
                            simp only [Value.slice.injEq, true_and] at e
                            obtain ⟨rfl, rfl⟩ := e
                            have hj0 : (0 : Int) ≤ (j : Int) := by omega
                            have hj1 : (j : Int) < (q : Int) := by omega
                            have hgob : ¬ (ob = g) := fun e => by have := H.out.cbox; rw [e, hcg] at this; unfold fcolW at this; omega
                            have hz : -1 - (G2 : Int) - (i : Int) = -1 - ((G2 + i : Nat) : Int) := by omega
                            have HP3 : Hid (HPen c ((wk.setCell ⟨g, j * 2, none⟩ (.int .i64 (-1 - (G2 : Int) - (i : Int)))).setCell ⟨g, j * 2 + 1, none⟩ (.string ⟨#[]⟩)) 69 2 (markW (G2 + i)) (fcolW i) (.slice (some ⟨g, 0, none⟩) q xc) q (j + 1)) := by
                              rw [hz]
                              exact HP.out.puts (us := markW (G2 + i)) rfl hjq
                            have KK3 := hid ((KK.out.setCell (p := ⟨g, j * 2, none⟩) (fun _ => hcg) (.int .i64 (-1 - (G2 : Int) - (i : Int)))).setCell (p := ⟨g, j * 2 + 1, none⟩) (fun _ => hcg) (.string ⟨#[]⟩))
                            clear hz
                            clear hp kk kw rF rW rF2 rW2 hcf
                            go_wp2_with fail
                            go_roundw
                            case rel => exact ⟨j + 1, by go_num, by omega, HP3.out, KK3.out⟩
                            case measure => simp [intOf]; omega
                          · obtain rfl : j = q := by omega
                            have hnj : ¬ (j : Int) < (j : Int) := by omega
                            have hM2 : MarksW c wk G2 (i + 1) v.F2 v.C2 := by
                              obtain ⟨q1, q2⟩ := HM.out.turn fcolW_inj kk (fun g h => h)
                              refine ⟨fun a x ha hv => ?_, fun a x l ha hv hl => q2 a x l (by omega) hv hl⟩
                              by_cases e : a = i
                              · subst e
                                rw [HX.out] at hv
                                injection hv with hv
                                subst hv
                                exact ⟨j, hls, hp.fin rfl⟩
                              · exact q1 a x (by omega) hv
                            have HM2 := hid hM2
                            have KW := hid kw
                            have HMT := hid (HMTT.out.keeps kk fun g hg a => by rw [hg]; unfold fcolT fcolW; omega)
                            clear hp kk kw rF rW rF2 rW2 hcf hM2
                            go_wp2_with fail
                            go_roundw
                            case rel => exact ⟨i + 1, by go_num, by omega, HM2.out, HMT.out, KW.out⟩
                            case measure => simp [intOf]; omega
                      · obtain rfl : i = v.F2.length := by omega
                        clear rF rW rF2 rW2
                        have HM1W := hid hm
                        have K1 := hid kr
                        clear hm kr
                        go_wp2_with fail
                        as_aux_lemma =>
                          obtain ⟨c0, v0, HS0⟩ : ∃ c0 v0, Hid (Mid B c0 wr ob v0 sd sx n G G2 0 0 w ∧ PackT c0 wr v0.dv v0.A ∧ PackW c0 wr v0.ev v0.Wd ∧ v0.A.length = 12 * (G + 0) ∧ v0.Wd.length = 12 * G2 ∧ Hid (v0.fv = v.fv ∧ v0.F = v.F ∧ v0.gv = v.gv ∧ v0.F2 = v.F2)) := by
                            obtain ⟨q1, q2, q3⟩ := Mid.start H.out K1.out HMTT.out HM1W.out
                            exact ⟨c, v, q1, q2, q3, HG.out.1, HG2.out.1, rfl, rfl, rfl, rfl⟩
                          have hGN := HG.out.2
                          have hGN2 := HG2.out.2
                          clear c1 c2 c3 c4 c5 c6 hlt hi HMTT HM1W K1 HC H
                          go_loopw [13] (fun ii wr => ∃ (i : Nat) (c1 : Nat → Nat) (v1 : WV), ii = .int .i64 (i : Int) ∧ i ≤ v.F.length ∧ Mid B c1 wr ob v1 sd sx n G G2 i 0 w ∧ PackT c1 wr v1.dv v1.A ∧ PackW c1 wr v1.ev v1.Wd ∧ v1.A.length = 12 * (G + i) ∧ v1.Wd.length = 12 * G2 ∧ Hid (v1.fv = v.fv ∧ v1.F = v.F ∧ v1.gv = v.gv ∧ v1.F2 = v.F2)) (fun ii _ => v.F.length - (intOf ii).toNat)
                          case atStart => exact ⟨0, c0, v0, rfl, Nat.zero_le _, HS0.out⟩
                          case round =>
                            clear HS0
                            obtain ⟨i, c1, v1, rfl, hi, hM, hPk, hPo, hlA, hlO, HEQ⟩ := hrel
                            obtain ⟨e1, e2, e3, e4⟩ := HEQ.out
                            by_cases hlt : i < v.F.length
                            · as_aux_lemma =>
                              obtain ⟨x, hx⟩ : ∃ x, v1.F[i]? = some x := ⟨v1.F[i]'(by rw [e2]; exact hlt), by simp⟩
                              obtain ⟨q, hq, hpx⟩ := hM.restT i x (Nat.le_refl _) hx
                              have hup := hPk.take.begin (n := G + i) hlA hpx.takeT
                              have hM1 := hM.takeT
                              have hPo1 := hPo.takeT (G := G) (i := i)
                              obtain ⟨xo, xc, rfl⟩ := hpx.slice
                              have hfr : wr.ownsRow 0 30 1 (.slice aof v.F.length cpf) v.F.length v1.F := by
                                have := hM.frow
                                rw [e1, e2, EE.out.1, ← e2] at this
                                rwa [e2] at this ⊢
                              obtain ⟨gf, ea, hgf, hcf⟩ := ownsRow_cells hfr (by omega)
                              have hfx := hcf i _ hx
                              have cf := (cell_at hM.box 1).trans (show _ = some (Value.slice (some ⟨gf, 0, none⟩) v.F.length cpf) by rw [← ea, ← EE.out.1, ← e1]; rfl)
                              have hi0 : (0 : Int) ≤ (i : Int) := by omega
                              have hi1 : (i : Int) < (v.F.length : Int) := by omega
                              have HS1 := hid (And.intro hM1 (And.intro hup hPo1))
                              have HL1 := hid (And.intro hlA hlO)
                              clear hM hPk hPo hlA hlO e1 e2 e3 e4 hx hpx hup hM1 hPo1 hfr hcf ea hgf
                              go_wp2_with fail
                              clear cf hfx
                              go_loopw [14, 15] (fun xl jj wk => ∃ (j : Nat) (c2 : Nat → Nat) (v2 : WV), jj = .int .i64 (j : Int) ∧ j ≤ 12 ∧ Mid B c2 wk ob v2 sd sx n G G2 (i + 1) 0 w ∧ UpT c2 wk v2.dv v2.A (G + i) (q + j) xl ∧ PackW c2 wk v2.ev v2.Wd ∧ v2.A.length = 12 * (G + i) + j ∧ v2.Wd.length = 12 * G2 ∧ Hid (v2.fv = v.fv ∧ v2.F = v.F ∧ v2.gv = v.gv ∧ v2.F2 = v.F2)) (fun _ jj _ => 12 - (intOf jj).toNat)
                              case atStart => exact ⟨0, _, v1, rfl, Nat.zero_le _, HS1.out.1, HS1.out.2.1, HS1.out.2.2, HL1.out.1, HL1.out.2, HEQ⟩
                              case round =>
                                clear HS1 HL1 HEQ
                                obtain ⟨wk, rfl⟩ : ∃ wk, wk = wr := ⟨_, rfl⟩
                                obtain ⟨j, c2, v2, rfl, hj, hM, hup, hPo, hlA, hlO, HEQ⟩ := hrel
                                obtain ⟨ax, cx, rfl⟩ := hup.x.slice
                                by_cases hj12 : j < 12
                                · as_aux_lemma =>
                                  obtain ⟨i0, hI, hz0, hz1, hz2⟩ := info_parts Try.infoText
                                  obtain ⟨i1, hI', hz0', hz1', hz2'⟩ := info_parts Try.infoListT
                                  have hjI : (j : Int) < 12 := by omega
                                  obtain ⟨aa, pa, eav⟩ := ownsRow_slice hup.row
                                  have c5 := (cell_at hM.box 5).trans (show _ = some (Value.slice aa v2.A.length pa) by rw [← eav]; rfl)
                                  have HMM := hid hM
                                  have HUP := hid hup
                                  have HPO := hid hPo
                                  have HLL := hid (And.intro hlA hlO)
                                  have hrow : wk.ownsRow 0 30 1 (.slice aa v2.A.length pa) v2.A.length v2.A := by rw [← eav]; exact hup.row
                                  have hA1 : v2.A.length ≤ 100000 := by omega
                                  clear hM hup hPo hlA hlO
                                  go_wp2_with (at_builtin; refine wpList_push rfl (.tmp 180) (.tmp 182) 44 rfl 30 i1 (.slice none 0 0) 24 Try.underlying44 hI' hz0' hz1' hz2' rfl wk hrow _ (by rfl) (by rfl) rfl (by omega) (by unfold maxLen; omega) ?_)
                                  intro v4 w4 ha
                                  obtain ⟨ao4, cp4, rfl⟩ := ownsRow_slice ha.row
                                  have b4 := ha.keeps.at_ HMM.out.box (fun e => by have := HUP.out.crow _ (by rw [eav]; exact e); have := HMM.out.cbox; omega)
                                  obtain ⟨c5v, c54⟩ : ∃ u, w4.cell? ⟨ob, 5, none⟩ = some u := ⟨_, (cell_at b4 5).trans rfl⟩
                                  have d54 := free_at b4 5
                                  obtain ⟨c3, n1, n2, n3⟩ := HMM.out.noteT HUP.out (by have := HLL.out.1; omega) (by omega) HPO.out (by rw [eav]; exact ha)
                                  have HN := hid (And.intro n1 (And.intro n2 n3))
                                  clear ha n1 n2 n3 b4 hrow c5
                                  go_wp2_with fail
                                  obtain ⟨WZ, hWZ⟩ : ∃ WZ, w4.setCell ⟨ob, 5, none⟩ (.slice ao4 (v2.A.length + 1) cp4) = WZ := ⟨_, rfl⟩
                                  rw [hWZ] at HN ⊢
                                  clear c54 d54 hWZ
                                  have hmk := mark_any (G + i) WZ
                                  rw [show ((G + i : Nat) : Int) = (G : Int) + (i : Int) by omega] at hmk
                                  refine hmk.mono ?_
                                  rintro e w5 ⟨rfl, f5⟩
                                  have hup5 := HN.out.2.1.fresh f5
                                  obtain ⟨y, hy, hyr, hyc⟩ := hup5.x
                                  have HM5 := hid (HN.out.1.fresh f5)
                                  have HP5 := hid (HN.out.2.2.fresh f5)
                                  have HU5 := hid hup5
                                  clear hup5 hyc f5 HN
                                  go_wp2_with (at_builtin; refine wpList_growC rfl (.tmp 186) (.tmp 191) 30 rfl 9 i0 (.string ⟨#[]⟩) 1 16 Try.underlying30 hI hz0 hz1 hz2 rfl (by decide) hy w5 hyr #[.string (str (markL (G + i)))] rfl (by rfl) (by rfl) (by simp [Value.oneCell']) (by omega) (by unfold maxLen; omega) ?_)
                                  intro v6 w6 hg
                                  obtain ⟨c6, m1, m2, m3⟩ := HM5.out.growT HU5.out hy hyr HP5.out hg
                                  obtain ⟨a6, p6, rfl⟩ := ownsRow_slice hg.app.row
                                  have HF6 := hid (And.intro m1 (And.intro m2 m3))
                                  have HLA : Hid ((v2.A ++ [Value.slice ax (q + j) cx]).length = 12 * (G + i) + (j + 1)) := by
                                    have := HLL.out.1
                                    rw [Hid, List.length_append, this]; rfl
                                  clear hg m1 m2 m3 hyr
                                  go_wp2_with fail
                                  go_roundw
                                  case rel => exact ⟨j + 1, c6, _, by go_num, by omega, HF6.out.1, HF6.out.2.1, HF6.out.2.2, HLA.out, HLL.out.2, HEQ⟩
                                  case measure => simp [intOf]; omega
                                · obtain rfl : j = 12 := by omega
                                  have HF := hid (And.intro hM (And.intro hup.fin hPo))
                                  have HLA : Hid (v2.A.length = 12 * (G + (i + 1))) := by rw [Hid, hlA]; omega
                                  have HLO := hid hlO
                                  clear hM hup hPo hlA hlO
                                  go_wp2_with fail
                                  go_roundw
                                  case rel => exact ⟨i + 1, c2, v2, by go_num, by omega, HF.out.1, HF.out.2.1, HF.out.2.2, HLA.out, HLO.out, HEQ⟩
                                  case measure => simp [intOf]; omega
                            · obtain rfl : i = v.F.length := by omega
                              have cf := (cell_at hM.box 1).trans (show _ = some (Value.slice aof v.F.length cpf) by rw [← EE.out.1, ← e1]; rfl)
                              have HS := hid (And.intro hM (And.intro hPk (And.intro hPo (And.intro hlA (And.intro hlO HEQ)))))
                              clear hM hPk hPo hlA hlO HEQ e1 e2 e3 e4
                              go_wp2_with fail
                              as_aux_lemma =>
                                obtain ⟨c0, v0, HS0⟩ : ∃ c0 v0, Hid (Mid B c0 wr ob v0 sd sx n G G2 v.F.length 0 w ∧ PackW c0 wr v0.ev v0.Wd ∧ PackT c0 wr v0.dv v0.A ∧ v0.Wd.length = 12 * (G2 + 0) ∧ v0.A.length = 12 * (G + v.F.length) ∧ Hid (v0.fv = v.fv ∧ v0.F = v.F ∧ v0.gv = v.gv ∧ v0.F2 = v.F2)) := by
                                  obtain ⟨q1, q2, q3, q4, q5, q6⟩ := HS.out
                                  exact ⟨c1, v1, q1, q3, q2, q5, q4, q6⟩
                                clear cf hlt hi HS
                                go_loopw [16] (fun ii wr => ∃ (i : Nat) (c1 : Nat → Nat) (v1 : WV), ii = .int .i64 (i : Int) ∧ i ≤ v.F2.length ∧ Mid B c1 wr ob v1 sd sx n G G2 v.F.length i w ∧ PackW c1 wr v1.ev v1.Wd ∧ PackT c1 wr v1.dv v1.A ∧ v1.Wd.length = 12 * (G2 + i) ∧ v1.A.length = 12 * (G + v.F.length) ∧ Hid (v1.fv = v.fv ∧ v1.F = v.F ∧ v1.gv = v.gv ∧ v1.F2 = v.F2)) (fun ii _ => v.F2.length - (intOf ii).toNat)
                                case atStart => exact ⟨0, c0, v0, rfl, Nat.zero_le _, HS0.out⟩
                                case round =>
                                  clear HS0
                                  obtain ⟨i, c1, v1, rfl, hi, hM, hPk, hPo, hlA, hlO, HEQ⟩ := hrel
                                  obtain ⟨e1, e2, e3, e4⟩ := HEQ.out
                                  by_cases hlt : i < v.F2.length
                                  · as_aux_lemma =>
                                    obtain ⟨x, hx⟩ : ∃ x, v1.F2[i]? = some x := ⟨v1.F2[i]'(by rw [e4]; exact hlt), by simp⟩
                                    obtain ⟨q, hq, hpx⟩ := hM.restW i x (Nat.le_refl _) hx
                                    have hup := hPk.take.begin (n := G2 + i) hlA hpx.takeW
                                    have hM1 := hM.takeW
                                    have hPo1 := hPo.takeW (G := G2) (i := i)
                                    obtain ⟨xo, xc, rfl⟩ := hpx.slice
                                    have hfr : wr.ownsRow 0 38 1 (.slice agf v.F2.length cgf) v.F2.length v1.F2 := by
                                      have := hM.grow
                                      rw [e3, e4, EE.out.2.1, ← e4] at this
                                      rwa [e4] at this ⊢
                                    obtain ⟨gf, ea, hgf, hcf⟩ := ownsRow_cells hfr (by omega)
                                    have hfx := hcf i _ hx
                                    have cf := (cell_at hM.box 3).trans (show _ = some (Value.slice (some ⟨gf, 0, none⟩) v.F2.length cgf) by rw [← ea, ← EE.out.2.1, ← e3]; rfl)
                                    have hi0 : (0 : Int) ≤ (i : Int) := by omega
                                    have hi1 : (i : Int) < (v.F2.length : Int) := by omega
                                    have HS1 := hid (And.intro hM1 (And.intro hup hPo1))
                                    have HL1 := hid (And.intro hlA hlO)
                                    clear hM hPk hPo hlA hlO e1 e2 e3 e4 hx hpx hup hM1 hPo1 hfr hcf ea hgf
                                    go_wp2_with fail
                                    clear cf hfx
                                    go_loopw [17, 18] (fun xl jj wk => ∃ (j : Nat) (c2 : Nat → Nat) (v2 : WV), jj = .int .i64 (j : Int) ∧ j ≤ 12 ∧ Mid B c2 wk ob v2 sd sx n G G2 v.F.length (i + 1) w ∧ UpW c2 wk v2.ev v2.Wd (G2 + i) (q + j) xl ∧ PackT c2 wk v2.dv v2.A ∧ v2.Wd.length = 12 * (G2 + i) + j ∧ v2.A.length = 12 * (G + v.F.length) ∧ Hid (v2.fv = v.fv ∧ v2.F = v.F ∧ v2.gv = v.gv ∧ v2.F2 = v.F2)) (fun _ jj _ => 12 - (intOf jj).toNat)
                                    case atStart => exact ⟨0, _, v1, rfl, Nat.zero_le _, HS1.out.1, HS1.out.2.1, HS1.out.2.2, HL1.out.1, HL1.out.2, HEQ⟩
                                    case round =>
                                      clear HS1 HL1 HEQ
                                      obtain ⟨wk, rfl⟩ : ∃ wk, wk = wr := ⟨_, rfl⟩
                                      obtain ⟨j, c2, v2, rfl, hj, hM, hup, hPo, hlA, hlO, HEQ⟩ := hrel
                                      obtain ⟨ax, cx, rfl⟩ := hup.x.slice
                                      by_cases hj12 : j < 12
                                      · as_aux_lemma =>
                                        obtain ⟨i0, hI, hz0, hz1, hz2⟩ := info_parts Try.infoWrite
                                        obtain ⟨i1, hI', hz0', hz1', hz2'⟩ := info_parts Try.infoListW
                                        have hjI : (j : Int) < 12 := by omega
                                        obtain ⟨aa, pa, eav⟩ := ownsRow_slice hup.row
                                        have c5 := (cell_at hM.box 6).trans (show _ = some (Value.slice aa v2.Wd.length pa) by rw [← eav]; rfl)
                                        have HMM := hid hM
                                        have HUP := hid hup
                                        have HPO := hid hPo
                                        have HLL := hid (And.intro hlA hlO)
                                        have hrow : wk.ownsRow 0 38 1 (.slice aa v2.Wd.length pa) v2.Wd.length v2.Wd := by rw [← eav]; exact hup.row
                                        have hA1 : v2.Wd.length ≤ 100000 := by omega
                                        clear hM hup hPo hlA hlO
                                        go_wp2_with (at_builtin; refine wpList_push rfl (.tmp 217) (.tmp 219) 45 rfl 38 i1 (.slice none 0 0) 24 Try.underlying45 hI' hz0' hz1' hz2' rfl wk hrow _ (by rfl) (by rfl) rfl (by omega) (by unfold maxLen; omega) ?_)
                                        intro v4 w4 ha
                                        obtain ⟨ao4, cp4, rfl⟩ := ownsRow_slice ha.row
                                        have b4 := ha.keeps.at_ HMM.out.box (fun e => by have := HUP.out.crow _ (by rw [eav]; exact e); have := HMM.out.cbox; omega)
                                        obtain ⟨c5v, c54⟩ : ∃ u, w4.cell? ⟨ob, 6, none⟩ = some u := ⟨_, (cell_at b4 6).trans rfl⟩
                                        have d54 := free_at b4 6
                                        obtain ⟨c3, n1, n2, n3⟩ := HMM.out.noteW HUP.out (by have := HLL.out.1; omega) (by omega) HPO.out (by rw [eav]; exact ha)
                                        have HN := hid (And.intro n1 (And.intro n2 n3))
                                        clear ha n1 n2 n3 b4 hrow c5
                                        obtain ⟨y, hy, hyr, hyc⟩ := HN.out.2.1.x
                                        have HM5 := hid HN.out.1
                                        have HP5 := hid HN.out.2.2
                                        have HU5 := hid HN.out.2.1
                                        clear hyc HN
                                        go_wp2_with (at_builtin; refine wpList_growC rfl (.tmp 223) (.tmp 229) 38 rfl 69 i0 (.agg #[.int .i64 0, .string ⟨#[]⟩]) 2 24 Try.underlying38 hI hz0 hz1 hz2 rfl (by decide) hy (w4.setCell ⟨ob, 6, none⟩ (.slice ao4 (v2.Wd.length + 1) cp4)) hyr #[.int .i64 (-1 - (G2 : Int) - (i : Int)), .string ⟨#[]⟩] rfl (by rfl) (by rw [show (w4.setCell ⟨ob, 6, none⟩ (.slice ao4 (v2.Wd.length + 1) cp4)).heap.size = w4.heap.size by simp]; rfl) (by simp [Value.oneCell']) (by omega) (by unfold maxLen; omega) ?_)
                                        intro v6 w6 hg
                                        have hmw : markW (G2 + i) = [.int .i64 (-1 - (G2 : Int) - (i : Int)), .string ⟨#[]⟩] := by
                                          unfold markW
                                          rw [show -1 - ((G2 + i : Nat) : Int) = -1 - (G2 : Int) - (i : Int) by omega]
                                          rfl
                                        have hg2 : Grown 69 2 (w4.setCell ⟨ob, 6, none⟩ (.slice ao4 (v2.Wd.length + 1) cp4)) w6 y v6 (q + j) (reps (q + j) (markW (G2 + i))) (markW (G2 + i)) := by
                                          have h := hg
                                          rw [hmw] at h ⊢
                                          exact h
                                        obtain ⟨c6, m1, m2, m3⟩ := HM5.out.growW HU5.out hy hyr HP5.out hg2
                                        obtain ⟨a6, p6, rfl⟩ := ownsRow_slice hg.app.row
                                        have HF6 := hid (And.intro m1 (And.intro m2 m3))
                                        have HLA : Hid ((v2.Wd ++ [Value.slice ax (q + j) cx]).length = 12 * (G2 + i) + (j + 1)) := by
                                          have := HLL.out.1
                                          rw [Hid, List.length_append, this]; rfl
                                        clear hg m1 m2 m3 hyr
                                        go_wp2_with fail
                                        go_roundw
                                        case rel => exact ⟨j + 1, c6, _, by go_num, by omega, HF6.out.1, HF6.out.2.1, HF6.out.2.2, HLA.out, HLL.out.2, HEQ⟩
                                        case measure => simp [intOf]; omega
                                      · obtain rfl : j = 12 := by omega
                                        have HF := hid (And.intro hM (And.intro hup.fin hPo))
                                        have HLA : Hid (v2.Wd.length = 12 * (G2 + (i + 1))) := by rw [Hid, hlA]; omega
                                        have HLO := hid hlO
                                        clear hM hup hPo hlA hlO
                                        go_wp2_with fail
                                        go_roundw
                                        case rel => exact ⟨i + 1, c2, v2, by go_num, by omega, HF.out.1, HF.out.2.1, HF.out.2.2, HLA.out, HLO.out, HEQ⟩
                                        case measure => simp [intOf]; omega
                                  · obtain rfl : i = v.F2.length := by omega
                                    have cf := (cell_at hM.box 3).trans (show _ = some (Value.slice agf v.F2.length cgf) by rw [← EE.out.2.1, ← e3]; rfl)
                                    obtain ⟨y1, x1⟩ : ∃ u, wr.cell? ⟨ob, 1, none⟩ = some u := ⟨_, (cell_at hM.box 1).trans rfl⟩
                                    obtain ⟨y2, x2⟩ : ∃ u, wr.cell? ⟨ob, 2, none⟩ = some u := ⟨_, (cell_at hM.box 2).trans rfl⟩
                                    obtain ⟨y4, x4⟩ : ∃ u, wr.cell? ⟨ob, 4, none⟩ = some u := ⟨_, (cell_at hM.box 4).trans rfl⟩
                                    have z1 := free_at hM.box 1
                                    have z2 := free_at hM.box 2
                                    have z3 := free_at hM.box 3
                                    have z4 := free_at hM.box 4
                                    have HS := hid (And.intro hM (And.intro hPk (And.intro hPo (And.intro hlA (And.intro hlO HEQ)))))
                                    clear hM hPk hPo hlA hlO HEQ e1 e2 e3 e4
                                    go_wp2_with fail
                                    as_aux_lemma =>
                                      obtain ⟨q1, q2, q3, q4, q5, q6⟩ := HS.out
                                      obtain ⟨e1, e2, e3, e4⟩ := q6.out
                                      have hfin := Mid.finish (N := N) (by rw [e2, e4]; exact q1) q3 q2 (by rw [e2]; exact q5) (by rw [e4]; exact q4) (by rw [e2]; omega) (by rw [e4]; omega) rfl
                                      obtain ⟨WF, hWF⟩ : ∃ WF, ((((wr.setCell ⟨ob, 1, none⟩ (.slice none 0 0)).setCell ⟨ob, 2, none⟩ (.slice none 0 0)).setCell ⟨ob, 3, none⟩ (.slice none 0 0)).setCell ⟨ob, 4, none⟩ (.slice none 0 0)) = WF := ⟨_, rfl⟩
                                      rw [hWF] at hfin ⊢
                                      obtain ⟨hdw, hkp⟩ := hfin
                                      obtain ⟨ad, pd, ed⟩ := ownsRow_slice hdw.lw.pack.row
                                      obtain ⟨ae, pe, ee⟩ := ownsRow_slice hdw.lw.packW.row
                                      have HCK : Hid (∀ W, Fresh WF W → W.cell? ⟨ob, 5, none⟩ = some (.slice ad v1.A.length pd) ∧ W.cell? ⟨ob, 6, none⟩ = some (.slice ae v1.Wd.length pe) ∧ PackT c1 W (.slice ad v1.A.length pd) v1.A ∧ PackW c1 W (.slice ae v1.Wd.length pe) v1.Wd) := fun W f => by
                                        have h2 := hdw.fresh f
                                        refine ⟨(cell_at h2.box 5).trans (by rw [← ed]; rfl), (cell_at h2.box 6).trans (by rw [← ee]; rfl), ?_, ?_⟩
                                        · rw [← ed]; exact h2.lw.pack
                                        · rw [← ee]; exact h2.lw.packW
                                      have hA5 : v1.A.length ≤ 12000 := by omega
                                      have hW5 : v1.Wd.length ≤ 12000 := by omega
                                      have hAI : (v1.A.length : Int) ≤ 12000 := by omega
                                      have hWI : (v1.Wd.length : Int) ≤ 12000 := by omega
                                      have HDW := hid hdw
                                      have HKP := hid hkp
                                      obtain ⟨c5, c6, -, -⟩ := HCK.out WF (Keeps.refl _ _)
                                      clear q1 q2 q3 q4 q5 q6 e1 e2 e3 e4 hdw hkp ed ee HS x1 x2 x4 z1 z2 z3 z4 cf hWF hlt hi EE
                                      go_loopw [19] (fun i wr => ∃ k : Nat, i = .int .i64 (k : Int) ∧ k ≤ v1.A.length ∧ Fresh WF wr) (fun i _ => v1.A.length - (intOf i).toNat)
                                      case atStart => exact ⟨0, rfl, Nat.zero_le _, Keeps.refl _ _⟩
                                      case round =>
                                        obtain ⟨k, rfl, hk, fr⟩ := hrel
                                        obtain ⟨c5, c6, hp, hp2⟩ := HCK.out wr fr
                                        by_cases hlt : k < v1.A.length
                                        · as_aux_lemma =>
                                          obtain ⟨x, hx⟩ : ∃ x, v1.A[k]? = some x := ⟨v1.A[k], by simp⟩
                                          obtain ⟨q, hq, hpen⟩ := hp.rows k x hx
                                          obtain ⟨ox, cx, rfl⟩ := hpen.slice
                                          obtain ⟨ga, ea, hgal, hcells⟩ := ownsRow_cells hp.row (by omega)
                                          subst ea
                                          have hcx := hcells k _ hx
                                          have hk0 : (0 : Int) ≤ (k : Int) := by omega
                                          have hk1 : (k : Int) < (v1.A.length : Int) := by omega
                                          have HX := hid hx
                                          clear hx hpen hp hp2 hcells
                                          go_wp2_with fail
                                          clear c5 c6 hcx hgal
                                          go_loopw [20] (fun i wr => ∃ j : Nat, i = .int .i64 (j : Int) ∧ j ≤ q ∧ Fresh WF wr) (fun i _ => q - (intOf i).toNat)
                                          case atStart => exact ⟨0, rfl, Nat.zero_le _, fr⟩
                                          case round =>
                                            clear fr
                                            obtain ⟨wk, rfl⟩ : ∃ wk, wk = wr := ⟨_, rfl⟩
                                            obtain ⟨j, rfl, hj, f2⟩ := hrel
                                            obtain ⟨c5, c6, hp, hp2⟩ := HCK.out wk f2
                                            obtain ⟨ga2, e2, hgal, hcells⟩ := ownsRow_cells hp.row (by omega)
                                            simp only [Option.some.injEq, Addr.mk.injEq, and_true] at e2
                                            subst e2
                                            have hcx := hcells k _ HX.out
                                            obtain ⟨q2, hq2, hpen⟩ := hp.rows k _ HX.out
                                            obtain ⟨ox2, cx2, e3⟩ := hpen.slice
                                            simp only [Value.slice.injEq] at e3
                                            obtain ⟨rfl, rfl, rfl⟩ := e3
                                            by_cases hjk : j < q
                                            · obtain ⟨g, cap, e3, hgl, -, hgc⟩ := hpen.cells (by omega)
                                              simp only [Value.slice.injEq, true_and] at e3
                                              obtain ⟨rfl, rfl⟩ := e3
                                              have hqb : (q : Int) ≤ 5000 := by omega
                                              have hv := hgc j _ (reps_one _ q j hjk)
                                              have hj0 : (0 : Int) ≤ (j : Int) := by omega
                                              have hj1 : (j : Int) < (q : Int) := by omega
                                              have hmk := fun W => mark_quo k (by omega) W
                                              have hbl : ob < wk.heap.size := World.block_lt_of_cell? wk _ c5
                                              replace hv : wk.cell? ⟨g, j, none⟩ = some (.string (str (markL (k / 12)))) := hv
                                              generalize str (markL (k / 12)) = ms at hmk hv
                                              have hqm : (ms.toList != ms.toList) = false := by simp
                                              clear hp hp2 hcells hpen hgc HX hq
                                              go_wp2_with fail
                                              refine wp_region_keep 14 (fun w' => w'.cell? ⟨ob, 5, none⟩ = some (.slice (some ⟨ga, 0, none⟩) v1.A.length pd) ∧ w'.cell? ⟨ga, k, none⟩ = some (.slice (some ⟨g, 0, none⟩) q cx) ∧ w'.cell? ⟨g, j, none⟩ = some (.string ms)) (fun _ => True) (fun _ => true) (by kernel_rfl) (by kernel_rfl) ?_
                                              (try (change wpKeep _ _ _ _ _ _ _ _ _ _ (World.drew _)))
                                              refine wpKeep_takeT (i := 0) (oi := ⟨some 264, _, _, _, _, _⟩) (v := ?_) rfl (by kernel_rfl) (by kernel_rfl) (by kernel_rfl) (by kernel_rfl) (fun _ _ _ h => h) (Or.inl ⟨by rfl, ?_⟩) ⟨c5, hcx, hv⟩ (fun _ => trivial) ?_
                                              rotate_left
                                              · intro w' hT
                                                obtain ⟨t1, t2, t3⟩ := hT
                                                go_simp
                                                (try rw [if_pos (by omega)])
                                                (try with_reducible rfl)
                                              rotate_left
                                              (try simp only [Act.put, List.setIfInBounds_toArray, List.set_cons_zero, List.set_cons_succ])
                                              refine wpKeep_takeT (i := 1) (oi := ⟨some 265, _, _, _, _, _⟩) (v := ?_) rfl (by kernel_rfl) (by kernel_rfl) (by kernel_rfl) (by kernel_rfl) (fun _ _ _ h => h) (Or.inl ⟨by rfl, ?_⟩) ⟨c5, hcx, hv⟩ (fun _ => trivial) ?_
                                              rotate_left
                                              · intro w' hT
                                                obtain ⟨t1, t2, t3⟩ := hT
                                                go_simp
                                                (try rw [if_pos (by omega)])
                                                (try with_reducible rfl)
                                              rotate_left
                                              (try simp only [Act.put, List.setIfInBounds_toArray, List.set_cons_zero, List.set_cons_succ])
                                              refine wpKeep_takeT (i := 2) (oi := ⟨some 266, _, _, _, _, _⟩) (v := ?_) rfl (by kernel_rfl) (by kernel_rfl) (by kernel_rfl) (by kernel_rfl) (fun _ _ _ h => h) (Or.inl ⟨by rfl, ?_⟩) ⟨c5, hcx, hv⟩ (fun _ => trivial) ?_
                                              rotate_left
                                              · intro w' hT
                                                obtain ⟨t1, t2, t3⟩ := hT
                                                go_simp
                                                (try rw [if_pos (by omega)])
                                                (try with_reducible rfl)
                                              rotate_left
                                              (try simp only [Act.put, List.setIfInBounds_toArray, List.set_cons_zero, List.set_cons_succ])
                                              refine wpKeep_takeT (i := 3) (oi := ⟨some 267, _, _, _, _, _⟩) (v := ?_) rfl (by kernel_rfl) (by kernel_rfl) (by kernel_rfl) (by kernel_rfl) (fun _ _ _ h => h) (Or.inl ⟨by rfl, ?_⟩) ⟨c5, hcx, hv⟩ (fun _ => trivial) ?_
                                              rotate_left
                                              · intro w' hT
                                                obtain ⟨t1, t2, t3⟩ := hT
                                                go_simp
                                                (try rw [if_pos (by omega)])
                                                (try with_reducible rfl)
                                              rotate_left
                                              (try simp only [Act.put, List.setIfInBounds_toArray, List.set_cons_zero, List.set_cons_succ])
                                              refine wpKeep_takeT (i := 4) (oi := ⟨some 268, _, _, _, _, _⟩) (v := ?_) rfl (by kernel_rfl) (by kernel_rfl) (by kernel_rfl) (by kernel_rfl) (fun _ _ _ h => h) (Or.inl ⟨by rfl, ?_⟩) ⟨c5, hcx, hv⟩ (fun _ => trivial) ?_
                                              rotate_left
                                              · intro w' hT
                                                obtain ⟨t1, t2, t3⟩ := hT
                                                go_simp
                                                (try rw [if_pos (by omega)])
                                                (try with_reducible rfl)
                                              rotate_left
                                              (try simp only [Act.put, List.setIfInBounds_toArray, List.set_cons_zero, List.set_cons_succ])
                                              refine wpKeep_takeT (i := 5) (oi := ⟨some 269, _, _, _, _, _⟩) (v := ?_) rfl (by kernel_rfl) (by kernel_rfl) (by kernel_rfl) (by kernel_rfl) (fun _ _ _ h => h) (Or.inl ⟨by rfl, ?_⟩) ⟨c5, hcx, hv⟩ (fun _ => trivial) ?_
                                              rotate_left
                                              · intro w' hT
                                                obtain ⟨t1, t2, t3⟩ := hT
                                                go_simp
                                                (try rw [if_pos (by omega)])
                                                (try with_reducible rfl)
                                              rotate_left
                                              (try simp only [Act.put, List.setIfInBounds_toArray, List.set_cons_zero, List.set_cons_succ])
                                              refine wpKeep_takeT (i := 6) (oi := ⟨some 270, _, _, _, _, _⟩) (v := ?_) rfl (by kernel_rfl) (by kernel_rfl) (by kernel_rfl) (by kernel_rfl) (fun _ _ _ h => h) (Or.inl ⟨by rfl, ?_⟩) ⟨c5, hcx, hv⟩ (fun _ => trivial) ?_
                                              rotate_left
                                              · intro w' hT
                                                obtain ⟨t1, t2, t3⟩ := hT
                                                go_simp
                                                (try rw [if_pos (by omega)])
                                                (try with_reducible rfl)
                                              rotate_left
                                              (try simp only [Act.put, List.setIfInBounds_toArray, List.set_cons_zero, List.set_cons_succ])
                                              refine wpKeep_takeT (i := 7) (oi := ⟨some 271, _, _, _, _, _⟩) (v := ?_) rfl (by kernel_rfl) (by kernel_rfl) (by kernel_rfl) (by kernel_rfl) (fun _ _ _ h => h) (Or.inl ⟨by rfl, ?_⟩) ⟨c5, hcx, hv⟩ (fun _ => trivial) ?_
                                              rotate_left
                                              · intro w' hT
                                                obtain ⟨t1, t2, t3⟩ := hT
                                                go_simp
                                                (try rw [if_pos (by omega)])
                                                (try with_reducible rfl)
                                              rotate_left
                                              (try simp only [Act.put, List.setIfInBounds_toArray, List.set_cons_zero, List.set_cons_succ])
                                              refine wpKeep_takeT (i := 8) (oi := ⟨some 272, _, _, _, _, _⟩) (v := ?_) rfl (by kernel_rfl) (by kernel_rfl) (by kernel_rfl) (by kernel_rfl) (fun _ _ _ h => h) (Or.inl ⟨by rfl, ?_⟩) ⟨c5, hcx, hv⟩ (fun _ => trivial) ?_
                                              rotate_left
                                              · intro w' hT
                                                obtain ⟨t1, t2, t3⟩ := hT
                                                go_simp
                                                (try rw [if_pos (by omega)])
                                                (try with_reducible rfl)
                                              rotate_left
                                              (try simp only [Act.put, List.setIfInBounds_toArray, List.set_cons_zero, List.set_cons_succ])
                                              refine wpKeep_takeT (i := 9) (oi := ⟨some 273, _, _, _, _, _⟩) (v := ?_) rfl (by kernel_rfl) (by kernel_rfl) (by kernel_rfl) (by kernel_rfl) (fun _ _ _ h => h) (Or.inl ⟨by rfl, ?_⟩) ⟨c5, hcx, hv⟩ (fun _ => trivial) ?_
                                              rotate_left
                                              · intro w' hT
                                                obtain ⟨t1, t2, t3⟩ := hT
                                                go_simp
                                                (try rw [if_pos (by omega)])
                                                (try with_reducible rfl)
                                              rotate_left
                                              (try simp only [Act.put, List.setIfInBounds_toArray, List.set_cons_zero, List.set_cons_succ])
                                              refine wpKeep_takeT (i := 10) (oi := ⟨some 274, _, _, _, _, _⟩) (v := ?_) rfl (by kernel_rfl) (by kernel_rfl) (by kernel_rfl) (by kernel_rfl) (fun _ _ _ h => h) (Or.inl ⟨by rfl, ?_⟩) ⟨c5, hcx, hv⟩ (fun _ => trivial) ?_
                                              rotate_left
                                              · intro w' hT
                                                obtain ⟨t1, t2, t3⟩ := hT
                                                go_simp
                                                (try rw [if_pos (by omega)])
                                                (try with_reducible rfl)
                                              rotate_left
                                              (try simp only [Act.put, List.setIfInBounds_toArray, List.set_cons_zero, List.set_cons_succ])
                                              refine wpKeep_takeT (i := 11) (oi := ⟨some 275, _, _, _, _, _⟩) (v := ?_) rfl (by kernel_rfl) (by kernel_rfl) (by kernel_rfl) (by kernel_rfl) (fun _ _ _ h => h) (Or.inl ⟨by rfl, ?_⟩) ⟨c5, hcx, hv⟩ (fun _ => trivial) ?_
                                              rotate_left
                                              · intro w' hT
                                                obtain ⟨t1, t2, t3⟩ := hT
                                                go_simp
                                                (try rw [if_pos (by omega)])
                                                (try with_reducible rfl)
                                              rotate_left
                                              (try simp only [Act.put, List.setIfInBounds_toArray, List.set_cons_zero, List.set_cons_succ])
                                              refine wpKeep_ready (rs := [12]) (by kernel_rfl) (by simp) ?_
                                              refine AllKeep.cons (o := ⟨some 276, _, _, _, _, _⟩) rfl (fun Kq hK => ?_) AllKeep.nil
                                              go_simp
                                              go_at_call 46
                                              refine (hmk _).mono ?_
                                              rintro e w3 ⟨rfl, f0⟩
                                              have f : Fresh wk w3 := (Keeps.refl (fun _ => False) wk).drew.trans f0
                                              clear f0
                                              have c53 := (f.cell (p := ⟨ob, 5, none⟩) hbl (fun h => h)).trans c5
                                              have hcx3 := (f.cell (p := ⟨ga, k, none⟩) hgal (fun h => h)).trans hcx
                                              have hv3 := (f.cell (p := ⟨g, j, none⟩) hgl (fun h => h)).trans hv
                                              refine hK.out _ _ ⟨c53, hcx3, hv3⟩ (fun _ => trivial) ?_
                                              clear hK Kq
                                              (try simp only [Act.put, List.setIfInBounds_toArray, List.set_cons_zero, List.set_cons_succ])
                                              refine wpKeep_takeT (i := 13) (oi := ⟨some 277, _, _, _, _, _⟩) (v := ?_) rfl (by kernel_rfl) (by kernel_rfl) (by kernel_rfl) (by kernel_rfl) (fun _ _ _ h => h) (Or.inl ⟨by rfl, ?_⟩) ⟨c53, hcx3, hv3⟩ (fun _ => trivial) ?_
                                              rotate_left
                                              · intro w' hT
                                                obtain ⟨t1, t2, t3⟩ := hT
                                                go_simp
                                                (try rw [if_pos (by omega)])
                                                (try with_reducible rfl)
                                              rotate_left
                                              (try simp only [Act.put, List.setIfInBounds_toArray, List.set_cons_zero, List.set_cons_succ])
                                              refine wpKeep_done (by kernel_rfl) ?_ _
                                              clear c5 c6 hcx hv c53 hcx3 hv3
                                              go_wp2_with fail
                                              go_roundw
                                              case rel => exact ⟨j + 1, by go_num, by omega, f2.trans f⟩
                                              case measure => simp [intOf]; omega
                                            · obtain rfl : j = q := by omega
                                              have hnj : ¬ (j : Int) < (j : Int) := by omega
                                              clear hp hp2 hcells hpen HX
                                              go_wp2_with fail
                                              go_roundw
                                              case rel => exact ⟨k + 1, by go_num, by omega, f2⟩
                                              case measure => simp [intOf]; omega
                                        · obtain rfl : k = v1.A.length := by omega
                                          clear hp hp2
                                          go_wp2_with fail
                                          as_aux_lemma =>
                                            have HFR := hid fr
                                            clear fr c5 c6 hlt hk
                                            go_loopw [21] (fun i wr => ∃ k : Nat, i = .int .i64 (k : Int) ∧ k ≤ v1.Wd.length ∧ Fresh WF wr) (fun i _ => v1.Wd.length - (intOf i).toNat)
                                            case atStart => exact ⟨0, rfl, Nat.zero_le _, HFR.out⟩
                                            case round =>
                                              obtain ⟨k, rfl, hk, fr⟩ := hrel
                                              obtain ⟨c5, c6, hp, hp2⟩ := HCK.out wr fr
                                              by_cases hlt : k < v1.Wd.length
                                              · as_aux_lemma =>
                                                obtain ⟨x, hx⟩ : ∃ x, v1.Wd[k]? = some x := ⟨v1.Wd[k], by simp⟩
                                                obtain ⟨q, hq, hpen⟩ := hp2.rows k x hx
                                                obtain ⟨ox, cx, rfl⟩ := hpen.slice
                                                obtain ⟨ga, ea, hgal, hcells⟩ := ownsRow_cells hp2.row (by omega)
                                                subst ea
                                                have hcx := hcells k _ hx
                                                have hk0 : (0 : Int) ≤ (k : Int) := by omega
                                                have hk1 : (k : Int) < (v1.Wd.length : Int) := by omega
                                                have HX := hid hx
                                                clear hx hpen hp hp2 hcells
                                                go_wp2_with fail
                                                clear c5 c6 hcx hgal
                                                go_loopw [22] (fun i wr => ∃ j : Nat, i = .int .i64 (j : Int) ∧ j ≤ q ∧ Fresh WF wr) (fun i _ => q - (intOf i).toNat)
                                                case atStart => exact ⟨0, rfl, Nat.zero_le _, fr⟩
                                                case round =>
                                                  clear fr
                                                  obtain ⟨wk, rfl⟩ : ∃ wk, wk = wr := ⟨_, rfl⟩
                                                  obtain ⟨j, rfl, hj, f2⟩ := hrel
                                                  obtain ⟨c5, c6, hp, hp2⟩ := HCK.out wk f2
                                                  obtain ⟨ga2, e2, hgal, hcells⟩ := ownsRow_cells hp2.row (by omega)
                                                  simp only [Option.some.injEq, Addr.mk.injEq, and_true] at e2
                                                  subst e2
                                                  have hcx := hcells k _ HX.out
                                                  obtain ⟨q2, hq2, hpen⟩ := hp2.rows k _ HX.out
                                                  obtain ⟨ox2, cx2, e3⟩ := hpen.slice
                                                  simp only [Value.slice.injEq] at e3
                                                  obtain ⟨rfl, rfl, rfl⟩ := e3
                                                  by_cases hjk : j < q
                                                  · obtain ⟨g, cap, e3, hgl, -, hgc⟩ := hpen.cells (by omega)
                                                    simp only [Value.slice.injEq, true_and] at e3
                                                    obtain ⟨rfl, rfl⟩ := e3
                                                    have hqb : (q : Int) ≤ 5000 := by omega
                                                    have hv := hgc (j * 2) (.int .i64 (-1 - ((k / 12 : Nat) : Int))) (reps_get (markW (k / 12)) q j 0 hjk (by show 0 < 2; omega))
                                                    have hj0 : (0 : Int) ≤ (j : Int) := by omega
                                                    have hj1 : (j : Int) < (q : Int) := by omega
                                                    replace hv : wk.cell? ⟨g, j * 2, none⟩ = some (.int .i64 (-1 - (k : Int) / 12)) := by
                                                      rw [hv]
                                                      rw [show ((k / 12 : Nat) : Int) = (k : Int) / 12 by omega]
                                                    clear hp hp2 hcells hpen hgc HX hq
                                                    go_wp2_with fail
                                                    go_roundw
                                                    case rel => exact ⟨j + 1, by go_num, by omega, f2⟩
                                                    case measure => simp [intOf]; omega
                                                  · obtain rfl : j = q := by omega
                                                    have hnj : ¬ (j : Int) < (j : Int) := by omega
                                                    clear hp hp2 hcells hpen HX
                                                    go_wp2_with fail
                                                    go_roundw
                                                    case rel => exact ⟨k + 1, by go_num, by omega, f2⟩
                                                    case measure => simp [intOf]; omega
                                              · obtain rfl : k = v1.Wd.length := by omega
                                                clear hp hp2
                                                go_wp2_with fail
                                                have HD := hid (HDW.out.fresh fr)
                                                have HK := hid (HKP.out.trans (fr.mono fun _ _ h => h.elim))
                                                clear c5 c6 fr
                                                go_ret
                                                exact ⟨rfl, ⟨_, _, HD.out⟩, HK.out⟩
end Go.Proofs.Ytbhienlalpbflaa
