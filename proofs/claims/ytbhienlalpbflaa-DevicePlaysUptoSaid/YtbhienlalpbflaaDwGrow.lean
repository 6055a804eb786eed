/-
  The law's world: a list noted, a list grown. Printed by gen_dwgrow.py.
-/
import Derived.Test.YtbhienlalpbflaaDwMid
namespace Go.Proofs.Ytbhienlalpbflaa
open Go.RowKit Go.Maps

section
variable {B ob n G G2 i i2 m L : Nat} {c : Nat → Nat} {w w1 w0 : World} {v : WV} {sd sx : Nat → St} {av' xv xv' y : Value}
theorem Mid.noteT (h : Mid B c w ob v sd sx n G G2 i i2 w0) (hp : UpT c w v.dv v.A m L xv) (hlen : v.A.length / 12 = m) (hL : L ≤ 5000) (hq : PackW c w v.ev v.Wd)
    (ha : Appended 30 1 w w1 v.dv av' (v.A.length + 1) (v.A ++ [xv])) :
    ∃ c', Mid B c' (w1.setCell ⟨ob, 5, none⟩ av') ob { v with dv := av', A := v.A ++ [xv], ev := v.ev, Wd := v.Wd } sd sx n G G2 i i2 w0 ∧ UpT c' (w1.setCell ⟨ob, 5, none⟩ av') av' (v.A ++ [xv]) m L xv ∧ PackW c' (w1.setCell ⟨ob, 5, none⟩ av') v.ev v.Wd := by
  have z1 : (w1.setCell ⟨ob, 5, none⟩ av').heap.size = w1.heap.size := by simp
  have s1 := ha.keeps.size
  have hob := h.size_ob
  have k : Keeps (fun q => q = ob ∨ v.dv.ownBlock = some q) w (w1.setCell ⟨ob, 5, none⟩ av') := (ha.keeps.mono (fun q _ e => .inr e)).setCell (p := ⟨ob, 5, none⟩) (fun _ => .inl rfl) av'
  have hS : ∀ g, (g = ob ∨ v.dv.ownBlock = some g) → c g = 1 ∨ c g = 3 := fun g e => by
    rcases e with rfl | e
    · exact .inl h.cbox
    · exact .inr (hp.crow g e)
  have b1 := ha.keeps.at_ h.box (fun e => by have := hp.crow _ e; have := h.cbox; omega)
  have hcc : ∀ g, g < w.heap.size → trim (paint c w 3) (w1.setCell ⟨ob, 5, none⟩ av') g = c g := fun g hg => paint_trim hg (by omega)
  refine ⟨trim (paint c w 3) (w1.setCell ⟨ob, 5, none⟩ av'), h.step k (fun g hs _ => by rcases hS g hs with e | e <;> omega) hcc (fun g hg => trim_new hg) (heap_setCell_at b1 5 av'), ?_, ?_⟩
  · have h1 := hp.note hlen hL gcolT_ne ha
    refine Packing.trim (h1.keeps ((Keeps.refl (fun q => q = ob) w1).setCell (p := ⟨ob, 5, none⟩) (fun _ => rfl) av') (fun g hg _ => ?_) fun _ _ _ => rfl)
    rw [show g = ob from hg, paint_old hob, h.cbox]
    exact ⟨by omega, fun a => by unfold gcolT; omega⟩
  · exact hq.keeps k (fun g hs _ => by
      have := hS g hs
      exact ⟨by omega, fun a => by unfold gcolW; omega⟩) fun g hg _ => hcc g hg
theorem Mid.growT (h : Mid B c w ob v sd sx n G G2 i i2 w0) (hp : UpT c w v.dv v.A m L xv) (hy : Clip xv y) (hyr : w.ownsRow 0 9 1 y L (reps L (markU m))) (hq : PackW c w v.ev v.Wd)
    (ha : Grown 9 1 w w1 y xv' L (reps L (markU m)) (markU m)) :
    ∃ c', Mid B c' w1 ob v sd sx n G G2 i i2 w0 ∧ UpT c' w1 v.dv v.A m (L + 1) xv' ∧ PackW c' w1 v.ev v.Wd := by
  have s1 := ha.app.keeps.size
  have hyc : ∀ g, y.ownBlock = some g → c g = gcolT m := fun g hg => (hp.x.own (by rw [hy.own]; exact hg)).1
  have hcc : ∀ g, g < w.heap.size → trim (paint c w (gcolT m)) w1 g = c g := fun g hg => paint_trim hg s1
  refine ⟨trim (paint c w (gcolT m)) w1, h.step (dv' := v.dv) (ev' := v.ev) (A' := v.A) (Wd' := v.Wd) ha.app.keeps (fun g hs _ => .inr (.inr (.inr (.inl ⟨m, hyc g hs⟩)))) hcc (fun g hg => trim_new hg) (ha.app.keeps.at_ h.box (fun e => by have := hyc _ e; have := h.cbox; unfold gcolT at *; omega)), Packing.trim (hp.grow gcolT_ne gcolT_inj hy hyr ha), ?_⟩
  exact hq.keeps ha.app.keeps (fun g hs _ => by
    have := hyc g hs
    exact ⟨by unfold gcolT at this; omega, fun a => by unfold gcolT at this; unfold gcolW; omega⟩) fun g hg _ => hcc g hg
end

section
variable {B ob n G G2 i i2 m L : Nat} {c : Nat → Nat} {w w1 w0 : World} {v : WV} {sd sx : Nat → St} {av' xv xv' y : Value}
theorem Mid.noteW (h : Mid B c w ob v sd sx n G G2 i i2 w0) (hp : UpW c w v.ev v.Wd m L xv) (hlen : v.Wd.length / 12 = m) (hL : L ≤ 5000) (hq : PackT c w v.dv v.A)
    (ha : Appended 38 1 w w1 v.ev av' (v.Wd.length + 1) (v.Wd ++ [xv])) :
    ∃ c', Mid B c' (w1.setCell ⟨ob, 6, none⟩ av') ob { v with dv := v.dv, A := v.A, ev := av', Wd := v.Wd ++ [xv] } sd sx n G G2 i i2 w0 ∧ UpW c' (w1.setCell ⟨ob, 6, none⟩ av') av' (v.Wd ++ [xv]) m L xv ∧ PackT c' (w1.setCell ⟨ob, 6, none⟩ av') v.dv v.A := by
  have z1 : (w1.setCell ⟨ob, 6, none⟩ av').heap.size = w1.heap.size := by simp
  have s1 := ha.keeps.size
  have hob := h.size_ob
  have k : Keeps (fun q => q = ob ∨ v.ev.ownBlock = some q) w (w1.setCell ⟨ob, 6, none⟩ av') := (ha.keeps.mono (fun q _ e => .inr e)).setCell (p := ⟨ob, 6, none⟩) (fun _ => .inl rfl) av'
  have hS : ∀ g, (g = ob ∨ v.ev.ownBlock = some g) → c g = 1 ∨ c g = 4 := fun g e => by
    rcases e with rfl | e
    · exact .inl h.cbox
    · exact .inr (hp.crow g e)
  have b1 := ha.keeps.at_ h.box (fun e => by have := hp.crow _ e; have := h.cbox; omega)
  have hcc : ∀ g, g < w.heap.size → trim (paint c w 4) (w1.setCell ⟨ob, 6, none⟩ av') g = c g := fun g hg => paint_trim hg (by omega)
  refine ⟨trim (paint c w 4) (w1.setCell ⟨ob, 6, none⟩ av'), h.step k (fun g hs _ => by rcases hS g hs with e | e <;> omega) hcc (fun g hg => trim_new hg) (heap_setCell_at b1 6 av'), ?_, ?_⟩
  · have h1 := hp.note hlen hL gcolW_ne ha
    refine Packing.trim (h1.keeps ((Keeps.refl (fun q => q = ob) w1).setCell (p := ⟨ob, 6, none⟩) (fun _ => rfl) av') (fun g hg _ => ?_) fun _ _ _ => rfl)
    rw [show g = ob from hg, paint_old hob, h.cbox]
    exact ⟨by omega, fun a => by unfold gcolW; omega⟩
  · exact hq.keeps k (fun g hs _ => by
      have := hS g hs
      exact ⟨by omega, fun a => by unfold gcolT; omega⟩) fun g hg _ => hcc g hg
theorem Mid.growW (h : Mid B c w ob v sd sx n G G2 i i2 w0) (hp : UpW c w v.ev v.Wd m L xv) (hy : Clip xv y) (hyr : w.ownsRow 0 69 2 y L (reps L (markW m))) (hq : PackT c w v.dv v.A)
    (ha : Grown 69 2 w w1 y xv' L (reps L (markW m)) (markW m)) :
    ∃ c', Mid B c' w1 ob v sd sx n G G2 i i2 w0 ∧ UpW c' w1 v.ev v.Wd m (L + 1) xv' ∧ PackT c' w1 v.dv v.A := by
  have s1 := ha.app.keeps.size
  have hyc : ∀ g, y.ownBlock = some g → c g = gcolW m := fun g hg => (hp.x.own (by rw [hy.own]; exact hg)).1
  have hcc : ∀ g, g < w.heap.size → trim (paint c w (gcolW m)) w1 g = c g := fun g hg => paint_trim hg s1
  refine ⟨trim (paint c w (gcolW m)) w1, h.step (dv' := v.dv) (ev' := v.ev) (A' := v.A) (Wd' := v.Wd) ha.app.keeps (fun g hs _ => .inr (.inr (.inr (.inr ⟨m, hyc g hs⟩)))) hcc (fun g hg => trim_new hg) (ha.app.keeps.at_ h.box (fun e => by have := hyc _ e; have := h.cbox; unfold gcolW at *; omega)), Packing.trim (hp.grow gcolW_ne gcolW_inj hy hyr ha), ?_⟩
  exact hq.keeps ha.app.keeps (fun g hs _ => by
    have := hyc g hs
    exact ⟨by unfold gcolW at this; omega, fun a => by unfold gcolW at this; unfold gcolT; omega⟩) fun g hg _ => hcc g hg
end

section
variable {B ob n N G G2 : Nat} {c : Nat → Nat} {w w0 : World} {v : WV} {sd sx : Nat → St}
/-- all are marked -/
theorem Mid.start (h : DW B c w0 ob v sd sx n N) (k : Keeps (fun g => (∃ a, c g = fcolT a) ∨ ∃ a, c g = fcolW a) w0 w) (m1 : MarksT c w G v.F.length v.F v.C) (m2 : MarksW c w G2 v.F2.length v.F2 v.C2) : Mid B c w ob v sd sx n G G2 0 0 w0 ∧ PackT c w v.dv v.A ∧ PackW c w v.ev v.Wd := by
  have hS : ∀ g, ((∃ a, c g = fcolT a) ∨ ∃ a, c g = fcolW a) → 24 ≤ c g ∧ (∀ a, c g ≠ gcolT a) ∧ ∀ a, c g ≠ gcolW a := fun g e => by
    rcases e with ⟨a, e⟩ | ⟨a, e⟩
    · unfold fcolT at e; exact ⟨by omega, fun b => by unfold gcolT; omega, fun b => by unfold gcolW; omega⟩
    · unfold fcolW at e; exact ⟨by omega, fun b => by unfold gcolT; omega, fun b => by unfold gcolW; omega⟩
  refine ⟨⟨k.at_ h.box (fun e => by have := (hS _ e).1; have := h.cbox; omega), h.cbox, ownsRow_keeps h.lw.free.frow k fun g hg e => by have := (hS g e).1; have := h.lw.free.cfrow g hg; omega, h.lw.free.cfrow, ownsRow_keeps h.lw.freeW.frow k fun g hg e => by have := (hS g e).1; have := h.lw.freeW.cfrow g hg; omega, h.lw.freeW.cfrow,
    fun j x _ hx => m1.done j x (List.getElem?_eq_some_iff.1 hx).1 hx, fun j x _ hx => m2.done j x (List.getElem?_eq_some_iff.1 hx).1 hx, h.vw.keeps k (fun g hs _ => by have := (hS g hs).1; omega) (fun _ _ _ => rfl), h.low, Nat.le_trans h.size k.size, fun g hg => h.unborn g (Nat.le_trans k.size hg), h.owns k fun g hs _ => by have := (hS g hs).1; omega⟩,
    h.lw.pack.keeps k (fun g hs _ => ⟨by have := (hS g hs).1; omega, (hS g hs).2.1⟩) (fun _ _ _ => rfl), h.lw.packW.keeps k (fun g hs _ => ⟨by have := (hS g hs).1; omega, (hS g hs).2.2⟩) (fun _ _ _ => rfl)⟩
/-- all are grown: none is untouched any more -/
theorem Mid.finish {W : World} (h : Mid B c w ob v sd sx n G G2 v.F.length v.F2.length w0) (hp : PackT c w v.dv v.A) (hq : PackW c w v.ev v.Wd) (hA : v.A.length = 12 * (G + v.F.length)) (hW : v.Wd.length = 12 * (G2 + v.F2.length)) (hN : G + v.F.length ≤ N) (hN2 : G2 + v.F2.length ≤ N)
    (hWd : ((((w.setCell ⟨ob, 1, none⟩ (.slice none 0 0)).setCell ⟨ob, 2, none⟩ (.slice none 0 0)).setCell ⟨ob, 3, none⟩ (.slice none 0 0)).setCell ⟨ob, 4, none⟩ (.slice none 0 0)) = W) :
    DW B c W ob { v with fv := .slice none 0 0, wv := .slice none 0 0, gv := .slice none 0 0, hv := .slice none 0 0, F := [], Wv := [], F2 := [], Wv2 := [], C := [], C2 := [] } sd sx n N ∧ Keeps (fun q => B ≤ q) w0 W := by
  subst hWd
  have k : Keeps (fun q => q = ob) w ((((w.setCell ⟨ob, 1, none⟩ (.slice none 0 0)).setCell ⟨ob, 2, none⟩ (.slice none 0 0)).setCell ⟨ob, 3, none⟩ (.slice none 0 0)).setCell ⟨ob, 4, none⟩ (.slice none 0 0)) := ((((Keeps.refl (fun q => q = ob) w).setCell (p := ⟨ob, 1, none⟩) (fun _ => rfl) _).setCell (p := ⟨ob, 2, none⟩) (fun _ => rfl) _).setCell (p := ⟨ob, 3, none⟩) (fun _ => rfl) _).setCell (p := ⟨ob, 4, none⟩) (fun _ => rfl) _
  have hb := heap_setCell_at (heap_setCell_at (heap_setCell_at (heap_setCell_at h.box 1 (.slice none 0 0)) 2 (.slice none 0 0)) 3 (.slice none 0 0)) 4 (.slice none 0 0)
  have hS : ∀ g, g = ob → c g = 1 := fun g e => by rw [e]; exact h.cbox
  have vq := h.vw.keeps (c' := c) k (fun g hs _ => by have := hS g hs; omega) (fun _ _ _ => rfl)
  refine ⟨⟨hb, h.cbox, ⟨hp.keeps k (fun g hs _ => ⟨by have := hS g hs; omega, fun a => by have := hS g hs; unfold gcolT; omega⟩) (fun _ _ _ => rfl), hq.keeps k (fun g hs _ => ⟨by have := hS g hs; omega, fun a => by have := hS g hs; unfold gcolW; omega⟩) (fun _ _ _ => rfl),
      ⟨World.ownsRow_nil _ _ _ _, (fun _ h => nomatch h), World.ownsRow_nil _ _ _ _, (fun _ h => nomatch h), rfl, rfl, fun j x l hx _ => by simp at hx, fun j x l hx _ => by simp at hx⟩,
      ⟨World.ownsRow_nil _ _ _ _, (fun _ h => nomatch h), World.ownsRow_nil _ _ _ _, (fun _ h => nomatch h), rfl, rfl, fun j x l hx _ => by simp at hx, fun j x l hx _ => by simp at hx⟩,
      ⟨_, hA, hN⟩, ⟨_, hW, hN2⟩, (fun l hl => by cases hl), (fun l hl => by cases hl)⟩, ⟨vq.row, vq.crow, vq.few, vq.dev, vq.ref, vq.okd, vq.okx, vq.hand, vq.chand⟩, h.low, Nat.le_trans h.size k.size, fun g hg => h.unborn g (Nat.le_trans k.size hg)⟩, h.keeps.trans (k.mono fun g _ hs => ?_)⟩
  apply Classical.byContradiction
  intro hn
  have := h.low g (by omega)
  have := hS g hs
  omega
end
end Go.Proofs.Ytbhienlalpbflaa
