/-
  The law's world: a device more.
-/
import Derived.Test.YtbhienlalpbflaaDwWorld
namespace Go.Proofs.Ytbhienlalpbflaa
open Go.RowKit Go.Maps

theorem Try.infoSide : (Try.prog.info? 53).map (fun i => (i.zero, i.size, i.bytes)) = some (some (.agg #[.pointer none, .pointer none]), 2, 16) := by kernel_rfl
section
variable {P Q : Nat → Prop} {B ob n N d x : Nat} {c : Nat → Nat} {w w1 : World} {v : WV} {f : Nat → St} {s : St} {lv' : Value}
open Classical in
/-- one that was made of blocks of nobody -/
theorem DW.addSide (h : DW B c w ob v f f n N) (hD : DevAt P w d s 0) (hX : RefAt Q w x s) (ok : s.Ok) (hP : ∀ g, g < w.heap.size → P g → c g = 0 ∧ B ≤ g) (hQ : ∀ g, g < w.heap.size → Q g → c g = 0 ∧ B ≤ g) (hPQ : ∀ g, P g → Q g → False) (hlen : v.ss.length < 5)
    (ha : Appended 53 2 w w1 v.lv lv' (v.ss.length + 1) (sideCells (v.ss ++ [(d, x)]))) :
    ∃ c', DW B c' (w1.setCell ⟨ob, 0, none⟩ lv') ob { v with lv := lv', ss := v.ss ++ [(d, x)] } (updt f v.ss.length s) (updt f v.ss.length s) n N ∧ Keeps (fun q => B ≤ q) w (w1.setCell ⟨ob, 0, none⟩ lv') := by
  have z1 : (w1.setCell ⟨ob, 0, none⟩ lv').heap.size = w1.heap.size := by simp
  have s1 := ha.keeps.size
  have hob := lt_of_block h.box
  obtain ⟨c', hc'⟩ : ∃ c' : Nat → Nat, ∀ g, c' g = if g < w.heap.size then (if P g then 12 + 2 * v.ss.length else if Q g then 13 + 2 * v.ss.length else c g) else if g < w1.heap.size then 2 else 0 := ⟨_, fun _ => rfl⟩
  have hold : ∀ g, g < w.heap.size → c g ≠ 0 → c' g = c g := fun g hg hn => by
    rw [hc', if_pos hg, if_neg (fun e => hn (hP g hg e).1), if_neg (fun e => hn (hQ g hg e).1)]
  have hlow : ∀ g, g < w.heap.size → g < B → c' g = c g := fun g hg hb => by
    rw [hc', if_pos hg, if_neg (fun e => by have := (hP g hg e).2; omega), if_neg (fun e => by have := (hQ g hg e).2; omega)]
  have k : Keeps (fun q => q = ob ∨ v.lv.ownBlock = some q) w (w1.setCell ⟨ob, 0, none⟩ lv') := (ha.keeps.mono (fun q _ e => .inr e)).setCell (p := ⟨ob, 0, none⟩) (fun _ => .inl rfl) lv'
  have hS : ∀ g, (g = ob ∨ v.lv.ownBlock = some g) → c g = 1 ∨ c g = 2 := fun g e => by
    rcases e with rfl | e
    · exact .inl h.cbox
    · exact .inr (h.vw.crow g e)
  have b1 := ha.keeps.at_ h.box (fun e => by have := h.vw.crow _ e; have := h.cbox; omega)
  have lq := h.lw.keeps (c' := c') k (fun g hs _ => by have := hS g hs; omega) (fun g hg e => hold g hg (by omega))
  have rowq : (w1.setCell ⟨ob, 0, none⟩ lv').ownsRow 0 53 2 lv' (v.ss.length + 1) (sideCells (v.ss ++ [(d, x)])) := ownsRow_setCell_ne ha.row (fun e => by
    rcases ha.own _ e with q | q
    · have q1 : c ob = 2 := h.vw.crow _ q
      have := h.cbox
      omega
    · have q1 : w.heap.size ≤ ob := q.1
      omega) lv'
  have hnP : ∀ g, g < w.heap.size → (g = ob ∨ v.lv.ownBlock = some g) → ¬ P g := fun g hg e hp => by have := hS g e; have := (hP g hg hp).1; omega
  have hnQ : ∀ g, g < w.heap.size → (g = ob ∨ v.lv.ownBlock = some g) → ¬ Q g := fun g hg e hp => by have := hS g e; have := (hQ g hg hp).1; omega
  refine ⟨c', ⟨heap_setCell_at b1 0 lv', (hold ob hob (by rw [h.cbox]; omega)).trans h.cbox, ⟨lq.pack, lq.packW, lq.free, lq.freeW, lq.lists, lq.listsW, lq.small, lq.smallW⟩, ⟨by simp only [List.length_append, List.length_singleton]; exact rowq, fun g hg => ?_, by simp only [List.length_append, List.length_singleton]; omega, fun i y hy => ?_, fun i y hy => ?_, fun i hi => ?_, fun i hi => ?_, h.vw.hand.keeps k fun g hg hs => by have := hS g hs; have := h.vw.chand g hg; omega, fun g hg => ?_⟩, fun g hg => ?_, Nat.le_trans h.size k.size, fun g hg => ?_⟩, h.owns k fun g hs hl => by have := hS g hs; omega⟩
  · rcases ha.own g hg with q | q
    · have := h.vw.crow g q
      rw [hold g (h.vw.row.lt g q).2 (by omega)]; exact this
    · rw [hc', if_neg (by omega), if_pos q.2]
  · by_cases hi : i < v.ss.length
    · rw [List.getElem?_append_left hi] at hy
      rw [updt_ne _ _ (by omega)]
      exact ((h.vw.dev i y hy).keeps2 k (fun q hl hq e => by have := hS q hq; omega) fun q hl e => by show c' q = 12 + 2 * i; rw [hold q hl (by omega)]; exact e).mono (fun _ _ h => h) (Nat.le_refl _)
    · have hi2 : i = v.ss.length := by have := (List.getElem?_eq_some_iff.1 hy).1; simp at this; omega
      subst hi2
      simp at hy
      subst hy
      rw [updt_at]
      exact (hD.keeps2 k (fun q hl hq => hnP q hl hq) fun q hl e => by show c' q = 12 + 2 * v.ss.length; rw [hc', if_pos hl, if_pos e]).mono (fun _ _ h => h) (Nat.zero_le _)
  · by_cases hi : i < v.ss.length
    · rw [List.getElem?_append_left hi] at hy
      rw [updt_ne _ _ (by omega)]
      exact (h.vw.ref i y hy).keeps2 k (fun q hl hq e => by have := hS q hq; omega) fun q hl e => by show c' q = 13 + 2 * i; rw [hold q hl (by omega)]; exact e
    · have hi2 : i = v.ss.length := by have := (List.getElem?_eq_some_iff.1 hy).1; simp at this; omega
      subst hi2
      simp at hy
      subst hy
      rw [updt_at]
      exact hX.keeps2 k (fun q hl hq => hnQ q hl hq) fun q hl e => by show c' q = 13 + 2 * v.ss.length; rw [hc', if_pos hl, if_neg (fun e2 => hPQ q e2 e), if_pos e]
  · by_cases e : i = v.ss.length
    · subst e; rw [updt_at]; exact ok
    · rw [updt_ne _ _ e]; exact h.vw.okd i (by simp at hi; omega)
  · by_cases e : i = v.ss.length
    · subst e; rw [updt_at]; exact ok
    · rw [updt_ne _ _ e]; exact h.vw.okx i (by simp at hi; omega)
  · have := h.vw.chand g hg
    rw [hold g (h.vw.hand.lt g hg) (by omega)]; exact this
  · rw [hlow g (by have := h.size; omega) hg]; exact h.low g hg
  · rw [hc', if_neg (by omega), if_neg (by omega)]
end

/-- what a step leaves -/
def Aft (B : Nat) (w' : World) (ob n N : Nat) : Prop := ∃ c v f, DW B c w' ob v f f n N
theorem Aft.more {B ob n N n' N' : Nat} {w : World} (h : Aft B w ob n N) (hn : n ≤ n') (hN : N ≤ N') : Aft B w ob n' N' := by
  obtain ⟨c, v, f, h⟩ := h
  exact ⟨c, v, f, h.more hn hN⟩
theorem Aft.fresh {B ob n N : Nat} {w w' : World} (h : Aft B w ob n N) (f : Fresh w w') : Aft B w' ob n N := by
  obtain ⟨c, v, g, h⟩ := h
  exact ⟨c, v, g, h.fresh f⟩
end Go.Proofs.Ytbhienlalpbflaa
