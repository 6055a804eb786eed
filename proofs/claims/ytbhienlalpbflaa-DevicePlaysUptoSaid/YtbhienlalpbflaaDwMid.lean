/-
  The law's world while its lists are marked, grown and looked at.
-/
import Derived.Test.YtbhienlalpbflaaDwOut
namespace Go.Proofs.Ytbhienlalpbflaa
open Go.RowKit Go.Maps

theorem fcolT_inj (i j : Nat) (h : fcolT i = fcolT j) : i = j := by unfold fcolT at h; omega
theorem fcolW_inj (i j : Nat) (h : fcolW i = fcolW j) : i = j := by unfold fcolW at h; omega
theorem gcolT_inj (i j : Nat) (h : gcolT i = gcolT j) : i = j := by unfold gcolT at h; omega
theorem gcolW_inj (i j : Nat) (h : gcolW i = gcolW j) : i = j := by unfold gcolW at h; omega
theorem gcolT_ne (i : Nat) : gcolT i ≠ 3 := by unfold gcolT; omega
theorem gcolW_ne (i : Nat) : gcolW i ≠ 4 := by unfold gcolW; omega
abbrev MarksT (c : Nat → Nat) (w : World) (G i : Nat) (F : List Value) (C : List Texts) : Prop := Marks c w 9 1 texts List.length markU fcolT G 4096 i F C
abbrev MarksW (c : Nat → Nat) (w : World) (G i : Nat) (F : List Value) (C : List Wrs) : Prop := Marks c w 69 2 writeCells List.length markW fcolW G 4096 i F C
abbrev UpT (c : Nat → Nat) (w : World) (av : Value) (A : List Value) (n L : Nat) (xv : Value) : Prop := Packing c w 9 30 1 markU 3 gcolT 12 5000 av A n L xv
abbrev UpW (c : Nat → Nat) (w : World) (av : Value) (A : List Value) (n L : Nat) (xv : Value) : Prop := Packing c w 69 38 2 markW 4 gcolW 12 5000 av A n L xv
/-- while they are grown: all but the two packs -/
structure Mid (B : Nat) (c : Nat → Nat) (w : World) (ob : Nat) (v : WV) (sd sx : Nat → St) (n G G2 i i2 : Nat) (w0 : World) : Prop where
  box : w.heap[ob]? = some (.cells (boxOf v) 47 (0, 0))
  cbox : c ob = 1
  frow : w.ownsRow 0 30 1 v.fv v.F.length v.F
  cfrow : ∀ g, v.fv.ownBlock = some g → c g = 5
  grow : w.ownsRow 0 38 1 v.gv v.F2.length v.F2
  cgrow : ∀ g, v.gv.ownBlock = some g → c g = 8
  restT : ∀ (j : Nat) (x : Value), i ≤ j → v.F[j]? = some x → ∃ k, k ≤ 4096 ∧ Pen c w 9 1 (reps k (markU (G + j))) (fcolT j) x k
  restW : ∀ (j : Nat) (x : Value), i2 ≤ j → v.F2[j]? = some x → ∃ k, k ≤ 4096 ∧ Pen c w 69 2 (reps k (markW (G2 + j))) (fcolW j) x k
  vw : VW c w v sd sx n
  low : ∀ g, g < B → c g = 0
  size : B ≤ w.heap.size
  unborn : ∀ g, w.heap.size ≤ g → c g = 0
  keeps : Keeps (fun q => B ≤ q) w0 w

section
variable {S : Nat → Prop} {B ob n G G2 i i2 : Nat} {c c' : Nat → Nat} {w w' w0 : World} {v : WV} {sd sx : Nat → St} {dv' ev' : Value} {A' Wd' : List Value}
/-- the packs turn, and the box's word of them -/
theorem Mid.step (h : Mid B c w ob v sd sx n G G2 i i2 w0) (k : Keeps S w w') (hS : ∀ g, S g → g < w.heap.size → c g = 1 ∨ c g = 3 ∨ c g = 4 ∨ (∃ a, c g = gcolT a) ∨ ∃ a, c g = gcolW a) (hc : ∀ g, g < w.heap.size → c' g = c g) (hun : ∀ g, w'.heap.size ≤ g → c' g = 0)
    (hbox : w'.heap[ob]? = some (.cells (boxOf { v with dv := dv', A := A', ev := ev', Wd := Wd' }) 47 (0, 0))) : Mid B c' w' ob { v with dv := dv', A := A', ev := ev', Wd := Wd' } sd sx n G G2 i i2 w0 := by
  have hT : ∀ a, (∃ b, gcolT a = gcolW b) → False := fun a ⟨b, e⟩ => by unfold gcolT gcolW at e; omega
  have hq := h.vw.keeps (c' := c') k (fun g hs hl => by
    rcases hS g hs hl with e | e | e | ⟨a, e⟩ | ⟨a, e⟩
    · omega
    · omega
    · omega
    · unfold gcolT at e; omega
    · unfold gcolW at e; omega) (fun g hg _ => hc g hg)
  have hno : ∀ g x, S g → g < w.heap.size → c g = x → (x = 5 ∨ x = 8 ∨ (∃ j, x = fcolT j) ∨ ∃ j, x = fcolW j) → False := fun g x hs hl e hx => by
    have hx2 : x ≠ 1 ∧ x ≠ 3 ∧ x ≠ 4 ∧ (∀ a, x ≠ gcolT a) ∧ ∀ a, x ≠ gcolW a := by
      rcases hx with q | q | ⟨j, q⟩ | ⟨j, q⟩
      · exact ⟨by omega, by omega, by omega, fun a => by unfold gcolT; omega, fun a => by unfold gcolW; omega⟩
      · exact ⟨by omega, by omega, by omega, fun a => by unfold gcolT; omega, fun a => by unfold gcolW; omega⟩
      · unfold fcolT at q; exact ⟨by omega, by omega, by omega, fun a => by unfold gcolT; omega, fun a => by unfold gcolW; omega⟩
      · unfold fcolW at q; exact ⟨by omega, by omega, by omega, fun a => by unfold gcolT; omega, fun a => by unfold gcolW; omega⟩
    obtain ⟨x1, x2, x3, x4, x5⟩ := hx2
    rcases hS g hs hl with q | q | q | ⟨a, q⟩ | ⟨a, q⟩
    · omega
    · omega
    · omega
    · exact x4 a (e ▸ q)
    · exact x5 a (e ▸ q)
  refine ⟨hbox, ?_, ownsRow_keeps h.frow k fun g hg hs => hno g 5 hs (h.frow.lt g hg).2 (h.cfrow g hg) (.inl rfl), fun g hg => by rw [hc g (h.frow.lt g hg).2]; exact h.cfrow g hg, ownsRow_keeps h.grow k fun g hg hs => hno g 8 hs (h.grow.lt g hg).2 (h.cgrow g hg) (.inr (.inl rfl)), fun g hg => by rw [hc g (h.grow.lt g hg).2]; exact h.cgrow g hg,
    fun j x hj hx => ?_, fun j x hj hx => ?_, ⟨hq.row, hq.crow, hq.few, hq.dev, hq.ref, hq.okd, hq.okx, hq.hand, hq.chand⟩, fun g hg => by rw [hc g (Nat.lt_of_lt_of_le hg h.size)]; exact h.low g hg, Nat.le_trans h.size k.size, hun, h.keeps.trans (k.mono fun g hg hs => ?_)⟩
  · rw [hc ob (lt_of_block h.box)]; exact h.cbox
  · obtain ⟨q, q1, q2⟩ := h.restT j x hj hx
    exact ⟨q, q1, q2.keeps k (fun g hs hl e => hno g _ hs hl e (.inr (.inr (.inl ⟨j, rfl⟩)))) fun g hg e => by rw [hc g hg]; exact e⟩
  · obtain ⟨q, q1, q2⟩ := h.restW j x hj hx
    exact ⟨q, q1, q2.keeps k (fun g hs hl e => hno g _ hs hl e (.inr (.inr (.inr ⟨j, rfl⟩)))) fun g hg e => by rw [hc g hg]; exact e⟩
  · apply Classical.byContradiction
    intro hn
    have := h.low g (by omega)
    rcases hS g hs hg with q | q | q | ⟨a, q⟩ | ⟨a, q⟩
    · omega
    · omega
    · omega
    · unfold gcolT at q; omega
    · unfold gcolW at q; omega
theorem Mid.fresh (h : Mid B c w ob v sd sx n G G2 i i2 w0) (f : Fresh w w') : Mid B c w' ob v sd sx n G G2 i i2 w0 :=
  h.step (dv' := v.dv) (ev' := v.ev) (A' := v.A) (Wd' := v.Wd) f (fun _ h => h.elim) (fun _ _ => rfl) (fun g hg => h.unborn g (Nat.le_trans f.size hg)) (f.at_ h.box (fun h => h))
/-- the i-th of the pages' lists becomes the (G + i)-th that grows -/
theorem Mid.takeT (h : Mid B c w ob v sd sx n G G2 i i2 w0) : Mid B (fun g => if c g = fcolT i then gcolT (G + i) else c g) w ob v sd sx n G G2 (i + 1) i2 w0 := by
  have hc : ∀ g, c g ≠ fcolT i → (fun g => if c g = fcolT i then gcolT (G + i) else c g) g = c g := fun g hg => if_neg hg
  have hq := h.vw.keeps (c' := fun g => if c g = fcolT i then gcolT (G + i) else c g) (Keeps.refl (fun _ => False) w) (fun _ h => h.elim) (fun g _ e => hc g (by unfold fcolT; omega))
  refine ⟨h.box, (hc ob (by rw [h.cbox]; unfold fcolT; omega)).trans h.cbox, h.frow, fun g hg => (hc g (by rw [h.cfrow g hg]; unfold fcolT; omega)).trans (h.cfrow g hg), h.grow, fun g hg => (hc g (by rw [h.cgrow g hg]; unfold fcolT; omega)).trans (h.cgrow g hg), fun j x hj hx => ?_, fun j x hj hx => ?_, hq, fun g hg => (hc g (by rw [h.low g hg]; unfold fcolT; omega)).trans (h.low g hg), h.size, fun g hg => (hc g (by rw [h.unborn g hg]; unfold fcolT; omega)).trans (h.unborn g hg), h.keeps⟩
  · obtain ⟨q, q1, q2⟩ := h.restT j x (by omega) hx
    exact ⟨q, q1, q2.keeps (Keeps.refl (fun _ => False) w) (fun _ h => h.elim) fun g _ e => (hc g (by rw [e]; unfold fcolT; omega)).trans e⟩
  · obtain ⟨q, q1, q2⟩ := h.restW j x hj hx
    exact ⟨q, q1, q2.keeps (Keeps.refl (fun _ => False) w) (fun _ h => h.elim) fun g _ e => (hc g (by rw [e]; unfold fcolT fcolW; omega)).trans e⟩
theorem Mid.takeW (h : Mid B c w ob v sd sx n G G2 i i2 w0) : Mid B (fun g => if c g = fcolW i2 then gcolW (G2 + i2) else c g) w ob v sd sx n G G2 i (i2 + 1) w0 := by
  have hc : ∀ g, c g ≠ fcolW i2 → (fun g => if c g = fcolW i2 then gcolW (G2 + i2) else c g) g = c g := fun g hg => if_neg hg
  have hq := h.vw.keeps (c' := fun g => if c g = fcolW i2 then gcolW (G2 + i2) else c g) (Keeps.refl (fun _ => False) w) (fun _ h => h.elim) (fun g _ e => hc g (by unfold fcolW; omega))
  refine ⟨h.box, (hc ob (by rw [h.cbox]; unfold fcolW; omega)).trans h.cbox, h.frow, fun g hg => (hc g (by rw [h.cfrow g hg]; unfold fcolW; omega)).trans (h.cfrow g hg), h.grow, fun g hg => (hc g (by rw [h.cgrow g hg]; unfold fcolW; omega)).trans (h.cgrow g hg), fun j x hj hx => ?_, fun j x hj hx => ?_, hq, fun g hg => (hc g (by rw [h.low g hg]; unfold fcolW; omega)).trans (h.low g hg), h.size, fun g hg => (hc g (by rw [h.unborn g hg]; unfold fcolW; omega)).trans (h.unborn g hg), h.keeps⟩
  · obtain ⟨q, q1, q2⟩ := h.restT j x hj hx
    exact ⟨q, q1, q2.keeps (Keeps.refl (fun _ => False) w) (fun _ h => h.elim) fun g _ e => (hc g (by rw [e]; unfold fcolT fcolW; omega)).trans e⟩
  · obtain ⟨q, q1, q2⟩ := h.restW j x (by omega) hx
    exact ⟨q, q1, q2.keeps (Keeps.refl (fun _ => False) w) (fun _ h => h.elim) fun g _ e => (hc g (by rw [e]; unfold fcolW; omega)).trans e⟩
theorem PackT.take {av : Value} {A : List Value} (h : PackT c w av A) : PackT (fun g => if c g = fcolT i then gcolT (G + i) else c g) w av A :=
  h.keeps (Keeps.refl (fun _ => False) w) (fun _ h => h.elim) fun g _ e => if_neg (by
    rcases e with e | ⟨a, e⟩
    · rw [e]; unfold fcolT; omega
    · rw [e]; unfold fcolT gcolT; omega)
theorem PackT.takeW {av : Value} {A : List Value} (h : PackT c w av A) : PackT (fun g => if c g = fcolW i then gcolW (G + i) else c g) w av A :=
  h.keeps (Keeps.refl (fun _ => False) w) (fun _ h => h.elim) fun g _ e => if_neg (by
    rcases e with e | ⟨a, e⟩
    · rw [e]; unfold fcolW; omega
    · rw [e]; unfold fcolW gcolT; omega)
theorem PackW.take {av : Value} {A : List Value} (h : PackW c w av A) : PackW (fun g => if c g = fcolW i then gcolW (G + i) else c g) w av A :=
  h.keeps (Keeps.refl (fun _ => False) w) (fun _ h => h.elim) fun g _ e => if_neg (by
    rcases e with e | ⟨a, e⟩
    · rw [e]; unfold fcolW; omega
    · rw [e]; unfold fcolW gcolW; omega)
theorem PackW.takeT {av : Value} {A : List Value} (h : PackW c w av A) : PackW (fun g => if c g = fcolT i then gcolT (G + i) else c g) w av A :=
  h.keeps (Keeps.refl (fun _ => False) w) (fun _ h => h.elim) fun g _ e => if_neg (by
    rcases e with e | ⟨a, e⟩
    · rw [e]; unfold fcolT; omega
    · rw [e]; unfold fcolT gcolW; omega)
theorem Pen.takeT {x : Value} {k : Nat} {xs : List Value} (h : Pen c w 9 1 xs (fcolT i) x k) : Pen (fun g => if c g = fcolT i then gcolT (G + i) else c g) w 9 1 xs (gcolT (G + i)) x k := by
  obtain ⟨z, z1, z2, z3⟩ := h
  exact ⟨z, z1, z2, fun g hg => if_pos (z3 g hg)⟩
theorem Pen.takeW {x : Value} {k : Nat} {xs : List Value} (h : Pen c w 69 2 xs (fcolW i) x k) : Pen (fun g => if c g = fcolW i then gcolW (G + i) else c g) w 69 2 xs (gcolW (G + i)) x k := by
  obtain ⟨z, z1, z2, z3⟩ := h
  exact ⟨z, z1, z2, fun g hg => if_pos (z3 g hg)⟩
/-- blocks not there yet are nobody's -/
def trim (c : Nat → Nat) (w : World) : Nat → Nat := fun g => if g < w.heap.size then c g else 0
theorem trim_old {g : Nat} (h : g < w.heap.size) : trim c w g = c g := if_pos h
theorem trim_new {g : Nat} (h : w.heap.size ≤ g) : trim c w g = 0 := if_neg (by omega)
theorem Packing.trim {e T : TypeId} {size ca per M m L : Nat} {U : Nat → List Value} {col : Nat → Nat} {av xv : Value} {A : List Value} (h : Packing c w e T size U ca col per M av A m L xv) : Packing (trim c w) w e T size U ca col per M av A m L xv :=
  h.keeps (Keeps.refl (fun _ => False) w) (fun _ h => h.elim) fun _ hg _ => trim_old hg
theorem paint_trim {m g : Nat} (h : g < w.heap.size) (hs : w.heap.size ≤ w'.heap.size) : trim (paint c w m) w' g = c g := by
  rw [trim_old (by omega), paint_old h]
theorem Mid.size_ob (h : Mid B c w ob v sd sx n G G2 i i2 w0) : ob < w.heap.size := lt_of_block h.box
end
end Go.Proofs.Ytbhienlalpbflaa
