/-
  The law's world: some devices, the document's, the lists that came out. Colours: 0 nobody's, 1 the box, 2 the devices' list, 3 and 4 the kept lists, 5 to 7 the pages untouched, their copies' list, the copies, 8 to 10 the writes likewise, 11 the hand, 12 to 21 the devices, then the lists.
-/
import Derived.Test.YtbhienlalpbflaaDwHand
import Derived.Test.YtbhienlalpbflaaPack
namespace Go.Proofs.Ytbhienlalpbflaa
open Go.RowKit Go.Maps

abbrev Texts : Type := List (List UInt8)
abbrev Wrs : Type := List (Int × List UInt8)
theorem Try.infoListT : (Try.prog.info? 30).map (fun i => (i.zero, i.size, i.bytes)) = some (some (.slice none 0 0), 1, 24) := by kernel_rfl
theorem Try.infoListW : (Try.prog.info? 38).map (fun i => (i.zero, i.size, i.bytes)) = some (some (.slice none 0 0), 1, 24) := by kernel_rfl

/-- what the box holds -/
structure WV where
  lv : Value
  fv : Value
  wv : Value
  gv : Value
  hv : Value
  dv : Value
  ev : Value
  xv : Value
  ss : List (Nat × Nat)
  A : List Value
  Wd : List Value
  F : List Value
  Wv : List Value
  F2 : List Value
  Wv2 : List Value
  C : List Texts
  C2 : List Wrs
  H : Texts
def boxOf (v : WV) : Array Value := #[v.lv, v.fv, v.wv, v.gv, v.hv, v.dv, v.ev, v.xv]
def sideCells (ss : List (Nat × Nat)) : List Value := ss.flatMap fun s => [.pointer (some ⟨s.1, 0, none⟩), .pointer (some ⟨s.2, 0, none⟩)]
theorem sideCells_snoc (ss : List (Nat × Nat)) (s : Nat × Nat) : sideCells (ss ++ [s]) = sideCells ss ++ [.pointer (some ⟨s.1, 0, none⟩), .pointer (some ⟨s.2, 0, none⟩)] := by simp [sideCells]
theorem sideCells_at : ∀ (ss : List (Nat × Nat)) (k : Nat) (s : Nat × Nat), ss[k]? = some s → (sideCells ss)[k * 2]? = some (.pointer (some ⟨s.1, 0, none⟩)) ∧ (sideCells ss)[k * 2 + 1]? = some (.pointer (some ⟨s.2, 0, none⟩))
  | [], k, x, h => by simp at h
  | y :: r, 0, x, h => by
    simp at h
    subst h
    exact ⟨rfl, rfl⟩
  | y :: r, k + 1, x, h => by
    have ih := sideCells_at r k x (by simpa using h)
    have e : sideCells (y :: r) = .pointer (some ⟨y.1, 0, none⟩) :: .pointer (some ⟨y.2, 0, none⟩) :: sideCells r := rfl
    rw [e, show (k + 1) * 2 = k * 2 + 1 + 1 by omega, show k * 2 + 1 + 1 + 1 = (k * 2 + 1) + 1 + 1 by omega]
    simpa using ih
def gcolT (n : Nat) : Nat := 22 + 4 * n
def gcolW (n : Nat) : Nat := 23 + 4 * n
def fcolT (j : Nat) : Nat := 24 + 4 * j
def fcolW (j : Nat) : Nat := 25 + 4 * j
abbrev PackT (c : Nat → Nat) (w : World) (av : Value) (A : List Value) : Prop := Pack c w 9 30 1 markU 3 gcolT 12 5000 av A
abbrev PackW (c : Nat → Nat) (w : World) (av : Value) (A : List Value) : Prop := Pack c w 69 38 2 markW 4 gcolW 12 5000 av A
abbrev FreeT (c : Nat → Nat) (w : World) (fv wv : Value) (F Wv : List Value) (C : List Texts) : Prop := Frees c w 9 30 1 texts List.length 5 6 7 fcolT fv wv F Wv C
abbrev FreeW (c : Nat → Nat) (w : World) (fv wv : Value) (F Wv : List Value) (C : List Wrs) : Prop := Frees c w 69 38 2 writeCells List.length 8 9 10 fcolW fv wv F Wv C
/-- the lists -/
structure LW (c : Nat → Nat) (w : World) (v : WV) (N : Nat) : Prop where
  pack : PackT c w v.dv v.A
  packW : PackW c w v.ev v.Wd
  free : FreeT c w v.fv v.wv v.F v.Wv v.C
  freeW : FreeW c w v.gv v.hv v.F2 v.Wv2 v.C2
  lists : ∃ G, v.A.length = 12 * G ∧ G + v.F.length ≤ N
  listsW : ∃ G, v.Wd.length = 12 * G ∧ G + v.F2.length ≤ N
  small : ∀ l ∈ v.C, l.length ≤ 4096
  smallW : ∀ l ∈ v.C2, l.length ≤ 4096
/-- the devices, and the hand -/
structure VW (c : Nat → Nat) (w : World) (v : WV) (sd sx : Nat → St) (n : Nat) : Prop where
  row : w.ownsRow 0 53 2 v.lv v.ss.length (sideCells v.ss)
  crow : ∀ g, v.lv.ownBlock = some g → c g = 2
  few : v.ss.length ≤ 5
  dev : ∀ (i : Nat) (s : Nat × Nat), v.ss[i]? = some s → DevAt (fun g => c g = 12 + 2 * i) w s.1 (sd i) n
  ref : ∀ (i : Nat) (s : Nat × Nat), v.ss[i]? = some s → RefAt (fun g => c g = 13 + 2 * i) w s.2 (sx i)
  okd : ∀ i, i < v.ss.length → (sd i).Ok
  okx : ∀ i, i < v.ss.length → (sx i).Ok
  hand : HandAt w v.xv v.H
  chand : ∀ g, v.xv.ownBlock = some g → c g = 11
structure DW (B : Nat) (c : Nat → Nat) (w : World) (ob : Nat) (v : WV) (sd sx : Nat → St) (n N : Nat) : Prop where
  box : w.heap[ob]? = some (.cells (boxOf v) 47 (0, 0))
  cbox : c ob = 1
  lw : LW c w v N
  vw : VW c w v sd sx n
  low : ∀ g, g < B → c g = 0
  size : B ≤ w.heap.size
  unborn : ∀ g, w.heap.size ≤ g → c g = 0

def updt {α : Type} (f : Nat → α) (k : Nat) (v : α) : Nat → α := fun j => if j = k then v else f j
theorem updt_at {α : Type} (f : Nat → α) (k : Nat) (v : α) : updt f k v k = v := if_pos rfl
theorem updt_ne {α : Type} (f : Nat → α) {k j : Nat} (v : α) (h : j ≠ k) : updt f k v j = f j := if_neg h

section
variable {S : Nat → Prop} {B ob n N : Nat} {c c' : Nat → Nat} {w w' : World} {v : WV} {sd sx : Nat → St}
theorem LW.keeps (h : LW c w v N) (k : Keeps S w w') (hS : ∀ g, S g → g < w.heap.size → c g < 3 ∨ (11 ≤ c g ∧ c g < 22)) (hc : ∀ g, g < w.heap.size → ((3 ≤ c g ∧ c g ≤ 10) ∨ 22 ≤ c g) → c' g = c g) : LW c' w' v N :=
  ⟨h.pack.keeps k (fun g hs hl => ⟨by have := hS g hs hl; omega, fun i => by have := hS g hs hl; unfold gcolT; omega⟩) (fun g hl hq => hc g hl (by
      rcases hq with q | ⟨i, q⟩
      · omega
      · unfold gcolT at q; omega)),
    h.packW.keeps k (fun g hs hl => ⟨by have := hS g hs hl; omega, fun i => by have := hS g hs hl; unfold gcolW; omega⟩) (fun g hl hq => hc g hl (by
      rcases hq with q | ⟨i, q⟩
      · omega
      · unfold gcolW at q; omega)),
    h.free.keeps k (fun g hs hl => ⟨by have := hS g hs hl; omega, by have := hS g hs hl; omega, by have := hS g hs hl; omega, fun i => by have := hS g hs hl; unfold fcolT; omega⟩) (fun g hl hq => hc g hl (by
      rcases hq with q | q | q | ⟨i, q⟩
      · omega
      · omega
      · omega
      · unfold fcolT at q; omega)),
    h.freeW.keeps k (fun g hs hl => ⟨by have := hS g hs hl; omega, by have := hS g hs hl; omega, by have := hS g hs hl; omega, fun i => by have := hS g hs hl; unfold fcolW; omega⟩) (fun g hl hq => hc g hl (by
      rcases hq with q | q | q | ⟨i, q⟩
      · omega
      · omega
      · omega
      · unfold fcolW at q; omega)),
    h.lists, h.listsW, h.small, h.smallW⟩
theorem VW.keeps (h : VW c w v sd sx n) (k : Keeps S w w') (hS : ∀ g, S g → g < w.heap.size → c g ≠ 2 ∧ (c g < 11 ∨ 22 ≤ c g)) (hc : ∀ g, g < w.heap.size → (c g = 2 ∨ (11 ≤ c g ∧ c g < 22)) → c' g = c g) : VW c' w' v sd sx n :=
  ⟨ownsRow_keeps h.row k fun g hg hs => (hS g hs (h.row.lt g hg).2).1 (h.crow g hg), fun g hg => by rw [hc g (h.row.lt g hg).2 (.inl (h.crow g hg))]; exact h.crow g hg, h.few,
    fun i s hs => (h.dev i s hs).keeps2 k (fun q hl hq e => by have := hS q hq hl; have := (List.getElem?_eq_some_iff.1 hs).1; have := h.few; omega) fun q hl e => by have hi := (List.getElem?_eq_some_iff.1 hs).1; have hf := h.few; rw [hc q hl (.inr (by omega))]; exact e,
    fun i s hs => (h.ref i s hs).keeps2 k (fun q hl hq e => by have := hS q hq hl; have := (List.getElem?_eq_some_iff.1 hs).1; have := h.few; omega) fun q hl e => by have hi := (List.getElem?_eq_some_iff.1 hs).1; have hf := h.few; rw [hc q hl (.inr (by omega))]; exact e, h.okd, h.okx,
    h.hand.keeps k fun g hg hs => by have := hS g hs (h.hand.lt g hg); have := h.chand g hg; omega, fun g hg => by rw [hc g (h.hand.lt g hg) (.inr (by rw [h.chand g hg]; omega))]; exact h.chand g hg⟩
/-- a call that makes new blocks alone -/
theorem DW.fresh (h : DW B c w ob v sd sx n N) (f : Fresh w w') : DW B c w' ob v sd sx n N :=
  ⟨f.at_ h.box (fun h => h), h.cbox, h.lw.keeps f (fun _ h => h.elim) (fun _ _ _ => rfl), h.vw.keeps f (fun _ h => h.elim) (fun _ _ _ => rfl), h.low, Nat.le_trans h.size f.size, fun g hg => h.unborn g (Nat.le_trans f.size hg)⟩
/-- blocks of nobody turn -/
theorem DW.nobody (h : DW B c w ob v sd sx n N) (k : Keeps S w w') (hS : ∀ g, S g → g < w.heap.size → c g = 0) : DW B c w' ob v sd sx n N :=
  ⟨k.at_ h.box (fun hs => by have := hS _ hs (lt_of_block h.box); have := h.cbox; omega), h.cbox, h.lw.keeps k (fun g hs hl => by have := hS g hs hl; omega) (fun _ _ _ => rfl), h.vw.keeps k (fun g hs hl => by have := hS g hs hl; omega) (fun _ _ _ => rfl), h.low, Nat.le_trans h.size k.size, fun g hg => h.unborn g (Nat.le_trans k.size hg)⟩
/-- the device's call -/
theorem DW.setDev (h : DW B c w ob v sd sx n N) {i n' : Nat} {d x : Nat} {s' : St} (hi : v.ss[i]? = some (d, x)) (k : Keeps (fun g => c g = 12 + 2 * i) w w') (hd : DevAt (fun g => c g = 12 + 2 * i) w' d s' n') (ok : s'.Ok) (hn : n ≤ n') : DW B c w' ob v (updt sd i s') sx n' N := by
  have hi5 : i < 5 := by have := (List.getElem?_eq_some_iff.1 hi).1; have := h.vw.few; omega
  refine ⟨k.at_ h.box (fun hs => by have := h.cbox; omega), h.cbox, h.lw.keeps k (fun g hs hl => by omega) (fun _ _ _ => rfl), ?_, h.low, Nat.le_trans h.size k.size, fun g hg => h.unborn g (Nat.le_trans k.size hg)⟩
  refine ⟨ownsRow_keeps h.vw.row k fun g hg hs => by have := h.vw.crow g hg; omega, h.vw.crow, h.vw.few, fun j s hj => ?_, fun j s hj => ?_, fun j hj => ?_, h.vw.okx, h.vw.hand.keeps k fun g hg hs => by have := h.vw.chand g hg; omega, h.vw.chand⟩
  · by_cases e : j = i
    · subst e
      rw [updt_at]
      rw [hi] at hj
      cases hj
      exact hd
    · rw [updt_ne _ _ e]
      exact ((h.vw.dev j s hj).keeps k fun q _ hq e2 => by omega).mono (fun _ _ h => h) hn
  · exact (h.vw.ref j s hj).keeps k fun q _ hq e2 => by omega
  · by_cases e : j = i
    · subst e; rw [updt_at]; exact ok
    · rw [updt_ne _ _ e]; exact h.vw.okd j hj
/-- the document's call -/
theorem DW.setRef (h : DW B c w ob v sd sx n N) {i : Nat} {d x : Nat} {s' : St} (hi : v.ss[i]? = some (d, x)) (k : Keeps (fun g => c g = 13 + 2 * i) w w') (hd : RefAt (fun g => c g = 13 + 2 * i) w' x s') (ok : s'.Ok) : DW B c w' ob v sd (updt sx i s') n N := by
  have hi5 : i < 5 := by have := (List.getElem?_eq_some_iff.1 hi).1; have := h.vw.few; omega
  refine ⟨k.at_ h.box (fun hs => by have := h.cbox; omega), h.cbox, h.lw.keeps k (fun g hs hl => by omega) (fun _ _ _ => rfl), ?_, h.low, Nat.le_trans h.size k.size, fun g hg => h.unborn g (Nat.le_trans k.size hg)⟩
  refine ⟨ownsRow_keeps h.vw.row k fun g hg hs => by have := h.vw.crow g hg; omega, h.vw.crow, h.vw.few, fun j s hj => ?_, fun j s hj => ?_, h.vw.okd, fun j hj => ?_, h.vw.hand.keeps k fun g hg hs => by have := h.vw.chand g hg; omega, h.vw.chand⟩
  · exact (h.vw.dev j s hj).keeps k fun q _ hq e2 => by omega
  · by_cases e : j = i
    · subst e
      rw [updt_at]
      rw [hi] at hj
      cases hj
      exact hd
    · rw [updt_ne _ _ e]
      exact (h.vw.ref j s hj).keeps k fun q _ hq e2 => by omega
  · by_cases e : j = i
    · subst e; rw [updt_at]; exact ok
    · rw [updt_ne _ _ e]; exact h.vw.okx j hj
/-- blocks of nobody are given a colour of their own -/
theorem DW.tint (h : DW B c w ob v sd sx n N) (hc : ∀ g, c g ≠ 0 → c' g = c g) (hlow : ∀ g, g < B → c' g = 0) (hun : ∀ g, w.heap.size ≤ g → c' g = 0) : DW B c' w ob v sd sx n N :=
  ⟨h.box, (hc ob (by rw [h.cbox]; omega)).trans h.cbox, h.lw.keeps (Keeps.refl (fun _ => False) w) (fun _ h => h.elim) (fun g _ q => hc g (by omega)), h.vw.keeps (Keeps.refl (fun _ => False) w) (fun _ h => h.elim) (fun g _ q => hc g (by omega)), hlow, h.size, hun⟩
/-- what turns is theirs -/
theorem DW.owns (h : DW B c w ob v sd sx n N) (k : Keeps S w w') (hS : ∀ g, S g → g < w.heap.size → c g ≠ 0) : Keeps (fun q => B ≤ q) w w' := k.mono fun q hq e => by
  apply Classical.byContradiction
  intro hn
  exact hS q e hq (h.low q (by omega))
theorem DW.more (h : DW B c w ob v sd sx n N) {n' N' : Nat} (hn : n ≤ n') (hN : N ≤ N') : DW B c w ob v sd sx n' N' := by
  obtain ⟨G, g1, g2⟩ := h.lw.lists
  obtain ⟨G2, g3, g4⟩ := h.lw.listsW
  exact ⟨h.box, h.cbox, ⟨h.lw.pack, h.lw.packW, h.lw.free, h.lw.freeW, ⟨G, g1, by omega⟩, ⟨G2, g3, by omega⟩, h.lw.small, h.lw.smallW⟩, ⟨h.vw.row, h.vw.crow, h.vw.few, fun i s hs => (h.vw.dev i s hs).mono (fun _ _ h => h) hn, h.vw.ref, h.vw.okd, h.vw.okx, h.vw.hand, h.vw.chand⟩, h.low, h.size, h.unborn⟩
theorem DW.blow (h : DW B c w ob v sd sx n N) : B ≤ ob := by
  apply Classical.byContradiction
  intro hn
  have := h.low ob (by omega)
  have := h.cbox
  omega
end
end Go.Proofs.Ytbhienlalpbflaa
