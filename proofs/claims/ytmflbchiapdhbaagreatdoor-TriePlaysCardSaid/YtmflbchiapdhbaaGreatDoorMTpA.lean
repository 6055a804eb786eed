/-
  The law's world: two maps, the document's two, the lists that came out. Colours: 0 nobody's, 1 the box, 2 the kept lists, 3 those untouched, 4 their copies' list, 5 the copies, 6 and 7 the maps, 8 and 9 the document's, then the lists.
  The law's world: a list that came out is kept untouched, or marked and grown.
  The law's world: 'owned', walked.
  The law's world: does each list still read as its owner wrote it?
-/
import Derived.Test.YtmflbchiapdhbaaGreatDoorTpGrow
import Derived.Test.YtmflbchiapdhbaaGreatDoorTdSet
import Derived.Test.YtmflbchiapdhbaaGreatDoorMTrB
import Derived.Test.YtmflbchiapdhbaaGreatDoorMMsF
import Derived.BigQuiet
import Derived.Deep.RegionLaw
namespace Go.Proofs.YtmflbchiapdhbaaGreatDoor
open Go.RowKit

abbrev Texts : Type := List (List UInt8)
abbrev FreeL (c : Nat → Nat) (w : World) (fv wv : Value) (F Wv : List Value) (C : List Texts) : Prop := Frees c w 9 41 1 texts List.length 3 4 5 fcol fv wv F Wv C
def boxCells (m y : Nat → Nat) (lv fv wv : Value) (kp : Bool) : Array Value := #[.pointer (some ⟨m 0, 0, none⟩), .pointer (some ⟨m 1, 0, none⟩), .pointer (some ⟨y 0, 0, none⟩), .pointer (some ⟨y 1, 0, none⟩), lv, fv, wv, .bool kp]
structure TW (B : Nat) (c : Nat → Nat) (w : World) (ob : Nat) (kp : Bool) (m y : Nat → Nat) (t : Nat → Tr) (n : Nat → Nat) (dv : Nat → Value) (L : Nat → List Ent) (lv fv wv : Value) (A F Wv : List Value) (C : List Texts) (N : Nat) : Prop where
  box : w.heap[ob]? = some (.cells (boxCells m y lv fv wv kp) 33 (0, 0))
  cbox : c ob = 1
  map : ∀ k, k < 2 → Map w (m k) (t k) (n k)
  cmap : ∀ k, k < 2 → c (m k) = 6 + k
  gmap : ∀ k, k < 2 → 3 ≤ m k
  doc : ∀ k, k < 2 → DocAt w (y k) (dv k) (L k)
  cdoc : ∀ k, k < 2 → c (y k) = 8 + k ∧ ∀ g, (dv k).ownBlock = some g → c g = 8 + k
  pack : Packs c w lv A
  free : FreeL c w fv wv F Wv C
  low : ∀ g, g < B → c g = 0
  size : B ≤ w.heap.size
  lists : ∃ G, A.length = 6 * G ∧ G + F.length ≤ N
  small : ∀ l ∈ C, l.length ≤ 1000
/-- another world, and other colours: nothing of a colour turned -/
structure Same (c c' : Nat → Nat) (w w' : World) (Z : Nat → Prop) : Prop where
  keeps : Keeps (fun g => c g = 0 ∨ Z (c g)) w w'
  cols : ∀ g, g < w.heap.size → c g ≠ 0 → c' g = c g
theorem upd (f : Nat → Nat) (i v : Nat) : (fun j => if j = i then v else f j) i = v := if_pos rfl

section
variable {Z : Nat → Prop} {B ob : Nat} {c c' : Nat → Nat} {w w' : World} {kp : Bool} {m y n : Nat → Nat} {t : Nat → Tr} {dv : Nat → Value} {L : Nat → List Ent} {lv fv wv : Value} {A F Wv : List Value} {C : List Texts} {N : Nat}
theorem Same.at_ (s : Same c c' w w' Z) {g x : Nat} {o : Obj} (ho : w.heap[g]? = some o) (hc : c g = x) (hx : x ≠ 0) (hz : ¬ Z x) : w'.heap[g]? = some o ∧ c' g = x :=
  ⟨s.keeps.at_ ho (fun h => h.elim (fun e => hx (hc.symm.trans e)) (fun e => hz (hc ▸ e))), (s.cols g (lt_of_block ho) (hc ▸ hx)).trans hc⟩
theorem Same.row (s : Same c c' w w' Z) {e : TypeId} {size k x : Nat} {v : Value} {xs : List Value} (h : w.ownsRow 0 e size v k xs) (hc : ∀ g, v.ownBlock = some g → c g = x) (hx : x ≠ 0) (hz : ¬ Z x) : w'.ownsRow 0 e size v k xs ∧ ∀ g, v.ownBlock = some g → c' g = x :=
  ⟨ownsRow_keeps h s.keeps fun g hg hq => hq.elim (fun e => hx ((hc g hg).symm.trans e)) (fun e => hz (hc g hg ▸ e)), fun g hg => (s.cols g (h.lt g hg).2 (hc g hg ▸ hx)).trans (hc g hg)⟩
theorem Same.pack (s : Same c c' w w' Z) (h : Packs c w lv A) (hz : ∀ x, Z x → x ≠ 2 ∧ ∀ i, x ≠ gcol i) : Packs c' w' lv A :=
  h.keeps s.keeps (fun g hg _ => hg.elim (fun e => by rw [e]; exact ⟨by omega, fun i => by unfold gcol; omega⟩) (fun e => hz _ e)) fun g hg hq => s.cols g hg (by
    rcases hq with q | ⟨i, q⟩
    · omega
    · rw [q]; unfold gcol; omega)
theorem Same.free (s : Same c c' w w' Z) (h : FreeL c w fv wv F Wv C) (hz : ∀ x, Z x → x ≠ 3 ∧ x ≠ 4 ∧ x ≠ 5 ∧ ∀ i, x ≠ fcol i) : FreeL c' w' fv wv F Wv C :=
  h.keeps s.keeps (fun g hg _ => hg.elim (fun e => by rw [e]; exact ⟨by omega, by omega, by omega, fun i => by unfold fcol; omega⟩) (fun e => hz _ e)) fun g hg hq => s.cols g hg (by
    rcases hq with q | q | q | ⟨i, q⟩
    · omega
    · omega
    · omega
    · rw [q]; unfold fcol; omega)
theorem Same.map (s : Same c c' w w' Z) {k : Nat} {tk : Tr} {nk x : Nat} (h : Map w k tk nk) (hc : c k = x) (hx : x ≠ 0) (hz : ¬ Z x) : Map w' k tk nk ∧ c' k = x :=
  ⟨h.keeps s.keeps fun q => q.elim (fun e => hx (hc.symm.trans e)) (fun e => hz (hc ▸ e)), (s.cols k h.lt (hc ▸ hx)).trans hc⟩
theorem Same.doc (s : Same c c' w w' Z) {k x : Nat} {d : Value} {M : List Ent} (h : DocAt w k d M) (hc : c k = x ∧ ∀ g, d.ownBlock = some g → c g = x) (hx : x ≠ 0) (hz : ¬ Z x) : DocAt w' k d M ∧ (c' k = x ∧ ∀ g, d.ownBlock = some g → c' g = x) := by
  have hn : ∀ g, c g = x → ¬ (c g = 0 ∨ Z (c g)) := fun g e q => q.elim (fun e2 => hx (e.symm.trans e2)) (fun e2 => hz (e ▸ e2))
  exact ⟨h.keeps s.keeps (hn k hc.1) fun g hg => hn g (hc.2 g hg), (s.cols k (lt_of_block h.box) (hc.1 ▸ hx)).trans hc.1, fun g hg => (s.cols g (h.row.lt g hg).2 (hc.2 g hg ▸ hx)).trans (hc.2 g hg)⟩

theorem Same.pens (s : Same c c' w w' Z) (h : FreeL c w fv wv F Wv C) (hz : ∀ x, Z x → x ≠ 5 ∧ ∀ i, x ≠ fcol i) : (∀ (j : Nat) (v : Value) (l : Texts), F[j]? = some v → C[j]? = some l → Pen c' w' 9 1 (texts l) (fcol j) v l.length) ∧ (∀ (j : Nat) (v : Value) (l : Texts), Wv[j]? = some v → C[j]? = some l → Pen c' w' 9 1 (texts l) 5 v l.length) :=
  ⟨fun j v l hv hl => (h.lists j v l hv hl).keeps s.keeps (fun g hg _ e => hg.elim (fun q => by rw [e] at q; unfold fcol at q; omega) (fun q => (hz _ q).2 j e)) fun g hg e => (s.cols g hg (by rw [e]; unfold fcol; omega)).trans e,
    fun j v l hv hl => (h.was j v l hv hl).keeps s.keeps (fun g hg _ e => hg.elim (fun q => by omega) (fun q => (hz _ q).1 e)) fun g hg e => (s.cols g hg (by omega)).trans e⟩
/-- a call that turns nothing of theirs -/
theorem TW.same (h : TW B c w ob kp m y t n dv L lv fv wv A F Wv C N) (s : Same c c' w w' (fun _ => False)) (hlow : ∀ g, g < B → c' g = 0) : TW B c' w' ob kp m y t n dv L lv fv wv A F Wv C N := by
  obtain ⟨b1, b2⟩ := s.at_ h.box h.cbox (by omega) (fun h => h)
  have hm := fun k (hk : k < 2) => s.map (h.map k hk) (h.cmap k hk) (by omega) (fun h => h)
  have hd := fun k (hk : k < 2) => s.doc (h.doc k hk) (h.cdoc k hk) (by omega) (fun h => h)
  exact ⟨b1, b2, fun k hk => (hm k hk).1, fun k hk => (hm k hk).2, h.gmap, fun k hk => (hd k hk).1, fun k hk => (hd k hk).2, s.pack h.pack (fun _ h => h.elim), s.free h.free (fun _ h => h.elim), hlow, Nat.le_trans h.size s.keeps.size, h.lists, h.small⟩
theorem TW.fresh (h : TW B c w ob kp m y t n dv L lv fv wv A F Wv C N) (f : Fresh w w') : TW B (paint c w 0) w' ob kp m y t n dv L lv fv wv A F Wv C N :=
  h.same ⟨f.mono fun _ _ h => h.elim, fun g hg _ => paint_old hg⟩ fun g hg => by rw [paint_old (by have := h.size; omega)]; exact h.low g hg
/-- blocks of nobody are given a colour of their own -/
theorem TW.tint (h : TW B c w ob kp m y t n dv L lv fv wv A F Wv C N) (hc : ∀ g, c g ≠ 0 → c' g = c g) (hlow : ∀ g, g < B → c' g = 0) : TW B c' w ob kp m y t n dv L lv fv wv A F Wv C N :=
  h.same ⟨Keeps.refl _ _, fun g _ hg => hc g hg⟩ hlow
end
end Go.Proofs.YtmflbchiapdhbaaGreatDoor

namespace Go.Proofs.YtmflbchiapdhbaaGreatDoor
open Go.RowKit

/-- what 'owned' leaves -/
def Owned (B : Nat) (c : Nat → Nat) (w w' : World) (ob : Nat) (kp : Bool) (m y : Nat → Nat) (t : Nat → Tr) (n : Nat → Nat) (dv : Nat → Value) (L : Nat → List Ent) (N : Nat) (v : Value) : Prop :=
  ∃ c' lv fv wv A F Wv C, TW B c' w' ob kp m y t n dv L lv fv wv A F Wv C (N + 1) ∧ Keeps (fun q => c q ≠ 0 ∨ v.ownBlock = some q) w w' ∧ ∀ g, g < w.heap.size → c g = 0 → v.ownBlock ≠ some g → c' g = 0

theorem Appended.undrew {e : TypeId} {size n : Nat} {w w' : World} {v v' : Value} {xs : List Value} (h : Appended e size w.drew w' v v' n xs) : Appended e size w w' v v' n xs :=
  ⟨h.row, (Keeps.refl (fun k => v.ownBlock = some k) w).drew.trans h.keeps, h.own⟩

section
variable {B ob N : Nat} {c : Nat → Nat} {w w1 w2 w3 : World} {kp : Bool} {m y n : Nat → Nat} {t : Nat → Tr} {dv : Nat → Value} {L : Nat → List Ent} {lv fv wv fv' wv' v wx : Value} {A F Wv : List Value} {C : List Texts} {l : Texts}
/-- a list and its copy noted -/
theorem TW.more (h : TW B c w ob kp m y t n dv L lv fv wv A F Wv C N) (hv : w.ownsRow 0 9 1 v l.length (texts l)) (hvc : ∀ g, v.ownBlock = some g → B ≤ g ∧ c g = 0) (hl : l.length ≤ 1000)
    (ha : Appended 41 1 w w1 fv fv' (F.length + 1) (F ++ [v]))
    (hm : Appended 9 1 (w1.setCell ⟨ob, 5, none⟩ fv') w2 (.slice none 0 0) wx l.length (texts l))
    (hb : Appended 41 1 w2 w3 wv wv' (Wv.length + 1) (Wv ++ [wx])) :
    Owned B c w (w3.setCell ⟨ob, 6, none⟩ wv') ob kp m y t n dv L N v := by
  have hob := lt_of_block h.box
  have k1 : Keeps (fun q => q = ob ∨ fv.ownBlock = some q) w (w1.setCell ⟨ob, 5, none⟩ fv') := (ha.keeps.mono (fun q _ e => .inr e)).setCell (p := ⟨ob, 5, none⟩) (fun _ => .inl rfl) fv'
  have f2 : Fresh (w1.setCell ⟨ob, 5, none⟩ fv') w2 := hm.keeps.mono (fun q _ e => by simp [Value.ownBlock] at e)
  have k2 : Keeps (fun q => q = ob ∨ fv.ownBlock = some q) w w2 := k1.trans (f2.mono (fun _ _ h => h.elim))
  have k3 : Keeps (fun q => q = ob ∨ fv.ownBlock = some q ∨ wv.ownBlock = some q) w (w3.setCell ⟨ob, 6, none⟩ wv') := ((k2.mono (fun q _ e => e.elim .inl (fun e => .inr (.inl e)))).trans (hb.keeps.mono (fun q _ e => .inr (.inr e)))).setCell (p := ⟨ob, 6, none⟩) (fun _ => .inl rfl) wv'
  have s1 := k1.size
  have s2 := f2.size
  have s3 := hb.keeps.size
  have s12 := ha.keeps.size
  have z1 : (w1.setCell ⟨ob, 5, none⟩ fv').heap.size = w1.heap.size := by simp
  have hn0 : ∀ g, v.ownBlock = some g → g < w.heap.size := fun g hg => (hv.lt g hg).2
  let c' : Nat → Nat := fun g => if v.ownBlock = some g then fcol F.length else if g < w.heap.size then c g else if g < w1.heap.size then 3 else if g < w2.heap.size then 5 else 4
  have pv : ∀ g, v.ownBlock = some g → c' g = fcol F.length := fun g hg => if_pos hg
  have p0 : ∀ g, g < w.heap.size → v.ownBlock ≠ some g → c' g = c g := fun g hg hn => by show (if v.ownBlock = some g then fcol F.length else if g < w.heap.size then c g else if g < w1.heap.size then 3 else if g < w2.heap.size then 5 else 4) = c g; rw [if_neg hn, if_pos hg]
  have pn : ∀ g, w.heap.size ≤ g → v.ownBlock ≠ some g := fun g hg e => by have := hn0 g e; omega
  have p1 : ∀ g, w.heap.size ≤ g → g < w1.heap.size → c' g = 3 := fun g h1 h2 => by show (if v.ownBlock = some g then fcol F.length else if g < w.heap.size then c g else if g < w1.heap.size then 3 else if g < w2.heap.size then 5 else 4) = 3; rw [if_neg (pn g h1), if_neg (by omega), if_pos h2]
  have p2 : ∀ g, w1.heap.size ≤ g → g < w2.heap.size → c' g = 5 := fun g h1 h2 => by show (if v.ownBlock = some g then fcol F.length else if g < w.heap.size then c g else if g < w1.heap.size then 3 else if g < w2.heap.size then 5 else 4) = 5; rw [if_neg (pn g (by omega)), if_neg (by omega), if_neg (by omega), if_pos h2]
  have p3 : ∀ g, w2.heap.size ≤ g → c' g = 4 := fun g h1 => by show (if v.ownBlock = some g then fcol F.length else if g < w.heap.size then c g else if g < w1.heap.size then 3 else if g < w2.heap.size then 5 else 4) = 4; rw [if_neg (pn g (by omega)), if_neg (by omega), if_neg (by omega), if_neg (by omega)]
  have hf' : ∀ g, fv'.ownBlock = some g → c' g = 3 ∧ g < w1.heap.size := fun g hg => by
    rcases ha.own g hg with q | q
    · have h1 := (h.free.frow.lt g q).2
      have h2 := h.free.cfrow g q
      exact ⟨by rw [p0 g h1 (fun e => by have := (hvc g e).2; omega)]; exact h2, by omega⟩
    · exact ⟨p1 g q.1 q.2, q.2⟩
  have hx' : ∀ g, wx.ownBlock = some g → c' g = 5 ∧ g < w2.heap.size := fun g hg => by
    rcases hm.own g hg with q | q
    · simp [Value.ownBlock] at q
    · exact ⟨p2 g (by omega) q.2, q.2⟩
  have hw' : ∀ g, wv'.ownBlock = some g → c' g = 4 := fun g hg => by
    rcases hb.own g hg with q | q
    · have h1 : g < w.heap.size := (h.free.wrow.lt g q).2
      have h2 := h.free.cwrow g q
      rw [p0 g h1 (fun e => by have := (hvc g e).2; omega)]; exact h2
    · exact p3 g q.1
  have S : Same c c' w (w3.setCell ⟨ob, 6, none⟩ wv') (fun x => x = 1 ∨ x = 3 ∨ x = 4) := ⟨k3.mono fun q hq e => by
    rcases e with rfl | e | e
    · exact .inr (.inl h.cbox)
    · exact .inr (.inr (.inl (h.free.cfrow q e)))
    · exact .inr (.inr (.inr (h.free.cwrow q e))), fun g hg hn => p0 g hg (fun e => hn (hvc g e).2)⟩
  have cb : c' ob = 1 := (S.cols ob hob (by rw [h.cbox]; omega)).trans h.cbox
  have b1 : w1.heap[ob]? = some (.cells (boxCells m y lv fv wv kp) 33 (0, 0)) := ha.keeps.at_ h.box (fun e => by have := h.free.cfrow _ e; have := h.cbox; omega)
  have b2 : (w1.setCell ⟨ob, 5, none⟩ fv').heap[ob]? = some (.cells (boxCells m y lv fv' wv kp) 33 (0, 0)) := heap_setCell_at b1 5 fv'
  have b3 : w3.heap[ob]? = some (.cells (boxCells m y lv fv' wv kp) 33 (0, 0)) := hb.keeps.at_ (f2.at_ b2 (fun h => h)) (fun e => by have := h.free.cwrow _ e; have := h.cbox; omega)
  have ncb : ∀ g, c' g ≠ 1 → g ≠ ob := fun g hg e => hg (by rw [e]; exact cb)
  have hfr : (w3.setCell ⟨ob, 6, none⟩ wv').ownsRow 0 41 1 fv' (F.length + 1) (F ++ [v]) := by
    refine ownsRow_setCell_ne (ownsRow_keeps (ownsRow_keeps (ownsRow_setCell_ne ha.row (fun e => ncb ob (by have := (hf' _ e).1; have e2 : c' ob = 3 := this; omega) rfl) fv') f2 (fun _ _ h => h)) hb.keeps (fun g hg e => ?_)) (fun e => ncb ob (by have e2 : c' ob = 3 := (hf' _ e).1; omega) rfl) wv'
    have h1 := (hf' g hg).1
    have h2 := (h.free.wrow.lt g e).2
    have h3 := h.free.cwrow g e
    rw [p0 g h2 (fun e => by have := (hvc g e).2; omega)] at h1
    omega
  have hwr : (w3.setCell ⟨ob, 6, none⟩ wv').ownsRow 0 41 1 wv' (Wv.length + 1) (Wv ++ [wx]) := ownsRow_setCell_ne hb.row (fun e => ncb ob (by have e2 : c' ob = 4 := hw' _ e; omega) rfl) wv'
  have hxr : (w3.setCell ⟨ob, 6, none⟩ wv').ownsRow 0 9 1 wx l.length (texts l) := by
    refine ownsRow_setCell_ne (ownsRow_keeps hm.row hb.keeps (fun g hg e => ?_)) (fun e => ncb ob (by have e2 : c' ob = 5 := (hx' _ e).1; omega) rfl) wv'
    have h1 := (hx' g hg).1
    have h2 := (h.free.wrow.lt g e).2
    have h3 := h.free.cwrow g e
    rw [p0 g h2 (fun e => by have := (hvc g e).2; omega)] at h1
    omega
  have hvr : (w3.setCell ⟨ob, 6, none⟩ wv').ownsRow 0 9 1 v l.length (texts l) := ownsRow_keeps hv k3 (fun g hg e => by
    have h0 := (hvc g hg).2
    rcases e with rfl | e | e
    · have := h.cbox; omega
    · have := h.free.cfrow g e; omega
    · have := h.free.cwrow g e; omega)
  obtain ⟨q1, q2⟩ := S.pens h.free (fun x hx => ⟨by omega, fun i => by unfold fcol; omega⟩)
  obtain ⟨vo, vc, rfl⟩ := ownsRow_slice hv
  obtain ⟨xo, xc, rfl⟩ := ownsRow_slice hxr
  have hmaps := fun k (hk : k < 2) => S.map (h.map k hk) (h.cmap k hk) (by omega) (by omega)
  have hdocs := fun k (hk : k < 2) => S.doc (h.doc k hk) (h.cdoc k hk) (by omega) (by omega)
  refine ⟨c', lv, fv', wv', A, F ++ [.slice vo l.length vc], Wv ++ [.slice xo l.length xc], C ++ [l], ⟨heap_setCell_at b3 6 wv', cb, fun k hk => (hmaps k hk).1, fun k hk => (hmaps k hk).2, h.gmap, fun k hk => (hdocs k hk).1, fun k hk => (hdocs k hk).2, S.pack h.pack (fun x hx => ⟨by omega, fun i => by unfold gcol; omega⟩), ?_, fun g hg => ?_, Nat.le_trans h.size k3.size, ?_, ?_⟩, k3.mono fun q hq e => .inl ?_, fun g hg h0 hn => (p0 g hg hn).trans h0⟩
  · exact Frees.more h.free.lenC h.free.lenW q1 q2 ⟨_, Clip.same, hvr, pv⟩ ⟨_, Clip.same, hxr, fun g hg => (hx' g hg).1⟩ hfr (fun g hg => (hf' g hg).1) hwr hw'
  · have h1 := h.size
    rw [p0 g (by omega) (fun e => by have := (hvc g e).1; omega)]
    exact h.low g hg
  · obtain ⟨G, h1, h2⟩ := h.lists
    exact ⟨G, h1, by rw [List.length_append]; simp; omega⟩
  · intro x hx
    rcases List.mem_append.1 hx with hx | hx
    · exact h.small x hx
    · rw [List.mem_singleton] at hx
      rw [hx]; exact hl
  · rcases e with rfl | e | e
    · have := h.cbox; omega
    · have := h.free.cfrow q e; omega
    · have := h.free.cwrow q e; omega
/-- a list marked, grown, all that it was noted -/
theorem TW.grown {c1 c2 : Nat → Nat} {wr w2 : World} {av' : Value} {A' : List Value} {G : Nat} (h : TW B c w ob kp m y t n dv L lv fv wv A F Wv C N) (hvc : ∀ g, v.ownBlock = some g → B ≤ g ∧ c g = 0) (hGN : G + F.length ≤ N)
    (hc1 : ∀ g, g < w.heap.size → c1 g = if v.ownBlock = some g then gcol G else c g) (kr : Keeps (fun q => v.ownBlock = some q) w wr) (hag : ∀ g, g < wr.heap.size → c2 g = c1 g) (hA' : A'.length = 6 * (G + 1)) (hp : Packs c2 w2 av' A') (k2 : Keeps (fun g => c1 g = 2 ∨ c1 g = gcol G) wr w2) :
    Owned B c w (w2.setCell ⟨ob, 4, none⟩ av') ob kp m y t n dv L N v := by
  have hob := lt_of_block h.box
  have hsz := kr.size
  have hsz2 := k2.size
  have hz : ∀ g, g < w.heap.size → v.ownBlock ≠ some g → c2 g = c g := fun g hg hn => by rw [hag g (by omega), hc1 g hg, if_neg hn]
  have hnob : v.ownBlock ≠ some ob := fun e => by have := (hvc ob e).2; have := h.cbox; omega
  have k3 : Keeps (fun g => c g = 0 ∧ v.ownBlock = some g ∨ c g = 2 ∨ c g = gcol G) w w2 := (kr.mono fun g _ hg => .inl ⟨(hvc g hg).2, hg⟩).trans' k2 fun g hg hq => by
    rw [hc1 g hg] at hq
    by_cases e : v.ownBlock = some g
    · exact .inl ⟨(hvc g e).2, e⟩
    · rw [if_neg e] at hq
      exact .inr hq
  have k4 : Keeps (fun g => c g = 0 ∧ v.ownBlock = some g ∨ c g = 2 ∨ c g = gcol G ∨ c g = 1) w (w2.setCell ⟨ob, 4, none⟩ av') := (k3.mono fun g _ e => e.imp_right fun e => e.imp_right .inl).setCell (p := ⟨ob, 4, none⟩) (fun _ => .inr (.inr (.inr h.cbox))) av'
  have S : Same c c2 w (w2.setCell ⟨ob, 4, none⟩ av') (fun x => x = 1 ∨ x = 2 ∨ x = gcol G) := ⟨k4.mono fun g _ e => by
    rcases e with e | e | e | e
    · exact .inl e.1
    · exact .inr (.inr (.inl e))
    · exact .inr (.inr (.inr e))
    · exact .inr (.inl e), fun g hg hn => hz g hg fun e => hn (hvc g e).2⟩
  have b2 : w2.heap[ob]? = some (.cells (boxCells m y lv fv wv kp) 33 (0, 0)) := k3.at_ h.box (fun e => by
    have := h.cbox
    rcases e with e | e | e
    · exact hnob e.2
    · omega
    · unfold gcol at e; omega)
  have cb : c2 ob = 1 := (hz ob hob hnob).trans h.cbox
  have hmaps := fun k (hk : k < 2) => S.map (h.map k hk) (h.cmap k hk) (by omega) (by unfold gcol; omega)
  have hdocs := fun k (hk : k < 2) => S.doc (h.doc k hk) (h.cdoc k hk) (by omega) (by unfold gcol; omega)
  refine ⟨c2, av', fv, wv, A', F, Wv, C, ⟨heap_setCell_at b2 4 av', cb, fun k hk => (hmaps k hk).1, fun k hk => (hmaps k hk).2, h.gmap, fun k hk => (hdocs k hk).1, fun k hk => (hdocs k hk).2, ?_, S.free h.free (fun x hx => ?_), fun g hg => ?_, Nat.le_trans h.size k4.size, ⟨G + 1, hA', by omega⟩, h.small⟩, k4.mono fun q hq e => ?_, fun g hg h0 hn => (hz g hg hn).trans h0⟩
  · exact hp.keeps ((Keeps.refl (fun q => q = ob) w2).setCell (p := ⟨ob, 4, none⟩) (fun _ => rfl) av') (fun g hg _ => by rw [hg, cb]; exact ⟨by omega, fun i => by unfold gcol; omega⟩) fun _ _ _ => rfl
  · unfold gcol at hx
    exact ⟨by omega, by omega, by omega, fun i => by unfold fcol; omega⟩
  · have h1 := h.size
    rw [hz g (by omega) (fun e => by have := (hvc g e).1; omega)]
    exact h.low g hg
  · rcases e with e | e | e | e
    · exact .inr e.2
    · exact .inl (by omega)
    · exact .inl (by unfold gcol at e; omega)
    · exact .inl (by omega)
end
end Go.Proofs.YtmflbchiapdhbaaGreatDoor

namespace Go.Proofs.YtmflbchiapdhbaaGreatDoor
open Go.RowKit

section
variable (B ob N : Nat) (c : Nat → Nat) (w : World) (m y n : Nat → Nat) (t : Nat → Tr) (dv : Nat → Value) (L : Nat → List Ent) (lv fv wv v : Value) (A F Wv : List Value) (C : List Texts) (l : Texts)
set_option maxRecDepth 100000 in
set_option maxHeartbeats 4000000 in
theorem owned_keep (h : TW B c w ob true m y t n dv L lv fv wv A F Wv C N) (hN : N ≤ 1000) (hv : w.ownsRow 0 9 1 v l.length (texts l)) (hvc : ∀ g, v.ownBlock = some g → B ≤ g ∧ c g = 0) (hl : l.length ≤ 1000) :
    Calls Tryz.prog 24 #[.pointer (some ⟨ob, 0, none⟩), v] w fun x w' => x = .returned (.tuple #[]) ∧ Owned B c w w' ob true m y t n dv L N v := by
  obtain ⟨i0, hi, hz0, hz1, hz2⟩ := info_parts Tryz.infoText
  obtain ⟨i1, hi', hz0', hz1', hz2'⟩ := info_parts Tryz.infoListT
  obtain ⟨aof, cpf, rfl⟩ := ownsRow_slice h.free.frow
  obtain ⟨aow, cpw, rfl⟩ := ownsRow_slice h.free.wrow
  obtain ⟨vo, vc, rfl⟩ := ownsRow_slice hv
  have H := hid h
  have HV := hid hv
  have HVC := hid hvc
  have c7 := (cell_at h.box 7).trans (show _ = some (Value.bool true) from rfl)
  have c0 := (cell_at h.box 5).trans (show _ = some (Value.slice aof F.length cpf) from rfl)
  have d0 := free_at h.box 5
  have bl := lt_of_block h.box
  have hF : F.length ≤ 1000 := by obtain ⟨G, -, h2⟩ := h.lists; omega
  have hFW : Wv.length ≤ 1000 := by rw [h.free.lenW]; exact hF
  have HF := hid hF
  have HW := hid hFW
  have HL := hid hl
  clear h hv hvc hF hFW hl
  go_enter Tryz.func24, Tryz.ntmps24
  go_wp2_with (at_builtin; refine wpList_push rfl (.tmp 14) (.tmp 16) 31 rfl 41 i1 (.slice none 0 0) 24 Tryz.underlying31 hi' hz0' hz1' hz2' rfl w H.out.free.frow _ (by rfl) (by rfl) rfl (by have := HF.out; omega) (by have := HF.out; unfold maxLen; omega) ?_)
  intro v1 w1 ha
  have b1 : w1.heap[ob]? = some (.cells (boxCells m y lv (.slice aof F.length cpf) (.slice aow Wv.length cpw) true) 33 (0, 0)) := ha.keeps.at_ H.out.box (fun e => by have := H.out.free.cfrow _ e; have := H.out.cbox; omega)
  have c1 := (cell_at b1 5).trans (show _ = some (Value.slice aof F.length cpf) from rfl)
  have d1 := free_at b1 5
  have bl1 := lt_of_block b1
  obtain ⟨ao1, cp1, rfl⟩ := ownsRow_slice ha.row
  have b2 := heap_setCell_at b1 5 (.slice ao1 (F.length + 1) cp1)
  have HA := hid ha
  clear ha c0 d0 c7
  go_wp2_with fail
  have k2 : Keeps (fun q => q = ob ∨ (Value.slice aof F.length cpf).ownBlock = some q) w (w1.setCell ⟨ob, 5, none⟩ (.slice ao1 (F.length + 1) cp1)) := (HA.out.keeps.mono (fun q _ e => .inr e)).setCell (p := ⟨ob, 5, none⟩) (fun _ => .inl rfl) _
  obtain ⟨W1, hW1⟩ : ∃ W1, w1.setCell ⟨ob, 5, none⟩ (.slice ao1 (F.length + 1) cp1) = W1 := ⟨_, rfl⟩
  rw [hW1] at b2 k2 ⊢
  have HW1 := hid hW1
  have c2 := (cell_at b2 6).trans (show _ = some (Value.slice aow Wv.length cpw) from rfl)
  have d2 := free_at b2 6
  have bl2 := lt_of_block b2
  have hwr : W1.ownsRow 0 41 1 (.slice aow Wv.length cpw) Wv.length Wv := ownsRow_keeps H.out.free.wrow k2 (fun g hg e => by
    have h1 := H.out.free.cwrow g hg
    rcases e with rfl | e
    · have := H.out.cbox; omega
    · have := H.out.free.cfrow g e; omega)
  have hsrc : ∀ W, Fresh W1 W → Src Tryz.prog 1 41 (.slice vo l.length vc) l.length (texts l) W := fun W f => by
    have h4 : W.ownsRow 0 9 1 (.slice vo l.length vc) l.length (texts l) := ownsRow_keeps (ownsRow_keeps HV.out k2 (fun g hg e => by
      have h1 := (HVC.out g hg).2
      rcases e with rfl | e
      · have := H.out.cbox; omega
      · have := H.out.free.cfrow g e; omega)) f (fun _ _ h => h)
    exact Src.ofTexts (P := Tryz.prog) Tryz.underlying41 (OwnTexts_at h4)
  have HS := hid hsrc
  have hne : (Value.slice aow Wv.length cpw).ownBlock ≠ some ob := fun e => by have := H.out.free.cwrow _ e; have := H.out.cbox; omega
  clear hW1 hsrc b1 c1 d1
  refine wp_region_keep 12 (fun w' => Keeps (fun q => q = ob ∨ (Value.slice aow Wv.length cpw).ownBlock = some q) W1 w') (fun w' => w'.cell? ⟨ob, 6, none⟩ = some (.slice aow Wv.length cpw) ∧ w'.frozen? ⟨ob, 6, none⟩ = false) (fun j => !(j == 11)) (by kernel_rfl) (by kernel_rfl) ?_
  (try (change wpKeep _ _ _ _ _ _ _ _ _ _ (World.drew _)))
  refine wpKeep_takeT (i := 0) (oi := ⟨some 20, _, _, _, _, _⟩) (v := ?_) rfl (by kernel_rfl) (by kernel_rfl) (by kernel_rfl) (by kernel_rfl) (fun _ _ _ h => h) (Or.inl ⟨by rfl, ?_⟩) (Keeps.refl _ _).drew (fun _ => ⟨c2, d2⟩) ?_
  rotate_left
  · intro w' hT
    go_simp
    (try rw [if_pos (by omega)])
    (try with_reducible rfl)
  rotate_left
  (try simp only [Act.put, List.setIfInBounds_toArray, List.set_cons_zero, List.set_cons_succ])
  refine wpKeep_takeT (i := 1) (oi := ⟨some 21, _, _, _, _, _⟩) (v := ?_) rfl (by kernel_rfl) (by kernel_rfl) (by kernel_rfl) (by kernel_rfl) (fun _ _ _ h => h) (Or.inl ⟨by rfl, ?_⟩) (Keeps.refl _ _).drew (fun _ => ⟨c2, d2⟩) ?_
  rotate_left
  · intro w' hT
    go_simp
    (try rw [if_pos (by omega)])
    (try with_reducible rfl)
  rotate_left
  (try simp only [Act.put, List.setIfInBounds_toArray, List.set_cons_zero, List.set_cons_succ])
  refine wpKeep_takeT (i := 2) (oi := ⟨some 22, _, _, _, _, _⟩) (v := ?_) rfl (by kernel_rfl) (by kernel_rfl) (by kernel_rfl) (by kernel_rfl) (fun _ _ _ h => h) (Or.inl ⟨by rfl, ?_⟩) (Keeps.refl _ _).drew (fun _ => ⟨c2, d2⟩) ?_
  rotate_left
  · intro w' hT
    go_simp
    (try rw [if_pos (by omega)])
    (try with_reducible rfl)
  rotate_left
  (try simp only [Act.put, List.setIfInBounds_toArray, List.set_cons_zero, List.set_cons_succ])
  refine wpKeep_takeT (i := 3) (oi := ⟨some 23, _, _, _, _, _⟩) (v := ?_) rfl (by kernel_rfl) (by kernel_rfl) (by kernel_rfl) (by kernel_rfl) (fun _ _ _ h => h) (Or.inl ⟨by rfl, ?_⟩) (Keeps.refl _ _).drew (fun _ => ⟨c2, d2⟩) ?_
  rotate_left
  · intro w' hT
    go_simp
    (try rw [if_pos (by omega)])
    (try with_reducible rfl)
  rotate_left
  (try simp only [Act.put, List.setIfInBounds_toArray, List.set_cons_zero, List.set_cons_succ])
  refine wpKeep_take (i := 4) (oi := ⟨some 24, _, _, _, _, _⟩) (v := ?_) rfl (by kernel_rfl) (by kernel_rfl) (by kernel_rfl) (by kernel_rfl) (fun _ _ _ h => h) (Or.inl ⟨by rfl, ?_⟩) ⟨(Keeps.refl _ _).drew, ⟨c2, d2⟩⟩ ?_
  rotate_left
  · intro w' hT
    have hS0 := hT.2
    replace hT := hT.1
    go_simp
    (try rw [if_pos (by omega)])
    (try with_reducible rfl)
  rotate_left
  (try simp only [Act.put, List.setIfInBounds_toArray, List.set_cons_zero, List.set_cons_succ])
  refine wpKeep_takeT (i := 5) (oi := ⟨some 25, _, _, _, _, _⟩) (v := ?_) rfl (by kernel_rfl) (by kernel_rfl) (by kernel_rfl) (by kernel_rfl) (fun _ _ _ h => h) (Or.inl ⟨by rfl, ?_⟩) (Keeps.refl _ _).drew (fun _ => ⟨c2, d2⟩) ?_
  rotate_left
  · intro w' hT
    go_simp
    (try rw [if_pos (by omega)])
    (try with_reducible rfl)
  rotate_left
  (try simp only [Act.put, List.setIfInBounds_toArray, List.set_cons_zero, List.set_cons_succ])
  refine wpKeep_ready (rs := [6]) (by kernel_rfl) (by simp) ?_
  refine AllKeep.cons (o := ⟨some 26, _, _, _, _, _⟩) rfl (fun K hK => ?_) AllKeep.nil
  refine step_append rfl (.const (.slice none 0 0)) (.tmp 25) 41 rfl 9 i0 (.string ⟨#[]⟩) 16 Tryz.underlying41 hi hz0 hz1 hz2 rfl (World.ownsRow_nil _ _ _ _) (.slice vo l.length vc) l.length (texts l) (by rfl) (by rfl) (HS.out _ (Keeps.refl (fun _ => False) W1).drew) (by have := HL.out; unfold maxLen; omega) (by have := HL.out; omega) ?_
  intro vx w2 hm
  replace hm : Appended 9 1 W1 w2 (.slice none 0 0) vx l.length (texts l) := by
    have := hm.undrew
    rwa [Nat.zero_add, List.nil_append] at this
  have f2 : Fresh W1 w2 := hm.keeps.mono (fun q _ e => by simp [Value.ownBlock] at e)
  have s20 := (f2.cell (p := ⟨ob, 6, none⟩) bl2 (fun h => h)).trans c2
  have s21 := (f2.frozen (p := ⟨ob, 6, none⟩) bl2 (fun h => h)).trans d2
  have T2 : Keeps (fun q => q = ob ∨ (Value.slice aow Wv.length cpw).ownBlock = some q) W1 w2 := f2.mono (fun _ _ h => h.elim)
  have hw2 := ownsRow_keeps hwr f2 (fun _ _ h => h)
  obtain ⟨aox, cpx, rfl⟩ := ownsRow_slice hm.row
  refine hK.out _ _ T2 (fun _ => ⟨s20, s21⟩) ?_
  clear hK K
  (try simp only [Act.put, List.setIfInBounds_toArray, List.set_cons_zero, List.set_cons_succ])
  refine wpKeep_ready (rs := [7]) (by kernel_rfl) (by simp) ?_
  refine AllKeep.cons (o := ⟨some 27, _, _, _, _, _⟩) rfl (fun K hK => ?_) AllKeep.nil
  go_simp
  have fal := (Keeps.refl (fun _ => False) w2).alloc (.cells #[.slice aox l.length cpx] 41)
  have n22 : ob < w2.heap.size := Nat.lt_of_lt_of_le bl2 f2.size
  refine hK.out _ _ (T2.alloc _) (fun _ => ⟨(fal.cell (p := ⟨ob, 6, none⟩) n22 (fun h => h)).trans s20, (fal.frozen (p := ⟨ob, 6, none⟩) n22 (fun h => h)).trans s21⟩) ?_
  clear hK K
  (try simp only [Act.put, List.setIfInBounds_toArray, List.set_cons_zero, List.set_cons_succ])
  refine wpKeep_ready (rs := [8]) (by kernel_rfl) (by simp) ?_
  refine AllKeep.cons (o := ⟨some 28, _, _, _, _, _⟩) rfl (fun K hK => ?_) AllKeep.nil
  refine step_push rfl (.tmp 24) (.tmp 27) 31 rfl 41 i1 (.slice none 0 0) 24 Tryz.underlying31 hi' hz0' hz1' hz2' rfl w2 hw2 (.slice aox l.length cpx) (by rfl) (by rfl) rfl (by have := HW.out; omega) (by have := HW.out; unfold maxLen; omega) ?_
  intro v3 w3 hb
  have s30 := (hb.keeps.cell (p := ⟨ob, 6, none⟩) n22 hne).trans s20
  have s31 := (hb.keeps.frozen (p := ⟨ob, 6, none⟩) n22 hne).trans s21
  have T3 : Keeps (fun q => q = ob ∨ (Value.slice aow Wv.length cpw).ownBlock = some q) W1 w3 := T2.trans (hb.keeps.mono (fun _ _ h => .inr h))
  refine hK.out _ _ T3 (fun _ => ⟨s30, s31⟩) ?_
  clear hK K
  (try simp only [Act.put, List.setIfInBounds_toArray, List.set_cons_zero, List.set_cons_succ])
  refine wpKeep_takeT (i := 9) (oi := ⟨some 29, _, _, _, _, _⟩) (v := ?_) rfl (by kernel_rfl) (by kernel_rfl) (by kernel_rfl) (by kernel_rfl) (fun _ _ _ h => h) (Or.inl ⟨by rfl, ?_⟩) T3 (fun _ => ⟨s30, s31⟩) ?_
  rotate_left
  · intro w' hT
    go_simp
    (try rw [if_pos (by omega)])
    (try with_reducible rfl)
  rotate_left
  (try simp only [Act.put, List.setIfInBounds_toArray, List.set_cons_zero, List.set_cons_succ])
  refine wpKeep_takeT (i := 10) (oi := ⟨some 30, _, _, _, _, _⟩) (v := ?_) rfl (by kernel_rfl) (by kernel_rfl) (by kernel_rfl) (by kernel_rfl) (fun _ _ _ h => h) (Or.inl ⟨by rfl, ?_⟩) T3 (fun _ => ⟨s30, s31⟩) ?_
  rotate_left
  · intro w' hT
    go_simp
    (try rw [if_pos (by omega)])
    (try with_reducible rfl)
  rotate_left
  (try simp only [Act.put, List.setIfInBounds_toArray, List.set_cons_zero, List.set_cons_succ])
  refine wpKeep_ready (rs := [11]) (by kernel_rfl) (by simp) ?_
  refine AllKeep.cons (o := ⟨none, _, _, _, _, _⟩) rfl (fun K hK => ?_) AllKeep.nil
  obtain ⟨ao3, cp3, e3⟩ := ownsRow_slice hb.row
  subst e3
  have n33 : ob < w3.heap.size := Nat.lt_of_lt_of_le n22 hb.keeps.size
  go_simp
  refine hK.out _ _ (T3.setCell (p := ⟨ob, 6, none⟩) (fun _ => .inl rfl) _) (not_early (by kernel_rfl)) ?_
  clear hK K
  (try simp only [Act.put, List.setIfInBounds_toArray, List.set_cons_zero, List.set_cons_succ])
  refine wpKeep_done (by kernel_rfl) ?_ _
  have hN' := H.out.more HV.out HVC.out HL.out HA.out (by rw [HW1.out]; exact hm) hb
  go_wp2_with fail
  first | go_end0 | refine bodyPost_ret (results_none rfl _ _ _) rfl ?_
  exact ⟨rfl, hN'⟩

set_option maxRecDepth 100000 in
set_option maxHeartbeats 4000000 in
theorem owned_mark (h : TW B c w ob false m y t n dv L lv fv wv A F Wv C N) (hN : N ≤ 1000) (hv : w.ownsRow 0 9 1 v l.length (texts l)) (hvc : ∀ g, v.ownBlock = some g → B ≤ g ∧ c g = 0) (hl : l.length ≤ 1000) :
    Calls Tryz.prog 24 #[.pointer (some ⟨ob, 0, none⟩), v] w fun x w' => x = .returned (.tuple #[]) ∧ Owned B c w w' ob false m y t n dv L N v := by
  obtain ⟨G, hG, hGN⟩ := h.lists
  obtain ⟨aol, cpl, rfl⟩ := ownsRow_slice h.pack.row
  obtain ⟨vo, vc, rfl⟩ := ownsRow_slice hv
  have H := hid h
  have HV := hid hv
  have HVC := hid hvc
  have HG := hid hG
  have c7 := (cell_at h.box 7).trans (show _ = some (Value.bool false) from rfl)
  have c0 := (cell_at h.box 4).trans (show _ = some (Value.slice aol A.length cpl) from rfl)
  have hG6 : (A.length : Int) / 6 = (G : Int) := by omega
  have hGb : (G : Int) ≤ 1000 := by omega
  have bl := lt_of_block h.box
  have hlb : (l.length : Int) ≤ 1000 := by omega
  have HL := hid hl
  have HGN := hid hGN
  clear h hv hvc hG hGN hl
  go_enter Tryz.func24, Tryz.ntmps24
  go_wp2_with fail
  refine (mark_any G _).mono ?_
  rintro e w1 ⟨rfl, f1⟩
  obtain ⟨c1, hc1⟩ : ∃ c1 : Nat → Nat, ∀ g, c1 g = if (Value.slice vo l.length vc).ownBlock = some g then gcol G else if g < w.heap.size then c g else 0 := ⟨_, fun _ => rfl⟩
  have HC1 := hid hc1
  have hrow1 := ownsRow_keeps HV.out f1 (fun _ _ h => h)
  have hpen : HPen c1 w1 9 1 (markU G) (gcol G) (.slice vo l.length vc) l.length 0 := HPen.begin ⟨_, Clip.same, hrow1, fun g hg => by rw [HC1.out, if_pos hg]⟩
  have HP := hid hpen
  have K1 : Hid (Keeps (fun q => (Value.slice vo l.length vc).ownBlock = some q) w w1) := f1.mono fun _ _ h => h.elim
  clear hc1 hrow1 hpen f1 c0 c7
  go_wp2_with fail
  go_loopw [5] (fun i wr => ∃ j : Nat, i = .int .i64 (j : Int) ∧ j ≤ l.length ∧ HPen c1 wr 9 1 (markU G) (gcol G) (.slice vo l.length vc) l.length j ∧ Keeps (fun q => (Value.slice vo l.length vc).ownBlock = some q) w wr) (fun i _ => l.length - (intOf i).toNat)
  case atStart => exact ⟨0, rfl, Nat.zero_le _, HP.out, K1.out⟩
  case round =>
    obtain ⟨j, rfl, hj, hp, kr⟩ := hrel
    have HP2 := hid hp
    have KR := hid kr
    by_cases hlt : j < l.length
    · obtain ⟨g, cap, u, e, hgl, hcg, hcell, hfr⟩ := hp.cell hlt
      simp only [Value.slice.injEq, true_and] at e
      obtain ⟨rfl, rfl⟩ := e
      have hj0 : (0 : Int) ≤ (j : Int) := by omega
      have hj1 : (j : Int) < (l.length : Int) := by omega
      clear hp kr
      go_wp2_with fail
      go_roundw
      case rel => exact ⟨j + 1, by go_num, by omega, HP2.out.put1 hlt, KR.out.setCell (p := ⟨g, j, none⟩) (fun _ => rfl) _⟩
      case measure => simp [intOf]; omega
    · obtain rfl : j = l.length := by omega
      have hx := hp.fin rfl
      have S1 : Same c c1 w wr (fun _ => False) := ⟨kr.mono fun g _ e => .inl (HVC.out g e).2, fun g hg hn => by rw [HC1.out, if_neg (fun e => hn (HVC.out g e).2), if_pos hg]⟩
      have hb := S1.at_ H.out.box H.out.cbox (by omega) (fun h => h)
      have hpk := S1.pack H.out.pack (fun _ h => h.elim)
      have hup := hpk.begin HG.out hx
      have c0 := (cell_at hb.1 4).trans (show _ = some (Value.slice aol A.length cpl) from rfl)
      have HG2 := hid (grows_any c1 _ _ A G l.length wr hup HG.out (by have := HL.out; omega) (by omega))
      have HB := hid hb
      clear hp kr hx S1 hb hpk hup
      go_wp2_with fail
      refine HG2.out.mono ?_
      rintro e w2 ⟨c2, av', A', rfl, hag, hA', hpk2, k2⟩
      obtain ⟨a2, p2, rfl⟩ := ownsRow_slice hpk2.row
      have b2 := k2.at_ HB.out.1 (fun e => by
        have := HB.out.2
        rcases e with e | e
        · omega
        · unfold gcol at e; omega)
      have c2c := (cell_at b2 4).trans (show _ = some (Value.slice aol A.length cpl) from rfl)
      have d2c := free_at b2 4
      have hfin := H.out.grown HVC.out HGN.out (fun g hg => by rw [HC1.out, if_pos hg]) KR.out hag hA' hpk2 k2
      have HF := hid hfin
      clear hag hA' hpk2 k2 b2 hfin c0
      go_wp2_with fail
      first | go_end0 | refine bodyPost_ret (results_none rfl _ _ _) rfl ?_
      exact ⟨rfl, HF.out⟩
end
end Go.Proofs.YtmflbchiapdhbaaGreatDoor

namespace Go.Proofs.YtmflbchiapdhbaaGreatDoor
open Go.RowKit

theorem mark_quo (n : Nat) (hn : n ≤ 1099511627776) (w : World) :
    Calls Tryz.prog 31 #[.int .i64 (IntKind.i64.wrap ((n : Int) / 6))] w fun e w' => e = .returned (.string (str (markL (n / 6)))) ∧ Fresh w w' := by
  have := mark_any (n / 6) w
  have hw : IntKind.i64.wrap ((n : Int) / 6) = (n : Int) / 6 := by rw [IntKind.wrap_i64]; omega
  rw [hw]
  rwa [show ((n / 6 : Nat) : Int) = (n : Int) / 6 by omega] at this
theorem reps_one (u : Value) : ∀ (k j : Nat), j < k → (reps k [u])[j]? = some u := fun k j h => by
  have := reps_get [u] k j 0 h (by simp)
  simpa using this

set_option maxRecDepth 100000 in
set_option maxHeartbeats 4000000 in
theorem kept_pack (ob : Nat) (c : Nat → Nat) (w : World) (kp : Bool) (m y : Nat → Nat) (lv fv wv : Value) (A : List Value) (hbox : w.heap[ob]? = some (.cells (boxCells m y lv fv wv kp) 33 (0, 0))) (hpk : Packs c w lv A) (hA : A.length ≤ 6000) :
    Calls Tryz.prog 8 #[.pointer (some ⟨ob, 0, none⟩)] w fun e w' => e = .returned (.bool true) ∧ Fresh w w' := by
  obtain ⟨aol, cpl, rfl⟩ := ownsRow_slice hpk.row
  have HC : Hid (∀ W, Fresh w W → W.cell? ⟨ob, 4, none⟩ = some (.slice aol A.length cpl) ∧ Packs c W (.slice aol A.length cpl) A) := fun W f =>
    ⟨(f.cell (p := ⟨ob, 4, none⟩) (lt_of_block hbox) (fun h => h)).trans ((cell_at hbox 4).trans rfl), hpk.fresh f⟩
  have hal : (A.length : Int) ≤ 6000 := by omega
  have bl := lt_of_block hbox
  clear hbox hpk hA
  go_enter Tryz.func8, Tryz.ntmps8
  go_wp2_with fail
  go_loopw [3] (fun i wr => ∃ k : Nat, i = .int .i64 (k : Int) ∧ k ≤ A.length ∧ Fresh w wr) (fun i _ => A.length - (intOf i).toNat)
  case atStart => exact ⟨0, rfl, Nat.zero_le _, Keeps.refl _ _⟩
  case round =>
    obtain ⟨k, rfl, hk, fr⟩ := hrel
    obtain ⟨c0, hp⟩ := HC.out wr fr
    by_cases hlt : k < A.length
    · obtain ⟨x, hx⟩ : ∃ x, A[k]? = some x := ⟨A[k], by simp⟩
      obtain ⟨q, hq, hpen⟩ := hp.rows k x hx
      obtain ⟨ox, cx, rfl⟩ := hpen.slice
      have hk0 : (0 : Int) ≤ (k : Int) := by omega
      have hk1 : (k : Int) < (A.length : Int) := by omega
      have HX := hid hx
      have HQ := hid hpen
      clear hx hpen hp
      go_wp2_with fail
      clear c0
      go_loopw [4] (fun i wr => ∃ j : Nat, i = .int .i64 (j : Int) ∧ j ≤ q ∧ Fresh w wr) (fun i _ => q - (intOf i).toNat)
      case atStart => exact ⟨0, rfl, Nat.zero_le _, fr⟩
      case round =>
        clear fr
        obtain ⟨j, rfl, hj, f2⟩ := hrel
        obtain ⟨c0, hp⟩ := HC.out wr f2
        obtain ⟨ga, rfl, hgal, hcells⟩ := ownsRow_cells hp.row (by omega)
        have hcx := hcells k _ HX.out
        obtain ⟨q2, hq2, hpen⟩ := hp.rows k _ HX.out
        obtain ⟨ox2, cx2, e2⟩ := hpen.slice
        simp only [Value.slice.injEq] at e2
        obtain ⟨rfl, rfl, rfl⟩ := e2
        by_cases hjk : j < q
        · obtain ⟨g, cap, e3, hgl, -, hgc⟩ := hpen.cells (by omega)
          simp only [Value.slice.injEq, true_and] at e3
          obtain ⟨rfl, rfl⟩ := e3
          have hv := hgc j _ (reps_one _ q j hjk)
          have hj0 : (0 : Int) ≤ (j : Int) := by omega
          have hj1 : (j : Int) < (q : Int) := by omega
          have hqb : (q : Int) ≤ 1000000 := by omega
          have hmk := fun W => mark_quo k (by omega) W
          have hbl : ob < wr.heap.size := Nat.lt_of_lt_of_le bl f2.size
          replace hv : wr.cell? ⟨g, j, none⟩ = some (.string (str (markL (k / 6)))) := hv
          generalize str (markL (k / 6)) = ms at hmk hv
          have hqm : (ms.toList != ms.toList) = false := by simp
          clear hp hcells hpen hgc HQ hq hq2
          go_wp2_with fail
          go_region_law (first | (go_simp; go_at_call 31; refine (hmk _).mono ?_; rintro e w3 ⟨rfl, f0⟩; have f : Fresh wr w3 := (by first | exact f0 | exact ((Keeps.refl (fun _ => False) wr).drew).trans f0); clear f0; have c0' := (f.cell (p := ⟨ob, 4, none⟩) hbl (fun h => h)).trans c0; have hcx' := (f.cell (p := ⟨ga, k, none⟩) hgal (fun h => h)).trans hcx; have hv' := (f.cell (p := ⟨g, j, none⟩) hgl (fun h => h)).trans hv))
          all_goals
            go_wp2_with fail
            go_roundw
            case rel => exact ⟨j + 1, by go_num, by omega, f2.trans f⟩
            case measure => simp [intOf]; omega
        · obtain rfl : j = q := by omega
          have hjb : (j : Int) ≤ 1000000 := by omega
          have hnj : ¬ (j : Int) < (j : Int) := by omega
          clear hp hcells hpen HQ
          go_wp2_with fail
          go_roundw
          case rel => exact ⟨k + 1, by go_num, by omega, f2⟩
          case measure => simp [intOf]; omega
    · obtain rfl : k = A.length := by omega
      clear hp
      go_wp2_with fail
      go_ret
      exact ⟨rfl, fr⟩
theorem kept_any (B ob N : Nat) (c : Nat → Nat) (w : World) (kp : Bool) (m y n : Nat → Nat) (t : Nat → Tr) (dv : Nat → Value) (L : Nat → List Ent) (lv fv wv : Value) (A F Wv : List Value) (C : List Texts) (h : TW B c w ob kp m y t n dv L lv fv wv A F Wv C N) (hN : N ≤ 1000) :
    Calls Tryz.prog 8 #[.pointer (some ⟨ob, 0, none⟩)] w fun e w' => e = .returned (.bool true) ∧ Fresh w w' := by
  obtain ⟨G, hG, hGN⟩ := h.lists
  exact kept_pack ob c w kp m y lv fv wv A h.box h.pack (by omega)
end Go.Proofs.YtmflbchiapdhbaaGreatDoor
