/-
  The law's world: one step; what lies ahead of its kind.
-/
import Derived.Test.YtmflbchiapdhbaaGreatDoorMTpA
import Derived.Test.YtmflbchiapdhbaaGreatDoorTdKeys
import Derived.Test.YtmflbchiapdhbaaGreatDoorTdProve
namespace Go.Proofs.YtmflbchiapdhbaaGreatDoor
open Go.RowKit

def opObj (oo kb : Bool) (ok : Int) (key val : List UInt8) : Obj := .cells #[.bool oo, .bool kb, .int .i64 ok, .string (str key), .string (str val)] 36
/-- all that a step leaves -/
structure After (B : Nat) (w' : World) (ob N M : Nat) : Prop where
  all : ∃ c kp m y t n dv L lv fv wv A F Wv C, TW B c w' ob kp m y t n dv L lv fv wv A F Wv C N ∧ (∀ k, k < 2 → Has (t k) (L k)) ∧ ∀ k, k < 2 → n k ≤ M

section
variable {B ob N : Nat} {c : Nat → Nat} {w : World} {kp : Bool} {m y n : Nat → Nat} {t : Nat → Tr} {dv : Nat → Value} {L : Nat → List Ent} {lv fv wv : Value} {A F Wv : List Value} {C : List Texts}
/-- the step's box, and whether lists are kept -/
theorem TW.open_ (h : TW B c w ob kp m y t n dv L lv fv wv A F Wv C N) (oo kb : Bool) (ok : Int) (key val : List UInt8) {W : World} (hW : (w.setCell ⟨ob, 7, none⟩ (.bool kb)).alloc (opObj oo kb ok key val) = W) :
    TW B (paint c w 0) W ob kb m y t n dv L lv fv wv A F Wv C N ∧ W.heap[w.heap.size]? = some (opObj oo kb ok key val) ∧ Keeps (fun q => q = ob) w W ∧ B ≤ ob := by
  subst hW
  have hob := lt_of_block h.box
  have hsz : (w.setCell ⟨ob, 7, none⟩ (.bool kb)).heap.size = w.heap.size := by simp
  have k2 : Keeps (fun q => q = ob) w (w.setCell ⟨ob, 7, none⟩ (.bool kb)) := (Keeps.refl (fun q => q = ob) _).setCell (p := ⟨ob, 7, none⟩) (fun _ => rfl) _
  have f3 : Fresh (w.setCell ⟨ob, 7, none⟩ (.bool kb)) ((w.setCell ⟨ob, 7, none⟩ (.bool kb)).alloc (opObj oo kb ok key val)) := (Keeps.refl _ _).alloc _
  have S : Same c c w (w.setCell ⟨ob, 7, none⟩ (.bool kb)) (fun x => x = 1) := ⟨k2.mono fun g _ e => .inr (by rw [e]; exact h.cbox), fun _ _ _ => rfl⟩
  have hmaps := fun k (hk : k < 2) => S.map (h.map k hk) (h.cmap k hk) (by omega) (by omega)
  have hdocs := fun k (hk : k < 2) => S.doc (h.doc k hk) (h.cdoc k hk) (by omega) (by omega)
  have h2 : TW B c (w.setCell ⟨ob, 7, none⟩ (.bool kb)) ob kb m y t n dv L lv fv wv A F Wv C N := ⟨heap_setCell_at h.box 7 (.bool kb), h.cbox, fun k hk => (hmaps k hk).1, fun k hk => (hmaps k hk).2, h.gmap, fun k hk => (hdocs k hk).1, fun k hk => (hdocs k hk).2, S.pack h.pack (fun x hx => ⟨by omega, fun i => by unfold gcol; omega⟩), S.free h.free (fun x hx => ⟨by omega, by omega, by omega, fun i => by unfold fcol; omega⟩), h.low, Nat.le_trans h.size k2.size, h.lists, h.small⟩
  have h3 := h2.fresh f3
  have hp : paint c (w.setCell ⟨ob, 7, none⟩ (.bool kb)) 0 = paint c w 0 := by
    funext g
    unfold paint
    rw [hsz]
  rw [hp] at h3
  have hnew := heap_alloc_new (w.setCell ⟨ob, 7, none⟩ (.bool kb)) (opObj oo kb ok key val)
  rw [hsz] at hnew
  refine ⟨h3, hnew, k2.trans (f3.mono fun _ _ h => h.elim), ?_⟩
  apply Classical.byContradiction
  intro hn
  have := h.low ob (by omega)
  have := h.cbox
  omega
/-- what turns is theirs -/
theorem TW.owns (h : TW B c w ob kp m y t n dv L lv fv wv A F Wv C N) {w' : World} {S : Nat → Prop} (k : Keeps S w w') (hS : ∀ g, S g → c g ≠ 0) : Keeps (fun q => B ≤ q) w w' := k.mono fun q _ e => by
  apply Classical.byContradiction
  intro hn
  exact hS q e (h.low q (by omega))
def updt {α : Type} (f : Nat → α) (k : Nat) (v : α) : Nat → α := fun j => if j = k then v else f j
theorem updt_at {α : Type} (f : Nat → α) (k : Nat) (v : α) : updt f k v k = v := if_pos rfl
theorem updt_ne {α : Type} (f : Nat → α) {k j : Nat} (v : α) (h : j ≠ k) : updt f k v j = f j := if_neg h
/-- one of the maps turned -/
theorem TW.setMap (h : TW B c w ob kp m y t n dv L lv fv wv A F Wv C N) {w' : World} {k n1 : Nat} {t1 : Tr} (hk : k < 2) (kM : Keeps (fun q => q = m k) w w') (hm : Map w' (m k) t1 n1) :
    TW B (paint c w 0) w' ob kp m y (updt t k t1) (updt n k n1) dv L lv fv wv A F Wv C N := by
  have S : Same c (paint c w 0) w w' (fun x => x = 6 + k) := ⟨kM.mono fun g _ e => .inr (by rw [e]; exact h.cmap k hk), fun g hg _ => paint_old hg⟩
  obtain ⟨b1, b2⟩ := S.at_ h.box h.cbox (by omega) (by omega)
  have hdocs := fun j (hj : j < 2) => S.doc (h.doc j hj) (h.cdoc j hj) (by omega) (by omega)
  refine ⟨b1, b2, fun j hj => ?_, fun j hj => (S.cols (m j) (h.map j hj).lt (by rw [h.cmap j hj]; omega)).trans (h.cmap j hj), h.gmap, fun j hj => (hdocs j hj).1, fun j hj => (hdocs j hj).2, S.pack h.pack (fun x hx => ⟨by omega, fun i => by unfold gcol; omega⟩), S.free h.free (fun x hx => ⟨by omega, by omega, by omega, fun i => by unfold fcol; omega⟩), fun g hg => by rw [paint_old (by have := h.size; omega)]; exact h.low g hg, Nat.le_trans h.size kM.size, h.lists, h.small⟩
  by_cases e : j = k
  · subst e
    rw [updt_at, updt_at]; exact hm
  · rw [updt_ne _ _ e, updt_ne _ _ e]
    exact (S.map (h.map j hj) (h.cmap j hj) (by omega) (by omega)).1
/-- one of the document's turned -/
theorem TW.setDoc (h : TW B c w ob kp m y t n dv L lv fv wv A F Wv C N) {w' : World} {k : Nat} {L1 : List Ent} (hk : k < 2) (hd : DocTo w w' (y k) (dv k) L1) :
    ∃ c' dv1, TW B c' w' ob kp m y t n (updt dv k dv1) (updt L k L1) lv fv wv A F Wv C N ∧ Keeps (fun q => B ≤ q) w w' := by
  obtain ⟨dv1, d1, d2, d3⟩ := hd
  have hcd := h.cdoc k hk
  have S : Same c (paint c w (8 + k)) w w' (fun x => x = 8 + k) := ⟨d2.mono fun g _ e => .inr (e.elim (fun e => by rw [e]; exact hcd.1) (fun e => hcd.2 g e)), fun g hg _ => paint_old hg⟩
  obtain ⟨b1, b2⟩ := S.at_ h.box h.cbox (by omega) (by omega)
  have hmaps := fun j (hj : j < 2) => S.map (h.map j hj) (h.cmap j hj) (by omega) (by omega)
  refine ⟨paint c w (8 + k), dv1, ⟨b1, b2, fun j hj => (hmaps j hj).1, fun j hj => (hmaps j hj).2, h.gmap, fun j hj => ?_, fun j hj => ?_, S.pack h.pack (fun x hx => ⟨by omega, fun i => by unfold gcol; omega⟩), S.free h.free (fun x hx => ⟨by omega, by omega, by omega, fun i => by unfold fcol; omega⟩), fun g hg => by rw [paint_old (by have := h.size; omega)]; exact h.low g hg, Nat.le_trans h.size d2.size, h.lists, h.small⟩, h.owns d2 (fun g e => by
    rcases e with e | e
    · rw [e, hcd.1]; omega
    · rw [hcd.2 g e]; omega)⟩
  · by_cases e : j = k
    · subst e
      rw [updt_at, updt_at]; exact d1
    · rw [updt_ne _ _ e, updt_ne _ _ e]
      exact (S.doc (h.doc j hj) (h.cdoc j hj) (by omega) (by omega)).1
  · by_cases e : j = k
    · subst e
      rw [updt_at]
      refine ⟨(S.cols (y j) (lt_of_block (h.doc j hj).box) (by rw [hcd.1]; omega)).trans hcd.1, fun g hg => ?_⟩
      by_cases hlt : g < w.heap.size
      · rw [paint_old hlt]
        rcases d3 g hg with q | q
        · exact hcd.2 g q
        · omega
      · exact paint_new (by omega)
    · rw [updt_ne _ _ e]
      exact (S.doc (h.doc j hj) (h.cdoc j hj) (by omega) (by omega)).2
theorem boxCells_m {m y : Nat → Nat} {lv fv wv : Value} {kp : Bool} {k b : Nat} (hk : k < 2) : (boxCells m y lv fv wv kp).setIfInBounds k (.pointer (some ⟨b, 0, none⟩)) = boxCells (updt m k b) y lv fv wv kp := by
  have h2 : k = 0 ∨ k = 1 := by omega
  rcases h2 with rfl | rfl <;> rfl
theorem boxCells_y {m y : Nat → Nat} {lv fv wv : Value} {kp : Bool} {k b : Nat} (hk : k < 2) : (boxCells m y lv fv wv kp).setIfInBounds (2 + k) (.pointer (some ⟨b, 0, none⟩)) = boxCells m (updt y k b) lv fv wv kp := by
  have h2 : k = 0 ∨ k = 1 := by omega
  rcases h2 with rfl | rfl <;> rfl
/-- a map of a new block in the place of one -/
theorem TW.putMap (h : TW B c w ob kp m y t n dv L lv fv wv A F Wv C N) {w2 : World} {k b n1 : Nat} {t1 : Tr} (hk : k < 2) (f : Fresh w w2) (hb : w.heap.size ≤ b) (hm : Map w2 b t1 n1) (hg : 3 ≤ b) :
    ∃ c', TW B c' (w2.setCell ⟨ob, k, none⟩ (.pointer (some ⟨b, 0, none⟩))) ob kp (updt m k b) y (updt t k t1) (updt n k n1) dv L lv fv wv A F Wv C N := by
  have h2 := h.fresh f
  have hob := lt_of_block h.box
  obtain ⟨c2, hc2⟩ : ∃ c2 : Nat → Nat, ∀ g, c2 g = if g = b then 6 + k else paint c w 0 g := ⟨_, fun _ => rfl⟩
  have hcn : ∀ g, paint c w 0 g ≠ 0 → c2 g = paint c w 0 g := fun g hn => by
    rw [hc2, if_neg (fun e => hn (by rw [e]; exact paint_new hb))]
  have h3 : TW B c2 w2 ob kp m y t n dv L lv fv wv A F Wv C N := h2.tint hcn (fun g hg => by rw [hc2, if_neg (by have := h.size; omega)]; exact h2.low g hg)
  have k4 : Keeps (fun q => q = ob) w2 (w2.setCell ⟨ob, k, none⟩ (.pointer (some ⟨b, 0, none⟩))) := (Keeps.refl (fun q => q = ob) w2).setCell (p := ⟨ob, k, none⟩) (fun _ => rfl) _
  have S : Same c2 c2 w2 (w2.setCell ⟨ob, k, none⟩ (.pointer (some ⟨b, 0, none⟩))) (fun x => x = 1) := ⟨k4.mono fun g _ e => .inr (by rw [e]; exact h3.cbox), fun _ _ _ => rfl⟩
  have hdocs := fun j (hj : j < 2) => S.doc (h3.doc j hj) (h3.cdoc j hj) (by omega) (by omega)
  have hbb : c2 b = 6 + k := by rw [hc2, if_pos rfl]
  refine ⟨c2, ⟨?_, h3.cbox, fun j hj => ?_, fun j hj => ?_, fun j hj => ?_, fun j hj => (hdocs j hj).1, fun j hj => (hdocs j hj).2, S.pack h3.pack (fun x hx => ⟨by omega, fun i => by unfold gcol; omega⟩), S.free h3.free (fun x hx => ⟨by omega, by omega, by omega, fun i => by unfold fcol; omega⟩), h3.low, Nat.le_trans h3.size k4.size, h.lists, h.small⟩⟩
  · have := heap_setCell_at h3.box k (.pointer (some ⟨b, 0, none⟩))
    rwa [boxCells_m hk] at this
  · by_cases e : j = k
    · subst e
      rw [updt_at, updt_at, updt_at]; exact hm.keeps k4 (fun e => by omega)
    · rw [updt_ne _ _ e, updt_ne _ _ e, updt_ne _ _ e]
      exact (S.map (h3.map j hj) (h3.cmap j hj) (by omega) (by omega)).1
  · by_cases e : j = k
    · subst e
      rw [updt_at]; exact hbb
    · rw [updt_ne _ _ e]; exact h3.cmap j hj
  · by_cases e : j = k
    · subst e
      rw [updt_at]; exact hg
    · rw [updt_ne _ _ e]; exact h3.gmap j hj
/-- a document's map of new blocks in the place of one -/
theorem TW.putDoc (h : TW B c w ob kp m y t n dv L lv fv wv A F Wv C N) {w2 : World} {k b : Nat} {d1 : Value} {L1 : List Ent} (hk : k < 2) (f : Fresh w w2) (hb : w.heap.size ≤ b) (hd : DocAt w2 b d1 L1) (hdn : ∀ g, d1.ownBlock = some g → w.heap.size ≤ g) :
    ∃ c', TW B c' (w2.setCell ⟨ob, 2 + k, none⟩ (.pointer (some ⟨b, 0, none⟩))) ob kp m (updt y k b) t n (updt dv k d1) (updt L k L1) lv fv wv A F Wv C N := by
  have h2 := h.fresh f
  have hob := lt_of_block h.box
  obtain ⟨c2, hc2⟩ : ∃ c2 : Nat → Nat, ∀ g, c2 g = if w.heap.size ≤ g then 8 + k else paint c w 0 g := ⟨_, fun _ => rfl⟩
  have hcn : ∀ g, paint c w 0 g ≠ 0 → c2 g = paint c w 0 g := fun g hn => by
    rw [hc2, if_neg (fun e => hn (paint_new e))]
  have h3 : TW B c2 w2 ob kp m y t n dv L lv fv wv A F Wv C N := h2.tint hcn (fun g hg => by rw [hc2, if_neg (by have := h.size; omega)]; exact h2.low g hg)
  have k4 : Keeps (fun q => q = ob) w2 (w2.setCell ⟨ob, 2 + k, none⟩ (.pointer (some ⟨b, 0, none⟩))) := (Keeps.refl (fun q => q = ob) w2).setCell (p := ⟨ob, 2 + k, none⟩) (fun _ => rfl) _
  have S : Same c2 c2 w2 (w2.setCell ⟨ob, 2 + k, none⟩ (.pointer (some ⟨b, 0, none⟩))) (fun x => x = 1) := ⟨k4.mono fun g _ e => .inr (by rw [e]; exact h3.cbox), fun _ _ _ => rfl⟩
  have hmaps := fun j (hj : j < 2) => S.map (h3.map j hj) (h3.cmap j hj) (by omega) (by omega)
  have hbb : ∀ g, w.heap.size ≤ g → c2 g = 8 + k := fun g hg => by rw [hc2, if_pos hg]
  refine ⟨c2, ⟨?_, h3.cbox, fun j hj => (hmaps j hj).1, fun j hj => (hmaps j hj).2, h3.gmap, fun j hj => ?_, fun j hj => ?_, S.pack h3.pack (fun x hx => ⟨by omega, fun i => by unfold gcol; omega⟩), S.free h3.free (fun x hx => ⟨by omega, by omega, by omega, fun i => by unfold fcol; omega⟩), h3.low, Nat.le_trans h3.size k4.size, h.lists, h.small⟩⟩
  · have := heap_setCell_at h3.box (2 + k) (.pointer (some ⟨b, 0, none⟩))
    rwa [boxCells_y hk] at this
  · by_cases e : j = k
    · subst e
      rw [updt_at, updt_at, updt_at]; exact hd.keeps k4 (fun e => by omega) (fun g hg e => by have := hdn g hg; omega)
    · rw [updt_ne _ _ e, updt_ne _ _ e, updt_ne _ _ e]
      exact (S.doc (h3.doc j hj) (h3.cdoc j hj) (by omega) (by omega)).1
  · by_cases e : j = k
    · subst e
      rw [updt_at, updt_at]; exact ⟨hbb b hb, fun g hg => hbb g (hdn g hg)⟩
    · rw [updt_ne _ _ e, updt_ne _ _ e]; exact h3.cdoc j hj
end
end Go.Proofs.YtmflbchiapdhbaaGreatDoor
