/-
  The law's hand: a block of texts, all of it told; a list is copied into it. (Much of it as in SpLawB.)
-/
import Derived.Test.YtbhienlalpbflaaDlHelp
import Derived.Lib.BufferWrite
namespace Go.Proofs.Ytbhienlalpbflaa
open Go.RowKit Go.Maps

def spareL : List UInt8 := [115, 112, 97, 114, 101]
/-- a block of texts, all of it told -/
def textsC (X : List (List UInt8)) : Obj := .cells (texts X).toArray 9
theorem textsC_set {w : World} {g : Nat} {X : List (List UInt8)} (h : w.heap[g]? = some (textsC X)) (k : Nat) (s : List UInt8) : (w.setCell ⟨g, k, none⟩ (.string (str s))).heap[g]? = some (textsC (X.set k s)) := by
  have := heap_setCell_at h k (.string (str s))
  rw [this]
  unfold textsC
  congr 2
  rw [List.setIfInBounds_toArray]
  congr 1
  unfold texts
  rw [List.map_set]
theorem textsC_cell {w : World} {g : Nat} {X : List (List UInt8)} (h : w.heap[g]? = some (textsC X)) {k : Nat} {s : List UInt8} (hs : X[k]? = some s) : w.cell? ⟨g, k, none⟩ = some (.string (str s)) := by
  rw [cell_at h]
  simp [texts, hs]
theorem textsC_free {w : World} {g : Nat} {X : List (List UInt8)} (h : w.heap[g]? = some (textsC X)) (k : Nat) : w.frozen? ⟨g, k, none⟩ = false := free_at h k
/-- the first ones of a block are a list -/
theorem textsC_at {w : World} {g cap : Nat} {X l : List (List UInt8)} (h : w.heap[g]? = some (textsC X)) (hl : X.take l.length = l) : TextsAt w (.slice (some ⟨g, 0, none⟩) l.length cap) l := by
  refine ⟨_, cap, rfl, fun k s hs => ⟨g, 0, rfl, lt_of_block h, ?_⟩⟩
  rw [Nat.zero_add]
  apply textsC_cell h
  have hk := (List.getElem?_eq_some_iff.1 hs).1
  rw [← hl, List.getElem?_take] at hs
  rw [if_pos hk] at hs
  exact hs
theorem set_parts {α : Type} (c : List α) (o : Nat) (r : List α) (v : α) (ho : o < c.length) : (c.set o v).take (o + 1) ++ r ++ (c.set o v).drop (o + 1 + r.length) = c.take o ++ v :: r ++ c.drop (o + (r.length + 1)) := by
  have h1 : (c.set o v).take (o + 1) = c.take o ++ [v] := by
    rw [List.take_add_one, List.take_set_of_le (by omega), List.getElem?_set_self (by omega)]
    rfl
  have h2 : (c.set o v).drop (o + 1 + r.length) = c.drop (o + (r.length + 1)) := by
    rw [List.drop_set_of_lt (by omega)]
    congr 1
    omega
  rw [h1, h2, List.append_assoc, List.append_assoc, List.append_assoc]
  rfl
theorem wpList_copy_to {P : Program} (w : World) {ops : Array Oper} {rest : List Oper} {o : Oper} {a : Act} {Q : Exit → Act → World → Prop} (hgd : o.guard = none) (d s : Operand) (t t' : TypeId)
    (ho : o.op = .call { callee := .builtin .copy, args := #[d, s], argTypes := #[t, t'] }) (v u : Value) (hd : a.eval d = v) (hs : a.eval s = u) {v' : Value} {w' : World}
    (hr : (Builtin.copy_ #[t, t'] o.type #[v, u]).run P w = .ok v' w') (h : wpList P ops Q rest (a.put o.dst v') w') : wpList P ops Q (o :: rest) a w :=
  wpList_plain hgd fun _ hK => by
    unfold Oper.wp execOp
    simp only [ho, resolve, invoke, builtin, Sem.run_bind, Sem.run_pure, Result.andThen_ok, List.map_toArray, List.map_cons, List.map_nil, hd, hs, hr]
    exact hK _ _ h

set_option maxRecDepth 100000 in
theorem copy_into (w : World) (g : Nat) (v : Value) (l X : List (List UInt8)) (n cap : Nat) (hg : w.heap[g]? = some (textsC X)) (hn : l.length ≤ n) (hX : n ≤ X.length) (hl : TextsAt w v l) :
    ∃ u w', (Builtin.copy_ #[30, 30] 3 #[.slice (some ⟨g, 0, none⟩) n cap, v]).run Try.prog w = .ok u w' ∧ Keeps (fun q => q = g) w w' ∧ w'.heap[g]? = some (textsC (l ++ X.drop l.length)) := by
  have hsz : (Try.prog.info? 9).map (·.size) = some 1 := by kernel_rfl
  obtain ⟨ao, cap2, rfl, hcc⟩ := hl
  by_cases h0 : l.length = 0
  · have hr0 : l = [] := List.eq_nil_of_length_eq_zero h0
    subst hr0
    exact ⟨_, w, run_copy_none w 30 30 3 9 _ _ _ _ _ _ Try.underlying30 hsz (by simp), Keeps.refl _ _, hg⟩
  · have hlen : (texts l).length = l.length := by simp [texts]
    obtain ⟨x, hx⟩ : ∃ x, l[0]? = some x := ⟨l[0]'(by omega), by simp⟩
    obtain ⟨bb, off, rfl, hbb, _⟩ := hcc 0 x hx
    unfold textsC at hg
    have hrun := run_copy_cells (P := Try.prog) w 30 30 3 9 g 0 n cap ⟨bb, off, none⟩ l.length cap2 (texts l) Try.underlying30 hsz (by rw [hlen]; exact (Nat.min_eq_left hn).symm)
      (fun j v hj => by
        simp only [texts, List.getElem?_map, Option.map_eq_some_iff] at hj
        obtain ⟨s, hs, rfl⟩ := hj
        obtain ⟨b2, o2, e1, _, e3⟩ := hcc j s hs
        simp only [Option.some.injEq, Addr.mk.injEq, and_true] at e1
        rw [e1.1, e1.2]
        show w.cell? (Addr.add ⟨b2, o2, none⟩ j) = _
        rw [show Addr.add ⟨b2, o2, none⟩ j = ⟨b2, o2 + j, none⟩ from by unfold Addr.add; split <;> simp_all]
        exact e3)
      (fun j hj => by rw [Nat.zero_add, cell_at hg]; simp [texts]; omega) (fun j _ => by rw [Nat.zero_add]; exact free_at hg j) (fun u hu => by obtain ⟨x, _, rfl⟩ := List.mem_map.1 hu; rfl)
    have hk : Keeps (fun q => q = g) w (w.setCells g 0 (texts l)) := ⟨(setCells_os g _ _ _).1, (setCells_os g _ _ _).2.1, (setCells_os g _ _ _).2.2, by rw [setCells_size]; exact Nat.le_refl _, fun k hk hn => setCells_other g k hn _ _ _⟩
    refine ⟨_, _, hrun, hk, ?_⟩
    have hgen : ∀ (vs : List Value) (o : Nat) (w : World) (cur : Array Value), w.heap[g]? = some (.cells cur 9 (0, 0)) → o + vs.length ≤ cur.size → (w.setCells g o vs).heap[g]? = some (.cells (cur.toList.take o ++ vs ++ cur.toList.drop (o + vs.length)).toArray 9 (0, 0)) := by
      intro vs
      induction vs with
      | nil => intro o w cur h _; simp [World.setCells, h]
      | cons v r ih =>
        intro o w cur h hle
        simp at hle
        rw [World.setCells, ih (o + 1) _ _ (heap_setCell_at h o v) (by simp; omega)]
        rw [Array.toList_setIfInBounds, set_parts cur.toList o r v (by simp; omega)]
        rfl
    have := hgen (texts l) 0 w _ hg (by simp [texts]; omega)
    rw [this]
    unfold textsC
    congr 2
    simp [texts]
/-- the hand -/
def HandAt (w : World) (xv : Value) (H : List (List UInt8)) : Prop := (xv = .slice none 0 0 ∧ H = []) ∨ ∃ g, xv = .slice (some ⟨g, 0, none⟩) H.length H.length ∧ w.heap[g]? = some (textsC H)
theorem HandAt.keeps {S : Nat → Prop} {w w' : World} {xv : Value} {H : List (List UInt8)} (h : HandAt w xv H) (k : Keeps S w w') (hS : ∀ g, xv.ownBlock = some g → ¬ S g) : HandAt w' xv H := by
  rcases h with h | ⟨g, rfl, hg⟩
  · exact .inl h
  · exact .inr ⟨g, rfl, k.at_ hg (hS g rfl)⟩
theorem HandAt.lt {w : World} {xv : Value} {H : List (List UInt8)} (h : HandAt w xv H) (g : Nat) (hg : xv.ownBlock = some g) : g < w.heap.size := by
  rcases h with ⟨rfl, -⟩ | ⟨g', rfl, hb⟩
  · cases hg
  · simp only [Value.ownBlock, Option.some.injEq] at hg
    subst hg
    exact lt_of_block hb
theorem HandAt.slice {w : World} {xv : Value} {H : List (List UInt8)} (h : HandAt w xv H) : ∃ ao, xv = .slice ao H.length H.length := by
  rcases h with ⟨rfl, rfl⟩ | ⟨g, rfl, hb⟩
  · exact ⟨none, rfl⟩
  · exact ⟨_, rfl⟩
end Go.Proofs.Ytbhienlalpbflaa
