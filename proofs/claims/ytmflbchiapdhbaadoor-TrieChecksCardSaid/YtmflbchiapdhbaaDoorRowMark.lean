/-
  A row whose block may bear a mark behind its end (what '[]byte(s)' makes), and an append of one element onto it. No program is in sight.
-/
import Derived.Test.YtmflbchiapdhbaaDoorAppend
namespace Go.Proofs.YtmflbchiapdhbaaDoor
open Go.RowKit

/-- xs, one cell each, at the beginning of a block whose cells are not frozen -/
def RowM (w : World) (e : TypeId) (v : Value) (xs : List Value) : Prop :=
  ∃ g cur fr, v = .slice (some ⟨g, 0, none⟩) xs.length cur.size ∧ w.heap[g]? = some (.cells cur e fr) ∧ (fr.1 = fr.2 ∨ cur.size ≤ fr.1) ∧ xs.length ≤ cur.size ∧ cur.size ≤ maxLen ∧ cur.toList.take xs.length = xs
theorem free_mark {w : World} {b : Nat} {c : Array Value} {e : TypeId} {fr : Nat × Nat} (h : w.heap[b]? = some (.cells c e fr)) (hfr : fr.1 = fr.2 ∨ c.size ≤ fr.1) (o : Nat) (ho : o < c.size) : w.frozen? ⟨b, o, none⟩ = false := by
  simp [World.frozen?, h]
  omega
theorem RowM.cells {w : World} {e : TypeId} {n cap g : Nat} {xs : List Value} (h : RowM w e (.slice (some ⟨g, 0, none⟩) n cap) xs) : ∀ j u, xs[j]? = some u → w.cell? ((⟨g, 0, none⟩ : Addr).add j) = some u := by
  obtain ⟨g', cur, fr, hv, hg, _, hn, _, ht⟩ := h
  simp only [Value.slice.injEq, Option.some.injEq, Addr.mk.injEq, and_true] at hv
  obtain ⟨rfl, _, _⟩ := hv
  intro j u hj
  rw [addr_add0, cell_at hg]
  rw [← ht, List.getElem?_take] at hj
  split at hj
  · simpa using hj
  · cases hj
theorem RowM.len {w : World} {e : TypeId} {g n cap : Nat} {xs : List Value} (h : RowM w e (.slice (some ⟨g, 0, none⟩) n cap) xs) : n = xs.length := by
  obtain ⟨g', cur, fr, hv, _⟩ := h
  simp at hv
  exact hv.2.1
theorem RowM.keeps {S : Nat → Prop} {w w' : World} {e : TypeId} {v : Value} {xs : List Value} (h : RowM w e v xs) (hk : Keeps S w w') (hn : ∀ g, v.ownBlock = some g → ¬ S g) : RowM w' e v xs := by
  obtain ⟨g, cur, fr, rfl, hg, h3⟩ := h
  exact ⟨g, cur, fr, rfl, hk.at_ hg (hn g rfl), h3⟩

theorem wpList_pushM {P : Program} {ops : Array Oper} {rest : List Oper} {o : Oper} {a : Act} {Q : Exit → Act → World → Prop} (hgd : o.guard = none) (s x : Operand) (t : TypeId)
    (ho : o.op = .call { callee := .builtin .append, args := #[s, x], argTypes := #[t, t] })
    (e : TypeId) (i : TypeInfo) (z : Value) (bytes : Nat) (ht : P.underlying t = some (.slice e)) (hi : P.info? e = some i) (hz : i.zero = some z) (hsize : i.size = 1) (hby : i.bytes = bytes) (hzs : z.cells.size = 1)
    {v : Value} {xs : List Value} (w0 : World) (hrow : RowM w0 e v xs) (u : Value) (hs : a.eval s = v) (hx : a.eval x = .slice (some ⟨w0.heap.size, 0, none⟩) 1 1) (hu : u.oneCell' = true)
    (hb : (xs.length + 1) * bytes ≤ 140737488355328) (hn : xs.length + 1 ≤ maxLen)
    (h : ∀ v' w', RowM w' e v' (xs ++ [u]) → Keeps (fun k => v.ownBlock = some k) w0 w' → (∀ g, v'.ownBlock = some g → v.ownBlock = some g ∨ (w0.heap.size ≤ g ∧ g < w'.heap.size)) → wpList P ops Q rest (a.put o.dst v') w') : wpList P ops Q (o :: rest) a (w0.alloc (.cells #[u] e)) := by
  refine wpList_plain hgd fun K hK => ?_
  have hsrc : Src P i.size t (.slice (some ⟨w0.heap.size, 0, none⟩) 1 1) 1 [u] (w0.alloc (.cells #[u] e)) := by
    rw [hsize]
    exact Src.ofSlice _ ht _ 1 1 [u] rfl (fun j y hj => by
      match j, hj with
      | 0, hj => simp at hj; subst hj; simp [Addr.add]
      | (j + 1), hj => simp at hj) (fun y hy => by simp at hy; subst hy; exact hu)
  have hk0 : Keeps (fun _ => False) w0 (w0.alloc (.cells #[u] e)) := (Keeps.refl _ w0).alloc _
  have hrow1 := hrow.keeps hk0 (fun _ _ h => h)
  obtain ⟨g, cur, fr, hv, hg, hfr, hle, hcm, htake⟩ := hrow1
  have hglt : g < w0.heap.size := by
    obtain ⟨g', cur', fr', hv', hg', _⟩ := hrow
    rw [hv] at hv'
    simp only [Value.slice.injEq, Option.some.injEq, Addr.mk.injEq, and_true] at hv'
    rw [hv'.1]
    exact lt_of_block hg'
  have fin : ∀ v' w', (Builtin.append_ #[t, t] o.type #[v, .slice (some ⟨w0.heap.size, 0, none⟩) 1 1]).run P (w0.alloc (.cells #[u] e)) = .ok v' w' → RowM w' e v' (xs ++ [u]) → Keeps (fun k => v.ownBlock = some k) w0 w' →
      (∀ g, v'.ownBlock = some g → v.ownBlock = some g ∨ (w0.heap.size ≤ g ∧ g < w'.heap.size)) → o.wp P a (w0.alloc (.cells #[u] e)) K Q := by
    intro v' w' hr h1 h2 h3
    unfold Oper.wp
    simp [execOp, ho, resolve, invoke, builtin, hs, hx, hr, Result.andThen]
    exact hK _ _ (h v' w' h1 h2 h3)
  by_cases hroom : xs.length + 1 ≤ cur.size
  · have hr := run_append_room_src (P := P) (w := w0.alloc (.cells #[u] e)) t t o.type e i ht hi g 0 xs.length cur.size _ 1 [u] hsrc hroom
      (fun j hj => by simp at hj; subst hj; rw [cell_at hg, hsize]; simp; omega) (fun j hj => by simp at hj; subst hj; rw [hsize]; exact free_mark hg hfr _ (by omega))
    rw [← hv] at hr
    refine fin _ _ hr ⟨g, cur.setIfInBounds xs.length u, fr, ?_, ?_, by simpa using hfr, by simp; omega, by simpa using hcm, ?_⟩ ?_ (fun g' hg' => .inl ?_)
    · simp
    · simp only [World.setCells, hsize]
      rw [show 0 + xs.length * 1 = xs.length by omega]
      exact heap_setCell_at hg _ _
    · rw [Array.toList_setIfInBounds, List.length_append, List.length_singleton, List.take_succ_eq_append_getElem (by simp; omega)]
      simp [List.take_set_of_le, htake]
    · simp only [World.setCells, hsize]
      exact (hk0.mono (S' := fun k => v.ownBlock = some k) fun _ _ h => h.elim).setCell (fun _ => by rw [hv]; rfl) _
    · rw [hv]; exact hg'
  · have hr := run_append_grow_src (P := P) (w := w0.alloc (.cells #[u] e)) t t o.type e i z ht hi hz (some ⟨g, 0, none⟩) xs.length cur.size xs
      (by
        rw [hsize]
        refine run_firstCells_some _ 1 xs.length ⟨g, 0, none⟩ xs.length cur.size xs (by omega) ?_
        have : RowM (w0.alloc (.cells #[u] e)) e (.slice (some ⟨g, 0, none⟩) xs.length cur.size) xs := ⟨g, cur, fr, rfl, hg, hfr, hle, hcm, htake⟩
        simpa using this.cells) _ 1 [u] hsrc (by omega) (by simp only [maxLen] at hn; omega) (growslice_fits (by omega) (by rw [hby]; exact hb))
    rw [← hv] at hr
    have hge := grownCap_ge (w0.alloc (.cells #[u] e)) (xs.length + 1) cur.size e
    have hcm2 : grownCap (w0.alloc (.cells #[u] e)) (xs.length + 1) cur.size e ≤ maxLen := grownCap_le_maxLen _ _ _ e hn
    refine fin _ _ hr ⟨_, _, (0, 0), ?_, heap_alloc_new (w0.alloc (.cells #[u] e)).drew _, .inl rfl, ?_, ?_, ?_⟩ ((hk0.drew.alloc _).mono fun _ _ h => h.elim) (fun g' hg' => .inr ?_)
    · simp only [List.length_append, List.length_singleton, Array.size_append, List.size_toArray, size_zeroCells, hzs]
      congr 1
      omega
    · simp only [List.length_append, List.length_singleton, Array.size_append, List.size_toArray, size_zeroCells, hzs]
      omega
    · simp only [List.length_append, List.length_singleton, Array.size_append, List.size_toArray, size_zeroCells, hzs]
      omega
    · simp only [Array.toList_append]
      exact List.take_left
    · simp [Value.ownBlock] at hg'
      subst hg'
      exact ⟨by simp, by simp⟩
end Go.Proofs.YtmflbchiapdhbaaDoor
