/-
  The law's keeps: lent in a list of its own, eight places longer.
-/
import Derived.Test.YtbhienlalpbflaaDwSide
namespace Go.Proofs.Ytbhienlalpbflaa
open Go.RowKit Go.Maps

theorem copy_two {P : Program} (w : World) (dT sT ty elem : TypeId) (b o dLen dCap : Nat) (a : Addr) (sLen sCap : Nat) (cs : List Value)
    (hu : P.underlying dT = some (.slice elem)) (hs : (P.info? elem).map (·.size) = some 2) (hn : Nat.min sLen dLen * 2 = cs.length)
    (hsrc : ∀ j v, cs[j]? = some v → w.cell? (a.add j) = some v) (hc : ∀ j, j < cs.length → (w.cell? ⟨b, o + j, none⟩).isSome = true) (hf : ∀ j, j < cs.length → w.frozen? ⟨b, o + j, none⟩ = false) (h1 : ∀ v ∈ cs, v.oneCell' = true) :
    ∃ u, (Builtin.copy_ #[dT, sT] ty #[.slice (some ⟨b, o, none⟩) dLen dCap, .slice (some a) sLen sCap]).run P w = .ok u (w.setCells b o cs) := by
  have hl := run_loadCells_list (P := P) w a cs hsrc
  have hst := run_storeCells_cells (P := P) b o cs 0 w (by simpa using hc) (by simpa using hf) h1
  cases hq : P.info? elem with
  | none => simp [hq] at hs
  | some i =>
    have hi : i.size = 2 := by simpa [hq] using hs
    exact ⟨_, by simp [Builtin.copy_, run_underlying hu, Builtin.lenOf, Builtin.firstCells, sizeOf, typeInfo, hq, hi, hn, hl, hst]; rfl⟩
theorem setCells_block {g : Nat} {e : TypeId} : ∀ (vs : List Value) (o : Nat) (w : World) (cur : Array Value), w.heap[g]? = some (.cells cur e (0, 0)) → o + vs.length ≤ cur.size → (w.setCells g o vs).heap[g]? = some (.cells (cur.toList.take o ++ vs ++ cur.toList.drop (o + vs.length)).toArray e (0, 0)) := by
  intro vs
  induction vs with
  | nil => intro o w cur h _; simp [World.setCells, h]
  | cons v r ih =>
    intro o w cur h hle
    simp at hle
    rw [World.setCells, ih (o + 1) _ _ (heap_setCell_at h o v) (by simp; omega)]
    rw [Array.toList_setIfInBounds, set_parts cur.toList o r v (by simp; omega)]
    rfl
theorem keepCells_len (ks : List (Int × Int)) : (keepCells ks).length = ks.length * 2 := by
  induction ks with
  | nil => rfl
  | cons k r ih =>
    have e : keepCells (k :: r) = .int .i64 k.1 :: .int .i64 k.2 :: keepCells r := rfl
    rw [e]
    simp only [List.length_cons, ih]
    omega
theorem keepCells_app (a b : List (Int × Int)) : keepCells (a ++ b) = keepCells a ++ keepCells b := by simp [keepCells]
theorem keepCells_zero (n : Nat) : keepCells (List.replicate n (0, 0)) = List.replicate (n * 2) (.int .i64 0) := by
  induction n with
  | zero => rfl
  | succ n ih =>
    have e : keepCells (List.replicate (n + 1) (0, 0)) = .int .i64 0 :: .int .i64 0 :: keepCells (List.replicate n (0, 0)) := rfl
    rw [e, ih, show (n + 1) * 2 = n * 2 + 1 + 1 by omega, List.replicate_succ, List.replicate_succ]
theorem made_keeps (n : Nat) : madeCells #[.int .i64 0, .int .i64 0] (n * 2) = (keepCells (List.replicate n (0, 0))).toArray := by
  rw [keepCells_zero]
  apply Array.ext'
  simp only [madeCells, Array.toList_map, Array.toList_range]
  apply List.ext_getElem?
  intro k
  simp only [List.getElem?_map, List.getElem?_replicate]
  by_cases hk : k < n * 2
  · rw [List.getElem?_range hk, if_pos hk]
    have h2 : k % 2 = 0 ∨ k % 2 = 1 := by omega
    rcases h2 with e | e <;> simp [e]
  · rw [if_neg hk, List.getElem?_eq_none (by simp; omega)]
    rfl
/-- a block of keeps -/
def ksC (X : List (Int × Int)) : Obj := .cells (keepCells X).toArray 71
theorem ksC_cell {w : World} {g : Nat} {X : List (Int × Int)} (h : w.heap[g]? = some (ksC X)) {k : Nat} {x : Int × Int} (hx : X[k]? = some x) : w.cell? ⟨g, k * 2, none⟩ = some (.int .i64 x.1) ∧ w.cell? ⟨g, k * 2 + 1, none⟩ = some (.int .i64 x.2) := by
  obtain ⟨q1, q2⟩ := keepCells_at X k x hx
  unfold ksC at h
  rw [cell_at h, cell_at h]
  simp only [List.getElem?_toArray]
  exact ⟨q1, q2⟩
theorem ksC_at {w : World} {g cap n : Nat} {X l : List (Int × Int)} (h : w.heap[g]? = some (ksC X)) (hl : X.take l.length = l) (hn : n = l.length) : KeepsAt w (.slice (some ⟨g, 0, none⟩) n cap) l := by
  subst hn
  refine ⟨_, cap, rfl, fun k x hx => ⟨g, 0, rfl, lt_of_block h, ?_⟩⟩
  have hk := (List.getElem?_eq_some_iff.1 hx).1
  rw [← hl, List.getElem?_take, if_pos hk] at hx
  rw [Nat.zero_add]
  exact ksC_cell h hx
theorem KeepsAt.keeps {S : Nat → Prop} {w w' : World} {v : Value} {ks : List (Int × Int)} (h : KeepsAt w v ks) (k : Keeps S w w') (hS : 0 < ks.length → ∀ a m cp, v = .slice (some a) m cp → a.block < w.heap.size → ¬ S a.block) : KeepsAt w' v ks := by
  obtain ⟨ao, cap, rfl, hc⟩ := h
  refine ⟨ao, cap, rfl, fun i x hx => ?_⟩
  obtain ⟨bb, off, e1, e2, e3, e4⟩ := hc i x hx
  have hn := hS (by have := (List.getElem?_eq_some_iff.1 hx).1; omega) ⟨bb, off, none⟩ ks.length cap (by rw [e1]) e2
  exact ⟨bb, off, e1, Nat.lt_of_lt_of_le e2 k.size, (k.cell (p := ⟨bb, off + i * 2, none⟩) e2 hn).trans e3, (k.cell (p := ⟨bb, off + i * 2 + 1, none⟩) e2 hn).trans e4⟩
set_option maxRecDepth 100000 in
theorem copy_keeps (w : World) (g : Nat) (v : Value) (ks : List (Int × Int)) (n : Nat) (hg : w.heap[g]? = some (ksC (List.replicate (ks.length + 8) (0, 0)))) (hn : n = ks.length + 8) (hk : KeepsAt w v ks) :
    ∃ u w', (Builtin.copy_ #[49, 49] 3 #[.slice (some ⟨g, 0, none⟩) n n, v]).run Try.prog w = .ok u w' ∧ Keeps (fun q => q = g) w w' ∧ w'.heap[g]? = some (ksC (ks ++ List.replicate 8 (0, 0))) := by
  subst hn
  have hsz : (Try.prog.info? 71).map (·.size) = some 2 := by kernel_rfl
  obtain ⟨ao, cap2, rfl, hcc⟩ := hk
  have hl2 := keepCells_len ks
  have hX : (keepCells (List.replicate (ks.length + 8) ((0 : Int), (0 : Int)))).length = (ks.length + 8) * 2 := by rw [keepCells_len, List.length_replicate]
  by_cases h0 : ks.length = 0
  · have hr0 : ks = [] := List.eq_nil_of_length_eq_zero h0
    subst hr0
    refine ⟨.int .i64 0, w, ?_, Keeps.refl _ _, hg⟩
    obtain ⟨i, hi⟩ : ∃ i, Try.prog.info? 71 = some i := by
      cases e : Try.prog.info? 71 with
      | none => rw [e] at hsz; cases hsz
      | some i => exact ⟨i, rfl⟩
    cases ao with
    | none => simp [Builtin.copy_, run_underlying Try.underlying49, Builtin.lenOf, Builtin.firstCells, sizeOf, typeInfo, hi, storeCells, goInt]
    | some a => simp [Builtin.copy_, run_underlying Try.underlying49, Builtin.lenOf, Builtin.firstCells, sizeOf, typeInfo, hi, storeCells, loadCells, loadCellsFrom, goInt]
  · obtain ⟨x, hx⟩ : ∃ x, ks[0]? = some x := ⟨ks[0]'(by omega), by simp⟩
    obtain ⟨bb, off, rfl, hbb, -, -⟩ := hcc 0 x hx
    unfold ksC at hg
    obtain ⟨u, hrun⟩ := copy_two (P := Try.prog) w 49 49 3 71 g 0 (ks.length + 8) (ks.length + 8) ⟨bb, off, none⟩ ks.length cap2 (keepCells ks) Try.underlying49 hsz (by rw [hl2, show Nat.min ks.length (ks.length + 8) = ks.length from Nat.min_eq_left (by omega)])
      (fun j u hj => by
        have hjl := (List.getElem?_eq_some_iff.1 hj).1
        obtain ⟨y, hy⟩ : ∃ y, ks[j / 2]? = some y := ⟨ks[j / 2]'(by omega), by simp⟩
        obtain ⟨q1, q2⟩ := keepCells_at ks (j / 2) y hy
        obtain ⟨b2, o2, e1, _, e3, e4⟩ := hcc (j / 2) y hy
        simp only [Option.some.injEq, Addr.mk.injEq, and_true] at e1
        rw [show Addr.add ⟨bb, off, none⟩ j = ⟨bb, off + j, none⟩ from by unfold Addr.add; split <;> simp_all, e1.1, e1.2]
        have h2 : j = j / 2 * 2 ∨ j = j / 2 * 2 + 1 := by omega
        rcases h2 with e | e
        · rw [e] at hj ⊢
          rw [q1] at hj
          cases hj
          exact e3
        · rw [e] at hj ⊢
          rw [q2] at hj
          cases hj
          rw [← Nat.add_assoc]
          exact e4)
      (fun j hj => by rw [Nat.zero_add, cell_at hg, List.getElem?_toArray, List.getElem?_eq_getElem (by omega)]; rfl) (fun j _ => by rw [Nat.zero_add]; exact free_at hg j) (fun u hu => by
        simp only [keepCells, List.mem_flatMap] at hu
        obtain ⟨y, -, hu⟩ := hu
        simp only [List.mem_cons, List.not_mem_nil, or_false] at hu
        rcases hu with rfl | rfl <;> rfl)
    have hk : Keeps (fun q => q = g) w (w.setCells g 0 (keepCells ks)) := ⟨(setCells_os g _ _ _).1, (setCells_os g _ _ _).2.1, (setCells_os g _ _ _).2.2, by rw [setCells_size]; exact Nat.le_refl _, fun k hk hn => setCells_other g k hn _ _ _⟩
    refine ⟨u, _, hrun, hk, ?_⟩
    rw [setCells_block (keepCells ks) 0 w _ hg (by simp only [List.size_toArray]; omega)]
    unfold ksC
    congr 2
    simp only [List.take_zero, List.nil_append, Nat.zero_add, keepCells_app, keepCells_zero, hl2]
    congr 1
    rw [List.drop_replicate]
    congr 1
    congr 1
    omega
end Go.Proofs.Ytbhienlalpbflaa
