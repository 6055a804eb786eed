/-
  Lists that were marked by their owner and grown, all that each was is kept: the m-th kept one is the (m / per)-th owner's. Lists that came out and stay untouched, with copies. Colours of blocks say whose each is. No program is in sight.
-/
import Derived.Test.YtbhienlalpbflaaSpHerd
namespace Go.Proofs.Ytbhienlalpbflaa
open Go.RowKit

theorem Front.refl (w : World) (g m : Nat) : Front w w g m := Front.of_eq rfl m
/-- v, as it lies (it may be clipped): k times us, in a block of colour x -/
def Pen (c : Nat → Nat) (w : World) (e : TypeId) (size : Nat) (xs : List Value) (x : Nat) (v : Value) (k : Nat) : Prop := ∃ y, Clip v y ∧ w.ownsRow 0 e size y k xs ∧ ∀ g, y.ownBlock = some g → c g = x
theorem Pen.keeps {S : Nat → Prop} {c c' : Nat → Nat} {w w' : World} {e : TypeId} {size x k : Nat} {xs : List Value} {v : Value} (h : Pen c w e size xs x v k) (hk : Keeps S w w') (hS : ∀ g, S g → g < w.heap.size → c g ≠ x) (hc : ∀ g, g < w.heap.size → c g = x → c' g = x) : Pen c' w' e size xs x v k := by
  obtain ⟨y, h1, h2, h3⟩ := h
  exact ⟨y, h1, ownsRow_keeps h2 hk fun g hg hs => hS g hs (h2.lt g hg).2 (h3 g hg), fun g hg => hc g (h2.lt g hg).2 (h3 g hg)⟩
theorem Pen.own {c : Nat → Nat} {w : World} {e : TypeId} {size x k : Nat} {xs : List Value} {v : Value} (h : Pen c w e size xs x v k) {g : Nat} (hg : v.ownBlock = some g) : c g = x ∧ g < w.heap.size := by
  obtain ⟨y, h1, h2, h3⟩ := h
  rw [h1.own] at hg
  exact ⟨h3 g hg, (h2.lt g hg).2⟩
theorem Pen.slice {c : Nat → Nat} {w : World} {e : TypeId} {size x k : Nat} {xs : List Value} {v : Value} (h : Pen c w e size xs x v k) : ∃ ao cap, v = .slice ao k cap := by
  obtain ⟨y, ⟨ao, n, cap, cap', rfl, rfl, -⟩, h2, -⟩ := h
  obtain ⟨o2, c2, e2⟩ := ownsRow_slice h2
  injection e2 with _ e2 _
  subst e2
  exact ⟨ao, cap, rfl⟩
theorem ownsRow_cells {w : World} {e : TypeId} {size n cap : Nat} {ao : Option Addr} {xs : List Value} (h : w.ownsRow 0 e size (.slice ao n cap) n xs) (hn : 0 < n) : ∃ g, ao = some ⟨g, 0, none⟩ ∧ g < w.heap.size ∧ ∀ j u, xs[j]? = some u → w.cell? ⟨g, j, none⟩ = some u := by
  rcases h.2 with ⟨h1, h2⟩ | ⟨g, cap', cur, he, _, hg, _, _, _, ht⟩
  · omega
  · simp only [Value.slice.injEq] at he
    obtain ⟨rfl, -, rfl⟩ := he
    refine ⟨g, rfl, lt_of_block hg, fun j u hu => ?_⟩
    rw [cell_at hg]
    rw [← ht, List.getElem?_take] at hu
    split at hu
    · simpa using hu
    · cases hu
theorem Pen.cells {c : Nat → Nat} {w : World} {e : TypeId} {size x k : Nat} {xs : List Value} {v : Value} (h : Pen c w e size xs x v k) (hk : 0 < k) : ∃ g cap, v = .slice (some ⟨g, 0, none⟩) k cap ∧ g < w.heap.size ∧ c g = x ∧ ∀ j u, xs[j]? = some u → w.cell? ⟨g, j, none⟩ = some u := by
  obtain ⟨y, ⟨ao, n, cap, cap', rfl, rfl, -⟩, h2, h3⟩ := h
  obtain ⟨o2, c2, e2⟩ := ownsRow_slice h2
  injection e2 with _ e2 _
  subst e2
  obtain ⟨g, rfl, hg, hc⟩ := ownsRow_cells h2 hk
  exact ⟨g, cap, rfl, hg, h3 g rfl, hc⟩

/-- the lists that were grown -/
structure Pack (c : Nat → Nat) (w : World) (e T : TypeId) (size : Nat) (U : Nat → List Value) (ca : Nat) (col : Nat → Nat) (per M : Nat) (av : Value) (A : List Value) : Prop where
  row : w.ownsRow 0 T 1 av A.length A
  crow : ∀ g, av.ownBlock = some g → c g = ca
  rows : ∀ (m : Nat) (v : Value), A[m]? = some v → ∃ k, k ≤ M ∧ Pen c w e size (reps k (U (m / per))) (col (m / per)) v k
/-- the n-th one grows: xv so far, L long -/
structure Packing (c : Nat → Nat) (w : World) (e T : TypeId) (size : Nat) (U : Nat → List Value) (ca : Nat) (col : Nat → Nat) (per M : Nat) (av : Value) (A : List Value) (n L : Nat) (xv : Value) : Prop where
  row : w.ownsRow 0 T 1 av A.length A
  crow : ∀ g, av.ownBlock = some g → c g = ca
  rows : ∀ (m : Nat) (v : Value), A[m]? = some v → ∃ k, k ≤ M ∧ (m / per = n → k ≤ L) ∧ Pen c w e size (reps k (U (m / per))) (col (m / per)) v k
  x : Pen c w e size (reps L (U n)) (col n) xv L

section
variable {S : Nat → Prop} {c c' : Nat → Nat} {w w' : World} {e T : TypeId} {size ca per M n L : Nat} {U : Nat → List Value} {col : Nat → Nat} {av av' xv xv' : Value} {A : List Value}
theorem Pack.keeps (h : Pack c w e T size U ca col per M av A) (hk : Keeps S w w') (hS : ∀ g, S g → g < w.heap.size → c g ≠ ca ∧ ∀ i, c g ≠ col i) (hc : ∀ g, g < w.heap.size → (c g = ca ∨ ∃ i, c g = col i) → c' g = c g) : Pack c' w' e T size U ca col per M av A :=
  ⟨ownsRow_keeps h.row hk fun g hg hs => (hS g hs (h.row.lt g hg).2).1 (h.crow g hg), fun g hg => by rw [hc g (h.row.lt g hg).2 (.inl (h.crow g hg))]; exact h.crow g hg, fun m v hv => by
    obtain ⟨k, h1, h2⟩ := h.rows m v hv
    exact ⟨k, h1, h2.keeps hk (fun g hs hl => (hS g hs hl).2 _) fun g hg he => by rw [hc g hg (.inr ⟨_, he⟩)]; exact he⟩⟩
theorem Packing.keeps (h : Packing c w e T size U ca col per M av A n L xv) (hk : Keeps S w w') (hS : ∀ g, S g → g < w.heap.size → c g ≠ ca ∧ ∀ i, c g ≠ col i) (hc : ∀ g, g < w.heap.size → (c g = ca ∨ ∃ i, c g = col i) → c' g = c g) : Packing c' w' e T size U ca col per M av A n L xv :=
  ⟨ownsRow_keeps h.row hk fun g hg hs => (hS g hs (h.row.lt g hg).2).1 (h.crow g hg), fun g hg => by rw [hc g (h.row.lt g hg).2 (.inl (h.crow g hg))]; exact h.crow g hg, fun m v hv => by
    obtain ⟨k, h1, h0, h2⟩ := h.rows m v hv
    exact ⟨k, h1, h0, h2.keeps hk (fun g hs hl => (hS g hs hl).2 _) fun g hg he => by rw [hc g hg (.inr ⟨_, he⟩)]; exact he⟩,
    h.x.keeps hk (fun g hs hl => (hS g hs hl).2 _) fun g hg he => by rw [hc g hg (.inr ⟨_, he⟩)]; exact he⟩
theorem Pack.fresh (h : Pack c w e T size U ca col per M av A) (f : Fresh w w') : Pack c w' e T size U ca col per M av A := h.keeps f (fun _ h => h.elim) fun _ _ _ => rfl
theorem Packing.fresh (h : Packing c w e T size U ca col per M av A n L xv) (f : Fresh w w') : Packing c w' e T size U ca col per M av A n L xv := h.keeps f (fun _ h => h.elim) fun _ _ _ => rfl
/-- a list more, marked -/
theorem Pack.begin (h : Pack c w e T size U ca col per M av A) (hA : A.length = per * n) (hx : Pen c w e size (reps L (U n)) (col n) xv L) : Packing c w e T size U ca col per M av A n L xv :=
  ⟨h.row, h.crow, fun m v hv => by
    obtain ⟨k, h1, h2⟩ := h.rows m v hv
    refine ⟨k, h1, fun q => ?_, h2⟩
    have := (List.getElem?_eq_some_iff.1 hv).1
    rw [hA] at this
    have := Nat.div_lt_of_lt_mul this
    omega, hx⟩
theorem Packing.fin (h : Packing c w e T size U ca col per M av A n L xv) : Pack c w e T size U ca col per M av A :=
  ⟨h.row, h.crow, fun m v hv => by
    obtain ⟨k, h1, -, h2⟩ := h.rows m v hv
    exact ⟨k, h1, h2⟩⟩
/-- it is noted as it is now -/
theorem Packing.note (h : Packing c w e T size U ca col per M av A n L xv) (hn : A.length / per = n) (hL : L ≤ M) (hd : ∀ i, col i ≠ ca) (ha : Appended T 1 w w' av av' (A.length + 1) (A ++ [xv])) :
    Packing (paint c w ca) w' e T size U ca col per M av' (A ++ [xv]) n L xv := by
  have kp : ∀ {xs : List Value} {i k : Nat} {v : Value}, Pen c w e size xs (col i) v k → Pen (paint c w ca) w' e size xs (col i) v k := fun hq => hq.keeps ha.keeps (fun g hs hl q => hd _ (q.symm.trans (h.crow g hs))) fun g hl hq => by rw [paint_old hl]; exact hq
  refine ⟨by rw [List.length_append]; exact ha.row, fun g hg => ?_, fun m v hv => ?_, kp h.x⟩
  · rcases ha.own g hg with q | q
    · rw [paint_old (h.row.lt g q).2]; exact h.crow g q
    · exact paint_new q.1
  · by_cases hm : m < A.length
    · rw [List.getElem?_append_left hm] at hv
      obtain ⟨k, h1, h0, h2⟩ := h.rows m v hv
      exact ⟨k, h1, h0, kp h2⟩
    · have hm2 : m = A.length := by have := (List.getElem?_eq_some_iff.1 hv).1; simp at this; omega
      subst hm2
      simp at hv
      subst hv
      rw [hn]
      exact ⟨L, hL, fun _ => Nat.le_refl _, kp h.x⟩
/-- it grows by one; y: as it lies without its clip -/
theorem Packing.grow {y : Value} (h : Packing c w e T size U ca col per M av A n L xv) (hd : ∀ i, col i ≠ ca) (hi : ∀ i j, col i = col j → i = j) (hy : Clip xv y) (hyr : w.ownsRow 0 e size y L (reps L (U n))) (ha : Grown e size w w' y xv' L (reps L (U n)) (U n)) :
    Packing (paint c w (col n)) w' e T size U ca col per M av A n (L + 1) xv' := by
  have hyc : ∀ g, y.ownBlock = some g → c g = col n := fun g hg => (h.x.own (by rw [hy.own]; exact hg)).1
  have kp : ∀ {i k : Nat} {v : Value}, (i = n → k ≤ L) → Pen c w e size (reps k (U i)) (col i) v k → Pen (paint c w (col n)) w' e size (reps k (U i)) (col i) v k := fun {i k v} hj hr => by
    obtain ⟨z, h1, h2, h3⟩ := hr
    refine ⟨z, h1, ownsRow_front h2 fun g hg => ?_, fun g hg => by rw [paint_old (h2.lt g hg).2]; exact h3 g hg⟩
    by_cases hq : y.ownBlock = some g
    · have h4 := hyc g hq
      have h5 := h3 g hg
      have := ha.front g
      rw [if_pos hq] at this
      exact this.le (Nat.mul_le_mul_right _ (hj (hi _ _ (by omega))))
    · exact Front.of_eq (ha.app.keeps.block g (h2.lt g hg).2 hq) _
  refine ⟨ownsRow_keeps h.row ha.app.keeps fun g hg hq => hd n ((hyc g hq).symm.trans (h.crow g hg)), fun g hg => by rw [paint_old (h.row.lt g hg).2]; exact h.crow g hg, fun m v hv => ?_, ?_⟩
  · obtain ⟨k, h1, h0, h2⟩ := h.rows m v hv
    exact ⟨k, h1, fun q => by have := h0 q; omega, kp h0 h2⟩
  · obtain ⟨ao, cap, e1⟩ := ownsRow_slice ha.app.row
    subst e1
    refine ⟨_, Clip.same, ha.app.row, fun g hg => ?_⟩
    rcases ha.app.own g hg with q | q
    · rw [paint_old (hyr.lt g q).2]
      exact hyc g q
    · exact paint_new q.1
end

/-- lists that came out, untouched: F; copies of them: Wv; what both read as: C (its cells) -/
structure Frees {α : Type} (c : Nat → Nat) (w : World) (e T : TypeId) (size : Nat) (cells : α → List Value) (len : α → Nat) (cf cw cc : Nat) (col : Nat → Nat) (fv wv : Value) (F Wv : List Value) (C : List α) : Prop where
  frow : w.ownsRow 0 T 1 fv F.length F
  cfrow : ∀ g, fv.ownBlock = some g → c g = cf
  wrow : w.ownsRow 0 T 1 wv Wv.length Wv
  cwrow : ∀ g, wv.ownBlock = some g → c g = cw
  lenC : C.length = F.length
  lenW : Wv.length = F.length
  lists : ∀ (j : Nat) (v : Value) (l : α), F[j]? = some v → C[j]? = some l → Pen c w e size (cells l) (col j) v (len l)
  was : ∀ (j : Nat) (v : Value) (l : α), Wv[j]? = some v → C[j]? = some l → Pen c w e size (cells l) cc v (len l)
section
variable {α : Type} {S : Nat → Prop} {c c' : Nat → Nat} {w w' : World} {e T : TypeId} {size cf cw cc : Nat} {cells : α → List Value} {len : α → Nat} {col : Nat → Nat} {fv wv fv' wv' v u : Value} {F Wv : List Value} {C : List α} {l : α}
theorem Frees.keeps (h : Frees c w e T size cells len cf cw cc col fv wv F Wv C) (hk : Keeps S w w') (hS : ∀ g, S g → g < w.heap.size → c g ≠ cf ∧ c g ≠ cw ∧ c g ≠ cc ∧ ∀ i, c g ≠ col i) (hc : ∀ g, g < w.heap.size → (c g = cf ∨ c g = cw ∨ c g = cc ∨ ∃ i, c g = col i) → c' g = c g) : Frees c' w' e T size cells len cf cw cc col fv wv F Wv C :=
  ⟨ownsRow_keeps h.frow hk fun g hg hs => (hS g hs (h.frow.lt g hg).2).1 (h.cfrow g hg), fun g hg => by rw [hc g (h.frow.lt g hg).2 (.inl (h.cfrow g hg))]; exact h.cfrow g hg,
    ownsRow_keeps h.wrow hk fun g hg hs => (hS g hs (h.wrow.lt g hg).2).2.1 (h.cwrow g hg), fun g hg => by rw [hc g (h.wrow.lt g hg).2 (.inr (.inl (h.cwrow g hg)))]; exact h.cwrow g hg,
    h.lenC, h.lenW, fun j v l hv hl => (h.lists j v l hv hl).keeps hk (fun g hs hl => (hS g hs hl).2.2.2 _) fun g hg he => by rw [hc g hg (.inr (.inr (.inr ⟨_, he⟩)))]; exact he,
    fun j v l hv hl => (h.was j v l hv hl).keeps hk (fun g hs hl => (hS g hs hl).2.2.1) fun g hg he => by rw [hc g hg (.inr (.inr (.inl he)))]; exact he⟩
theorem Frees.fresh (h : Frees c w e T size cells len cf cw cc col fv wv F Wv C) (f : Fresh w w') : Frees c w' e T size cells len cf cw cc col fv wv F Wv C := h.keeps f (fun _ h => h.elim) fun _ _ _ => rfl
/-- a list more among those that came out, its copy among the copies -/
theorem Frees.more (hlC : C.length = F.length) (hlW : Wv.length = F.length) (hls : ∀ (j : Nat) (v : Value) (l : α), F[j]? = some v → C[j]? = some l → Pen c w e size (cells l) (col j) v (len l)) (hws : ∀ (j : Nat) (v : Value) (l : α), Wv[j]? = some v → C[j]? = some l → Pen c w e size (cells l) cc v (len l)) (hx : Pen c w e size (cells l) (col F.length) v (len l)) (hy : Pen c w e size (cells l) cc u (len l))
    (hf : w.ownsRow 0 T 1 fv' (F.length + 1) (F ++ [v])) (hf2 : ∀ g, fv'.ownBlock = some g → c g = cf) (hw : w.ownsRow 0 T 1 wv' (Wv.length + 1) (Wv ++ [u])) (hw2 : ∀ g, wv'.ownBlock = some g → c g = cw) :
    Frees c w e T size cells len cf cw cc col fv' wv' (F ++ [v]) (Wv ++ [u]) (C ++ [l]) := by
  refine ⟨by rw [List.length_append]; exact hf, hf2, by rw [List.length_append]; exact hw, hw2, by simp [hlC], by simp [hlW], fun j y m hy2 hm => ?_, fun j y m hy2 hm => ?_⟩
  · by_cases hj : j < F.length
    · rw [List.getElem?_append_left hj] at hy2
      rw [List.getElem?_append_left (by rw [hlC]; exact hj)] at hm
      exact hls j y m hy2 hm
    · have hj2 : j = F.length := by have := (List.getElem?_eq_some_iff.1 hy2).1; simp at this; omega
      subst hj2
      simp at hy2
      rw [← hlC] at hm
      simp at hm
      subst hy2
      subst hm
      exact hx
  · by_cases hj : j < Wv.length
    · rw [List.getElem?_append_left hj] at hy2
      rw [List.getElem?_append_left (by rw [hlC, ← hlW]; exact hj)] at hm
      exact hws j y m hy2 hm
    · have hj2 : j = Wv.length := by have := (List.getElem?_eq_some_iff.1 hy2).1; simp at this; omega
      subst hj2
      simp at hy2
      rw [hlW, ← hlC] at hm
      simp at hm
      subst hy2
      subst hm
      exact hy
end

/-- the first i of a list are us -/
def HPen (c : Nat → Nat) (w : World) (e : TypeId) (size : Nat) (us : List Value) (x : Nat) (v : Value) (k i : Nat) : Prop := ∃ ys, Pen c w e size (reps i us ++ ys) x v k ∧ i ≤ k
section
variable {S : Nat → Prop} {c c' : Nat → Nat} {w w' : World} {e T : TypeId} {size x k i G M : Nat} {us xs : List Value} {v : Value}
theorem HPen.begin (h : Pen c w e size xs x v k) : HPen c w e size us x v k 0 := ⟨xs, h, Nat.zero_le _⟩
theorem HPen.fresh (h : HPen c w e size us x v k i) (f : Fresh w w') : HPen c w' e size us x v k i := by
  obtain ⟨ys, h1, h2⟩ := h
  exact ⟨ys, h1.keeps f (fun _ h => h.elim) (fun _ _ h => h), h2⟩
theorem HPen.fin (h : HPen c w e size us x v k k) (hu : us.length = size) : Pen c w e size (reps k us) x v k := by
  obtain ⟨ys, ⟨y, h1, h2, h3⟩, -⟩ := h
  have hl := h2.1
  rw [List.length_append, reps_len, hu] at hl
  have : ys = [] := List.eq_nil_of_length_eq_zero (by omega)
  subst this
  rw [List.append_nil] at h2
  exact ⟨y, h1, h2, h3⟩
theorem HPen.puts {g n cap : Nat} (h : HPen c w e size us x (.slice (some ⟨g, 0, none⟩) n cap) n i) (hu : us.length = size) (hi : i < n) : HPen c (w.setCells g (i * size) us) e size us x (.slice (some ⟨g, 0, none⟩) n cap) n (i + 1) := by
  obtain ⟨ys, ⟨y, ⟨ao, n', cap1, cap2, rfl, q, hc⟩, h2, h3⟩, h4⟩ := h
  simp only [Value.slice.injEq] at q
  obtain ⟨rfl, rfl, rfl⟩ := q
  have hh : Half w e size us (.slice (some ⟨g, 0, none⟩) n cap2) n i := ⟨ys, h2, h4⟩
  obtain ⟨zs, q1, q2⟩ := hh.puts hu hi
  exact ⟨zs, ⟨_, ⟨_, _, _, _, rfl, rfl, hc⟩, q1, h3⟩, q2⟩
theorem HPen.put1 {g n cap : Nat} {u : Value} (h : HPen c w e 1 [u] x (.slice (some ⟨g, 0, none⟩) n cap) n i) (hi : i < n) : HPen c (w.setCell ⟨g, i, none⟩ u) e 1 [u] x (.slice (some ⟨g, 0, none⟩) n cap) n (i + 1) := by
  have := h.puts rfl hi
  rwa [Nat.mul_one] at this

theorem HPen.cell (h : HPen c w e 1 us x v k i) (hi : i < k) : ∃ g cap u, v = .slice (some ⟨g, 0, none⟩) k cap ∧ g < w.heap.size ∧ c g = x ∧ w.cell? ⟨g, i, none⟩ = some u ∧ w.frozen? ⟨g, i, none⟩ = false := by
  obtain ⟨ys, hp, -⟩ := h
  obtain ⟨g, cap, rfl, hg, hc, hcell⟩ := hp.cells (by omega)
  obtain ⟨y, h1, h2, h3⟩ := hp
  have hl := h2.1
  obtain ⟨ao, n', cap1, cap2, rfl, e, -⟩ := h1
  simp only [Value.slice.injEq] at e
  obtain ⟨rfl, rfl, rfl⟩ := e
  exact ⟨g, cap, _, rfl, hg, hc, hcell i _ (List.getElem?_eq_getElem (by omega)), h2.frozenAt i⟩
/-- lists that came out, marked one by one: below i they are -/
structure Marks {α : Type} (c : Nat → Nat) (w : World) (e : TypeId) (size : Nat) (cells : α → List Value) (len : α → Nat) (U : Nat → List Value) (col : Nat → Nat) (G M i : Nat) (F : List Value) (C : List α) : Prop where
  done : ∀ (j : Nat) (v : Value), j < i → F[j]? = some v → ∃ k, k ≤ M ∧ Pen c w e size (reps k (U (G + j))) (col j) v k
  todo : ∀ (j : Nat) (v : Value) (l : α), i ≤ j → F[j]? = some v → C[j]? = some l → Pen c w e size (cells l) (col j) v (len l)
theorem Marks.fresh {α : Type} {cells : α → List Value} {len : α → Nat} {U : Nat → List Value} {col : Nat → Nat} {F : List Value} {C : List α} (h : Marks c w e size cells len U col G M i F C) (f : Fresh w w') : Marks c w' e size cells len U col G M i F C :=
  ⟨fun j v hj hv => by
    obtain ⟨k, h1, h2⟩ := h.done j v hj hv
    exact ⟨k, h1, h2.keeps f (fun _ h => h.elim) (fun _ _ h => h)⟩, fun j v l hj hv hl => (h.todo j v l hj hv hl).keeps f (fun _ h => h.elim) (fun _ _ h => h)⟩
/-- the i-th one's block turned -/
theorem Marks.turn {α : Type} {cells : α → List Value} {len : α → Nat} {U : Nat → List Value} {col : Nat → Nat} {F : List Value} {C : List α} (h : Marks c w e size cells len U col G M i F C) (hi : ∀ a b, col a = col b → a = b) (k : Keeps S w w') (hS : ∀ g, S g → c g = col i) : (∀ (j : Nat) (v : Value), j < i → F[j]? = some v → ∃ k, k ≤ M ∧ Pen c w' e size (reps k (U (G + j))) (col j) v k) ∧ (∀ (j : Nat) (v : Value) (l : α), i < j → F[j]? = some v → C[j]? = some l → Pen c w' e size (cells l) (col j) v (len l)) :=
  ⟨fun j v hj hv => by
    obtain ⟨k', h1, h2⟩ := h.done j v hj hv
    exact ⟨k', h1, h2.keeps k (fun g hg _ q => by have := hi _ _ ((hS g hg).symm.trans q); omega) (fun _ _ h => h)⟩, fun j v l hj hv hl => (h.todo j v l (by omega) hv hl).keeps k (fun g hg _ q => by have := hi _ _ ((hS g hg).symm.trans q); omega) (fun _ _ h => h)⟩
end
end Go.Proofs.Ytbhienlalpbflaa
