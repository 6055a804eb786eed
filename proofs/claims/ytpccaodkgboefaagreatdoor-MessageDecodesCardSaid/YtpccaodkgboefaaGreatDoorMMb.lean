/-
  The law's Book: four lists of lists that were lent, each with a marked place behind it; lendInts, lendTexts.
  The law's Book: lend: a request with all its lists as copies, each with a marked place behind it.
  The law's Book: marked: the marked places are as they were.
-/
import Derived.Test.YtpccaodkgboefaaGreatDoorMMdb
import Derived.Test.YtpccaodkgboefaaGreatDoorMsDecode
import Derived.Test.YtpccaodkgboefaaGreatDoorMMsG
namespace Go.Proofs.YtpccaodkgboefaaGreatDoor
open Go.RowKit

def bkT : Fin 4 → TypeId
  | 0 => 22
  | 1 => 23
  | 2 => 24
  | 3 => 46
def bkM : Fin 4 → Value
  | 0 => .int .i64 (-77)
  | 1 => .string (str [126])
  | 2 => .int .i64 (-77)
  | 3 => .int .i64 (-77)
def bkS : Fin 4 → Nat
  | 0 => 1
  | 1 => 1
  | 2 => 7
  | 3 => 8
def bkO : Fin 4 → Nat
  | 0 => 0
  | 1 => 0
  | 2 => 0
  | 3 => 2
/-- a list with a marked place at its end, in a block of T that is not of S -/
def Marked (S T : Nat → Prop) (w : World) (i : Fin 4) (x : Value) : Prop :=
  ∃ g n cap, x = .slice (some ⟨g, 0, none⟩) (n + 1) cap ∧ ¬ S g ∧ T g ∧ n + 1 ≤ 4611686018427387904 ∧ g < w.heap.size ∧ w.cell? ⟨g, n * bkS i + bkO i, none⟩ = some (bkM i)
theorem Marked.keeps {S S' T T' K : Nat → Prop} {w w' : World} {i : Fin 4} {x : Value} (h : Marked S T w i x) (k : Keeps K w w') (hK : ∀ q, K q → S q ∨ ¬ T q) (hg : Grows S S' w w') (hT : ∀ q, T q → T' q) : Marked S' T' w' i x := by
  obtain ⟨g, n, cap, rfl, h1, h0, h2, h3, h4⟩ := h
  refine ⟨g, n, cap, rfl, fun h => ?_, hT g h0, h2, Nat.lt_of_lt_of_le h3 k.size, (k.cell (p := ⟨g, _, none⟩) h3 (fun h => (hK g h).elim h1 fun q => q h0)).trans h4⟩
  rcases hg g h with h | h
  · exact h1 h
  · omega
structure BookV (S T : Nat → Prop) (w : World) (b : Nat) (v : Fin 4 → Value) (X : Fin 4 → List Value) : Prop where
  glob : 1 ≤ b
  at_ : w.heap[b]? = some (.cells #[v 0, v 1, v 2, v 3] 34 (0, 0))
  sb : S b
  live : ∀ q, S q → q < w.heap.size
  liveT : ∀ q, T q → q < w.heap.size
  row : ∀ i, w.ownsRow 0 (bkT i) 1 (v i) (X i).length (X i)
  own : ∀ i g, (v i).ownBlock = some g → S g ∧ g ≠ b
  apart : ∀ i j g, i ≠ j → (v i).ownBlock = some g → (v j).ownBlock ≠ some g
  marks : ∀ i, ∀ x ∈ X i, Marked S T w i x
theorem BookV.keeps {S T K : Nat → Prop} {w w' : World} {b : Nat} {v : Fin 4 → Value} {X : Fin 4 → List Value} (h : BookV S T w b v X) (f : Keeps K w w') (hS : ∀ q, K q → ¬ S q) (hT : ∀ q, K q → ¬ T q) : BookV S T w' b v X :=
  ⟨h.glob, f.at_ h.at_ (fun e => hS b e h.sb), h.sb, fun q hq => Nat.lt_of_lt_of_le (h.live q hq) f.size, fun q hq => Nat.lt_of_lt_of_le (h.liveT q hq) f.size, fun i => ownsRow_keeps (h.row i) f (fun g hg e => hS g e (h.own i g hg).1), h.own, h.apart, fun i x hx => (h.marks i x hx).keeps f (fun q hq => .inr (hT q hq)) (fun _ h => .inl h) (fun _ h => h)⟩
theorem BookV.fresh {S T : Nat → Prop} {w w' : World} {b : Nat} {v : Fin 4 → Value} {X : Fin 4 → List Value} (h : BookV S T w b v X) (f : Fresh w w') : BookV S T w' b v X := h.keeps f (fun _ h => h.elim) (fun _ h => h.elim)
def upd {α : Type} (f : Fin 4 → α) (i : Fin 4) (x : α) : Fin 4 → α := fun j => if j = i then x else f j
theorem upd_arr (v : Fin 4 → Value) (i : Fin 4) (x : Value) : (#[v 0, v 1, v 2, v 3] : Array Value).setIfInBounds i.val x = #[upd v i x 0, upd v i x 1, upd v i x 2, upd v i x 3] := by
  obtain ⟨i, hi⟩ := i
  match i, hi with
  | 0, _ => rfl
  | 1, _ => rfl
  | 2, _ => rfl
  | 3, _ => rfl
theorem BookV.push {S T T' : Nat → Prop} {w w' : World} {b : Nat} {v : Fin 4 → Value} {X : Fin 4 → List Value} (h : BookV S T w b v X) (i : Fin 4) {v' x : Value} (ha : Appended (bkT i) 1 w w' (v i) v' ((X i).length + 1) (X i ++ [x])) (hx : Marked S T' w i x) (hTT : ∀ q, T q → T' q) (hlT : ∀ q, T' q → q < w.heap.size) :
    ∃ S', Grows S S' w (w'.setCell ⟨b, i.val, none⟩ v') ∧ Keeps S w (w'.setCell ⟨b, i.val, none⟩ v') ∧ BookV S' T' (w'.setCell ⟨b, i.val, none⟩ v') b (upd v i v') (upd X i (X i ++ [x])) := by
  have k1 : Keeps S w w' := Keeps.trans' (S := S) (Keeps.refl _ _) ha.keeps fun q _ hq => (h.own i q hq).1
  have k2 : Keeps S w (w'.setCell ⟨b, i.val, none⟩ v') := k1.setCell (p := ⟨b, i.val, none⟩) (fun _ => h.sb) _
  have hbv' : v'.ownBlock ≠ some b := fun e => by
    rcases ha.own b e with q | q
    · exact (h.own i b q).2 rfl
    · have := h.live b h.sb; omega
  have hgr : Grows S (fun q => S q ∨ v'.ownBlock = some q) w (w'.setCell ⟨b, i.val, none⟩ v') := fun q hq => by
    rcases hq with q1 | q1
    · exact .inl q1
    · rcases ha.own q q1 with q2 | q2
      · exact .inl (h.own i q q2).1
      · exact .inr ⟨q2.1, by simpa using q2.2⟩
  have hb1 : w'.heap[b]? = some (.cells #[v 0, v 1, v 2, v 3] 34 (0, 0)) := ha.keeps.at_ h.at_ (fun q => (h.own i b q).2 rfl)
  refine ⟨fun q => S q ∨ v'.ownBlock = some q, hgr, k2, h.glob, ?_, .inl h.sb, ?_, fun q hq => Nat.lt_of_lt_of_le (hlT q hq) k2.size, ?_, ?_, ?_, ?_⟩
  · rw [heap_setCell_at hb1, upd_arr]
  · intro q hq
    rcases hq with q1 | q1
    · exact Nat.lt_of_lt_of_le (h.live q q1) k2.size
    · rcases ha.own q q1 with q2 | q2
      · exact Nat.lt_of_lt_of_le (h.live q (h.own i q q2).1) k2.size
      · simpa using q2.2
  · intro j
    by_cases hj : j = i
    · subst hj
      have : upd v j v' j = v' := by simp [upd]
      rw [this, show upd X j (X j ++ [x]) j = X j ++ [x] by simp [upd], List.length_append]
      exact ownsRow_setCell_ne ha.row hbv' _
    · rw [show upd v i v' j = v j by simp [upd, hj], show upd X i (X i ++ [x]) j = X j by simp [upd, hj]]
      refine ownsRow_setCell_ne (ownsRow_keeps (h.row j) ha.keeps fun g hg e => h.apart j i g hj hg e) (fun e => (h.own j b e).2 rfl) _
  · intro j g hg
    by_cases hj : j = i
    · subst hj
      rw [show upd v j v' j = v' by simp [upd]] at hg
      exact ⟨.inr hg, fun e => hbv' (by rw [hg, e])⟩
    · rw [show upd v i v' j = v j by simp [upd, hj]] at hg
      exact ⟨.inl (h.own j g hg).1, (h.own j g hg).2⟩
  · intro j k g hjk hg hk
    have new : ∀ m, m ≠ i → v'.ownBlock = some g → (v m).ownBlock ≠ some g := fun m hm e1 e2 => by
      rcases ha.own g e1 with q | q
      · exact h.apart m i g hm e2 q
      · have := h.live g (h.own m g e2).1; omega
    by_cases hj : j = i
    · subst hj
      rw [show upd v j v' j = v' by simp [upd]] at hg
      rw [show upd v j v' k = v k by simp [upd, Ne.symm hjk]] at hk
      exact new k (Ne.symm hjk) hg hk
    · rw [show upd v i v' j = v j by simp [upd, hj]] at hg
      by_cases hki : k = i
      · subst hki
        rw [show upd v k v' k = v' by simp [upd]] at hk
        exact new j hj hk hg
      · rw [show upd v i v' k = v k by simp [upd, hki]] at hk
        exact h.apart j k g hjk hg hk
  · intro j y hy
    by_cases hj : j = i
    · subst hj
      rw [show upd X j (X j ++ [x]) j = X j ++ [x] by simp [upd]] at hy
      rcases List.mem_append.1 hy with hy | hy
      · exact (h.marks j y hy).keeps k2 (fun _ h => .inl h) hgr hTT
      · simp at hy
        subst hy
        exact hx.keeps k2 (fun _ h => .inl h) hgr (fun _ h => h)
    · rw [show upd X i (X i ++ [x]) j = X j by simp [upd, hj]] at hy
      exact (h.marks j y hy).keeps k2 (fun _ h => .inl h) hgr hTT
/-- a Book with so many lists of each kind at most -/
def Book (S T : Nat → Prop) (w : World) (b : Nat) (N : Nat) : Prop := ∃ v X, BookV S T w b v X ∧ ∀ i, (X i).length ≤ N
theorem Book.keeps {S T K : Nat → Prop} {w w' : World} {b N : Nat} (h : Book S T w b N) (f : Keeps K w w') (hS : ∀ q, K q → ¬ S q) (hT : ∀ q, K q → ¬ T q) : Book S T w' b N := by
  obtain ⟨v, X, h1, h2⟩ := h
  exact ⟨v, X, h1.keeps f hS hT, h2⟩
theorem Book.fresh {S T : Nat → Prop} {w w' : World} {b N : Nat} (h : Book S T w b N) (f : Fresh w w') : Book S T w' b N := h.keeps f (fun _ h => h.elim) (fun _ h => h.elim)
theorem Book.most {S T : Nat → Prop} {w : World} {b N M : Nat} (h : Book S T w b N) (hNM : N ≤ M) : Book S T w b M := by
  obtain ⟨v, X, h1, h2⟩ := h
  exact ⟨v, X, h1, fun i => Nat.le_trans (h2 i) hNM⟩
theorem Book.sb {S T : Nat → Prop} {w : World} {b N : Nat} (h : Book S T w b N) : S b ∧ b < w.heap.size ∧ 1 ≤ b := by
  obtain ⟨v, X, h1, h2⟩ := h
  exact ⟨h1.sb, h1.live b h1.sb, h1.glob⟩
theorem Book.live {S T : Nat → Prop} {w : World} {b N : Nat} (h : Book S T w b N) : (∀ q, S q → q < w.heap.size) ∧ ∀ q, T q → q < w.heap.size := by
  obtain ⟨v, X, h1, h2⟩ := h
  exact ⟨h1.live, h1.liveT⟩
/-- the Book has grown -/
def Noted (S T : Nat → Prop) (b N : Nat) (w w' : World) (S' T' : Nat → Prop) : Prop := Grows S S' w w' ∧ Grows T T' w w' ∧ Keeps S w w' ∧ Book S' T' w' b N

theorem Src.ofListB {P : Program} {w : World} {tx e : TypeId} {v : Value} {xs : List Value} (hk : P.underlying tx = some (.slice e)) (h : ListAt w v xs) (h1 : ∀ u ∈ xs, u.oneCell' = true) : Src P 1 tx v xs.length xs w := by
  rcases h with ⟨rfl, ao, cap, rfl⟩ | ⟨bb, off, cap, rfl, hbb, hc⟩
  · cases ao with
    | none => exact Src.ofNil w hk cap
    | some a => exact Src.ofSlice w hk a 0 cap [] rfl (fun j u hj => by simp at hj) (fun u hu => by simp at hu)
  · refine Src.ofSlice w hk _ _ cap xs (by simp) (fun j u hj => ?_) h1
    have e : (⟨bb, off, none⟩ : Addr).add j = ⟨bb, off + j, none⟩ := by unfold Addr.add; split <;> simp_all
    rw [e]
    exact hc j u hj
/-- the first things of a row -/
theorem ownsRow_first {w : World} {base g n m cap size : Nat} {e : TypeId} {xs : List Value} (h : w.ownsRow base e size (.slice (some ⟨g, 0, none⟩) n cap) n xs) (hm : m ≤ n) : w.ownsRow base e size (.slice (some ⟨g, 0, none⟩) m cap) m (xs.take (m * size)) := by
  have hmul : m * size ≤ n * size := Nat.mul_le_mul_right _ hm
  obtain ⟨hl, ⟨h0, -⟩ | ⟨g', cap', cur, h0, hb, hg, h1, h2, h3, h4⟩⟩ := h
  · cases h0
  · injection h0 with e1 e2 e3
    injection e1 with e1
    injection e1 with e1
    subst e1; subst e3
    refine ⟨by rw [List.length_take, hl]; omega, .inr ⟨g, cap, cur, rfl, hb, hg, by omega, h2, h3, ?_⟩⟩
    rw [← h4, List.take_take, Nat.min_eq_left hmul]

/-- a list to which a marked place was appended -/
theorem lent_facts {w w1 w2 : World} {o : Obj} {e : TypeId} {size n : Nat} {v1 v2 : Value} {xs us : List Value} (k1 : Fresh w w1) (own1 : ∀ g, v1.ownBlock = some g → w.heap.size ≤ g) (ha : Appended e size (w1.alloc o) w2 v1 v2 (n + 1) (xs ++ us)) (hxs : xs.length = n * size) :
    ∃ g cap, v2 = .slice (some ⟨g, 0, none⟩) (n + 1) cap ∧ Fresh w w2 ∧ w.heap.size ≤ g ∧ g < w2.heap.size ∧ n ≤ cap ∧ w2.ownsRow 0 e size (.slice (some ⟨g, 0, none⟩) n cap) n xs ∧ ∀ k y, us[k]? = some y → w2.cell? ⟨g, n * size + k, none⟩ = some y := by
  have hf : Fresh w w2 := (k1.alloc o).trans' ha.keeps fun i hi h => by have := own1 i h; omega
  have hrow := ha.row
  obtain ⟨hl, ⟨-, h0⟩ | ⟨g, cap, cur, rfl, -, hg, h1, h2, h3, h4⟩⟩ := id hrow
  · omega
  · have hgn : w.heap.size ≤ g := by
      rcases ha.own g rfl with q | q
      · exact own1 g q
      · have := k1.size
        have q1 := q.1
        simp at q1
        omega
    have hfi := ownsRow_first hrow (m := n) (by omega)
    rw [← hxs, List.take_left'] at hfi
    · refine ⟨g, cap, rfl, hf, hgn, lt_of_block hg, by omega, hfi, fun k y hk => ?_⟩
      rw [cell_at hg]
      have h5 : (xs ++ us)[n * size + k]? = some y := by rw [← hxs, List.getElem?_append_right (by omega), Nat.add_sub_cancel_left]; exact hk
      rw [← h4, List.getElem?_take] at h5
      split at h5
      · simpa using h5
      · cases h5
    · rfl

theorem Tryz.infoIntB : (Tryz.prog.info? 3).map (fun i => (i.zero, i.size, i.bytes)) = some (some (.int .i64 0), 1, 8) := by kernel_rfl
theorem Tryz.infoStrB : (Tryz.prog.info? 9).map (fun i => (i.zero, i.size, i.bytes)) = some (some (.string ⟨#[]⟩), 1, 16) := by kernel_rfl
theorem Tryz.infoSliceB (i : Fin 4) : (Tryz.prog.info? (bkT i)).map (fun i => (i.zero, i.size, i.bytes)) = some (some (.slice none 0 0), 1, 24) := by
  obtain ⟨i, hi⟩ := i
  match i, hi with
  | 0, _ => exact (show (Tryz.prog.info? 22).map (fun i => (i.zero, i.size, i.bytes)) = some (some (.slice none 0 0), 1, 24) by kernel_rfl)
  | 1, _ => exact (show (Tryz.prog.info? 23).map (fun i => (i.zero, i.size, i.bytes)) = some (some (.slice none 0 0), 1, 24) by kernel_rfl)
  | 2, _ => exact (show (Tryz.prog.info? 24).map (fun i => (i.zero, i.size, i.bytes)) = some (some (.slice none 0 0), 1, 24) by kernel_rfl)
  | 3, _ => exact (show (Tryz.prog.info? 46).map (fun i => (i.zero, i.size, i.bytes)) = some (some (.slice none 0 0), 1, 24) by kernel_rfl)

set_option maxRecDepth 100000 in
set_option maxHeartbeats 4000000 in
theorem lendInts_any (S T : Nat → Prop) (b N : Nat) (v : Value) (l : List Int) (w : World) (h : Book S T w b N) (hv : ListAt w v (ints l)) (hl : l.length ≤ 4294967296) (hN : N ≤ 4294967296) :
    Calls Tryz.prog 26 #[.pointer (some ⟨b, 0, none⟩), v] w fun e w' => ∃ g cap, e = .returned (.slice (some ⟨g, 0, none⟩) l.length cap) ∧ w.heap.size ≤ g ∧ w'.ownsRow 0 3 1 (.slice (some ⟨g, 0, none⟩) l.length cap) l.length (ints l) ∧
      ∃ S' T', Noted S T b (N + 1) w w' S' T' ∧ ¬ S' g := by
  obtain ⟨V, X, hb, hX⟩ := h
  obtain ⟨i0, hi, hz0, hz1, hz2⟩ := info_parts Tryz.infoIntB
  obtain ⟨i1, hi', hz0', hz1', hz2'⟩ := info_parts (Tryz.infoSliceB 0)
  have hll : (ints l).length = l.length := by simp [ints]
  obtain ⟨ao, cap0, rfl, -⟩ := hv.ints_
  have hsrc := Src.ofListB (P := Tryz.prog) (tx := 22) Tryz.underlying22 hv (fun u hu => by obtain ⟨x, _, rfl⟩ := List.mem_map.1 hu; rfl)
  rw [hll] at hsrc
  have hx0 := hX 0
  have HX := hid hX
  have hrow0 := hb.row 0
  obtain ⟨oo, oc, hV0⟩ := ownsRow_slice hrow0
  have HB := hid hb
  have hbw := hb.live b hb.sb
  clear hv hb hX
  go_enter Tryz.func26, Tryz.ntmps26
  go_wp2_with (at_builtin; refine wpList_append_src rfl (.const (.slice none 0 0)) (.tmp 6) 22 22 rfl 3 i0 (.int .i64 0) 1 8 Tryz.underlying22 hi hz0 hz1 hz2 rfl (by decide) (World.ownsRow_nil _ _ _ _) _ l.length (ints l) (by rfl) (by rfl) hsrc (by unfold maxLen; omega) (by omega) ?_)
  intro v1 w1 ha1
  have hsrc2 : Src Tryz.prog 1 22 (.slice (some ⟨w1.heap.size, 0, none⟩) 1 1) 1 [.int .i64 (-77)] (w1.alloc (.cells #[.int .i64 (-77)] 3)) :=
    Src.ofSlice _ Tryz.underlying22 _ 1 1 _ rfl (fun j y hj => by
      match j, hj with
      | 0, hj => simp at hj; subst hj; simp [Addr.add]
      | (j + 1), hj => simp at hj) (fun u hu => by simp at hu; subst hu; rfl)
  go_wp2_with (at_builtin; refine wpList_append_src rfl (.tmp 7) (.tmp 8) 22 22 rfl 3 i0 (.int .i64 0) 1 8 Tryz.underlying22 hi hz0 hz1 hz2 rfl (by decide) (ha1.row.alloc _) (.slice (some ⟨w1.heap.size, 0, none⟩) 1 1) 1 [.int .i64 (-77)] (by rfl) (by rfl) hsrc2 (by unfold maxLen; omega) (by omega) ?_)
  intro v2 w2 ha2
  obtain ⟨g, cap, rfl, hf, hgn, hg2, hcap, hfi, hmk⟩ := lent_facts (w := w) (ha1.keeps.mono (S' := fun _ => False) fun _ _ h => by cases h) (fun g hg => (ha1.own g hg).elim (fun q => by cases q) fun q => q.1) ha2 (by simp [ints])
  have hmk0 := hmk 0 _ rfl
  have hb2 := HB.out.fresh hf
  have HB2 := hid hb2
  have hg1 : ¬ S g := fun h => by have := HB.out.live g h; omega
  have hM : Marked S (fun q => T q ∨ q = g) w2 0 (.slice (some ⟨g, 0, none⟩) (l.length + 1) cap) := ⟨g, l.length, cap, rfl, hg1, .inr rfl, by omega, hg2, hmk0⟩
  have HM := hid hM
  have HF := hid hf
  have HFI := hid hfi
  have c0 := cell_at hb2.at_ 0
  simp at c0
  rw [hV0] at c0
  have hrow2 := hb2.row 0
  rw [hV0] at hrow2
  clear hsrc hsrc2 ha1 ha2 hmk hmk0 hM hf hfi hb2
  go_wp2_with (at_builtin; refine wpList_push rfl (.tmp 14) (.tmp 16) 29 rfl 22 i1 (.slice none 0 0) 24 Tryz.underlying29 hi' hz0' hz1' hz2' rfl w2 hrow2 _ (by rfl) (by rfl) rfl (by omega) (by unfold maxLen; omega) ?_)
  intro v3 w3 ha3
  have ha3' := ha3
  rw [← hV0] at ha3'
  obtain ⟨S', hgr, k4, hb4⟩ := BookV.push HB2.out 0 ha3' HM.out (fun _ h => .inl h) (fun q hq => hq.elim (HB2.out.liveT q) fun e => e ▸ hg2)
  have hb3 := ha3'.keeps.at_ HB2.out.at_ (fun q => (HB2.out.own 0 b q).2 rfl)
  have d0 := cell_at hb3 0
  simp at d0
  have f0 := free_at hb3 0
  have HA := hid (And.intro hgr (And.intro k4 hb4))
  clear ha3 ha3' hgr k4 hb4 hb3 c0 hrow2
  obtain ⟨ao3, cp3, rfl⟩ : ∃ ao cp, v3 = .slice ao ((X 0).length + 1) cp := by
    have := HA.out.2.2.row 0
    simp [upd] at this
    exact ownsRow_slice this
  go_wp2_with fail
  go_ret
  obtain ⟨hgr, k4, hb4⟩ := HA.out
  have hgr2 : Grows S S' w _ := fun k hk => (hgr k hk).imp id fun q => ⟨Nat.le_trans HF.out.size q.1, q.2⟩
  refine ⟨g, cap, rfl, hgn, ownsRow_keeps HFI.out k4 (fun q hq h => by simp [Value.ownBlock] at hq; subst hq; exact hg1 h), S', fun q => T q ∨ q = g, ⟨hgr2, fun q hq => hq.elim (fun h => .inl h) (fun e => .inr (e ▸ ⟨hgn, Nat.lt_of_lt_of_le hg2 k4.size⟩)), Keeps.trans' (S := S) (HF.out.mono fun _ _ h => h.elim) k4 (fun _ _ h => h), ⟨_, _, hb4, fun j => ?_⟩⟩, fun h => ?_⟩
  · have := HX.out j
    by_cases hj : j = 0
    · subst hj
      simp [upd]
      exact this
    · rw [show upd X 0 _ j = X j by simp [upd, hj]]
      omega
  · rcases hgr g h with q | q
    · exact hg1 q
    · omega
set_option maxRecDepth 100000 in
set_option maxHeartbeats 4000000 in
theorem lendTexts_any (S T : Nat → Prop) (b N : Nat) (v : Value) (l : List (List UInt8)) (w : World) (h : Book S T w b N) (hv : ListAt w v (texts l)) (hl : l.length ≤ 4294967296) (hN : N ≤ 4294967296) :
    Calls Tryz.prog 27 #[.pointer (some ⟨b, 0, none⟩), v] w fun e w' => ∃ g cap, e = .returned (.slice (some ⟨g, 0, none⟩) l.length cap) ∧ w.heap.size ≤ g ∧ w'.ownsRow 0 9 1 (.slice (some ⟨g, 0, none⟩) l.length cap) l.length (texts l) ∧
      ∃ S' T', Noted S T b (N + 1) w w' S' T' ∧ ¬ S' g := by
  obtain ⟨V, X, hb, hX⟩ := h
  obtain ⟨i0, hi, hz0, hz1, hz2⟩ := info_parts Tryz.infoStrB
  obtain ⟨i1, hi', hz0', hz1', hz2'⟩ := info_parts (Tryz.infoSliceB 1)
  have hll : (texts l).length = l.length := by simp [texts]
  obtain ⟨ao, cap0, rfl, -⟩ := hv.texts
  have hsrc := Src.ofListB (P := Tryz.prog) (tx := 23) Tryz.underlying23 hv (fun u hu => by obtain ⟨x, _, rfl⟩ := List.mem_map.1 hu; rfl)
  rw [hll] at hsrc
  have hx0 := hX 1
  have HX := hid hX
  have hrow0 := hb.row 1
  obtain ⟨oo, oc, hV0⟩ := ownsRow_slice hrow0
  have HB := hid hb
  have hbw := hb.live b hb.sb
  clear hv hb hX
  go_enter Tryz.func27, Tryz.ntmps27
  go_wp2_with (at_builtin; refine wpList_append_src rfl (.const (.slice none 0 0)) (.tmp 6) 23 23 rfl 9 i0 (.string ⟨#[]⟩) 1 16 Tryz.underlying23 hi hz0 hz1 hz2 rfl (by decide) (World.ownsRow_nil _ _ _ _) _ l.length (texts l) (by rfl) (by rfl) hsrc (by unfold maxLen; omega) (by omega) ?_)
  intro v1 w1 ha1
  have hsrc2 : Src Tryz.prog 1 23 (.slice (some ⟨w1.heap.size, 0, none⟩) 1 1) 1 [.string (str [126])] (w1.alloc (.cells #[.string (str [126])] 9)) :=
    Src.ofSlice _ Tryz.underlying23 _ 1 1 _ rfl (fun j y hj => by
      match j, hj with
      | 0, hj => simp at hj; subst hj; simp [Addr.add]
      | (j + 1), hj => simp at hj) (fun u hu => by simp at hu; subst hu; rfl)
  go_wp2_with (at_builtin; refine wpList_append_src rfl (.tmp 7) (.tmp 8) 23 23 rfl 9 i0 (.string ⟨#[]⟩) 1 16 Tryz.underlying23 hi hz0 hz1 hz2 rfl (by decide) (ha1.row.alloc _) (.slice (some ⟨w1.heap.size, 0, none⟩) 1 1) 1 [.string (str [126])] (by rfl) (by rfl) hsrc2 (by unfold maxLen; omega) (by omega) ?_)
  intro v2 w2 ha2
  obtain ⟨g, cap, rfl, hf, hgn, hg2, hcap, hfi, hmk⟩ := lent_facts (w := w) (ha1.keeps.mono (S' := fun _ => False) fun _ _ h => by cases h) (fun g hg => (ha1.own g hg).elim (fun q => by cases q) fun q => q.1) ha2 (by simp [texts])
  have hmk0 := hmk 0 _ rfl
  have hb2 := HB.out.fresh hf
  have HB2 := hid hb2
  have hg1 : ¬ S g := fun h => by have := HB.out.live g h; omega
  have hM : Marked S (fun q => T q ∨ q = g) w2 1 (.slice (some ⟨g, 0, none⟩) (l.length + 1) cap) := ⟨g, l.length, cap, rfl, hg1, .inr rfl, by omega, hg2, hmk0⟩
  have HM := hid hM
  have HF := hid hf
  have HFI := hid hfi
  have c0 := cell_at hb2.at_ 1
  simp at c0
  rw [hV0] at c0
  have hrow2 := hb2.row 1
  rw [hV0] at hrow2
  clear hsrc hsrc2 ha1 ha2 hmk hmk0 hM hf hfi hb2
  go_wp2_with (at_builtin; refine wpList_push rfl (.tmp 14) (.tmp 16) 30 rfl 23 i1 (.slice none 0 0) 24 Tryz.underlying30 hi' hz0' hz1' hz2' rfl w2 hrow2 _ (by rfl) (by rfl) rfl (by omega) (by unfold maxLen; omega) ?_)
  intro v3 w3 ha3
  have ha3' := ha3
  rw [← hV0] at ha3'
  obtain ⟨S', hgr, k4, hb4⟩ := BookV.push HB2.out 1 ha3' HM.out (fun _ h => .inl h) (fun q hq => hq.elim (HB2.out.liveT q) fun e => e ▸ hg2)
  have hb3 := ha3'.keeps.at_ HB2.out.at_ (fun q => (HB2.out.own 1 b q).2 rfl)
  have d0 := cell_at hb3 1
  simp at d0
  have f0 := free_at hb3 1
  have HA := hid (And.intro hgr (And.intro k4 hb4))
  clear ha3 ha3' hgr k4 hb4 hb3 c0 hrow2
  obtain ⟨ao3, cp3, rfl⟩ : ∃ ao cp, v3 = .slice ao ((X 1).length + 1) cp := by
    have := HA.out.2.2.row 1
    simp [upd] at this
    exact ownsRow_slice this
  go_wp2_with fail
  go_ret
  obtain ⟨hgr, k4, hb4⟩ := HA.out
  have hgr2 : Grows S S' w _ := fun k hk => (hgr k hk).imp id fun q => ⟨Nat.le_trans HF.out.size q.1, q.2⟩
  refine ⟨g, cap, rfl, hgn, ownsRow_keeps HFI.out k4 (fun q hq h => by simp [Value.ownBlock] at hq; subst hq; exact hg1 h), S', fun q => T q ∨ q = g, ⟨hgr2, fun q hq => hq.elim (fun h => .inl h) (fun e => .inr (e ▸ ⟨hgn, Nat.lt_of_lt_of_le hg2 k4.size⟩)), Keeps.trans' (S := S) (HF.out.mono fun _ _ h => h.elim) k4 (fun _ _ h => h), ⟨_, _, hb4, fun j => ?_⟩⟩, fun h => ?_⟩
  · have := HX.out j
    by_cases hj : j = 1
    · subst hj
      simp [upd]
      exact this
    · rw [show upd X 1 _ j = X j by simp [upd, hj]]
      omega
  · rcases hgr g h with q | q
    · exact hg1 q
    · omega
end Go.Proofs.YtpccaodkgboefaaGreatDoor

namespace Go.Proofs.YtpccaodkgboefaaGreatDoor
open Go.RowKit

mutual
/-- so many requests; thrice -/
def cnt : Req → Nat
  | .mk _ _ _ _ _ _ qs => 3 + cntAll qs
def cntAll : List Req → Nat
  | [] => 0
  | x :: r => cnt x + cntAll r
end
mutual
def Tiny : Req → Prop
  | .mk _ _ _ _ l e qs => l.length ≤ 1000000000 ∧ e.length ≤ 1000000000 ∧ qs.length ≤ 1000000000 ∧ TinyAll qs
def TinyAll : List Req → Prop
  | [] => True
  | x :: r => Tiny x ∧ TinyAll r
end
theorem TinyAll.all : ∀ {l : List Req}, TinyAll l → ∀ x ∈ l, Tiny x
  | y :: r, h, x, hx => by
    rw [TinyAll] at h
    rcases List.mem_cons.1 hx with rfl | hx
    · exact h.1
    · exact TinyAll.all h.2 x hx
theorem Tiny.parts {R : Req} (h : Tiny R) : R.list.length ≤ 1000000000 ∧ R.entries.length ≤ 1000000000 ∧ R.asks.length ≤ 1000000000 ∧ ∀ x ∈ R.asks, Tiny x := by
  cases R
  rw [Tiny] at h
  exact ⟨h.1, h.2.1, h.2.2.1, h.2.2.2.all⟩
theorem cnt_eq (R : Req) : cnt R = 3 + cntAll R.asks := by
  cases R
  rw [cnt]
  rfl
theorem cntAll_snoc : ∀ (l : List Req) {n : Nat} {x : Req}, l[n]? = some x → cntAll (l.take (n + 1)) = cntAll (l.take n) + cnt x
  | [], n, x, h => by simp at h
  | y :: r, 0, x, h => by
    simp at h
    subst h
    simp [cntAll]
  | y :: r, n + 1, x, h => by
    have := cntAll_snoc r (n := n) (x := x) (by simpa using h)
    simp only [List.take_succ_cons, cntAll, this]
    omega
theorem cntAll_take : ∀ (l : List Req) (n : Nat), cntAll (l.take n) ≤ cntAll l
  | [], n => by simp [cntAll]
  | y :: r, 0 => by simp [cntAll]
  | y :: r, n + 1 => by
    have := cntAll_take r n
    simp only [List.take_succ_cons, cntAll]
    omega

/-- a request was lent -/
def Lent (S T : Nat → Prop) (b N : Nat) (w : World) (R : Req) (e : Ending) (w' : World) : Prop :=
  ∃ v bl S' T', e = .returned v ∧ ReqOwn w' R v bl ∧ bl.Nodup ∧ (∀ q ∈ bl, w.heap.size ≤ q ∧ ¬ S' q) ∧ Noted S T b (N + cnt R) w w' S' T'

theorem Noted.trans {S S1 S2 T T1 T2 : Nat → Prop} {b N M : Nat} {w w1 w2 : World} (h : Noted S T b N w w1 S1 T1) (k : Noted S1 T1 b M w1 w2 S2 T2) : Noted S T b M w w2 S2 T2 := by
  obtain ⟨g1, g2, k1, b1⟩ := h
  obtain ⟨g3, g4, k2, b2⟩ := k
  have s1 := k1.size
  have s2 := k2.size
  refine ⟨fun q hq => ?_, fun q hq => ?_, k1.trans' k2 fun q hq h1 => ?_, b2⟩
  · rcases g3 q hq with h | h
    · rcases g1 q h with h0 | h0
      · exact .inl h0
      · exact .inr ⟨h0.1, by omega⟩
    · exact .inr ⟨by omega, h.2⟩
  · rcases g4 q hq with h | h
    · rcases g2 q h with h0 | h0
      · exact .inl h0
      · exact .inr ⟨h0.1, by omega⟩
    · exact .inr ⟨by omega, h.2⟩
  · rcases g1 q h1 with h0 | h0
    · exact h0
    · omega

theorem Noted.pre {S T S1 T1 : Nat → Prop} {b N : Nat} {w w1 w2 : World} (f : Fresh w w1) (h : Noted S T b N w1 w2 S1 T1) : Noted S T b N w w2 S1 T1 := by
  obtain ⟨g1, g2, k, hb⟩ := h
  have := f.size
  exact ⟨fun q hq => (g1 q hq).imp id fun h => ⟨by omega, h.2⟩, fun q hq => (g2 q hq).imp id fun h => ⟨by omega, h.2⟩, Keeps.trans' (S := S) (f.mono fun _ _ h => h.elim) k (fun _ _ h => h), hb⟩
theorem Noted.aside {S T S1 T1 K : Nat → Prop} {b N : Nat} {w w1 w2 : World} (h : Noted S T b N w w1 S1 T1) (k : Keeps K w1 w2) (hK : ∀ q, K q → w.heap.size ≤ q ∧ ¬ S1 q ∧ ¬ T1 q) : Noted S T b N w w2 S1 T1 := by
  obtain ⟨g1, g2, k1, hb⟩ := h
  have := k.size
  exact ⟨fun q hq => (g1 q hq).imp id fun h => ⟨h.1, by omega⟩, fun q hq => (g2 q hq).imp id fun h => ⟨h.1, by omega⟩, k1.trans' k (fun q hq h1 => by have := (hK q h1).1; omega), hb.keeps k (fun q hq => (hK q hq).2.1) (fun q hq => (hK q hq).2.2)⟩
/-- a block that is neither the Book's nor marked stays so -/
theorem Noted.off {S T S1 T1 : Nat → Prop} {b N : Nat} {w w1 : World} (h : Noted S T b N w w1 S1 T1) {q : Nat} (h1 : ¬ S q) (h2 : ¬ T q) (hq : q < w.heap.size) : ¬ S1 q ∧ ¬ T1 q :=
  ⟨fun h3 => (h.1 q h3).elim h1 fun h4 => by omega, fun h3 => (h.2.1 q h3).elim h2 fun h4 => by omega⟩

/-- the requests that were lent so far, in a row -/
structure LendSt (S0 T0 : Nat → Prop) (W0 : World) (b M : Nat) (A : List Req) (cs : List Value) (blA : List Nat) (vl : Value) (S1 T1 : Nat → Prop) (W : World) : Prop where
  noted : Noted S0 T0 b M W0 W S1 T1
  row : W.ownsRow 0 26 7 vl A.length cs
  elems : ElemsOwn W A cs blA
  nd : (vl.ownBlock.toList ++ blA).Nodup
  new : ∀ q ∈ vl.ownBlock.toList ++ blA, W0.heap.size ≤ q ∧ ¬ S1 q
  vlT : ∀ q, vl.ownBlock = some q → ¬ T1 q
theorem LendSt.start {S0 T0 : Nat → Prop} {W0 : World} {b M : Nat} (h : Book S0 T0 W0 b M) : LendSt S0 T0 W0 b M [] [] [] (.slice none 0 0) S0 T0 W0 :=
  ⟨⟨fun _ h => .inl h, fun _ h => .inl h, Keeps.refl _ _, h⟩, World.ownsRow_nil _ _ _ _, by rw [ElemsOwn]; exact ⟨rfl, rfl⟩, by simp [Value.ownBlock], fun q hq => by simp [Value.ownBlock] at hq, fun q hq => by cases hq⟩
theorem LendSt.there {S0 T0 S1 T1 : Nat → Prop} {W0 W : World} {b M : Nat} {A : List Req} {cs : List Value} {blA : List Nat} {vl : Value} (h : LendSt S0 T0 W0 b M A cs blA vl S1 T1 W) : ∀ q ∈ vl.ownBlock.toList ++ blA, q < W.heap.size := fun q hq => by
  rcases List.mem_append.1 hq with hq | hq
  · exact (h.row.lt q (mem_ownBlock.1 hq)).2
  · exact ElemsOwn.there _ _ _ h.elems q hq
theorem LendSt.step {S0 T0 S1 T1 S2 T2 : Nat → Prop} {W0 W W1 W2 : World} {b M M' : Nat} {A : List Req} {cs : List Value} {blA b1 : List Nat} {vl v' : Value} {x : Req} {c0 c1 c2 c3 c4 c5 c6 : Value} (h : LendSt S0 T0 W0 b M A cs blA vl S1 T1 W) (hN : Noted S1 T1 b M' W W1 S2 T2)
    (hx : ReqOwn W1 x (.agg #[c0, c1, c2, c3, c4, c5, c6]) b1) (hn : b1.Nodup) (hnew : ∀ q ∈ b1, W.heap.size ≤ q ∧ ¬ S2 q) (ha : Appended 26 7 W1 W2 vl v' (A.length + 1) (cs ++ [c0, c1, c2, c3, c4, c5, c6])) :
    LendSt S0 T0 W0 b M' (A ++ [x]) (cs ++ [c0, c1, c2, c3, c4, c5, c6]) (blA ++ b1) v' S2 T2 W2 := by
  have hth := h.there
  have hT := h.noted.trans hN
  obtain ⟨hg, hgT, hk, hb⟩ := hN
  have hS2 : ∀ q ∈ vl.ownBlock.toList ++ blA, ¬ S2 q := fun q hq h2 => by
    rcases hg q h2 with h3 | h3
    · exact (h.new q hq).2 h3
    · have := hth q hq; omega
  have hvl : ∀ q, vl.ownBlock = some q → ¬ S2 q := fun q hq => hS2 q (by simp [mem_ownBlock.2 hq])
  have hvlT : ∀ q, vl.ownBlock = some q → ¬ T2 q := fun q hq h2 => by
    rcases hgT q h2 with h3 | h3
    · exact h.vlT q hq h3
    · have := hth q (by simp [mem_ownBlock.2 hq]); omega
  have hna : ∀ q ∈ blA, ¬ vl.ownBlock = some q := fun q hq he => (List.nodup_append.1 h.nd).2.2 q (mem_ownBlock.2 he) q hq rfl
  have hnb : ∀ q ∈ b1, ¬ vl.ownBlock = some q := fun q hq he => by
    have := hth q (by simp [mem_ownBlock.2 he])
    have := (hnew q hq).1
    omega
  have hsz := h.noted.2.2.1.size
  have hk2 : Keeps (fun q => vl.ownBlock = some q) W1 W2 := ha.keeps
  have hel1 : ElemsOwn W1 A cs blA := ElemsOwn.keeps hk _ _ _ h.elems (fun q hq h1 => (h.new q (by simp [hq])).2 h1)
  have hel := ElemsOwn.keeps hk2 _ _ _ hel1 hna
  have hx2 := ReqOwn.keeps hk2 _ _ _ hx hnb
  have hlive := hb.live
  have hs1 := hk.size
  refine ⟨⟨fun q hq => ?_, fun q hq => ?_, ?_, hb.keeps hk2 hvl hvlT⟩, ?_, ElemsOwn.snoc hel hx2, ?_, ?_, ?_⟩
  · rcases hT.1 q hq with h1 | h1
    · exact .inl h1
    · exact .inr ⟨h1.1, Nat.lt_of_lt_of_le h1.2 hk2.size⟩
  · rcases hT.2.1 q hq with h1 | h1
    · exact .inl h1
    · exact .inr ⟨h1.1, Nat.lt_of_lt_of_le h1.2 hk2.size⟩
  · refine hT.2.2.1.trans' hk2 fun q hq h1 => ?_
    have := (h.new q (by simp [mem_ownBlock.2 h1])).1
    omega
  · rw [List.length_append]
    exact ha.row
  · rw [List.nodup_append]
    refine ⟨by cases v'.ownBlock <;> simp, List.nodup_append.2 ⟨(List.nodup_append.1 h.nd).2.1, hn, fun q hq r hr e => ?_⟩, fun q hq r hr e => ?_⟩
    · subst e
      have := hth q (by simp [hq])
      have := (hnew q hr).1
      omega
    · subst e
      have hq := mem_ownBlock.1 hq
      rcases List.mem_append.1 hr with hr | hr
      · rcases ha.own q hq with h1 | h1
        · exact hna q hr h1
        · have := hth q (by simp [hr]); omega
      · rcases ha.own q hq with h1 | h1
        · exact hnb q hr h1
        · have := ReqOwn.there _ _ _ hx q hr; omega
  · intro q hq
    rcases List.mem_append.1 hq with hq | hq
    · rcases ha.own q (mem_ownBlock.1 hq) with h1 | h1
      · exact ⟨(h.new q (by simp [mem_ownBlock.2 h1])).1, hvl q h1⟩
      · exact ⟨by omega, fun h2 => by have := hlive.1 q h2; omega⟩
    · rcases List.mem_append.1 hq with hq | hq
      · exact ⟨(h.new q (by simp [hq])).1, hS2 q (by simp [hq])⟩
      · exact ⟨by have := (hnew q hq).1; omega, (hnew q hq).2⟩
  · intro q hq h2
    rcases ha.own q hq with h1 | h1
    · exact hvlT q h1 h2
    · have := hlive.2 q h2; omega
/-- the marked request is appended -/
theorem mark_facts {w1 w2 : World} {e : TypeId} {size n : Nat} {v1 v2 : Value} {xs us : List Value} (ha : Appended e size w1 w2 v1 v2 (n + 1) (xs ++ us)) (hxs : xs.length = n * size) :
    ∃ g cap, v2 = .slice (some ⟨g, 0, none⟩) (n + 1) cap ∧ (v1.ownBlock = some g ∨ w1.heap.size ≤ g) ∧ g < w2.heap.size ∧ n ≤ cap ∧ w2.ownsRow 0 e size (.slice (some ⟨g, 0, none⟩) n cap) n xs ∧ ∀ k y, us[k]? = some y → w2.cell? ⟨g, n * size + k, none⟩ = some y := by
  have hrow := ha.row
  obtain ⟨hl, ⟨-, h0⟩ | ⟨g, cap, cur, rfl, -, hg, h1, h2, h3, h4⟩⟩ := id hrow
  · omega
  · have hfi := ownsRow_first hrow (m := n) (by omega)
    rw [← hxs, List.take_left'] at hfi
    · refine ⟨g, cap, rfl, (ha.own g rfl).imp id fun h => h.1, lt_of_block hg, by omega, hfi, fun k y hk => ?_⟩
      rw [cell_at hg]
      have h5 : (xs ++ us)[n * size + k]? = some y := by rw [← hxs, List.getElem?_append_right (by omega), Nat.add_sub_cancel_left]; exact hk
      rw [← h4, List.getElem?_take] at h5
      split at h5
      · simpa using h5
      · cases h5
    · rfl

theorem ReqOwn.of {w : World} {R : Req} {lv ev av : Value} {cs : List Value} {b1 : List Nat} (h1 : w.ownsRow 0 3 1 lv R.list.length (ints R.list)) (h2 : w.ownsRow 0 9 1 ev R.entries.length (texts R.entries)) (h3 : w.ownsRow 0 26 7 av R.asks.length cs) (h4 : ElemsOwn w R.asks cs b1) :
    ReqOwn w R (.agg #[.int .i64 R.kind, .int .i64 R.a, .int .i64 R.b, .int .i64 R.size, lv, ev, av]) (lv.ownBlock.toList ++ (ev.ownBlock.toList ++ (av.ownBlock.toList ++ b1))) := by
  cases R
  rw [ReqOwn]
  exact ⟨lv, ev, av, cs, b1, rfl, h1, h2, h3, h4, rfl⟩

set_option maxRecDepth 100000 in
set_option maxHeartbeats 8000000 in
theorem lend_any (n : Nat) : ∀ (R : Req), SizeOf.sizeOf R ≤ n → Tiny R → ∀ (S T B : Nat → Prop) (b N : Nat) (v : Value) (w : World), Book S T w b N → ReqAt B w R v → (∀ q, S q → ¬ B q) → (∀ q, B q → q < w.heap.size) → N + cnt R ≤ 4294967296 →
    Calls Tryz.prog 8 #[.pointer (some ⟨b, 0, none⟩), v] w fun e w' => Lent S T b N w R e w' := by
  induction n with
  | zero =>
    intro R hR
    exfalso
    cases R
    simp at hR
  | succ n ih =>
    intro R hR hti S T B b N v w hb hv hSB hB hN
    obtain ⟨lv, ev, ao, cap, rfl, ⟨hl1, hll⟩, ⟨he1, hel⟩, hreqs, hal⟩ := hv.parts
    have HL := hid (And.intro hl1 hll)
    have HE := hid (And.intro he1 hel)
    have HQ := hid hreqs
    obtain ⟨al, cl, rfl, -⟩ := hl1.ints_
    obtain ⟨ae, ce, rfl, -⟩ := he1.texts
    obtain ⟨t1, t2, t3, t4⟩ := hti.parts
    have hcn := cnt_eq R
    have hmem : ∀ x ∈ R.asks, SizeOf.sizeOf x ≤ n := fun x hx => by have := Req.lt_of_mem (R := R) hx; omega
    have HMEM := hid hmem
    have HT4 := hid t4
    obtain ⟨zb, hzb⟩ : ∃ z : Array Value, #[Value.int .i64 0, .int .i64 0, .int .i64 0, .int .i64 0, .slice none 0 0, .slice none 0 0, .slice none 0 0] = z := ⟨_, rfl⟩
    have fA : Fresh w ((w.alloc (.cells #[.int .i64 R.kind, .int .i64 R.a, .int .i64 R.b, .int .i64 R.size, .slice al R.list.length cl, .slice ae R.entries.length ce, .slice ao R.asks.length cap] 26)).alloc (.cells zb 26)) := ((Keeps.refl _ _).alloc _).alloc _
    have hboxA : ((w.alloc (.cells #[.int .i64 R.kind, .int .i64 R.a, .int .i64 R.b, .int .i64 R.size, .slice al R.list.length cl, .slice ae R.entries.length ce, .slice ao R.asks.length cap] 26)).alloc (.cells zb 26)).heap[w.heap.size]? = some (.cells #[.int .i64 R.kind, .int .i64 R.a, .int .i64 R.b, .int .i64 R.size, .slice al R.list.length cl, .slice ae R.entries.length ce, .slice ao R.asks.length cap] 26 (0, 0)) := by
      rw [Below.heap_alloc _ _ _ (by simp)]
      exact heap_alloc_new w _
    have hboxB : ((w.alloc (.cells #[.int .i64 R.kind, .int .i64 R.a, .int .i64 R.b, .int .i64 R.size, .slice al R.list.length cl, .slice ae R.entries.length ce, .slice ao R.asks.length cap] 26)).alloc (.cells zb 26)).heap[w.heap.size + 1]? = some (.cells zb 26 (0, 0)) := by
      have := heap_alloc_new (w.alloc (.cells #[.int .i64 R.kind, .int .i64 R.a, .int .i64 R.b, .int .i64 R.size, .slice al R.list.length cl, .slice ae R.entries.length ce, .slice ao R.asks.length cap] 26)) (.cells zb 26)
      simpa only [World.size_alloc] using this
    have hszA : ((w.alloc (.cells #[.int .i64 R.kind, .int .i64 R.a, .int .i64 R.b, .int .i64 R.size, .slice al R.list.length cl, .slice ae R.entries.length ce, .slice ao R.asks.length cap] 26)).alloc (.cells zb 26)).heap.size = w.heap.size + 2 := by simp
    obtain ⟨wA, hwA⟩ : ∃ W, (w.alloc (.cells #[.int .i64 R.kind, .int .i64 R.a, .int .i64 R.b, .int .i64 R.size, .slice al R.list.length cl, .slice ae R.entries.length ce, .slice ao R.asks.length cap] 26)).alloc (.cells zb 26) = W := ⟨_, rfl⟩
    obtain ⟨bx, hbx⟩ : ∃ g, w.heap.size = g := ⟨_, rfl⟩
    rw [hwA] at fA hboxA hboxB hszA
    rw [hbx] at hboxA hboxB hszA
    have hbA := hb.fresh fA
    have HBA := hid hbA
    have HBB := hid hboxB
    have hS0 : ∀ q, S q → q < bx := fun q hq => by have := hb.live.1 q hq; omega
    have hTb : ∀ q, T q → q < bx := fun q hq => by have := hb.live.2 q hq; omega
    have HTB := hid hTb
    have x4 := cell_at hboxA 4
    simp at x4
    have HBX := hid hboxA
    have HS0 := hid hS0
    clear hl1 he1 hll hel hv hreqs hmem t4 hbA hb hboxA hboxB hS0 hTb
    go_enter Tryz.func8, Tryz.ntmps8
    go_wp2_with fail
    have HZB := hid hzb
    clear hzb hwA
    refine (lendInts_any S T b N _ R.list wA HBA.out (HL.out.1.keeps fA (fun _ _ h => h)) (by omega) (by omega)).mono ?_
    rintro e w1 ⟨g1, cp1, rfl, hg1, hr1, S1, T1, hn1, hng1⟩
    have hbs : ¬ S bx ∧ ¬ T bx := ⟨fun h => by have := HS0.out bx h; omega, fun h => by have := HTB.out bx h; omega⟩
    have hbs1 := hn1.off hbs.1 hbs.2 (by omega)
    have hbX1 := hn1.2.2.1.at_ HBX.out hbs.1
    have f4 := free_at hbX1 4
    have c4 := cell_at hbX1 4
    simp at c4
    have hbX2 := heap_setCell_at hbX1 4 (.slice (some ⟨g1, 0, none⟩) R.list.length cp1)
    simp at hbX2
    have HX2 := hid hbX2
    have kx := Keeps.setCell (S := fun q => q = bx) (p := ⟨bx, 4, none⟩) (Keeps.refl _ w1) (fun _ => rfl) (.slice (some ⟨g1, 0, none⟩) R.list.length cp1)
    have hN1 := (hn1.pre fA).aside kx (fun q hq => by subst hq; exact ⟨by omega, hbs1⟩)
    have HN1 := hid hN1
    have hcs : ¬ S (bx + 1) ∧ ¬ T (bx + 1) := ⟨fun h => by have := HS0.out _ h; omega, fun h => by have := HTB.out _ h; omega⟩
    have hcs1 := hn1.off hcs.1 hcs.2 (by omega)
    have HY2 := hid (kx.at_ (hn1.2.2.1.at_ HBB.out hcs.1) (show ¬ bx + 1 = bx by omega))
    have HR1 := hid (ownsRow_keeps hr1 kx (fun g hg e => by simp [Value.ownBlock] at hg; omega))
    have hsz1 := hn1.2.2.1.size
    have hg1w := (hr1.lt g1 rfl).2
    clear hbX2 hN1 kx x4 hn1 hr1 hbX1
    go_upto_region 2 with fail
    obtain ⟨w2, hw2⟩ : ∃ W, w1.setCell ⟨bx, 4, none⟩ (.slice (some ⟨g1, 0, none⟩) R.list.length cp1) = W := ⟨_, rfl⟩
    rw [hw2] at HN1 HR1 HX2 HY2
    rw [hw2]
    have hsz2 : w2.heap.size = w1.heap.size := by rw [← hw2]; simp
    clear f4 c4 hw2
    have x5 := cell_at HX2.out 5
    simp at x5
    have hSB2 : ∀ q, S q → ¬ B q := hSB
    go_wp2_with fail
    refine (lendTexts_any S1 T1 b (N + 1) _ R.entries w2 HN1.out.2.2.2 (HE.out.1.keeps_if HN1.out.2.2.1 (fun g hg hne h => hSB g h (HE.out.2 g hg (by simpa [texts] using hne)))) (by omega) (by omega)).mono ?_
    rintro e w3 ⟨g2, cp2, rfl, hg2, hr2, S2, T2, hn2, hng2⟩
    have hbs2 := hn2.off hbs1.1 hbs1.2 (by omega)
    have hbX3 := hn2.2.2.1.at_ HX2.out hbs1.1
    have f5 := free_at hbX3 5
    have c5 := cell_at hbX3 5
    simp at c5
    have hbX4 := heap_setCell_at hbX3 5 (.slice (some ⟨g2, 0, none⟩) R.entries.length cp2)
    simp at hbX4
    have HX4 := hid hbX4
    have ky := Keeps.setCell (S := fun q => q = bx) (p := ⟨bx, 5, none⟩) (Keeps.refl _ w3) (fun _ => rfl) (.slice (some ⟨g2, 0, none⟩) R.entries.length cp2)
    have hN2 := (HN1.out.trans hn2).aside ky (fun q hq => by subst hq; exact ⟨by omega, hbs2⟩)
    have HN2 := hid hN2
    have HR1b := hid (ownsRow_keeps (ownsRow_keeps HR1.out hn2.2.2.1 (fun g hg e => by simp [Value.ownBlock] at hg; subst hg; exact hng1 e)) ky (fun g hg e => by simp [Value.ownBlock] at hg; omega))
    have HR2 := hid (ownsRow_keeps hr2 ky (fun g hg e => by simp [Value.ownBlock] at hg; omega))
    have hsz3 := hn2.2.2.1.size
    have hg2w := (hr2.lt g2 rfl).2
    have hng12 : ¬ S2 g1 := fun h => (hn2.1 g1 h).elim hng1 fun q => by omega
    have hcs2 := hn2.off hcs1.1 hcs1.2 (by omega)
    have HY4 := hid (ky.at_ (hn2.2.2.1.at_ HY2.out hcs1.1) (show ¬ bx + 1 = bx by omega))
    clear hbX4 hN2 ky x5 hn2 hr2 hbX3
    go_upto_region 3 with fail
    obtain ⟨w4, hw4⟩ : ∃ W, w3.setCell ⟨bx, 5, none⟩ (.slice (some ⟨g2, 0, none⟩) R.entries.length cp2) = W := ⟨_, rfl⟩
    rw [hw4] at HN2 HR1b HR2 HX4 HY4
    rw [hw4]
    have hsz4 : w4.heap.size = w3.heap.size := by rw [← hw4]; simp
    clear f5 c5 hw4 HY2 HX2 HN1 HR1 HBA HBB HBX
    obtain ⟨i0, hi, h0i⟩ := Option.map_eq_some_iff.1 Tryz.infoReq
    simp only [Prod.mk.injEq] at h0i
    obtain ⟨hz0, hz1, hz2⟩ := h0i
    have HI := hid (And.intro hi (And.intro hz0 (And.intro hz1 hz2)))
    clear hi hz0 hz1 hz2
    have hM : N + 2 + cntAll R.asks ≤ 4294967295 := by omega
    have x6 := cell_at HX4.out 6
    simp at x6
    go_wp2_with fail
    go_loopw [5, 6] (fun vl i wr => ∃ (m : Nat) (cs : List Value) (blA : List Nat) (S3 T3 : Nat → Prop), i = .int .i64 (m : Int) ∧ m ≤ R.asks.length ∧ LendSt S2 T2 w4 b (N + 2 + cntAll (R.asks.take m)) (R.asks.take m) cs blA vl S3 T3 wr) (fun _ i _ => R.asks.length - (intOf i).toNat)
    case atStart => exact ⟨0, [], [], S2, T2, rfl, by omega, by simpa [cntAll] using LendSt.start HN2.out.2.2.2⟩
    case round =>
      obtain ⟨m, cs, blA, S3, T3, rfl, hm, st⟩ := hrel
      obtain ⟨A, hA⟩ : ∃ A, R.asks.take m = A := ⟨_, rfl⟩
      have hal2 : Hid (A.length = m) := by show _ = _; rw [← hA, List.length_take]; omega
      have hac : cntAll A ≤ cntAll R.asks := by rw [← hA]; exact cntAll_take R.asks m
      have HAe := hid hA
      rw [hA] at st
      clear hA
      have hbX := st.noted.2.2.1.at_ HX4.out hbs2.1
      have HX := hid hbX
      clear x6
      have x6 := cell_at hbX 6
      simp at x6
      have hNw := HN2.out.trans st.noted
      have HNW := hid hNw
      have ST := hid st
      by_cases hlt : m < R.asks.length
      · obtain ⟨u, hu⟩ : ∃ u, R.asks[m]? = some u := ⟨R.asks[m], by simp⟩
        have hr1 := (ReqsAt.keeps hNw.2.2.1 (fun q h hb => hSB q h hb) _ _ _ HQ.out).get hu
        obtain ⟨bq, off, c0, c1, c2, c3, c4, c5, c6, rfl, -, hbq, y0, y1, y2, y3, y4, y5, y6, hxa⟩ := hr1
        rw [Nat.zero_add] at y0 y1 y2 y3 y4 y5 y6
        have HXA := hid hxa
        obtain ⟨lx, ex, ax, capx, hee, ⟨hl1, -⟩, ⟨hl2, -⟩, -⟩ := hxa.parts
        obtain ⟨alx, clx, rfl, -⟩ := hl1.ints_
        obtain ⟨aex, cex, rfl, -⟩ := hl2.texts
        clear hl1 hl2 hxa
        simp only [Value.agg.injEq, Array.mk.injEq, List.cons.injEq, and_true] at hee
        obtain ⟨rfl, rfl, rfl, rfl, rfl, rfl, rfl⟩ := hee
        have hsn := cntAll_snoc R.asks hu
        rw [HAe.out] at hsn
        have htk := cntAll_take R.asks (m + 1)
        have hcall := ih u (HMEM.out u (List.mem_of_getElem? hu)) (HT4.out u (List.mem_of_getElem? hu)) S3 T3 B b (N + 2 + cntAll A) _ wr st.noted.2.2.2 HXA.out (fun q h hb => (hNw.1 q h).elim (fun h => hSB q h hb) fun h => by have := hB q hb; omega) (fun q hq => Nat.lt_of_lt_of_le (hB q hq) hNw.2.2.1.size) (by omega)
        have HC := hid hcall
        have htake : R.asks.take (m + 1) = A ++ [u] := by rw [List.take_add_one, hu, HAe.out]; rfl
        have HTK := hid htake
        have hm0 : (0 : Int) ≤ (m : Int) := by omega
        have hm1 : (m : Int) < (R.asks.length : Int) := by omega
        clear hcall hu htake hbX hNw htk st
        go_wp2_with fail
        refine HC.out.mono ?_
        rintro e w5 ⟨vu, bu, S4, T4, rfl, hou, hnd, hnew, hNt⟩
        obtain ⟨al5, cl5, ae5, ce5, aq5, cq5, rfl⟩ := hou.shape
        have hrow5 := ownsRow_keeps ST.out.row hNt.2.2.1 (fun g hg e => (ST.out.new g (by simp [mem_ownBlock.2 hg])).2 e)
        obtain ⟨so, scap, rfl⟩ := ownsRow_slice ST.out.row
        have HOU := hid hou
        have HNT := hid hNt
        have HNEW := hid hnew
        have HR5 := hid hrow5
        have hbnd : (A.length + 1) * 104 ≤ 140737488355328 := by have := hal2.out; omega
        have hbnd2 : A.length + 1 ≤ maxLen := by have := hal2.out; unfold maxLen; omega
        clear hou hNt hnew hrow5 x6 y0 y1 y2 y3 y4 y5 y6 HC
        go_wp2_with (at_builtin; (refine wpList_pushN rfl (.tmp 24) (.tmp 32) 24 rfl 26 i0 _ 7 104 Tryz.underlying24 HI.out.1 HI.out.2.1 HI.out.2.2.1 HI.out.2.2.2 rfl (by omega) w5 HR5.out _ (by rfl) (by rfl) (by rfl) (by simp [Value.oneCell']) hbnd hbnd2 ?_))
        intro v6 w6 ha
        have st' := LendSt.step ST.out HNT.out HOU.out hnd HNEW.out ha
        rw [← HTK.out] at st'
        have ST' := hid st'
        clear ha st' hnd
        go_wp2_with fail
        go_roundw
        case rel => exact ⟨m + 1, _, _, S4, T4, by go_num, by omega, by rw [hsn, ← Nat.add_assoc]; exact ST'.out⟩
        case measure => simp [intOf]; omega
      · obtain rfl : m = R.asks.length := by omega
        obtain rfl : R.asks = A := by have := HAe.out; rwa [List.take_length] at this
        have hsl := ownsRow_slice st.row
        obtain ⟨so, scap, rfl⟩ := hsl
        have hlow : ∀ q, (Value.slice so R.asks.length scap).ownBlock = some q → w4.heap.size ≤ q ∧ ¬ S3 q ∧ ¬ T3 q ∧ q < wr.heap.size := fun q hq => ⟨(st.new q (by simp [mem_ownBlock.2 hq])).1, (st.new q (by simp [mem_ownBlock.2 hq])).2, st.vlT q hq, (st.row.lt q hq).2⟩
        have HLOW := hid hlow
        have hbnd : (R.asks.length + 1) * 104 ≤ 140737488355328 := by omega
        have hbnd2 : R.asks.length + 1 ≤ maxLen := by unfold maxLen; omega
        clear hbX hNw st hlow
        go_wp2_with (at_builtin; refine wpList_pushN rfl (.tmp 34) (.tmp 36) 24 rfl 26 i0 _ 7 104 Tryz.underlying24 HI.out.1 HI.out.2.1 HI.out.2.2.1 HI.out.2.2.2 rfl (by omega) wr ST.out.row _ (by rfl) (by rfl) (by rfl) (by simp [Value.oneCell']) hbnd hbnd2 ?_)
        intro v6 w6 ha
        obtain ⟨g3, cp3, rfl, hg3, hg3w, hcp3, hrow3, hmk⟩ := mark_facts ha ST.out.elems.length
        have hmk0 := hmk 0 _ rfl
        have hlv := ST.out.noted.2.2.2.live
        have hg3a : ¬ S3 g3 ∧ ¬ T3 g3 ∧ w4.heap.size ≤ g3 := by
          rcases hg3 with h | h
          · obtain ⟨q1, q2, q3, -⟩ := HLOW.out g3 h
            exact ⟨q2, q3, q1⟩
          · exact ⟨fun q => by have := hlv.1 g3 q; omega, fun q => by have := hlv.2 g3 q; omega, by have := ST.out.noted.2.2.1.size; omega⟩
        have kap : Keeps (fun q => (Value.slice so R.asks.length scap).ownBlock = some q) wr w6 := ha.keeps
        have hsz46 := ST.out.noted.2.2.1.size
        have hsz6 := kap.size
        obtain ⟨V, X, hbv, hX⟩ := ST.out.noted.2.2.2.keeps kap (fun q hq => (HLOW.out q hq).2.1) (fun q hq => (HLOW.out q hq).2.2.1)
        have hM : Marked S3 (fun q => T3 q ∨ q = g3) w6 2 (.slice (some ⟨g3, 0, none⟩) (R.asks.length + 1) cp3) := ⟨g3, R.asks.length, cp3, rfl, hg3a.1, .inr rfl, by omega, hg3w, hmk0⟩
        obtain ⟨i1, hi', hz0', hz1', hz2'⟩ := info_parts (Tryz.infoSliceB 2)
        have HI' := hid (And.intro hi' (And.intro hz0' (And.intro hz1' hz2')))
        clear hi' hz0' hz1' hz2'
        have hX2 := hX 2
        have hrow2 := hbv.row 2
        obtain ⟨oo, oc, hV2⟩ := ownsRow_slice hrow2
        rw [hV2] at hrow2
        have c2 := cell_at hbv.at_ 2
        simp at c2
        rw [hV2] at c2
        have hbX6 := kap.at_ HX.out (fun e => by have := (HLOW.out bx e).1; omega)
        have hbY6 := kap.at_ (ST.out.noted.2.2.1.at_ HY4.out hcs2.1) (fun e => by have := (HLOW.out _ e).1; omega)
        have hR1 := ownsRow_keeps (ownsRow_keeps HR1b.out ST.out.noted.2.2.1 (fun g hg e => by simp [Value.ownBlock] at hg; subst hg; exact hng12 e)) kap (fun g hg e => by simp [Value.ownBlock] at hg; subst hg; have := (HLOW.out _ e).1; omega)
        have hR2 := ownsRow_keeps (ownsRow_keeps HR2.out ST.out.noted.2.2.1 (fun g hg e => by simp [Value.ownBlock] at hg; subst hg; exact hng2 e)) kap (fun g hg e => by simp [Value.ownBlock] at hg; subst hg; have := (HLOW.out _ e).1; omega)
        have hnb : ∀ q ∈ blA, w4.heap.size ≤ q ∧ ¬ S3 q ∧ ¬ (Value.slice so R.asks.length scap).ownBlock = some q := fun q hq => ⟨(ST.out.new q (by simp [hq])).1, (ST.out.new q (by simp [hq])).2, fun he => (List.nodup_append.1 ST.out.nd).2.2 q (mem_ownBlock.2 he) q hq rfl⟩
        have hel := ElemsOwn.keeps kap _ _ _ ST.out.elems (fun q hq => (hnb q hq).2.2)
        have hg3b : ∀ q ∈ blA, q ≠ g3 := fun q hq e => by
          subst e
          rcases hg3 with h | h
          · exact (hnb q hq).2.2 h
          · have := ST.out.there q (by simp [hq]); omega
        have hndA := (List.nodup_append.1 ST.out.nd).2.1
        have HBV := hid hbv
        have HM := hid hM
        have HXX := hid hX
        have HF := hid (And.intro hbX6 (And.intro hbY6 (And.intro hR1 (And.intro hR2 (And.intro hrow3 hel)))))
        clear ha hmk hmk0 hX hbv hM hbX6 hbY6 hR1 hR2 hrow3 hel x6
        go_wp2_with (at_builtin; refine wpList_push rfl (.tmp 42) (.tmp 44) 31 rfl 24 i1 (.slice none 0 0) 24 Tryz.underlying31 HI'.out.1 HI'.out.2.1 HI'.out.2.2.1 HI'.out.2.2.2 rfl w6 hrow2 _ (by rfl) (by rfl) rfl (by omega) (by unfold maxLen; omega) ?_)
        intro v7 w7 ha7
        rw [← hV2] at ha7
        obtain ⟨S5, hgr5, k5, hb5⟩ := BookV.push HBV.out 2 ha7 HM.out (fun _ h => .inl h) (fun q hq => hq.elim (HBV.out.liveT q) fun e => e ▸ hg3w)
        have hb7 := ha7.keeps.at_ HBV.out.at_ (fun q => (HBV.out.own 2 b q).2 rfl)
        have d2 := cell_at hb7 2
        simp at d2
        have f2 := free_at hb7 2
        have HB5 := hid (And.intro hgr5 (And.intro k5 hb5))
        obtain ⟨ao7, cp7, rfl⟩ : ∃ ao cp, v7 = .slice ao ((X 2).length + 1) cp := by
          have := hb5.row 2
          simp [upd] at this
          exact ownsRow_slice this
        clear ha7 hgr5 k5 hb5 hb7 c2 hrow2
        go_upto_region 10 with fail
        obtain ⟨hgr5, k5, hb5⟩ := HB5.out
        have e2 : ((2 : Fin 4).val) = 2 := rfl
        rw [e2] at hgr5 k5 hb5
        obtain ⟨w8, hw8⟩ : ∃ W, w7.setCell ⟨b, 2, none⟩ (.slice ao7 ((X 2).length + 1) cp7) = W := ⟨_, rfl⟩
        rw [hw8] at hgr5 k5 hb5 ⊢
        obtain ⟨hbX6, hbY6, hR1, hR2, hrow3, hel⟩ := HF.out
        have hbs3 := ST.out.noted.off hbs2.1 hbs2.2 (by omega)
        have hcs3 := ST.out.noted.off hcs2.1 hcs2.2 (by omega)
        have hbX8 := k5.at_ hbX6 hbs3.1
        have hbY8 := k5.at_ hbY6 hcs3.1
        have HB8 := hid (And.intro hgr5 (And.intro k5 hb5))
        have x6 := cell_at hbX8 6
        simp at x6
        have f6 := free_at hbX8 6
        have hbX9 := heap_setCell_at hbX8 6 (.slice (some ⟨g3, 0, none⟩) R.asks.length cp3)
        simp at hbX9
        have k9 := Keeps.setCell (S := fun q => q = bx) (p := ⟨bx, 6, none⟩) (Keeps.refl _ w8) (fun _ => rfl) (.slice (some ⟨g3, 0, none⟩) R.asks.length cp3)
        have hbY9 := k9.at_ hbY8 (show ¬ bx + 1 = bx by omega)
        have HK9 := hid (And.intro k9 (And.intro hbX9 hbY9))
        clear hgr5 k5 hb5 hbX6 hbY6 hR1 hR2 hrow3 hel hbX8 hbY8 k9 hbX9 hbY9 d2 f2 hw8
        go_upto_region 11 with fail
        obtain ⟨k9, hbX9, hbY9⟩ := HK9.out
        obtain ⟨w9, hw9⟩ : ∃ W, w8.setCell ⟨bx, 6, none⟩ (.slice (some ⟨g3, 0, none⟩) R.asks.length cp3) = W := ⟨_, rfl⟩
        rw [hw9] at k9 hbX9 hbY9
        rw [hw9]
        rw [← HZB.out] at hbY9
        have HK := hid (And.intro k9 hbY9)
        have y0 := cell_at hbX9 0
        have y1 := cell_at hbX9 1
        have y2 := cell_at hbX9 2
        have y3 := cell_at hbX9 3
        have y4 := cell_at hbX9 4
        have y5 := cell_at hbX9 5
        have y6 := cell_at hbX9 6
        have z0 := free_at hbY9 0
        have z1 := free_at hbY9 1
        have z2 := free_at hbY9 2
        have z3 := free_at hbY9 3
        have z4 := free_at hbY9 4
        have z5 := free_at hbY9 5
        have z6 := free_at hbY9 6
        have v0 := cell_at hbY9 0
        have v1 := cell_at hbY9 1
        have v2 := cell_at hbY9 2
        have v3 := cell_at hbY9 3
        have v4 := cell_at hbY9 4
        have v5 := cell_at hbY9 5
        have v6 := cell_at hbY9 6
        simp at y0 y1 y2 y3 y4 y5 y6 v0 v1 v2 v3 v4 v5 v6
        clear x6 f6 hw9 k9 hbX9 hbY9
        go_wp2_with fail
        obtain ⟨k9, hbY9⟩ := HK.out
        refine bodyPost_ret (results_cell_row rfl _ _ (bx + 1) 26 _ (0, 0) _ rfl (by exact (heap_setCell_at (heap_setCell_at (heap_setCell_at (heap_setCell_at (heap_setCell_at (heap_setCell_at (heap_setCell_at hbY9 0 _) 1 _) 2 _) 3 _) 4 _) 5 _) 6 _)) Tryz.underlying26 rfl (by kernel_rfl)) rfl ?_
        have key : ∀ W, Keeps (fun q => q = bx + 1) w9 W → Lent S T b N w R (.returned (.agg #[.int .i64 R.kind, .int .i64 R.a, .int .i64 R.b, .int .i64 R.size, .slice (some ⟨g1, 0, none⟩) R.list.length cp1, .slice (some ⟨g2, 0, none⟩) R.entries.length cp2, .slice (some ⟨g3, 0, none⟩) R.asks.length cp3])) W := by
          intro wF kF
          have k8F : Keeps (fun q => q = bx ∨ q = bx + 1) w8 wF := (k9.mono fun q _ h => .inl h).trans (kF.mono fun q _ h => .inr h)
          obtain ⟨hgr5, k5, hb5⟩ := HB8.out
          obtain ⟨-, -, hR1, hR2, hrow3, hel⟩ := HF.out
          have hs8 := k5.size
          have hsF := k8F.size
          have hg13 : ¬ S3 g1 := fun h => (ST.out.noted.1 g1 h).elim hng12 fun q => by omega
          have hg23 : ¬ S3 g2 := fun h => (ST.out.noted.1 g2 h).elim hng2 fun q => by omega
          have hE1 := ownsRow_keeps (ownsRow_keeps hR1 k5 (fun g hg e => by simp [Value.ownBlock] at hg; subst hg; exact hg13 e)) k8F (fun g hg e => by simp [Value.ownBlock] at hg; omega)
          have hE2 := ownsRow_keeps (ownsRow_keeps hR2 k5 (fun g hg e => by simp [Value.ownBlock] at hg; subst hg; exact hg23 e)) k8F (fun g hg e => by simp [Value.ownBlock] at hg; omega)
          have hE3 := ownsRow_keeps (ownsRow_keeps hrow3 k5 (fun g hg e => by simp [Value.ownBlock] at hg; subst hg; exact hg3a.1 e)) k8F (fun g hg e => by simp [Value.ownBlock] at hg; omega)
          have hE4 := ElemsOwn.keeps k8F _ _ _ (ElemsOwn.keeps k5 _ _ _ hel (fun q hq => (hnb q hq).2.1)) (fun q hq e => by have := (hnb q hq).1; omega)
          have hS5 : ∀ q, q < w6.heap.size → ¬ S3 q → ¬ S5 q := fun q hq h1 h2 => (hgr5 q h2).elim h1 fun h => by omega
          obtain ⟨n1, n2, n3, -⟩ := HNW.out
          have hn3 := n3.size
          refine ⟨_, _, S5, fun q => T3 q ∨ q = g3, rfl, ReqOwn.of hE1 hE2 hE3 hE4, ?_, ?_, fun q hq => ?_, fun q hq => ?_, ?_, ⟨_, _, hb5.keeps k8F (fun q hq => ?_) (fun q hq => ?_), fun j => ?_⟩⟩
          · show ([g1] ++ ([g2] ++ ([g3] ++ blA))).Nodup
            simp only [List.cons_append, List.nil_append, List.nodup_cons, List.mem_cons, not_or]
            exact ⟨⟨by omega, by omega, fun h => by have := (hnb _ h).1; omega⟩, ⟨by omega, fun h => by have := (hnb _ h).1; omega⟩, fun h => hg3b _ h rfl, hndA⟩
          · intro q hq
            have hq : q ∈ [g1] ++ ([g2] ++ ([g3] ++ blA)) := hq
            simp only [List.cons_append, List.nil_append, List.mem_cons] at hq
            rcases hq with rfl | rfl | rfl | hq
            · exact ⟨by omega, hS5 _ (by omega) hg13⟩
            · exact ⟨by omega, hS5 _ (by omega) hg23⟩
            · exact ⟨by omega, hS5 _ (by omega) hg3a.1⟩
            · have h1 := hnb q hq
              exact ⟨by omega, hS5 _ (by have := ST.out.there q (by simp [hq]); omega) h1.2.1⟩
          · rcases hgr5 q hq with h | h
            · rcases n1 q h with h | h
              · exact .inl h
              · exact .inr ⟨h.1, by omega⟩
            · exact .inr ⟨by omega, by omega⟩
          · rcases hq with h | h
            · rcases n2 q h with h | h
              · exact .inl h
              · exact .inr ⟨h.1, by omega⟩
            · subst h
              exact .inr ⟨by omega, by omega⟩
          · refine ((n3.trans' kap fun q hq h => ?_).trans' k5 fun q hq h => ?_).trans' k8F fun q hq h => ?_
            · have := (HLOW.out q h).1; omega
            · rcases n1 q h with h | h
              · exact h
              · omega
            · omega
          · rcases hq with rfl | rfl
            · exact hS5 _ (by omega) hbs3.1
            · exact hS5 _ (by omega) hcs3.1
          · rcases hq with rfl | rfl
            · exact fun h => h.elim hbs3.2 fun e => by omega
            · exact fun h => h.elim hcs3.2 fun e => by omega
          · have := HXX.out j
            by_cases hj : j = 2
            · subst hj
              simp [upd]
              omega
            · rw [show upd X 2 _ j = X j by simp [upd, hj]]
              omega
        exact key _ (T7 _ _ _ _ _ _ _)
end Go.Proofs.YtpccaodkgboefaaGreatDoor

namespace Go.Proofs.YtpccaodkgboefaaGreatDoor
open Go.RowKit

theorem rowCellsB {w : World} {e : TypeId} {size n cap : Nat} {ao : Option Addr} {xs : List Value} (h : w.ownsRow 0 e size (.slice ao n cap) n xs) (hn : 0 < n) :
    ∃ g, ao = some ⟨g, 0, none⟩ ∧ ∀ k y, xs[k]? = some y → g < w.heap.size ∧ w.cell? ⟨g, k, none⟩ = some y := by
  obtain ⟨hl, ⟨-, h0⟩ | ⟨g, cap', cur, he, -, hg, -, -, -, ht⟩⟩ := h
  · omega
  · injection he with e1
    refine ⟨g, e1, fun k y hk => ⟨lt_of_block hg, ?_⟩⟩
    rw [cell_at hg]
    rw [← ht, List.getElem?_take] at hk
    split at hk
    · simpa using hk
    · cases hk

set_option maxRecDepth 100000 in
set_option maxHeartbeats 8000000 in
theorem marked_any (S T : Nat → Prop) (b N : Nat) (w : World) (h : Book S T w b N) (hN : N ≤ 4294967296) :
    Calls Tryz.prog 12 #[.pointer (some ⟨b, 0, none⟩)] w fun e w' => e = .returned (.bool true) ∧ Fresh w w' := by
  obtain ⟨V, X, hb, hX⟩ := h
  have HB := hid hb
  have hx0 := hX 0
  obtain ⟨o0, p0, hV0⟩ := ownsRow_slice (hb.row 0)
  have hx1 := hX 1
  obtain ⟨o1, p1, hV1⟩ := ownsRow_slice (hb.row 1)
  have hx2 := hX 2
  obtain ⟨o2, p2, hV2⟩ := ownsRow_slice (hb.row 2)
  have hx3 := hX 3
  obtain ⟨o3, p3, hV3⟩ := ownsRow_slice (hb.row 3)
  have hbw := hb.live b hb.sb
  have c0 := cell_at hb.at_ 0
  simp at c0
  rw [hV0] at c0
  clear hb hX
  go_enter Tryz.func12, Tryz.ntmps12
  go_wp2_with fail
  go_loopw [3] (fun i wr => ∃ n : Nat, i = .int .i64 (n : Int) ∧ n ≤ (X 0).length ∧ Fresh w wr) (fun i _ => (X 0).length - (intOf i).toNat)
  case atStart => exact ⟨0, rfl, by omega, Keeps.refl _ _⟩
  case round =>
    obtain ⟨n, rfl, hn, fr⟩ := hrel
    have hb := HB.out.fresh fr
    have c0 := cell_at hb.at_ 0
    simp at c0
    rw [hV0] at c0
    by_cases hlt : n < (X 0).length
    · obtain ⟨x, hx⟩ : ∃ x, (X 0)[n]? = some x := ⟨(X 0)[n], by simp⟩
      obtain ⟨g, m, cap, rfl, -, -, hm, hgw, hcell⟩ := hb.marks 0 x (List.mem_of_getElem? hx)
      have hrow := hb.row 0
      rw [hV0] at hrow
      obtain ⟨gr, ho, hcells⟩ := rowCellsB hrow (by omega)
      rw [ho] at c0
      obtain ⟨-, hcx⟩ := hcells n _ hx
      have hsub : ((m + 1 : Nat) : Int) - 1 = (m : Int) := by omega
      have hn0 : (0 : Int) ≤ (n : Int) := by omega
      have hn1 : (n : Int) < ((X 0).length : Int) := by omega
      have hm0 : (0 : Int) ≤ (m : Int) := by omega
      have hm1 : (m : Int) < ((m + 1 : Nat) : Int) := by omega
      have hcl : wr.cell? ⟨g, m, none⟩ = some (.int .i64 (-77)) := by simpa [bkS, bkO, bkM] using hcell
      have HV := hid hV0
      clear hb hrow hcells hx hcell hV0
      go_wp2_with fail
      go_quiet (fail)
      go_wp2_with fail
      go_roundw
      case rel => exact ⟨n + 1, by go_num, by omega, fr.drewN _⟩
      case measure => simp [intOf]; omega
    · obtain rfl : n = (X 0).length := by omega
      have c1 := cell_at hb.at_ 1
      simp at c1
      rw [hV1] at c1
      clear hb
      go_wp2_with fail
      clear c0 c1
      go_loopw [4] (fun i wr => ∃ n : Nat, i = .int .i64 (n : Int) ∧ n ≤ (X 1).length ∧ Fresh w wr) (fun i _ => (X 1).length - (intOf i).toNat)
      case atStart => exact ⟨0, rfl, by omega, fr⟩
      case round =>
        obtain ⟨n, rfl, hn, fr⟩ := hrel
        have hb := HB.out.fresh fr
        have c1 := cell_at hb.at_ 1
        simp at c1
        rw [hV1] at c1
        by_cases hlt : n < (X 1).length
        · obtain ⟨x, hx⟩ : ∃ x, (X 1)[n]? = some x := ⟨(X 1)[n], by simp⟩
          obtain ⟨g, m, cap, rfl, -, -, hm, hgw, hcell⟩ := hb.marks 1 x (List.mem_of_getElem? hx)
          have hrow := hb.row 1
          rw [hV1] at hrow
          obtain ⟨gr, ho, hcells⟩ := rowCellsB hrow (by omega)
          rw [ho] at c1
          obtain ⟨-, hcx⟩ := hcells n _ hx
          have hsub : ((m + 1 : Nat) : Int) - 1 = (m : Int) := by omega
          have hn0 : (0 : Int) ≤ (n : Int) := by omega
          have hn1 : (n : Int) < ((X 1).length : Int) := by omega
          have hm0 : (0 : Int) ≤ (m : Int) := by omega
          have hm1 : (m : Int) < ((m + 1 : Nat) : Int) := by omega
          have hcl : wr.cell? ⟨g, m, none⟩ = some (.string (str [126])) := by simpa [bkS, bkO, bkM] using hcell
          have HV := hid hV1
          have hq : ((str [126]).toList == [126]) = true := by rw [str_toList]; rfl
          clear hb hrow hcells hx hcell hV1
          go_wp2_with fail
          go_quiet (fail)
          go_wp2_with fail
          go_roundw
          case rel => exact ⟨n + 1, by go_num, by omega, fr.drewN _⟩
          case measure => simp [intOf]; omega
        · obtain rfl : n = (X 1).length := by omega
          have c2 := cell_at hb.at_ 2
          simp at c2
          rw [hV2] at c2
          clear hb
          go_wp2_with fail
          clear c1 c2
          go_loopw [5] (fun i wr => ∃ n : Nat, i = .int .i64 (n : Int) ∧ n ≤ (X 2).length ∧ Fresh w wr) (fun i _ => (X 2).length - (intOf i).toNat)
          case atStart => exact ⟨0, rfl, by omega, fr⟩
          case round =>
            obtain ⟨n, rfl, hn, fr⟩ := hrel
            have hb := HB.out.fresh fr
            have c2 := cell_at hb.at_ 2
            simp at c2
            rw [hV2] at c2
            by_cases hlt : n < (X 2).length
            · obtain ⟨x, hx⟩ : ∃ x, (X 2)[n]? = some x := ⟨(X 2)[n], by simp⟩
              obtain ⟨g, m, cap, rfl, -, -, hm, hgw, hcell⟩ := hb.marks 2 x (List.mem_of_getElem? hx)
              have hrow := hb.row 2
              rw [hV2] at hrow
              obtain ⟨gr, ho, hcells⟩ := rowCellsB hrow (by omega)
              rw [ho] at c2
              obtain ⟨-, hcx⟩ := hcells n _ hx
              have hsub : ((m + 1 : Nat) : Int) - 1 = (m : Int) := by omega
              have hn0 : (0 : Int) ≤ (n : Int) := by omega
              have hn1 : (n : Int) < ((X 2).length : Int) := by omega
              have hm0 : (0 : Int) ≤ (m : Int) := by omega
              have hm1 : (m : Int) < ((m + 1 : Nat) : Int) := by omega
              have hcl : wr.cell? ⟨g, m * 7, none⟩ = some (.int .i64 (-77)) := by simpa [bkS, bkO, bkM] using hcell
              have HV := hid hV2
              clear hb hrow hcells hx hcell hV2
              go_wp2_with fail
              go_quiet (fail)
              go_wp2_with fail
              go_roundw
              case rel => exact ⟨n + 1, by go_num, by omega, fr.drewN _⟩
              case measure => simp [intOf]; omega
            · obtain rfl : n = (X 2).length := by omega
              have c3 := cell_at hb.at_ 3
              simp at c3
              rw [hV3] at c3
              clear hb
              go_wp2_with fail
              clear c2 c3
              go_loopw [6] (fun i wr => ∃ n : Nat, i = .int .i64 (n : Int) ∧ n ≤ (X 3).length ∧ Fresh w wr) (fun i _ => (X 3).length - (intOf i).toNat)
              case atStart => exact ⟨0, rfl, by omega, fr⟩
              case round =>
                obtain ⟨n, rfl, hn, fr⟩ := hrel
                have hb := HB.out.fresh fr
                have c3 := cell_at hb.at_ 3
                simp at c3
                rw [hV3] at c3
                by_cases hlt : n < (X 3).length
                · obtain ⟨x, hx⟩ : ∃ x, (X 3)[n]? = some x := ⟨(X 3)[n], by simp⟩
                  obtain ⟨g, m, cap, rfl, -, -, hm, hgw, hcell⟩ := hb.marks 3 x (List.mem_of_getElem? hx)
                  have hrow := hb.row 3
                  rw [hV3] at hrow
                  obtain ⟨gr, ho, hcells⟩ := rowCellsB hrow (by omega)
                  rw [ho] at c3
                  obtain ⟨-, hcx⟩ := hcells n _ hx
                  have hsub : ((m + 1 : Nat) : Int) - 1 = (m : Int) := by omega
                  have hn0 : (0 : Int) ≤ (n : Int) := by omega
                  have hn1 : (n : Int) < ((X 3).length : Int) := by omega
                  have hm0 : (0 : Int) ≤ (m : Int) := by omega
                  have hm1 : (m : Int) < ((m + 1 : Nat) : Int) := by omega
                  have hcl : wr.cell? ⟨g, m * 8 + 2, none⟩ = some (.int .i64 (-77)) := by simpa [bkS, bkO, bkM] using hcell
                  have HV := hid hV3
                  clear hb hrow hcells hx hcell hV3
                  go_wp2_with fail
                  go_quiet (fail)
                  go_wp2_with fail
                  go_roundw
                  case rel => exact ⟨n + 1, by go_num, by omega, fr.drewN _⟩
                  case measure => simp [intOf]; omega
                · obtain rfl : n = (X 3).length := by omega
                  clear hb
                  go_wp2_with fail
                  go_ret
                  exact ⟨rfl, fr⟩
end Go.Proofs.YtpccaodkgboefaaGreatDoor
