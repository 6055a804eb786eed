/-
  Lists that came out, some of them clipped: noted, marked, grown by append; what they grew to is noted with whose it is. No program is in sight.
-/
import Derived.Test.YtbhienlalpbflaaMMg
namespace Go.Proofs.Ytbhienlalpbflaa
open Go.RowKit

/-- x is y, or y without its spare places -/
def Clip (x y : Value) : Prop := ∃ ao n cap cap', y = .slice ao n cap' ∧ x = .slice ao n cap ∧ (cap = cap' ∨ cap = n)
theorem Clip.same {ao : Option Addr} {n cap : Nat} : Clip (.slice ao n cap) (.slice ao n cap) := ⟨ao, n, cap, cap, rfl, rfl, .inl rfl⟩
theorem Clip.own {x y : Value} (h : Clip x y) : x.ownBlock = y.ownBlock := by
  obtain ⟨ao, n, cap, cap', rfl, rfl, -⟩ := h
  cases ao <;> rfl
theorem Front.of_lt {w w' : World} {g : Nat} (h : g < w.heap.size → w'.heap[g]? = w.heap[g]?) (m : Nat) : Front w w' g m := fun cur _ hc => ⟨cur, (h (lt_of_block hc)).trans hc, rfl, rfl⟩
theorem append_clip {P : Program} (w : World) (t tx ty e : TypeId) (i : TypeInfo) (z : Value) (size bytes : Nat) (ht : P.underlying t = some (.slice e)) (hi : P.info? e = some i) (hz : i.zero = some z)
    (hsize : i.size = size) (hby : i.bytes = bytes) (hzs : z.cells.size = size) (hsz : 0 < size)
    (v y : Value) (hc : Clip v y) (n : Nat) (xs : List Value) (hown : w.ownsRow 0 e size y n xs) (x : Value) (m : Nat) (hm : 0 < m) (news : List Value) (hs : Src P size tx x m news w)
    (h63 : n + m ≤ maxLen) (hbytes : (n + m) * bytes ≤ 140737488355328) :
    ∃ v' w', (Builtin.append_ #[t, tx] ty #[v, x]).run P w = .ok v' w' ∧ Appended e size w w' y v' (n + m) (xs ++ news) ∧ ∀ g, Front w w' g (if y.ownBlock = some g then n * size else 0) := by
  obtain ⟨ao, n', cap, cap', rfl, rfl, hcc⟩ := hc
  rcases hcc with rfl | rfl
  · exact append_front (P := P) w t tx ty e i z size bytes ht hi hz hsize hby hzs hsz _ n xs hown x m news hs h63 hbytes
  · rcases hown.2 with ⟨q, rfl⟩ | ⟨g, cap2, cur, q, hbg, hg, hnc, hcm, hcs, htake⟩
    · simp only [Value.slice.injEq] at q
      obtain ⟨rfl, rfl, rfl⟩ := q
      exact append_front (P := P) w t tx ty e i z size bytes ht hi hz hsize hby hzs hsz _ 0 xs hown x m news hs h63 hbytes
    · simp only [Value.slice.injEq] at q
      obtain ⟨rfl, rfl, rfl⟩ := q
      subst hsize
      subst hby
      have hsmall : ((cap + m : Nat) : Int) ≤ 9223372036854775807 := by simp only [maxLen] at h63; omega
      have hlen : (xs ++ news).length = (cap + m) * i.size := by rw [List.length_append, hown.1, hs.newsLen, Nat.add_mul]
      have hfirst : (Builtin.firstCells i.size cap (.slice (some ⟨g, 0, none⟩) cap cap)).run P w.drew = .ok xs.toArray w.drew :=
        run_firstCells_some w.drew i.size cap ⟨g, 0, none⟩ cap cap xs hown.1 (by simpa using hown.cells (g := g) rfl)
      have hr := run_append_grow_src (P := P) w t tx ty e i z ht hi hz (some ⟨g, 0, none⟩) cap cap xs hfirst x m news hs (by omega) hsmall (growslice_fits (by omega) hbytes)
      have hge := grownCap_ge w (cap + m) cap e
      have hcm2 : grownCap w (cap + m) cap e ≤ maxLen := grownCap_le_maxLen w (cap + m) cap e h63
      refine ⟨_, _, hr, ⟨⟨hlen, .inr ⟨w.heap.size, _, _, rfl, Nat.zero_le _, heap_alloc_new w.drew _, hge, hcm2, ?_, ?_⟩⟩, (Keeps.refl _ w).drew.alloc _, fun q hq => ?_⟩, fun q => Front.of_lt ?_ _⟩
      · simp only [Array.size_append, List.size_toArray, size_zeroCells, hzs, hlen, ← Nat.add_mul]
        congr 1
        omega
      · simp only [Array.toList_append, ← hlen]
        exact List.take_left
      · simp [Value.ownBlock] at hq
        subst hq
        exact .inr ⟨Nat.le_refl _, by simp⟩
      · intro hq
        exact Below.heap_alloc w.drew _ _ hq

theorem wpList_growC {P : Program} {ops : Array Oper} {rest : List Oper} {o : Oper} {a : Act} {Q : Exit → Act → World → Prop} (hgd : o.guard = none) (s x : Operand) (t : TypeId)
    (ho : o.op = .call { callee := .builtin .append, args := #[s, x], argTypes := #[t, t] })
    (e : TypeId) (i : TypeInfo) (z : Value) (size bytes : Nat) (ht : P.underlying t = some (.slice e)) (hi : P.info? e = some i) (hz : i.zero = some z) (hsize : i.size = size) (hby : i.bytes = bytes) (hzs : z.cells.size = size) (hsz : 0 < size)
    {v y : Value} (hc : Clip v y) {n : Nat} {xs : List Value} (w0 : World) (hown : w0.ownsRow 0 e size y n xs) (us : Array Value) (hul : us.size = size) (hs : a.eval s = v) (hx : a.eval x = .slice (some ⟨w0.heap.size, 0, none⟩) 1 1) (hone : ∀ u ∈ us.toList, u.oneCell' = true)
    (hb : (n + 1) * bytes ≤ 140737488355328) (hn : n + 1 ≤ maxLen)
    (h : ∀ v' w', Grown e size w0 w' y v' n xs us.toList → wpList P ops Q rest (a.put o.dst v') w') : wpList P ops Q (o :: rest) a (w0.alloc (.cells us e)) := by
  refine wpList_plain hgd fun K hK => ?_
  have hnew := heap_alloc_new w0 (.cells us e)
  have hsrc : Src P size t (.slice (some ⟨w0.heap.size, 0, none⟩) 1 1) 1 us.toList (w0.alloc (.cells us e)) := Src.ofSlice _ ht _ 1 1 us.toList (by simp; omega) (fun j y hj => by
    rw [addr_add0, cell_at hnew]
    simpa using hj) (fun y hy => hone y hy)
  obtain ⟨v', w', hr, ⟨h1, h2, h3⟩, h4⟩ := append_clip (P := P) (w0.alloc (.cells us e)) t t o.type e i z size bytes ht hi hz hsize hby hzs hsz v y hc n xs (hown.alloc _) _ 1 (by omega) us.toList hsrc hn hb
  unfold Oper.wp
  simp [execOp, ho, resolve, invoke, builtin, hs, hx, hr, Result.andThen]
  refine hK _ _ (h v' w' ⟨⟨h1, ((Keeps.refl _ w0).alloc _).trans h2, fun g hg => ?_⟩, fun g cur e0 hc => ?_⟩)
  · rcases h3 g hg with h | h
    · exact .inl h
    · have := h.1; simp at this; exact .inr ⟨by omega, h.2⟩
  · exact h4 g cur e0 ((Below.heap_alloc _ _ _ (lt_of_block hc)).trans hc)

def paint (c : Nat → Nat) (w : World) (n : Nat) : Nat → Nat := fun g => if g < w.heap.size then c g else n
theorem paint_old {c : Nat → Nat} {w : World} {n g : Nat} (h : g < w.heap.size) : paint c w n g = c g := if_pos h
theorem paint_new {c : Nat → Nat} {w : World} {n g : Nat} (h : w.heap.size ≤ g) : paint c w n g = n := if_neg (by omega)
theorem RowOf.paint {S : Nat → Prop} {c : Nat → Nat} {w w' : World} {e : TypeId} {size : Nat} {us : List Value} {n k : Nat} {v : Value} (h : RowOf c w e size us n v k) (hk : Keeps S w w') (hS : ∀ g, S g → g < w.heap.size → c g ≠ n) (m : Nat) : RowOf (paint c w m) w' e size us n v k :=
  h.keeps hk hS fun _ hg => paint_old hg

/-- the lists that came out, each full of its own thing; A: what they grew to, W: whose each is -/
structure Core (c : Nat → Nat) (w : World) (e : TypeId) (size : Nat) (U : Nat → List Value) (n : Nat) (Y A : List Value) (W : List Nat) (M0 M : Nat) : Prop where
  olds : ∀ (j : Nat) (v : Value), Y[j]? = some v → ∃ k, k ≤ M0 ∧ RowOf c w e size (U j) j v k
  grown : ∀ (m : Nat) (v : Value), A[m]? = some v → ∃ k o, W[m]? = some o ∧ o < n ∧ k ≤ M ∧ RowOf c w e size (U o) o v k
/-- the n-th one grows: xv, so far -/
structure Up (c : Nat → Nat) (w : World) (e : TypeId) (size : Nat) (U : Nat → List Value) (n : Nat) (Y A : List Value) (W : List Nat) (xv : Value) (L M0 M : Nat) : Prop where
  olds : ∀ (j : Nat) (v : Value), Y[j]? = some v → ∃ k, k ≤ M0 ∧ (j = n → k ≤ L) ∧ RowOf c w e size (U j) j v k
  grown : ∀ (m : Nat) (v : Value), A[m]? = some v → ∃ k o, W[m]? = some o ∧ o ≤ n ∧ (o = n → k ≤ L) ∧ k ≤ M ∧ RowOf c w e size (U o) o v k
  x : RowOf c w e size (U n) n xv L
section
variable {S : Nat → Prop} {c : Nat → Nat} {w w' : World} {e TB TL TI : TypeId} {size : Nat} {U : Nat → List Value} {n L M0 M N B ob : Nat} {X Y A : List Value} {W : List Nat} {xv xv' lv av hv : Value}
theorem Core.begin (h : Core c w e size U n Y A W M0 M) (hx : Y[n]? = some xv) : ∃ L, L ≤ M0 ∧ Up c w e size U n Y A W xv L M0 M := by
  obtain ⟨k, hk, hr⟩ := h.olds n xv hx
  refine ⟨k, hk, fun j v hj => ?_, fun m v hv => ?_, hr⟩
  · obtain ⟨k', h1, h2⟩ := h.olds j v hj
    refine ⟨k', h1, fun q => ?_, h2⟩
    subst q
    rw [hj] at hx
    injection hx with hx
    subst hx
    obtain ⟨o1, c1, e1⟩ := ownsRow_slice h2.1
    obtain ⟨o2, c2, e2⟩ := ownsRow_slice hr.1
    rw [e1] at e2
    injection e2 with _ e2 _
    omega
  · obtain ⟨k', o, h1, h2, h3, h4⟩ := h.grown m v hv
    exact ⟨k', o, h1, by omega, fun q => by omega, h3, h4⟩
theorem Up.fin (h : Up c w e size U n Y A W xv L M0 M) : Core c w e size U (n + 1) Y A W M0 M :=
  ⟨fun j v hj => by
    obtain ⟨k, h1, -, h2⟩ := h.olds j v hj
    exact ⟨k, h1, h2⟩, fun m v hv => by
    obtain ⟨k, o, h1, h2, -, h3, h4⟩ := h.grown m v hv
    exact ⟨k, o, h1, by omega, h3, h4⟩⟩
theorem Up.step (h : Up c w e size U n Y A W xv L M0 M) (k : Keeps S w w') (hS : ∀ g, S g → g < w.heap.size → N ≤ c g) (hn : n < N) (hY : Y.length ≤ N) (m : Nat) : Up (paint c w m) w' e size U n Y A W xv L M0 M :=
  ⟨fun j v hj => by
    obtain ⟨k', h1, h2, h3⟩ := h.olds j v hj
    have hj := (List.getElem?_eq_some_iff.1 hj).1
    exact ⟨k', h1, h2, h3.paint k (fun g hg hl q => by have := hS g hg hl; omega) m⟩, fun j v hv => by
    obtain ⟨k', o, h1, h2, h3, h4, h5⟩ := h.grown j v hv
    exact ⟨k', o, h1, h2, h3, h4, h5.paint k (fun g hg hl q => by have := hS g hg hl; omega) m⟩, h.x.paint k (fun g hg hl q => by have := hS g hg hl; omega) m⟩
theorem Up.fresh (h : Up c w e size U n Y A W xv L M0 M) (f : Fresh w w') : Up c w' e size U n Y A W xv L M0 M :=
  ⟨fun j v hj => by
    obtain ⟨k', h1, h2, h3⟩ := h.olds j v hj
    exact ⟨k', h1, h2, h3.keeps f (fun _ h => h.elim) (fun _ _ => rfl)⟩, fun j v hv => by
    obtain ⟨k', o, h1, h2, h3, h4, h5⟩ := h.grown j v hv
    exact ⟨k', o, h1, h2, h3, h4, h5.keeps f (fun _ h => h.elim) (fun _ _ => rfl)⟩, h.x.keeps f (fun _ h => h.elim) (fun _ _ => rfl)⟩
theorem Core.fresh (h : Core c w e size U n Y A W M0 M) (f : Fresh w w') : Core c w' e size U n Y A W M0 M :=
  ⟨fun j v hj => by
    obtain ⟨k', h1, h3⟩ := h.olds j v hj
    exact ⟨k', h1, h3.keeps f (fun _ h => h.elim) (fun _ _ => rfl)⟩, fun j v hv => by
    obtain ⟨k', o, h1, h2, h3, h4⟩ := h.grown j v hv
    exact ⟨k', o, h1, h2, h3, h4.keeps f (fun _ h => h.elim) (fun _ _ => rfl)⟩⟩
theorem Up.grow (h : Up c w e size U n Y A W xv L M0 M) (ha : Grown e size w w' xv xv' L (reps L (U n)) (U n)) : Up (paint c w n) w' e size U n Y A W xv' (L + 1) M0 M := by
  have kp : ∀ {us : List Value} {j k : Nat} {v : Value}, (j = n → k ≤ L) → RowOf c w e size us j v k → RowOf (paint c w n) w' e size us j v k := fun {us j k v} hj hr => by
    refine ⟨ownsRow_front hr.1 fun g hg => ?_, fun g hg => by rw [paint_old (hr.1.lt g hg).2]; exact hr.2 g hg⟩
    by_cases hq : xv.ownBlock = some g
    · have h1 := h.x.2 g hq
      have h2 := hr.2 g hg
      have := ha.front g
      rw [if_pos hq] at this
      exact this.le (Nat.mul_le_mul_right _ (hj (by omega)))
    · exact Front.of_eq (ha.app.keeps.block g (hr.1.lt g hg).2 hq) _
  refine ⟨fun j v hj => ?_, fun m v hv => ?_, ⟨ha.app.row, fun g hg => ?_⟩⟩
  · obtain ⟨k', h1, h2, h3⟩ := h.olds j v hj
    exact ⟨k', h1, fun q => by have := h2 q; omega, kp h2 h3⟩
  · obtain ⟨k', o, h1, h2, h3, h4, h5⟩ := h.grown m v hv
    exact ⟨k', o, h1, h2, fun q => by have := h3 q; omega, h4, kp h3 h5⟩
  · rcases ha.app.own g hg with q | q
    · rw [paint_old (h.x.1.lt g q).2]
      exact h.x.2 g q
    · exact paint_new q.1
theorem Up.note (h : Up c w e size U n Y A W xv L M0 M) (hW : W.length = A.length) (hL : L ≤ M) : Up c w e size U n Y (A ++ [xv]) (W ++ [n]) xv L M0 M := by
  refine ⟨h.olds, fun m v hv => ?_, h.x⟩
  by_cases hm : m < A.length
  · rw [List.getElem?_append_left hm] at hv
    obtain ⟨k', o, h1, h2⟩ := h.grown m v hv
    exact ⟨k', o, by rw [List.getElem?_append_left (by omega)]; exact h1, h2⟩
  · have hm2 : m = A.length := by have := (List.getElem?_eq_some_iff.1 hv).1; simp at this; omega
    subst hm2
    simp at hv
    subst hv
    exact ⟨L, n, by rw [← hW]; simp, Nat.le_refl _, fun _ => Nat.le_refl _, hL, h.x⟩

/-- the Book's box and its lists, behind the marking; what lies below B is none of its -/
structure Desk (B : Nat) (c : Nat → Nat) (w : World) (TB TL TI : TypeId) (ob N : Nat) (lv av hv : Value) (X A : List Value) (W : List Nat) : Prop where
  box : w.heap[ob]? = some (.cells #[.slice none 0 0, .slice none 0 0, lv, av, hv] TB (0, 0))
  cbox : c ob = N + 2
  lrow : w.ownsRow 0 TL 1 lv X.length X
  cl : ∀ g, lv.ownBlock = some g → c g = N + 3
  arow : w.ownsRow 0 TL 1 av A.length A
  ca : ∀ g, av.ownBlock = some g → c g = N
  hrow : w.ownsRow 0 TI 1 hv W.length (W.map fun (o : Nat) => Value.int .i64 (o : Int))
  ch : ∀ g, hv.ownBlock = some g → c g = N + 1
  low : ∀ g, g < B → N + 3 < c g
theorem Desk.off (h : Desk B c w TB TL TI ob N lv av hv X A W) (k : Keeps S w w') (hS : ∀ g, S g → g < w.heap.size → c g < N ∨ N + 3 < c g) (hB : B ≤ w.heap.size) (m : Nat) : Desk B (paint c w m) w' TB TL TI ob N lv av hv X A W := by
  have hob := lt_of_block h.box
  have d : ∀ g, g < w.heap.size → c g = N ∨ c g = N + 1 ∨ c g = N + 2 ∨ c g = N + 3 → ¬ S g := fun g hl hc hs => by have := hS g hs hl; omega
  exact ⟨k.at_ h.box (d _ hob (by have := h.cbox; omega)), by rw [paint_old hob]; exact h.cbox,
    ownsRow_keeps h.lrow k (fun g hg => d g (h.lrow.lt g hg).2 (by have := h.cl g hg; omega)), fun g hg => by rw [paint_old (h.lrow.lt g hg).2]; exact h.cl g hg,
    ownsRow_keeps h.arow k (fun g hg => d g (h.arow.lt g hg).2 (by have := h.ca g hg; omega)), fun g hg => by rw [paint_old (h.arow.lt g hg).2]; exact h.ca g hg,
    ownsRow_keeps h.hrow k (fun g hg => d g (h.hrow.lt g hg).2 (by have := h.ch g hg; omega)), fun g hg => by rw [paint_old (h.hrow.lt g hg).2]; exact h.ch g hg,
    fun g hg => by rw [paint_old (by omega)]; exact h.low g hg⟩
theorem Desk.fresh (h : Desk B c w TB TL TI ob N lv av hv X A W) (f : Fresh w w') : Desk B c w' TB TL TI ob N lv av hv X A W :=
  ⟨f.at_ h.box (fun h => h), h.cbox, ownsRow_keeps h.lrow f (fun _ _ h => h), h.cl, ownsRow_keeps h.arow f (fun _ _ h => h), h.ca, ownsRow_keeps h.hrow f (fun _ _ h => h), h.ch, h.low⟩
theorem Desk.pushA (h : Desk B c w TB TL TI ob N lv av hv X A W) (hB : B ≤ w.heap.size) {av' v : Value} (ha : Appended TL 1 w w' av av' (A.length + 1) (A ++ [v])) :
    w'.heap[ob]? = some (.cells #[.slice none 0 0, .slice none 0 0, lv, av, hv] TB (0, 0)) ∧ Desk B (paint c w N) (w'.setCell ⟨ob, 3, none⟩ av') TB TL TI ob N lv av' hv X (A ++ [v]) W ∧ Keeps (fun q => q = ob ∨ av.ownBlock = some q) w (w'.setCell ⟨ob, 3, none⟩ av') := by
  have hob := lt_of_block h.box
  have hbox : w'.heap[ob]? = some (.cells #[.slice none 0 0, .slice none 0 0, lv, av, hv] TB (0, 0)) := ha.keeps.at_ h.box (fun e => by have := h.ca _ e; have := h.cbox; omega)
  have k : Keeps (fun q => q = ob ∨ av.ownBlock = some q) w (w'.setCell ⟨ob, 3, none⟩ av') := (ha.keeps.mono (fun q _ e => .inr e)).setCell (p := ⟨ob, 3, none⟩) (fun _ => .inl rfl) av'
  have hn : ∀ g, av'.ownBlock = some g → paint c w N g = N := fun g hg => by
    rcases ha.own g hg with q | q
    · rw [paint_old (h.arow.lt g q).2]; exact h.ca g q
    · exact paint_new q.1
  have d : ∀ g, g < w.heap.size → c g = N + 1 ∨ c g = N + 3 → ¬ (g = ob ∨ av.ownBlock = some g) := fun g hl hc hs => by
    rcases hs with rfl | hs
    · have := h.cbox; omega
    · have := h.ca g hs; omega
  refine ⟨hbox, ⟨heap_setCell_at hbox 3 av', by rw [paint_old hob]; exact h.cbox,
    ownsRow_keeps h.lrow k (fun g hg => d g (h.lrow.lt g hg).2 (by have := h.cl g hg; omega)), fun g hg => by rw [paint_old (h.lrow.lt g hg).2]; exact h.cl g hg,
    ?_, hn, ownsRow_keeps h.hrow k (fun g hg => d g (h.hrow.lt g hg).2 (by have := h.ch g hg; omega)), fun g hg => by rw [paint_old (h.hrow.lt g hg).2]; exact h.ch g hg,
    fun g hg => by rw [paint_old (by omega)]; exact h.low g hg⟩, k⟩
  have hr := ownsRow_setCell_ne ha.row (a := ⟨ob, 3, none⟩) (fun e => by have := hn ob e; rw [paint_old hob] at this; have := h.cbox; omega) av'
  rw [List.length_append]
  exact hr
theorem Desk.pushW (h : Desk B c w TB TL TI ob N lv av hv X A W) (hB : B ≤ w.heap.size) {hv' : Value} {o : Nat} (ha : Appended TI 1 w w' hv hv' (W.length + 1) ((W.map fun (o : Nat) => Value.int .i64 (o : Int)) ++ [.int .i64 (o : Int)])) :
    w'.heap[ob]? = some (.cells #[.slice none 0 0, .slice none 0 0, lv, av, hv] TB (0, 0)) ∧ Desk B (paint c w (N + 1)) (w'.setCell ⟨ob, 4, none⟩ hv') TB TL TI ob N lv av hv' X A (W ++ [o]) ∧ Keeps (fun q => q = ob ∨ hv.ownBlock = some q) w (w'.setCell ⟨ob, 4, none⟩ hv') := by
  have hob := lt_of_block h.box
  have hbox : w'.heap[ob]? = some (.cells #[.slice none 0 0, .slice none 0 0, lv, av, hv] TB (0, 0)) := ha.keeps.at_ h.box (fun e => by have := h.ch _ e; have := h.cbox; omega)
  have k : Keeps (fun q => q = ob ∨ hv.ownBlock = some q) w (w'.setCell ⟨ob, 4, none⟩ hv') := (ha.keeps.mono (fun q _ e => .inr e)).setCell (p := ⟨ob, 4, none⟩) (fun _ => .inl rfl) hv'
  have hn : ∀ g, hv'.ownBlock = some g → paint c w (N + 1) g = N + 1 := fun g hg => by
    rcases ha.own g hg with q | q
    · rw [paint_old (h.hrow.lt g q).2]; exact h.ch g q
    · exact paint_new q.1
  have d : ∀ g, g < w.heap.size → c g = N ∨ c g = N + 3 → ¬ (g = ob ∨ hv.ownBlock = some g) := fun g hl hc hs => by
    rcases hs with rfl | hs
    · have := h.cbox; omega
    · have := h.ch g hs; omega
  refine ⟨hbox, ⟨heap_setCell_at hbox 4 hv', by rw [paint_old hob]; exact h.cbox,
    ownsRow_keeps h.lrow k (fun g hg => d g (h.lrow.lt g hg).2 (by have := h.cl g hg; omega)), fun g hg => by rw [paint_old (h.lrow.lt g hg).2]; exact h.cl g hg,
    ownsRow_keeps h.arow k (fun g hg => d g (h.arow.lt g hg).2 (by have := h.ca g hg; omega)), fun g hg => by rw [paint_old (h.arow.lt g hg).2]; exact h.ca g hg,
    ?_, hn, fun g hg => by rw [paint_old (by omega)]; exact h.low g hg⟩, k⟩
  have hr := ownsRow_setCell_ne ha.row (a := ⟨ob, 4, none⟩) (fun e => by have := hn ob e; rw [paint_old hob] at this; have := h.cbox; omega) hv'
  rw [List.length_append, List.map_append]
  exact hr
/-- behind the marking -/
theorem Flock.desk {c2 : Nat → Nat} {w0 : World} (fl : Flock c2 w0 e size U Y.length Y M w) (hbox : w0.heap[ob]? = some (.cells #[.slice none 0 0, .slice none 0 0, lv, .slice none 0 0, .slice none 0 0] TB (0, 0))) (hlr : w0.ownsRow 0 TL 1 lv X.length X)
    (hob : ¬ c2 ob < Y.length) (hlv : ∀ g, lv.ownBlock = some g → ¬ c2 g < Y.length) (hlow : ∀ g, g < B → ¬ c2 g < Y.length) (hobB : B ≤ ob) (hlvB : ∀ g, lv.ownBlock = some g → B ≤ g) (hne : lv.ownBlock ≠ some ob) (TI : TypeId) (M' : Nat) :
    ∃ c3, Core c3 w e size U 0 Y [] [] M M' ∧ Desk B c3 w TB TL TI ob Y.length lv (.slice none 0 0) (.slice none 0 0) X [] [] := by
  refine ⟨fun g => if c2 g < Y.length then c2 g else if g = ob then Y.length + 2 else if lv.ownBlock = some g then Y.length + 3 else Y.length + 4, ⟨fun j v hj => ?_, fun m v hv => by simp at hv⟩, ⟨fl.keeps.at_ hbox hob, by simp [hob], ownsRow_keeps hlr fl.keeps hlv, fun g hg => ?_, World.ownsRow_nil _ _ _ _, (fun g hg => by simp [Value.ownBlock] at hg), World.ownsRow_nil _ _ _ _, (fun g hg => by simp [Value.ownBlock] at hg), fun g hg => ?_⟩⟩
  · obtain ⟨k, h1, h2⟩ := fl.done j v ((List.getElem?_eq_some_iff.1 hj).1) hj
    refine ⟨k, h1, h2.1, fun g hg => ?_⟩
    have := h2.2 g hg
    have hj2 := (List.getElem?_eq_some_iff.1 hj).1
    simp only [this, if_pos hj2]
  · have h1 := hlv g hg
    have h2 : g ≠ ob := fun e => by subst e; exact hne hg
    simp [h1, h2, hg]
  · have h1 := hlow g hg
    have h2 : g ≠ ob := by omega
    have h3 : lv.ownBlock ≠ some g := fun e => by have := hlvB g e; omega
    simp [h1, h2, h3]
end
end Go.Proofs.Ytbhienlalpbflaa
