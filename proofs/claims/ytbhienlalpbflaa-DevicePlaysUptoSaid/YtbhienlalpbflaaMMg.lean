/-
  Rows that are grown by append, each full of one thing; all of them kept in a list, and each of them in the end as it was written. No program is in sight.
-/
import Derived.Test.YtbhienlalpbflaaMMsG
import Derived.Test.YtbhienlalpbflaaMShaA
namespace Go.Proofs.Ytbhienlalpbflaa
open Go.RowKit

/-- the first cells of a block stay -/
def Front (w w' : World) (g m : Nat) : Prop := ∀ cur e, w.heap[g]? = some (.cells cur e (0, 0)) → ∃ cur', w'.heap[g]? = some (.cells cur' e (0, 0)) ∧ cur'.size = cur.size ∧ cur'.toList.take m = cur.toList.take m
theorem Front.of_eq {w w' : World} {g : Nat} (h : w'.heap[g]? = w.heap[g]?) (m : Nat) : Front w w' g m := fun cur _ hc => ⟨cur, h.trans hc, rfl, rfl⟩
theorem Front.le {w w' : World} {g m n : Nat} (h : Front w w' g m) (hn : n ≤ m) : Front w w' g n := fun cur e hc => by
  obtain ⟨cur', h1, h2, h3⟩ := h cur e hc
  refine ⟨cur', h1, h2, ?_⟩
  have := congrArg (List.take n) h3
  rwa [List.take_take, List.take_take, Nat.min_eq_left hn] at this
theorem ownsRow_front {w w' : World} {base size n : Nat} {e : TypeId} {v : Value} {xs : List Value} (h : w.ownsRow base e size v n xs) (hf : ∀ g, v.ownBlock = some g → Front w w' g (n * size)) : w'.ownsRow base e size v n xs := by
  refine ⟨h.1, ?_⟩
  rcases h.2 with h2 | ⟨g, cap, cur, rfl, hb, hg, h1, h2, h3, h4⟩
  · exact .inl h2
  · obtain ⟨cur', q1, q2, q3⟩ := hf g rfl cur e hg
    exact .inr ⟨g, cap, cur', rfl, hb, q1, h1, h2, by omega, q3.trans h4⟩

theorem append_front {P : Program} (w : World) (t tx ty e : TypeId) (i : TypeInfo) (z : Value) (size bytes : Nat) (ht : P.underlying t = some (.slice e)) (hi : P.info? e = some i) (hz : i.zero = some z)
    (hsize : i.size = size) (hby : i.bytes = bytes) (hzs : z.cells.size = size) (hsz : 0 < size)
    (v : Value) (n : Nat) (xs : List Value) (hown : w.ownsRow 0 e size v n xs) (x : Value) (m : Nat) (news : List Value) (hs : Src P size tx x m news w)
    (h63 : n + m ≤ maxLen) (hbytes : (n + m) * bytes ≤ 140737488355328) :
    ∃ v' w', (Builtin.append_ #[t, tx] ty #[v, x]).run P w = .ok v' w' ∧ Appended e size w w' v v' (n + m) (xs ++ news) ∧ ∀ g, Front w w' g (if v.ownBlock = some g then n * size else 0) := by
  obtain ⟨v', w', hr, ha, hnil⟩ := run_append_row (P := P) w t tx ty e i z size bytes ht hi hz hsize hby hzs hsz v n xs hown x m news hs h63 hbytes
  refine ⟨v', w', hr, ha, fun g => ?_⟩
  by_cases hg : v.ownBlock = some g
  · rw [if_pos hg]
    rcases hown.2 with ⟨rfl, h0⟩ | ⟨g', cap, cur, rfl, hbg, hg', hnc, hcm, hcs, htake⟩
    · cases hg
    · simp [Value.ownBlock] at hg
      subst hg
      intro c0 e0 hc0
      rw [hg'] at hc0
      simp only [Option.some.injEq, Obj.cells.injEq, and_true] at hc0
      obtain ⟨rfl, rfl⟩ := hc0
      subst hsize
      by_cases hroom : n + m ≤ cap
      · have hfit : n * i.size + news.length ≤ cur.size := by rw [hs.newsLen, hcs, ← Nat.add_mul]; exact Nat.mul_le_mul_right _ hroom
        have hr2 := run_append_room_src (P := P) w t tx ty e i ht hi g' 0 n cap x m news hs hroom
          (fun j hj => by rw [cell_at hg']; simp; omega) (fun j _ => free_at hg' _)
        rw [hr2] at hr
        injection hr with hr1 hr2
        subst hr2
        obtain ⟨cur', h1, h2, h3⟩ := setCells_at g' e news (0 + n * i.size) w cur hg' (by omega)
        refine ⟨cur', h1, h2, ?_⟩
        have := congrArg (List.take (n * i.size)) h3
        rw [List.take_take, Nat.min_eq_left (by omega), List.take_append_of_le_length (by simp; omega), List.take_take, Nat.min_eq_left (by omega)] at this
        exact this
      · have hsmall : ((n + m : Nat) : Int) ≤ 9223372036854775807 := by simp only [maxLen] at h63; omega
        have hr2 := run_append_grow_src (P := P) w t tx ty e i z ht hi hz (some ⟨g', 0, none⟩) n cap xs (firstCells_own hown) x m news hs (by omega) hsmall (growslice_fits (by omega) (by rw [hby]; exact hbytes))
        rw [hr2] at hr
        injection hr with hr1 hr2
        subst hr2
        refine ⟨cur, ?_, rfl, rfl⟩
        rw [Below.heap_alloc _ _ _ (by exact lt_of_block hg')]
        exact hg'
  · rw [if_neg hg]
    by_cases hlt : g < w.heap.size
    · exact Front.of_eq (ha.keeps.block g hlt hg) 0
    · intro cur e0 hc
      exact absurd (lt_of_block hc) hlt

/-- what a row is behind an append of one thing -/
structure Grown (e : TypeId) (size : Nat) (w w' : World) (v v' : Value) (n : Nat) (xs us : List Value) : Prop where
  app : Appended e size w w' v v' (n + 1) (xs ++ us)
  front : ∀ g, Front w w' g (if v.ownBlock = some g then n * size else 0)

theorem wpList_growN {P : Program} {ops : Array Oper} {rest : List Oper} {o : Oper} {a : Act} {Q : Exit → Act → World → Prop} (hgd : o.guard = none) (s x : Operand) (t : TypeId)
    (ho : o.op = .call { callee := .builtin .append, args := #[s, x], argTypes := #[t, t] })
    (e : TypeId) (i : TypeInfo) (z : Value) (size bytes : Nat) (ht : P.underlying t = some (.slice e)) (hi : P.info? e = some i) (hz : i.zero = some z) (hsize : i.size = size) (hby : i.bytes = bytes) (hzs : z.cells.size = size) (hsz : 0 < size)
    {v : Value} {n : Nat} {xs : List Value} (w0 : World) (hown : w0.ownsRow 0 e size v n xs) (us : Array Value) (hul : us.size = size) (hs : a.eval s = v) (hx : a.eval x = .slice (some ⟨w0.heap.size, 0, none⟩) 1 1) (hone : ∀ u ∈ us.toList, u.oneCell' = true)
    (hb : (n + 1) * bytes ≤ 140737488355328) (hn : n + 1 ≤ maxLen)
    (h : ∀ v' w', Grown e size w0 w' v v' n xs us.toList → wpList P ops Q rest (a.put o.dst v') w') : wpList P ops Q (o :: rest) a (w0.alloc (.cells us e)) := by
  refine wpList_plain hgd fun K hK => ?_
  have hnew := heap_alloc_new w0 (.cells us e)
  have hsrc : Src P size t (.slice (some ⟨w0.heap.size, 0, none⟩) 1 1) 1 us.toList (w0.alloc (.cells us e)) := Src.ofSlice _ ht _ 1 1 us.toList (by simp; omega) (fun j y hj => by
    rw [addr_add0, cell_at hnew]
    simpa using hj) (fun y hy => hone y hy)
  obtain ⟨v', w', hr, ⟨h1, h2, h3⟩, h4⟩ := append_front (P := P) (w0.alloc (.cells us e)) t t o.type e i z size bytes ht hi hz hsize hby hzs hsz v n xs (hown.alloc _) _ 1 us.toList hsrc hn hb
  unfold Oper.wp
  simp [execOp, ho, resolve, invoke, builtin, hs, hx, hr, Result.andThen]
  refine hK _ _ (h v' w' ⟨⟨h1, ((Keeps.refl _ w0).alloc _).trans h2, fun g hg => ?_⟩, fun g cur e0 hc => ?_⟩)
  · rcases h3 g hg with h | h
    · exact .inl h
    · have := h.1; simp at this; exact .inr ⟨by omega, h.2⟩
  · exact h4 g cur e0 ((Below.heap_alloc _ _ _ (lt_of_block hc)).trans hc)

/-- so many times the same cells -/
def reps : Nat → List Value → List Value
  | 0, _ => []
  | k + 1, us => reps k us ++ us
theorem reps_len (us : List Value) : ∀ k, (reps k us).length = k * us.length
  | 0 => by simp [reps]
  | k + 1 => by rw [reps, List.length_append, reps_len us k, Nat.succ_mul]
theorem reps_get (us : List Value) : ∀ (k j i : Nat), j < k → i < us.length → (reps k us)[j * us.length + i]? = us[i]?
  | 0, j, i, h, _ => by omega
  | k + 1, j, i, h, hi => by
    rw [reps]
    by_cases hj : j < k
    · rw [List.getElem?_append_left (by
        rw [reps_len]
        have : (j + 1) * us.length ≤ k * us.length := Nat.mul_le_mul_right _ (by omega)
        rw [Nat.add_mul] at this
        omega)]
      exact reps_get us k j i hj hi
    · obtain rfl : j = k := by omega
      rw [List.getElem?_append_right (by rw [reps_len]; omega), reps_len, Nat.add_sub_cancel_left]

/-- a row of n's, k times us; c: whose a block is -/
def RowOf (c : Nat → Nat) (w : World) (e : TypeId) (size : Nat) (us : List Value) (n : Nat) (v : Value) (k : Nat) : Prop := w.ownsRow 0 e size v k (reps k us) ∧ ∀ g, v.ownBlock = some g → c g = n
theorem RowOf.keeps {S : Nat → Prop} {c c' : Nat → Nat} {w w' : World} {e : TypeId} {size : Nat} {us : List Value} {n k : Nat} {v : Value} (h : RowOf c w e size us n v k) (hk : Keeps S w w') (hS : ∀ g, S g → g < w.heap.size → c g ≠ n) (hc : ∀ g, g < w.heap.size → c' g = c g) : RowOf c' w' e size us n v k :=
  ⟨ownsRow_keeps h.1 hk fun g hg hs => hS g hs (h.1.lt g hg).2 (h.2 g hg), fun g hg => by rw [hc g (h.1.lt g hg).2]; exact h.2 g hg⟩

/-- the rows, and what they grew to: A, each of K's; below n all are done. T: the cells' blocks that may have turned since w0 -/
structure Herd (c : Nat → Nat) (w0 : World) (e : TypeId) (size : Nat) (T : TypeId) (U : Nat → List Value) (K : Nat → Nat) (N n : Nat) (X A : List Value) (av : Value) (M0 M : Nat) (w : World) : Prop where
  all : w.ownsRow 0 T 1 av A.length A
  allc : ∀ g, av.ownBlock = some g → c g = N ∧ w0.heap.size ≤ g
  grown : ∀ m v, A[m]? = some v → ∃ k, k ≤ M ∧ RowOf c w e size (U (K m)) (K m) v k ∧ K m < n
  rest : ∀ j v, n ≤ j → X[j]? = some v → ∃ k, k ≤ M0 ∧ RowOf c w e size (U j) j v k
  keeps : Keeps (fun g => c g < N) w0 w
  num : X.length = N
/-- one of them grows, to so many so far -/
structure Growing (c : Nat → Nat) (w0 : World) (e : TypeId) (size : Nat) (T : TypeId) (U : Nat → List Value) (K : Nat → Nat) (N n : Nat) (X A : List Value) (av xv : Value) (L M0 M : Nat) (w : World) : Prop where
  all : w.ownsRow 0 T 1 av A.length A
  allc : ∀ g, av.ownBlock = some g → c g = N ∧ w0.heap.size ≤ g
  grown : ∀ m v, A[m]? = some v → ∃ k, k ≤ M ∧ RowOf c w e size (U (K m)) (K m) v k ∧ K m ≤ n ∧ (K m = n → k ≤ L)
  x : RowOf c w e size (U n) n xv L
  lt : n < N
  rest : ∀ j v, n < j → X[j]? = some v → ∃ k, k ≤ M0 ∧ RowOf c w e size (U j) j v k
  keeps : Keeps (fun g => c g < N) w0 w
  num : X.length = N
section
variable {c : Nat → Nat} {w0 w w' : World} {e T : TypeId} {size : Nat} {U : Nat → List Value} {K : Nat → Nat} {N n L M0 M : Nat} {X A : List Value} {av xv av' xv' : Value}
theorem Herd.begin (h : Herd c w0 e size T U K N n X A av M0 M w) (hx : X[n]? = some xv) : ∃ L, L ≤ M0 ∧ Growing c w0 e size T U K N n X A av xv L M0 M w := by
  obtain ⟨k, hk, hr⟩ := h.rest n xv (Nat.le_refl _) hx
  refine ⟨k, hk, h.all, h.allc, fun m v hv => ?_, hr, by have := (List.getElem?_eq_some_iff.1 hx).1; have := h.num; omega, fun j v hj hv => h.rest j v (by omega) hv, h.keeps, h.num⟩
  obtain ⟨k', h1, h2, h3⟩ := h.grown m v hv
  exact ⟨k', h1, h2, by omega, fun h => by omega⟩
theorem Herd.most {M' : Nat} (h : Herd c w0 e size T U K N n X A av M0 M w) (hM : M ≤ M') : Herd c w0 e size T U K N n X A av M0 M' w :=
  ⟨h.all, h.allc, fun m v hv => by
    obtain ⟨k, h1, h2⟩ := h.grown m v hv
    exact ⟨k, by omega, h2⟩, h.rest, h.keeps, h.num⟩
theorem Growing.fin (h : Growing c w0 e size T U K N n X A av xv L M0 M w) : Herd c w0 e size T U K N (n + 1) X A av M0 M w :=
  ⟨h.all, h.allc, fun m v hv => by
    obtain ⟨k', h1, h2, h3, -⟩ := h.grown m v hv
    exact ⟨k', h1, h2, by omega⟩, fun j v hj hv => h.rest j v (by omega) hv, h.keeps, h.num⟩
/-- nothing of theirs turned: something was made -/
theorem Growing.fresh (h : Growing c w0 e size T U K N n X A av xv L M0 M w) (f : Fresh w w') : Growing c w0 e size T U K N n X A av xv L M0 M w' :=
  ⟨ownsRow_keeps h.all f fun _ _ h => h, h.allc, fun m v hv => by
    obtain ⟨k', h1, h2, h3⟩ := h.grown m v hv
    exact ⟨k', h1, h2.keeps f (fun _ h => h.elim) (fun _ _ => rfl), h3⟩, h.x.keeps f (fun _ h => h.elim) (fun _ _ => rfl), h.lt, fun j v hj hv => by
    obtain ⟨k, h1, h2⟩ := h.rest j v hj hv
    exact ⟨k, h1, h2.keeps f (fun _ h => h.elim) (fun _ _ => rfl)⟩, h.keeps.trans (f.mono fun _ _ h => h.elim), h.num⟩
theorem Herd.fresh (h : Herd c w0 e size T U K N n X A av M0 M w) (f : Fresh w w') : Herd c w0 e size T U K N n X A av M0 M w' :=
  ⟨ownsRow_keeps h.all f fun _ _ h => h, h.allc, fun m v hv => by
    obtain ⟨k', h1, h2, h3⟩ := h.grown m v hv
    exact ⟨k', h1, h2.keeps f (fun _ h => h.elim) (fun _ _ => rfl), h3⟩, fun j v hj hv => by
    obtain ⟨k, h1, h2⟩ := h.rest j v hj hv
    exact ⟨k, h1, h2.keeps f (fun _ h => h.elim) (fun _ _ => rfl)⟩, h.keeps.trans (f.mono fun _ _ h => h.elim), h.num⟩
/-- it is noted as it is now -/
theorem Growing.note (h : Growing c w0 e size T U K N n X A av xv L M0 M w) (hK : K A.length = n) (hL : L ≤ M) (ha : Appended T 1 w w' av av' (A.length + 1) (A ++ [xv])) :
    ∃ c', (∀ g, g < w0.heap.size → c' g = c g) ∧ Growing c' w0 e size T U K N n X (A ++ [xv]) av' xv L M0 M w' := by
  have hsz := h.keeps.size
  have hcc : ∀ g, g < w.heap.size → (if g < w.heap.size then c g else N) = c g := fun g hg => if_pos hg
  have kp : ∀ {us : List Value} {j k : Nat} {v : Value}, j < N → RowOf c w e size us j v k → RowOf (fun g => if g < w.heap.size then c g else N) w' e size us j v k := fun hj hr => hr.keeps ha.keeps (fun g hg _ => by have := (h.allc g hg).1; omega) hcc
  refine ⟨fun g => if g < w.heap.size then c g else N, fun g hg => if_pos (by omega), by rw [List.length_append]; exact ha.row, fun g hg => ?_, fun m v hv => ?_, kp h.lt h.x, h.lt, fun j v hj hv => ?_, ?_, h.num⟩
  · rcases ha.own g hg with q | q
    · have h1 := h.allc g q
      have h2 := (h.all.lt g q).2
      exact ⟨by simp only [if_pos h2]; exact h1.1, h1.2⟩
    · exact ⟨if_neg (by omega), by omega⟩
  · by_cases hm : m < A.length
    · rw [List.getElem?_append_left hm] at hv
      obtain ⟨k', h1, h2, h3, h4⟩ := h.grown m v hv
      exact ⟨k', h1, kp (by have := h.lt; omega) h2, h3, h4⟩
    · have hm2 : m = A.length := by have := (List.getElem?_eq_some_iff.1 hv).1; simp at this; omega
      subst hm2
      simp at hv
      subst hv
      rw [hK]
      exact ⟨L, hL, kp h.lt h.x, Nat.le_refl _, fun _ => Nat.le_refl _⟩
  · obtain ⟨k', h1, h2⟩ := h.rest j v hj hv
    have := (List.getElem?_eq_some_iff.1 hv).1
    have := h.num
    exact ⟨k', h1, kp (by omega) h2⟩
  · refine (h.keeps.mono fun g hg hc => ?_).trans' ha.keeps fun g hg hq => ?_
    · rw [if_pos (by omega)]; exact hc
    · have := (h.allc g hq).2; omega
/-- it grows by one -/
theorem Growing.grow (h : Growing c w0 e size T U K N n X A av xv L M0 M w) (ha : Grown e size w w' xv xv' L (reps L (U n)) (U n)) :
    ∃ c', (∀ g, g < w0.heap.size → c' g = c g) ∧ Growing c' w0 e size T U K N n X A av xv' (L + 1) M0 M w' := by
  have hsz := h.keeps.size
  have hlt := h.lt
  have hcc : ∀ g, g < w.heap.size → (if g < w.heap.size then c g else n) = c g := fun g hg => if_pos hg
  have kp : ∀ {us : List Value} {j k : Nat} {v : Value}, (j ≠ n ∨ k ≤ L) → RowOf c w e size us j v k → RowOf (fun g => if g < w.heap.size then c g else n) w' e size us j v k := fun hj hr => by
    refine ⟨ownsRow_front hr.1 fun g hg => ?_, fun g hg => by simp only [if_pos (hr.1.lt g hg).2]; exact hr.2 g hg⟩
    by_cases hq : xv.ownBlock = some g
    · have h1 := h.x.2 g hq
      have h2 := hr.2 g hg
      have := ha.front g
      rw [if_pos hq] at this
      exact this.le (Nat.mul_le_mul_right _ (by omega))
    · exact Front.of_eq (ha.app.keeps.block g (hr.1.lt g hg).2 hq) _
  refine ⟨fun g => if g < w.heap.size then c g else n, fun g hg => if_pos (by omega), ?_, fun g hg => ?_, fun m v hv => ?_, ⟨ha.app.row, fun g hg => ?_⟩, h.lt, fun j v hj hv => ?_, ?_, h.num⟩
  · refine ownsRow_keeps h.all ha.app.keeps fun g hg hq => ?_
    have h1 := (h.allc g hg).1
    have h2 := h.x.2 g hq
    omega
  · simp only [if_pos (h.all.lt g hg).2]
    exact h.allc g hg
  · obtain ⟨k', h1, h2, h3, h4⟩ := h.grown m v hv
    refine ⟨k', h1, kp ?_ h2, h3, fun q => by have := h4 q; omega⟩
    by_cases hq : K m = n
    · exact .inr (h4 hq)
    · exact .inl hq
  · rcases ha.app.own g hg with q | q
    · simp only [if_pos (h.x.1.lt g q).2]
      exact h.x.2 g q
    · exact if_neg (by omega)
  · obtain ⟨k', h1, h2⟩ := h.rest j v hj hv
    exact ⟨k', h1, kp (.inl (by omega)) h2⟩
  · refine (h.keeps.mono fun g hg hc => ?_).trans' ha.app.keeps fun g hg hq => ?_
    · rw [if_pos (by omega)]; exact hc
    · rw [if_pos (by omega), h.x.2 g hq]; exact hlt
end

/-- rows that are marked, one by one: below n they are -/
structure Flock (c : Nat → Nat) (w0 : World) (e : TypeId) (size : Nat) (U : Nat → List Value) (n : Nat) (X : List Value) (M : Nat) (w : World) : Prop where
  done : ∀ j v, j < n → X[j]? = some v → ∃ k, k ≤ M ∧ RowOf c w e size (U j) j v k
  todo : ∀ j v, n ≤ j → X[j]? = some v → ∃ k xs, k ≤ M ∧ w.ownsRow 0 e size v k xs ∧ ∀ g, v.ownBlock = some g → c g = j
  keeps : Keeps (fun g => c g < X.length) w0 w
/-- the n-th, marked up to i -/
def Half (w : World) (e : TypeId) (size : Nat) (us : List Value) (v : Value) (k i : Nat) : Prop := ∃ ys, w.ownsRow 0 e size v k (reps i us ++ ys) ∧ i ≤ k
section
variable {c : Nat → Nat} {w0 w w' : World} {e T : TypeId} {size : Nat} {U : Nat → List Value} {n k M : Nat} {X : List Value} {v : Value}
theorem Flock.begin (h : Flock c w0 e size U n X M w) (hx : X[n]? = some v) : ∃ k, k ≤ M ∧ Half w e size (U n) v k 0 := by
  obtain ⟨k, xs, h1, h2, h3⟩ := h.todo n v (Nat.le_refl _) hx
  exact ⟨k, h1, xs, h2, Nat.zero_le _⟩
/-- the n-th one's block turned -/
theorem Flock.turn (h : Flock c w0 e size U n X M w) (hx : X[n]? = some v) (hk : Keeps (fun g => v.ownBlock = some g) w w') {i : Nat} (hh : Half w' e size (U n) v k i) (hkM : k ≤ M) : Flock c w0 e size U n X M w' := by
  obtain ⟨k0, xs, h1, h2, h3⟩ := h.todo n v (Nat.le_refl _) hx
  have hn := (List.getElem?_eq_some_iff.1 hx).1
  refine ⟨fun j u hj hu => ?_, fun j u hj hu => ?_, h.keeps.trans' hk fun g _ hg => by rw [h3 g hg]; exact hn⟩
  · obtain ⟨k', g1, g2⟩ := h.done j u hj hu
    exact ⟨k', g1, g2.keeps hk (fun g hg _ => by rw [h3 g hg]; omega) fun _ _ => rfl⟩
  · by_cases hjn : j = n
    · subst hjn
      rw [hx] at hu
      injection hu with hu
      subst hu
      obtain ⟨ys, q1, q2⟩ := hh
      exact ⟨k, _, hkM, q1, h3⟩
    · obtain ⟨k', ys, g1, g2, g3⟩ := h.todo j u hj hu
      exact ⟨k', ys, g1, ownsRow_keeps g2 hk fun g hg hq => by have := g3 g hg; have := h3 g hq; omega, g3⟩
theorem Flock.next (h : Flock c w0 e size U n X M w) (hx : X[n]? = some v) (hh : Half w e size (U n) v k k) (hkM : k ≤ M) (hU : (U n).length = size) : Flock c w0 e size U (n + 1) X M w := by
  obtain ⟨k0, xs, h1, h2, h3⟩ := h.todo n v (Nat.le_refl _) hx
  refine ⟨fun j u hj hu => ?_, fun j u hj hu => h.todo j u (by omega) hu, h.keeps⟩
  by_cases hjn : j = n
  · subst hjn
    rw [hx] at hu
    injection hu with hu
    subst hu
    obtain ⟨ys, q1, q2⟩ := hh
    have : ys = [] := by
      have := q1.1
      rw [List.length_append, reps_len, hU] at this
      exact List.eq_nil_of_length_eq_zero (by omega)
    subst this
    rw [List.append_nil] at q1
    exact ⟨k, hkM, q1, h3⟩
  · exact h.done j u (by omega) hu
theorem Flock.fresh (h : Flock c w0 e size U n X M w) (f : Fresh w w') : Flock c w0 e size U n X M w' :=
  ⟨fun j v hj hv => by
    obtain ⟨k, h1, h2⟩ := h.done j v hj hv
    exact ⟨k, h1, h2.keeps f (fun _ h => h.elim) (fun _ _ => rfl)⟩, fun j v hj hv => by
    obtain ⟨k, xs, h1, h2, h3⟩ := h.todo j v hj hv
    exact ⟨k, xs, h1, ownsRow_keeps h2 f fun _ _ h => h, h3⟩, h.keeps.trans (f.mono fun _ _ h => h.elim)⟩
theorem Half.fresh {us : List Value} {i : Nat} (h : Half w e size us v k i) (f : Fresh w w') : Half w' e size us v k i := by
  obtain ⟨ys, h1, h2⟩ := h
  exact ⟨ys, ownsRow_keeps h1 f fun _ _ h => h, h2⟩
theorem Flock.herd (h : Flock c w0 e size U X.length X M w) (K : Nat → Nat) : Herd c w0 e size T U K X.length 0 X [] (.slice none 0 0) M M w :=
  ⟨World.ownsRow_nil _ _ _ _, (fun _ h => nomatch h), fun m v hv => by simp at hv, fun j v hj hv => h.done j v ((List.getElem?_eq_some_iff.1 hv).1) hv, h.keeps, rfl⟩
/-- rows of blocks of their own -/
theorem Flock.start (hr : ∀ (j : Nat) (v : Value), X[j]? = some v → ∃ k xs, k ≤ M ∧ w.ownsRow 0 e size v k xs) (hd : ∀ (i j : Nat) (u v : Value) g, X[i]? = some u → X[j]? = some v → u.ownBlock = some g → v.ownBlock = some g → i = j) :
    ∃ c : Nat → Nat, Flock c w e size U 0 X M w ∧ ∀ g, c g < X.length → ∃ v, v ∈ X ∧ v.ownBlock = some g := by
  refine ⟨fun g => X.findIdx (fun v => v.ownBlock == some g), ⟨fun j v hj _ => by omega, fun j v _ hv => ?_, Keeps.refl _ _⟩, fun g hg => ?_⟩
  · obtain ⟨k, xs, h1, h2⟩ := hr j v hv
    refine ⟨k, xs, h1, h2, fun g hg => ?_⟩
    obtain ⟨hj, hjv⟩ := List.getElem?_eq_some_iff.1 hv
    have hlt : X.findIdx (fun v => v.ownBlock == some g) < X.length := List.findIdx_lt_length_of_exists ⟨v, List.mem_of_getElem? hv, beq_iff_eq.2 hg⟩
    have hp := List.findIdx_getElem (p := fun v : Value => v.ownBlock == some g) (w := hlt)
    exact hd _ _ _ _ g (List.getElem?_eq_getElem hlt) hv (by simpa using hp) hg
  · have hp := List.findIdx_getElem (p := fun v : Value => v.ownBlock == some g) (w := hg)
    exact ⟨_, List.getElem_mem hg, by simpa using hp⟩
end
/-- one cell of one thing is written -/
theorem Half.put1 {w : World} {e : TypeId} {u : Value} {g n cap i : Nat} (h : Half w e 1 [u] (.slice (some ⟨g, 0, none⟩) n cap) n i) (hi : i < n) : Half (w.setCell ⟨g, i, none⟩ u) e 1 [u] (.slice (some ⟨g, 0, none⟩) n cap) n (i + 1) := by
  obtain ⟨ys, h1, h2⟩ := h
  have hl := h1.1
  rw [List.length_append, reps_len] at hl
  simp at hl
  obtain ⟨y, ys, rfl⟩ : ∃ y zs, ys = y :: zs := by
    cases ys with
    | nil => simp at hl; omega
    | cons y zs => exact ⟨y, zs, rfl⟩
  refine ⟨ys, ?_, hi⟩
  have := ownsRow_put h1 i u (by simp only [List.length_append, reps_len, List.length_cons, List.length_nil]; omega)
  rw [List.set_append_right _ _ (by simp [reps_len])] at this
  simp only [reps_len, List.length_singleton, Nat.mul_one, Nat.sub_self, List.set_cons_zero] at this
  rw [reps, List.append_assoc]
  exact this
/-- some cells of a row are written, one behind the other -/
theorem ownsRow_puts {base : Nat} {e : TypeId} {size n cap g : Nat} : ∀ (us : List Value) (w : World) (xs : List Value) (o : Nat), w.ownsRow base e size (.slice (some ⟨g, 0, none⟩) n cap) n xs → o + us.length ≤ xs.length →
    (w.setCells g o us).ownsRow base e size (.slice (some ⟨g, 0, none⟩) n cap) n (xs.take o ++ us ++ xs.drop (o + us.length))
  | [], w, xs, o, h, _ => by simpa [World.setCells] using h
  | u :: us, w, xs, o, h, hl => by
    rw [List.length_cons] at hl
    have h1 := ownsRow_put h o u (by omega)
    have h2 := ownsRow_puts us _ _ (o + 1) h1 (by rw [List.length_set]; omega)
    rw [World.setCells]
    have e1 : (xs.set o u).take (o + 1) = xs.take o ++ [u] := by
      rw [List.take_succ_eq_append_getElem (by rw [List.length_set]; omega)]
      simp [List.take_set_of_le]
    have e2 : (xs.set o u).drop (o + 1 + us.length) = xs.drop (o + 1 + us.length) := by
      rw [List.drop_set_of_lt (by omega)]
    rw [e1, e2] at h2
    have e3 : xs.take o ++ [u] ++ us ++ xs.drop (o + 1 + us.length) = xs.take o ++ u :: us ++ xs.drop (o + (u :: us).length) := by
      rw [List.length_cons, show o + (us.length + 1) = o + 1 + us.length by omega]
      simp
    rw [e3] at h2
    exact h2
theorem Half.puts {w : World} {e : TypeId} {us : List Value} {g n cap i size : Nat} (h : Half w e size us (.slice (some ⟨g, 0, none⟩) n cap) n i) (hu : us.length = size) (hi : i < n) : Half (w.setCells g (i * size) us) e size us (.slice (some ⟨g, 0, none⟩) n cap) n (i + 1) := by
  obtain ⟨ys, h1, h2⟩ := h
  have hl := h1.1
  have hr := reps_len us i
  rw [hu] at hr
  have hm : (i + 1) * size ≤ n * size := Nat.mul_le_mul_right _ hi
  rw [Nat.succ_mul] at hm
  have := ownsRow_puts us w _ (i * size) h1 (by omega)
  rw [List.take_left' hr] at this
  refine ⟨(reps i us ++ ys).drop (i * size + us.length), ?_, hi⟩
  rw [reps]
  exact this
/-- rows, each full of one thing, in a list; none of their blocks is of Q -/
structure Ranks (Q : Nat → Prop) (w : World) (e : TypeId) (size : Nat) (T : TypeId) (U : Nat → List Value) (K : Nat → Nat) (A : List Value) (av : Value) (M : Nat) : Prop where
  all : w.ownsRow 0 T 1 av A.length A
  alln : ∀ g, av.ownBlock = some g → ¬ Q g
  rows : ∀ m v, A[m]? = some v → ∃ k, k ≤ M ∧ w.ownsRow 0 e size v k (reps k (U (K m))) ∧ ∀ g, v.ownBlock = some g → ¬ Q g
theorem Ranks.keeps {Q Q' : Nat → Prop} {w w' : World} {e T : TypeId} {size : Nat} {U : Nat → List Value} {K : Nat → Nat} {A : List Value} {av : Value} {M : Nat} (h : Ranks Q w e size T U K A av M) (k : Keeps Q' w w') (hQ : ∀ q, q < w.heap.size → Q' q → Q q) : Ranks Q w' e size T U K A av M :=
  ⟨ownsRow_keeps h.all k fun g hg hq => h.alln g hg (hQ g (h.all.lt g hg).2 hq), h.alln, fun m v hv => by
    obtain ⟨k', h1, h2, h3⟩ := h.rows m v hv
    exact ⟨k', h1, ownsRow_keeps h2 k fun g hg hq => h3 g hg (hQ g (h2.lt g hg).2 hq), h3⟩⟩
theorem Ranks.fresh {Q : Nat → Prop} {w w' : World} {e T : TypeId} {size : Nat} {U : Nat → List Value} {K : Nat → Nat} {A : List Value} {av : Value} {M : Nat} (h : Ranks Q w e size T U K A av M) (f : Fresh w w') : Ranks Q w' e size T U K A av M := h.keeps f fun _ _ h => h.elim
theorem Herd.ranks {c : Nat → Nat} {w0 w : World} {e T : TypeId} {size : Nat} {U : Nat → List Value} {K : Nat → Nat} {N n M0 M : Nat} {X A : List Value} {av : Value} (h : Herd c w0 e size T U K N n X A av M0 M w) (hn : n ≤ N) (Q : Nat → Prop) (hQ : ∀ q, Q q → q < w0.heap.size ∧ ¬ c q < N) : Ranks Q w e size T U K A av M :=
  ⟨h.all, fun g hg hq => by have := (hQ g hq).1; have := (h.allc g hg).2; omega, fun m v hv => by
    obtain ⟨k, h1, h2, h3⟩ := h.grown m v hv
    exact ⟨k, h1, h2.1, fun g hg hq => (hQ g hq).2 (by rw [h2.2 g hg]; omega)⟩⟩
/-- marked all, and others turned -/
theorem Flock.again {c : Nat → Nat} {w0 w w' : World} {e : TypeId} {size : Nat} {U : Nat → List Value} {M : Nat} {X : List Value} {Q : Nat → Prop} (T : TypeId) (K : Nat → Nat) (h : Flock c w0 e size U X.length X M w) (k : Keeps Q w w') (hQ : ∀ q, Q q → ¬ c q < X.length) : Herd c w' e size T U K X.length 0 X [] (.slice none 0 0) M M w' :=
  ⟨World.ownsRow_nil _ _ _ _, (fun _ h => nomatch h), fun m v hv => by simp at hv, fun j v hj hv => by
    have hlt := (List.getElem?_eq_some_iff.1 hv).1
    obtain ⟨k', h1, h2⟩ := h.done j v hlt hv
    exact ⟨k', h1, h2.keeps k (fun g hg _ hcg => hQ g hg (by rw [hcg]; exact hlt)) fun _ _ => rfl⟩, Keeps.refl _ _, rfl⟩
end Go.Proofs.Ytbhienlalpbflaa
