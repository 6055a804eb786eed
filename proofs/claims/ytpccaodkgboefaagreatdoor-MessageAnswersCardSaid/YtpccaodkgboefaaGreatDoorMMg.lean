/-
  Rows that are grown by append, each full of one thing; all of them kept in a list, and each of them in the end as it was written. No program is in sight.
  The law's Book of lists that came out: each in a block of its own. No walk.
  The law's Book: numbers: all lists of numbers are written full and grown, and each reads as it was written.
  The law's mark: a text of its own for each list.
  The law's Book: words: all lists of texts are written full and grown, and each reads as it was written.
  The law's Book: outer: all lists of requests and of replies are written full and grown, and each reads as it was written.
  The law's Book: owned: all lists that were gathered are their owner's.
  The law's Book: one list more, noted. No walk.
  The law's Book: two lists noted at once. No walk.
  The law's Book: gatherReply: all lists of a reply that came out, and those within.
-/
import Derived.Test.YtpccaodkgboefaaGreatDoorMMsG
import Derived.Test.YtpccaodkgboefaaGreatDoorMShaA
import Derived.Test.YtpccaodkgboefaaGreatDoorMMsA
import Derived.Test.YtpccaodkgboefaaGreatDoorMsRepM
import Derived.Test.YtpccaodkgboefaaGreatDoorMsReadC
import Derived.Test.YtpccaodkgboefaaGreatDoorMsOwn
namespace Go.Proofs.YtpccaodkgboefaaGreatDoor
open Go.RowKit

/-- the first cells of a block stay -/
def Front (w w' : World) (g m : Nat) : Prop := ∀ cur e, w.heap[g]? = some (.cells cur e (0, 0)) → ∃ cur', w'.heap[g]? = some (.cells cur' e (0, 0)) ∧ cur'.size = cur.size ∧ cur'.toList.take m = cur.toList.take m
theorem Front.of_eq {w w' : World} {g : Nat} (h : w'.heap[g]? = w.heap[g]?) (m : Nat) : Front w w' g m := fun cur _ hc => ⟨cur, h.trans hc, rfl, rfl⟩
theorem Front.le {w w' : World} {g m n : Nat} (h : Front w w' g m) (hn : n ≤ m) : Front w w' g n := fun cur e hc => by
  obtain ⟨cur', h1, h2, h3⟩ := h cur e hc
  refine ⟨cur', h1, h2, ?_⟩
  have := congrArg (List.take n) h3
  rwa [List.take_take, List.take_take, Nat.min_eq_left hn] at this
theorem ownsRow_front {w w' : World} {base size n : Nat} {e : TypeId} {v : Value} {xs : List Value} (h : w.ownsRow base e size v n xs) (hf : ∀ g, v.ownBlock = some g → Front w w' g (n * size)) : w'.ownsRow base e size v n xs := by
  refine ⟨h.1, ?_⟩
  rcases h.2 with h2 | ⟨g, cap, cur, rfl, hb, hg, h1, h2, h3, h4⟩
  · exact .inl h2
  · obtain ⟨cur', q1, q2, q3⟩ := hf g rfl cur e hg
    exact .inr ⟨g, cap, cur', rfl, hb, q1, h1, h2, by omega, q3.trans h4⟩

theorem append_front {P : Program} (w : World) (t tx ty e : TypeId) (i : TypeInfo) (z : Value) (size bytes : Nat) (ht : P.underlying t = some (.slice e)) (hi : P.info? e = some i) (hz : i.zero = some z)
    (hsize : i.size = size) (hby : i.bytes = bytes) (hzs : z.cells.size = size) (hsz : 0 < size)
    (v : Value) (n : Nat) (xs : List Value) (hown : w.ownsRow 0 e size v n xs) (x : Value) (m : Nat) (news : List Value) (hs : Src P size tx x m news w)
    (h63 : n + m ≤ maxLen) (hbytes : (n + m) * bytes ≤ 140737488355328) :
    ∃ v' w', (Builtin.append_ #[t, tx] ty #[v, x]).run P w = .ok v' w' ∧ Appended e size w w' v v' (n + m) (xs ++ news) ∧ ∀ g, Front w w' g (if v.ownBlock = some g then n * size else 0) := by
  obtain ⟨v', w', hr, ha, hnil⟩ := run_append_row (P := P) w t tx ty e i z size bytes ht hi hz hsize hby hzs hsz v n xs hown x m news hs h63 hbytes
  refine ⟨v', w', hr, ha, fun g => ?_⟩
  by_cases hg : v.ownBlock = some g
  · rw [if_pos hg]
    rcases hown.2 with ⟨rfl, h0⟩ | ⟨g', cap, cur, rfl, hbg, hg', hnc, hcm, hcs, htake⟩
    · cases hg
    · simp [Value.ownBlock] at hg
      subst hg
      intro c0 e0 hc0
      rw [hg'] at hc0
      simp only [Option.some.injEq, Obj.cells.injEq, and_true] at hc0
      obtain ⟨rfl, rfl⟩ := hc0
      subst hsize
      by_cases hroom : n + m ≤ cap
      · have hfit : n * i.size + news.length ≤ cur.size := by rw [hs.newsLen, hcs, ← Nat.add_mul]; exact Nat.mul_le_mul_right _ hroom
        have hr2 := run_append_room_src (P := P) w t tx ty e i ht hi g' 0 n cap x m news hs hroom
          (fun j hj => by rw [cell_at hg']; simp; omega) (fun j _ => free_at hg' _)
        rw [hr2] at hr
        injection hr with hr1 hr2
        subst hr2
        obtain ⟨cur', h1, h2, h3⟩ := setCells_at g' e news (0 + n * i.size) w cur hg' (by omega)
        refine ⟨cur', h1, h2, ?_⟩
        have := congrArg (List.take (n * i.size)) h3
        rw [List.take_take, Nat.min_eq_left (by omega), List.take_append_of_le_length (by simp; omega), List.take_take, Nat.min_eq_left (by omega)] at this
        exact this
      · have hsmall : ((n + m : Nat) : Int) ≤ 9223372036854775807 := by simp only [maxLen] at h63; omega
        have hr2 := run_append_grow_src (P := P) w t tx ty e i z ht hi hz (some ⟨g', 0, none⟩) n cap xs (firstCells_own hown) x m news hs (by omega) hsmall (growslice_fits (by omega) (by rw [hby]; exact hbytes))
        rw [hr2] at hr
        injection hr with hr1 hr2
        subst hr2
        refine ⟨cur, ?_, rfl, rfl⟩
        rw [Below.heap_alloc _ _ _ (by exact lt_of_block hg')]
        exact hg'
  · rw [if_neg hg]
    by_cases hlt : g < w.heap.size
    · exact Front.of_eq (ha.keeps.block g hlt hg) 0
    · intro cur e0 hc
      exact absurd (lt_of_block hc) hlt

/-- what a row is behind an append of one thing -/
structure Grown (e : TypeId) (size : Nat) (w w' : World) (v v' : Value) (n : Nat) (xs us : List Value) : Prop where
  app : Appended e size w w' v v' (n + 1) (xs ++ us)
  front : ∀ g, Front w w' g (if v.ownBlock = some g then n * size else 0)

theorem wpList_growN {P : Program} {ops : Array Oper} {rest : List Oper} {o : Oper} {a : Act} {Q : Exit → Act → World → Prop} (hgd : o.guard = none) (s x : Operand) (t : TypeId)
    (ho : o.op = .call { callee := .builtin .append, args := #[s, x], argTypes := #[t, t] })
    (e : TypeId) (i : TypeInfo) (z : Value) (size bytes : Nat) (ht : P.underlying t = some (.slice e)) (hi : P.info? e = some i) (hz : i.zero = some z) (hsize : i.size = size) (hby : i.bytes = bytes) (hzs : z.cells.size = size) (hsz : 0 < size)
    {v : Value} {n : Nat} {xs : List Value} (w0 : World) (hown : w0.ownsRow 0 e size v n xs) (us : Array Value) (hul : us.size = size) (hs : a.eval s = v) (hx : a.eval x = .slice (some ⟨w0.heap.size, 0, none⟩) 1 1) (hone : ∀ u ∈ us.toList, u.oneCell' = true)
    (hb : (n + 1) * bytes ≤ 140737488355328) (hn : n + 1 ≤ maxLen)
    (h : ∀ v' w', Grown e size w0 w' v v' n xs us.toList → wpList P ops Q rest (a.put o.dst v') w') : wpList P ops Q (o :: rest) a (w0.alloc (.cells us e)) := by
  refine wpList_plain hgd fun K hK => ?_
  have hnew := heap_alloc_new w0 (.cells us e)
  have hsrc : Src P size t (.slice (some ⟨w0.heap.size, 0, none⟩) 1 1) 1 us.toList (w0.alloc (.cells us e)) := Src.ofSlice _ ht _ 1 1 us.toList (by simp; omega) (fun j y hj => by
    rw [addr_add0, cell_at hnew]
    simpa using hj) (fun y hy => hone y hy)
  obtain ⟨v', w', hr, ⟨h1, h2, h3⟩, h4⟩ := append_front (P := P) (w0.alloc (.cells us e)) t t o.type e i z size bytes ht hi hz hsize hby hzs hsz v n xs (hown.alloc _) _ 1 us.toList hsrc hn hb
  unfold Oper.wp
  simp [execOp, ho, resolve, invoke, builtin, hs, hx, hr, Result.andThen]
  refine hK _ _ (h v' w' ⟨⟨h1, ((Keeps.refl _ w0).alloc _).trans h2, fun g hg => ?_⟩, fun g cur e0 hc => ?_⟩)
  · rcases h3 g hg with h | h
    · exact .inl h
    · have := h.1; simp at this; exact .inr ⟨by omega, h.2⟩
  · exact h4 g cur e0 ((Below.heap_alloc _ _ _ (lt_of_block hc)).trans hc)

/-- so many times the same cells -/
def reps : Nat → List Value → List Value
  | 0, _ => []
  | k + 1, us => reps k us ++ us
theorem reps_len (us : List Value) : ∀ k, (reps k us).length = k * us.length
  | 0 => by simp [reps]
  | k + 1 => by rw [reps, List.length_append, reps_len us k, Nat.succ_mul]
theorem reps_get (us : List Value) : ∀ (k j i : Nat), j < k → i < us.length → (reps k us)[j * us.length + i]? = us[i]?
  | 0, j, i, h, _ => by omega
  | k + 1, j, i, h, hi => by
    rw [reps]
    by_cases hj : j < k
    · rw [List.getElem?_append_left (by
        rw [reps_len]
        have : (j + 1) * us.length ≤ k * us.length := Nat.mul_le_mul_right _ (by omega)
        rw [Nat.add_mul] at this
        omega)]
      exact reps_get us k j i hj hi
    · obtain rfl : j = k := by omega
      rw [List.getElem?_append_right (by rw [reps_len]; omega), reps_len, Nat.add_sub_cancel_left]

/-- a row of n's, k times us; c: whose a block is -/
def RowOf (c : Nat → Nat) (w : World) (e : TypeId) (size : Nat) (us : List Value) (n : Nat) (v : Value) (k : Nat) : Prop := w.ownsRow 0 e size v k (reps k us) ∧ ∀ g, v.ownBlock = some g → c g = n
theorem RowOf.keeps {S : Nat → Prop} {c c' : Nat → Nat} {w w' : World} {e : TypeId} {size : Nat} {us : List Value} {n k : Nat} {v : Value} (h : RowOf c w e size us n v k) (hk : Keeps S w w') (hS : ∀ g, S g → g < w.heap.size → c g ≠ n) (hc : ∀ g, g < w.heap.size → c' g = c g) : RowOf c' w' e size us n v k :=
  ⟨ownsRow_keeps h.1 hk fun g hg hs => hS g hs (h.1.lt g hg).2 (h.2 g hg), fun g hg => by rw [hc g (h.1.lt g hg).2]; exact h.2 g hg⟩

/-- the rows, and what they grew to: A, each of K's; below n all are done. T: the cells' blocks that may have turned since w0 -/
structure Herd (c : Nat → Nat) (w0 : World) (e : TypeId) (size : Nat) (T : TypeId) (U : Nat → List Value) (K : Nat → Nat) (N n : Nat) (X A : List Value) (av : Value) (M0 M : Nat) (w : World) : Prop where
  all : w.ownsRow 0 T 1 av A.length A
  allc : ∀ g, av.ownBlock = some g → c g = N ∧ w0.heap.size ≤ g
  grown : ∀ m v, A[m]? = some v → ∃ k, k ≤ M ∧ RowOf c w e size (U (K m)) (K m) v k ∧ K m < n
  rest : ∀ j v, n ≤ j → X[j]? = some v → ∃ k, k ≤ M0 ∧ RowOf c w e size (U j) j v k
  keeps : Keeps (fun g => c g < N) w0 w
  num : X.length = N
/-- one of them grows, to so many so far -/
structure Growing (c : Nat → Nat) (w0 : World) (e : TypeId) (size : Nat) (T : TypeId) (U : Nat → List Value) (K : Nat → Nat) (N n : Nat) (X A : List Value) (av xv : Value) (L M0 M : Nat) (w : World) : Prop where
  all : w.ownsRow 0 T 1 av A.length A
  allc : ∀ g, av.ownBlock = some g → c g = N ∧ w0.heap.size ≤ g
  grown : ∀ m v, A[m]? = some v → ∃ k, k ≤ M ∧ RowOf c w e size (U (K m)) (K m) v k ∧ K m ≤ n ∧ (K m = n → k ≤ L)
  x : RowOf c w e size (U n) n xv L
  lt : n < N
  rest : ∀ j v, n < j → X[j]? = some v → ∃ k, k ≤ M0 ∧ RowOf c w e size (U j) j v k
  keeps : Keeps (fun g => c g < N) w0 w
  num : X.length = N
section
variable {c : Nat → Nat} {w0 w w' : World} {e T : TypeId} {size : Nat} {U : Nat → List Value} {K : Nat → Nat} {N n L M0 M : Nat} {X A : List Value} {av xv av' xv' : Value}
theorem Herd.begin (h : Herd c w0 e size T U K N n X A av M0 M w) (hx : X[n]? = some xv) : ∃ L, L ≤ M0 ∧ Growing c w0 e size T U K N n X A av xv L M0 M w := by
  obtain ⟨k, hk, hr⟩ := h.rest n xv (Nat.le_refl _) hx
  refine ⟨k, hk, h.all, h.allc, fun m v hv => ?_, hr, by have := (List.getElem?_eq_some_iff.1 hx).1; have := h.num; omega, fun j v hj hv => h.rest j v (by omega) hv, h.keeps, h.num⟩
  obtain ⟨k', h1, h2, h3⟩ := h.grown m v hv
  exact ⟨k', h1, h2, by omega, fun h => by omega⟩
theorem Herd.most {M' : Nat} (h : Herd c w0 e size T U K N n X A av M0 M w) (hM : M ≤ M') : Herd c w0 e size T U K N n X A av M0 M' w :=
  ⟨h.all, h.allc, fun m v hv => by
    obtain ⟨k, h1, h2⟩ := h.grown m v hv
    exact ⟨k, by omega, h2⟩, h.rest, h.keeps, h.num⟩
theorem Growing.fin (h : Growing c w0 e size T U K N n X A av xv L M0 M w) : Herd c w0 e size T U K N (n + 1) X A av M0 M w :=
  ⟨h.all, h.allc, fun m v hv => by
    obtain ⟨k', h1, h2, h3, -⟩ := h.grown m v hv
    exact ⟨k', h1, h2, by omega⟩, fun j v hj hv => h.rest j v (by omega) hv, h.keeps, h.num⟩
/-- nothing of theirs turned: something was made -/
theorem Growing.fresh (h : Growing c w0 e size T U K N n X A av xv L M0 M w) (f : Fresh w w') : Growing c w0 e size T U K N n X A av xv L M0 M w' :=
  ⟨ownsRow_keeps h.all f fun _ _ h => h, h.allc, fun m v hv => by
    obtain ⟨k', h1, h2, h3⟩ := h.grown m v hv
    exact ⟨k', h1, h2.keeps f (fun _ h => h.elim) (fun _ _ => rfl), h3⟩, h.x.keeps f (fun _ h => h.elim) (fun _ _ => rfl), h.lt, fun j v hj hv => by
    obtain ⟨k, h1, h2⟩ := h.rest j v hj hv
    exact ⟨k, h1, h2.keeps f (fun _ h => h.elim) (fun _ _ => rfl)⟩, h.keeps.trans (f.mono fun _ _ h => h.elim), h.num⟩
theorem Herd.fresh (h : Herd c w0 e size T U K N n X A av M0 M w) (f : Fresh w w') : Herd c w0 e size T U K N n X A av M0 M w' :=
  ⟨ownsRow_keeps h.all f fun _ _ h => h, h.allc, fun m v hv => by
    obtain ⟨k', h1, h2, h3⟩ := h.grown m v hv
    exact ⟨k', h1, h2.keeps f (fun _ h => h.elim) (fun _ _ => rfl), h3⟩, fun j v hj hv => by
    obtain ⟨k, h1, h2⟩ := h.rest j v hj hv
    exact ⟨k, h1, h2.keeps f (fun _ h => h.elim) (fun _ _ => rfl)⟩, h.keeps.trans (f.mono fun _ _ h => h.elim), h.num⟩
/-- it is noted as it is now -/
theorem Growing.note (h : Growing c w0 e size T U K N n X A av xv L M0 M w) (hK : K A.length = n) (hL : L ≤ M) (ha : Appended T 1 w w' av av' (A.length + 1) (A ++ [xv])) :
    ∃ c', (∀ g, g < w0.heap.size → c' g = c g) ∧ Growing c' w0 e size T U K N n X (A ++ [xv]) av' xv L M0 M w' := by
  have hsz := h.keeps.size
  have hcc : ∀ g, g < w.heap.size → (if g < w.heap.size then c g else N) = c g := fun g hg => if_pos hg
  have kp : ∀ {us : List Value} {j k : Nat} {v : Value}, j < N → RowOf c w e size us j v k → RowOf (fun g => if g < w.heap.size then c g else N) w' e size us j v k := fun hj hr => hr.keeps ha.keeps (fun g hg _ => by have := (h.allc g hg).1; omega) hcc
  refine ⟨fun g => if g < w.heap.size then c g else N, fun g hg => if_pos (by omega), by rw [List.length_append]; exact ha.row, fun g hg => ?_, fun m v hv => ?_, kp h.lt h.x, h.lt, fun j v hj hv => ?_, ?_, h.num⟩
  · rcases ha.own g hg with q | q
    · have h1 := h.allc g q
      have h2 := (h.all.lt g q).2
      exact ⟨by simp only [if_pos h2]; exact h1.1, h1.2⟩
    · exact ⟨if_neg (by omega), by omega⟩
  · by_cases hm : m < A.length
    · rw [List.getElem?_append_left hm] at hv
      obtain ⟨k', h1, h2, h3, h4⟩ := h.grown m v hv
      exact ⟨k', h1, kp (by have := h.lt; omega) h2, h3, h4⟩
    · have hm2 : m = A.length := by have := (List.getElem?_eq_some_iff.1 hv).1; simp at this; omega
      subst hm2
      simp at hv
      subst hv
      rw [hK]
      exact ⟨L, hL, kp h.lt h.x, Nat.le_refl _, fun _ => Nat.le_refl _⟩
  · obtain ⟨k', h1, h2⟩ := h.rest j v hj hv
    have := (List.getElem?_eq_some_iff.1 hv).1
    have := h.num
    exact ⟨k', h1, kp (by omega) h2⟩
  · refine (h.keeps.mono fun g hg hc => ?_).trans' ha.keeps fun g hg hq => ?_
    · rw [if_pos (by omega)]; exact hc
    · have := (h.allc g hq).2; omega
/-- it grows by one -/
theorem Growing.grow (h : Growing c w0 e size T U K N n X A av xv L M0 M w) (ha : Grown e size w w' xv xv' L (reps L (U n)) (U n)) :
    ∃ c', (∀ g, g < w0.heap.size → c' g = c g) ∧ Growing c' w0 e size T U K N n X A av xv' (L + 1) M0 M w' := by
  have hsz := h.keeps.size
  have hlt := h.lt
  have hcc : ∀ g, g < w.heap.size → (if g < w.heap.size then c g else n) = c g := fun g hg => if_pos hg
  have kp : ∀ {us : List Value} {j k : Nat} {v : Value}, (j ≠ n ∨ k ≤ L) → RowOf c w e size us j v k → RowOf (fun g => if g < w.heap.size then c g else n) w' e size us j v k := fun hj hr => by
    refine ⟨ownsRow_front hr.1 fun g hg => ?_, fun g hg => by simp only [if_pos (hr.1.lt g hg).2]; exact hr.2 g hg⟩
    by_cases hq : xv.ownBlock = some g
    · have h1 := h.x.2 g hq
      have h2 := hr.2 g hg
      have := ha.front g
      rw [if_pos hq] at this
      exact this.le (Nat.mul_le_mul_right _ (by omega))
    · exact Front.of_eq (ha.app.keeps.block g (hr.1.lt g hg).2 hq) _
  refine ⟨fun g => if g < w.heap.size then c g else n, fun g hg => if_pos (by omega), ?_, fun g hg => ?_, fun m v hv => ?_, ⟨ha.app.row, fun g hg => ?_⟩, h.lt, fun j v hj hv => ?_, ?_, h.num⟩
  · refine ownsRow_keeps h.all ha.app.keeps fun g hg hq => ?_
    have h1 := (h.allc g hg).1
    have h2 := h.x.2 g hq
    omega
  · simp only [if_pos (h.all.lt g hg).2]
    exact h.allc g hg
  · obtain ⟨k', h1, h2, h3, h4⟩ := h.grown m v hv
    refine ⟨k', h1, kp ?_ h2, h3, fun q => by have := h4 q; omega⟩
    by_cases hq : K m = n
    · exact .inr (h4 hq)
    · exact .inl hq
  · rcases ha.app.own g hg with q | q
    · simp only [if_pos (h.x.1.lt g q).2]
      exact h.x.2 g q
    · exact if_neg (by omega)
  · obtain ⟨k', h1, h2⟩ := h.rest j v hj hv
    exact ⟨k', h1, kp (.inl (by omega)) h2⟩
  · refine (h.keeps.mono fun g hg hc => ?_).trans' ha.app.keeps fun g hg hq => ?_
    · rw [if_pos (by omega)]; exact hc
    · rw [if_pos (by omega), h.x.2 g hq]; exact hlt
end

/-- rows that are marked, one by one: below n they are -/
structure Flock (c : Nat → Nat) (w0 : World) (e : TypeId) (size : Nat) (U : Nat → List Value) (n : Nat) (X : List Value) (M : Nat) (w : World) : Prop where
  done : ∀ j v, j < n → X[j]? = some v → ∃ k, k ≤ M ∧ RowOf c w e size (U j) j v k
  todo : ∀ j v, n ≤ j → X[j]? = some v → ∃ k xs, k ≤ M ∧ w.ownsRow 0 e size v k xs ∧ ∀ g, v.ownBlock = some g → c g = j
  keeps : Keeps (fun g => c g < X.length) w0 w
/-- the n-th, marked up to i -/
def Half (w : World) (e : TypeId) (size : Nat) (us : List Value) (v : Value) (k i : Nat) : Prop := ∃ ys, w.ownsRow 0 e size v k (reps i us ++ ys) ∧ i ≤ k
section
variable {c : Nat → Nat} {w0 w w' : World} {e T : TypeId} {size : Nat} {U : Nat → List Value} {n k M : Nat} {X : List Value} {v : Value}
theorem Flock.begin (h : Flock c w0 e size U n X M w) (hx : X[n]? = some v) : ∃ k, k ≤ M ∧ Half w e size (U n) v k 0 := by
  obtain ⟨k, xs, h1, h2, h3⟩ := h.todo n v (Nat.le_refl _) hx
  exact ⟨k, h1, xs, h2, Nat.zero_le _⟩
/-- the n-th one's block turned -/
theorem Flock.turn (h : Flock c w0 e size U n X M w) (hx : X[n]? = some v) (hk : Keeps (fun g => v.ownBlock = some g) w w') {i : Nat} (hh : Half w' e size (U n) v k i) (hkM : k ≤ M) : Flock c w0 e size U n X M w' := by
  obtain ⟨k0, xs, h1, h2, h3⟩ := h.todo n v (Nat.le_refl _) hx
  have hn := (List.getElem?_eq_some_iff.1 hx).1
  refine ⟨fun j u hj hu => ?_, fun j u hj hu => ?_, h.keeps.trans' hk fun g _ hg => by rw [h3 g hg]; exact hn⟩
  · obtain ⟨k', g1, g2⟩ := h.done j u hj hu
    exact ⟨k', g1, g2.keeps hk (fun g hg _ => by rw [h3 g hg]; omega) fun _ _ => rfl⟩
  · by_cases hjn : j = n
    · subst hjn
      rw [hx] at hu
      injection hu with hu
      subst hu
      obtain ⟨ys, q1, q2⟩ := hh
      exact ⟨k, _, hkM, q1, h3⟩
    · obtain ⟨k', ys, g1, g2, g3⟩ := h.todo j u hj hu
      exact ⟨k', ys, g1, ownsRow_keeps g2 hk fun g hg hq => by have := g3 g hg; have := h3 g hq; omega, g3⟩
theorem Flock.next (h : Flock c w0 e size U n X M w) (hx : X[n]? = some v) (hh : Half w e size (U n) v k k) (hkM : k ≤ M) (hU : (U n).length = size) : Flock c w0 e size U (n + 1) X M w := by
  obtain ⟨k0, xs, h1, h2, h3⟩ := h.todo n v (Nat.le_refl _) hx
  refine ⟨fun j u hj hu => ?_, fun j u hj hu => h.todo j u (by omega) hu, h.keeps⟩
  by_cases hjn : j = n
  · subst hjn
    rw [hx] at hu
    injection hu with hu
    subst hu
    obtain ⟨ys, q1, q2⟩ := hh
    have : ys = [] := by
      have := q1.1
      rw [List.length_append, reps_len, hU] at this
      exact List.eq_nil_of_length_eq_zero (by omega)
    subst this
    rw [List.append_nil] at q1
    exact ⟨k, hkM, q1, h3⟩
  · exact h.done j u (by omega) hu
theorem Flock.fresh (h : Flock c w0 e size U n X M w) (f : Fresh w w') : Flock c w0 e size U n X M w' :=
  ⟨fun j v hj hv => by
    obtain ⟨k, h1, h2⟩ := h.done j v hj hv
    exact ⟨k, h1, h2.keeps f (fun _ h => h.elim) (fun _ _ => rfl)⟩, fun j v hj hv => by
    obtain ⟨k, xs, h1, h2, h3⟩ := h.todo j v hj hv
    exact ⟨k, xs, h1, ownsRow_keeps h2 f fun _ _ h => h, h3⟩, h.keeps.trans (f.mono fun _ _ h => h.elim)⟩
theorem Half.fresh {us : List Value} {i : Nat} (h : Half w e size us v k i) (f : Fresh w w') : Half w' e size us v k i := by
  obtain ⟨ys, h1, h2⟩ := h
  exact ⟨ys, ownsRow_keeps h1 f fun _ _ h => h, h2⟩
theorem Flock.herd (h : Flock c w0 e size U X.length X M w) (K : Nat → Nat) : Herd c w0 e size T U K X.length 0 X [] (.slice none 0 0) M M w :=
  ⟨World.ownsRow_nil _ _ _ _, (fun _ h => nomatch h), fun m v hv => by simp at hv, fun j v hj hv => h.done j v ((List.getElem?_eq_some_iff.1 hv).1) hv, h.keeps, rfl⟩
/-- rows of blocks of their own -/
theorem Flock.start (hr : ∀ (j : Nat) (v : Value), X[j]? = some v → ∃ k xs, k ≤ M ∧ w.ownsRow 0 e size v k xs) (hd : ∀ (i j : Nat) (u v : Value) g, X[i]? = some u → X[j]? = some v → u.ownBlock = some g → v.ownBlock = some g → i = j) :
    ∃ c : Nat → Nat, Flock c w e size U 0 X M w ∧ ∀ g, c g < X.length → ∃ v, v ∈ X ∧ v.ownBlock = some g := by
  refine ⟨fun g => X.findIdx (fun v => v.ownBlock == some g), ⟨fun j v hj _ => by omega, fun j v _ hv => ?_, Keeps.refl _ _⟩, fun g hg => ?_⟩
  · obtain ⟨k, xs, h1, h2⟩ := hr j v hv
    refine ⟨k, xs, h1, h2, fun g hg => ?_⟩
    obtain ⟨hj, hjv⟩ := List.getElem?_eq_some_iff.1 hv
    have hlt : X.findIdx (fun v => v.ownBlock == some g) < X.length := List.findIdx_lt_length_of_exists ⟨v, List.mem_of_getElem? hv, beq_iff_eq.2 hg⟩
    have hp := List.findIdx_getElem (p := fun v : Value => v.ownBlock == some g) (w := hlt)
    exact hd _ _ _ _ g (List.getElem?_eq_getElem hlt) hv (by simpa using hp) hg
  · have hp := List.findIdx_getElem (p := fun v : Value => v.ownBlock == some g) (w := hg)
    exact ⟨_, List.getElem_mem hg, by simpa using hp⟩
end
/-- one cell of one thing is written -/
theorem Half.put1 {w : World} {e : TypeId} {u : Value} {g n cap i : Nat} (h : Half w e 1 [u] (.slice (some ⟨g, 0, none⟩) n cap) n i) (hi : i < n) : Half (w.setCell ⟨g, i, none⟩ u) e 1 [u] (.slice (some ⟨g, 0, none⟩) n cap) n (i + 1) := by
  obtain ⟨ys, h1, h2⟩ := h
  have hl := h1.1
  rw [List.length_append, reps_len] at hl
  simp at hl
  obtain ⟨y, ys, rfl⟩ : ∃ y zs, ys = y :: zs := by
    cases ys with
    | nil => simp at hl; omega
    | cons y zs => exact ⟨y, zs, rfl⟩
  refine ⟨ys, ?_, hi⟩
  have := ownsRow_put h1 i u (by simp only [List.length_append, reps_len, List.length_cons, List.length_nil]; omega)
  rw [List.set_append_right _ _ (by simp [reps_len])] at this
  simp only [reps_len, List.length_singleton, Nat.mul_one, Nat.sub_self, List.set_cons_zero] at this
  rw [reps, List.append_assoc]
  exact this
/-- some cells of a row are written, one behind the other -/
theorem ownsRow_puts {base : Nat} {e : TypeId} {size n cap g : Nat} : ∀ (us : List Value) (w : World) (xs : List Value) (o : Nat), w.ownsRow base e size (.slice (some ⟨g, 0, none⟩) n cap) n xs → o + us.length ≤ xs.length →
    (w.setCells g o us).ownsRow base e size (.slice (some ⟨g, 0, none⟩) n cap) n (xs.take o ++ us ++ xs.drop (o + us.length))
  | [], w, xs, o, h, _ => by simpa [World.setCells] using h
  | u :: us, w, xs, o, h, hl => by
    rw [List.length_cons] at hl
    have h1 := ownsRow_put h o u (by omega)
    have h2 := ownsRow_puts us _ _ (o + 1) h1 (by rw [List.length_set]; omega)
    rw [World.setCells]
    have e1 : (xs.set o u).take (o + 1) = xs.take o ++ [u] := by
      rw [List.take_succ_eq_append_getElem (by rw [List.length_set]; omega)]
      simp [List.take_set_of_le]
    have e2 : (xs.set o u).drop (o + 1 + us.length) = xs.drop (o + 1 + us.length) := by
      rw [List.drop_set_of_lt (by omega)]
    rw [e1, e2] at h2
    have e3 : xs.take o ++ [u] ++ us ++ xs.drop (o + 1 + us.length) = xs.take o ++ u :: us ++ xs.drop (o + (u :: us).length) := by
      rw [List.length_cons, show o + (us.length + 1) = o + 1 + us.length by omega]
      simp
    rw [e3] at h2
    exact h2
theorem Half.puts {w : World} {e : TypeId} {us : List Value} {g n cap i size : Nat} (h : Half w e size us (.slice (some ⟨g, 0, none⟩) n cap) n i) (hu : us.length = size) (hi : i < n) : Half (w.setCells g (i * size) us) e size us (.slice (some ⟨g, 0, none⟩) n cap) n (i + 1) := by
  obtain ⟨ys, h1, h2⟩ := h
  have hl := h1.1
  have hr := reps_len us i
  rw [hu] at hr
  have hm : (i + 1) * size ≤ n * size := Nat.mul_le_mul_right _ hi
  rw [Nat.succ_mul] at hm
  have := ownsRow_puts us w _ (i * size) h1 (by omega)
  rw [List.take_left' hr] at this
  refine ⟨(reps i us ++ ys).drop (i * size + us.length), ?_, hi⟩
  rw [reps]
  exact this
/-- rows, each full of one thing, in a list; none of their blocks is of Q -/
structure Ranks (Q : Nat → Prop) (w : World) (e : TypeId) (size : Nat) (T : TypeId) (U : Nat → List Value) (K : Nat → Nat) (A : List Value) (av : Value) (M : Nat) : Prop where
  all : w.ownsRow 0 T 1 av A.length A
  alln : ∀ g, av.ownBlock = some g → ¬ Q g
  rows : ∀ m v, A[m]? = some v → ∃ k, k ≤ M ∧ w.ownsRow 0 e size v k (reps k (U (K m))) ∧ ∀ g, v.ownBlock = some g → ¬ Q g
theorem Ranks.keeps {Q Q' : Nat → Prop} {w w' : World} {e T : TypeId} {size : Nat} {U : Nat → List Value} {K : Nat → Nat} {A : List Value} {av : Value} {M : Nat} (h : Ranks Q w e size T U K A av M) (k : Keeps Q' w w') (hQ : ∀ q, q < w.heap.size → Q' q → Q q) : Ranks Q w' e size T U K A av M :=
  ⟨ownsRow_keeps h.all k fun g hg hq => h.alln g hg (hQ g (h.all.lt g hg).2 hq), h.alln, fun m v hv => by
    obtain ⟨k', h1, h2, h3⟩ := h.rows m v hv
    exact ⟨k', h1, ownsRow_keeps h2 k fun g hg hq => h3 g hg (hQ g (h2.lt g hg).2 hq), h3⟩⟩
theorem Ranks.fresh {Q : Nat → Prop} {w w' : World} {e T : TypeId} {size : Nat} {U : Nat → List Value} {K : Nat → Nat} {A : List Value} {av : Value} {M : Nat} (h : Ranks Q w e size T U K A av M) (f : Fresh w w') : Ranks Q w' e size T U K A av M := h.keeps f fun _ _ h => h.elim
theorem Herd.ranks {c : Nat → Nat} {w0 w : World} {e T : TypeId} {size : Nat} {U : Nat → List Value} {K : Nat → Nat} {N n M0 M : Nat} {X A : List Value} {av : Value} (h : Herd c w0 e size T U K N n X A av M0 M w) (hn : n ≤ N) (Q : Nat → Prop) (hQ : ∀ q, Q q → q < w0.heap.size ∧ ¬ c q < N) : Ranks Q w e size T U K A av M :=
  ⟨h.all, fun g hg hq => by have := (hQ g hq).1; have := (h.allc g hg).2; omega, fun m v hv => by
    obtain ⟨k, h1, h2, h3⟩ := h.grown m v hv
    exact ⟨k, h1, h2.1, fun g hg hq => (hQ g hq).2 (by rw [h2.2 g hg]; omega)⟩⟩
/-- marked all, and others turned -/
theorem Flock.again {c : Nat → Nat} {w0 w w' : World} {e : TypeId} {size : Nat} {U : Nat → List Value} {M : Nat} {X : List Value} {Q : Nat → Prop} (T : TypeId) (K : Nat → Nat) (h : Flock c w0 e size U X.length X M w) (k : Keeps Q w w') (hQ : ∀ q, Q q → ¬ c q < X.length) : Herd c w' e size T U K X.length 0 X [] (.slice none 0 0) M M w' :=
  ⟨World.ownsRow_nil _ _ _ _, (fun _ h => nomatch h), fun m v hv => by simp at hv, fun j v hj hv => by
    have hlt := (List.getElem?_eq_some_iff.1 hv).1
    obtain ⟨k', h1, h2⟩ := h.done j v hlt hv
    exact ⟨k', h1, h2.keeps k (fun g hg _ hcg => hQ g hg (by rw [hcg]; exact hlt)) fun _ _ => rfl⟩, Keeps.refl _ _, rfl⟩
end Go.Proofs.YtpccaodkgboefaaGreatDoor

namespace Go.Proofs.YtpccaodkgboefaaGreatDoor
open Go.RowKit

def elT : Fin 4 → TypeId
  | 0 => 3
  | 1 => 9
  | 2 => 26
  | 3 => 48
structure GBookV (S : Nat → Prop) (w : World) (b : Nat) (v : Fin 4 → Value) (X : Fin 4 → List Value) : Prop where
  glob : 1 ≤ b
  at_ : w.heap[b]? = some (.cells #[v 0, v 1, v 2, v 3] 34 (0, 0))
  sb : S b
  live : ∀ q, S q → q < w.heap.size
  row : ∀ i, w.ownsRow 0 (bkT i) 1 (v i) (X i).length (X i)
  own : ∀ i g, (v i).ownBlock = some g → S g ∧ g ≠ b
  apart : ∀ i j g, i ≠ j → (v i).ownBlock = some g → (v j).ownBlock ≠ some g
theorem GBookV.keeps {S K : Nat → Prop} {w w' : World} {b : Nat} {v : Fin 4 → Value} {X : Fin 4 → List Value} (h : GBookV S w b v X) (f : Keeps K w w') (hS : ∀ q, K q → ¬ S q) : GBookV S w' b v X :=
  ⟨h.glob, f.at_ h.at_ (fun e => hS b e h.sb), h.sb, fun q hq => Nat.lt_of_lt_of_le (h.live q hq) f.size, fun i => ownsRow_keeps (h.row i) f (fun g hg e => hS g e (h.own i g hg).1), h.own, h.apart⟩
/-- a list was noted: it lies at the end of its kind's lists, stored or not yet -/
theorem GBookV.push {S : Nat → Prop} {w w' : World} {b : Nat} {v : Fin 4 → Value} {X : Fin 4 → List Value} (h : GBookV S w b v X) (i : Fin 4) {v' : Value} {n : Nat} {Y : List Value} (hn : n = Y.length) (ha : Appended (bkT i) 1 w w' (v i) v' n Y) :
    ∃ S', Grows S S' w (w'.setCell ⟨b, i.val, none⟩ v') ∧ Keeps S w (w'.setCell ⟨b, i.val, none⟩ v') ∧ GBookV S' (w'.setCell ⟨b, i.val, none⟩ v') b (upd v i v') (upd X i Y) := by
  subst hn
  have k1 : Keeps S w w' := Keeps.trans' (S := S) (Keeps.refl _ _) ha.keeps fun q _ hq => (h.own i q hq).1
  have k2 : Keeps S w (w'.setCell ⟨b, i.val, none⟩ v') := k1.setCell (p := ⟨b, i.val, none⟩) (fun _ => h.sb) _
  have hbv' : v'.ownBlock ≠ some b := fun e => by
    rcases ha.own b e with q | q
    · exact (h.own i b q).2 rfl
    · have := h.live b h.sb; omega
  have hgr : Grows S (fun q => S q ∨ v'.ownBlock = some q) w (w'.setCell ⟨b, i.val, none⟩ v') := fun q hq => by
    rcases hq with q1 | q1
    · exact .inl q1
    · rcases ha.own q q1 with q2 | q2
      · exact .inl (h.own i q q2).1
      · exact .inr ⟨q2.1, by simpa using q2.2⟩
  have hb1 : w'.heap[b]? = some (.cells #[v 0, v 1, v 2, v 3] 34 (0, 0)) := ha.keeps.at_ h.at_ (fun q => (h.own i b q).2 rfl)
  refine ⟨fun q => S q ∨ v'.ownBlock = some q, hgr, k2, h.glob, ?_, .inl h.sb, ?_, ?_, ?_, ?_⟩
  · rw [heap_setCell_at hb1, upd_arr]
  · intro q hq
    rcases hq with q1 | q1
    · exact Nat.lt_of_lt_of_le (h.live q q1) k2.size
    · rcases ha.own q q1 with q2 | q2
      · exact Nat.lt_of_lt_of_le (h.live q (h.own i q q2).1) k2.size
      · simpa using q2.2
  · intro j
    by_cases hj : j = i
    · subst hj
      rw [show upd v j v' j = v' by simp [upd], show upd X j Y j = Y by simp [upd]]
      exact ownsRow_setCell_ne ha.row hbv' _
    · rw [show upd v i v' j = v j by simp [upd, hj], show upd X i Y j = X j by simp [upd, hj]]
      refine ownsRow_setCell_ne (ownsRow_keeps (h.row j) ha.keeps fun g hg e => h.apart j i g hj hg e) (fun e => (h.own j b e).2 rfl) _
  · intro j g hg
    by_cases hj : j = i
    · subst hj
      rw [show upd v j v' j = v' by simp [upd]] at hg
      exact ⟨.inr hg, fun e => hbv' (by rw [hg, e])⟩
    · rw [show upd v i v' j = v j by simp [upd, hj]] at hg
      exact ⟨.inl (h.own j g hg).1, (h.own j g hg).2⟩
  · intro j k g hjk hg hk
    have new : ∀ m, m ≠ i → v'.ownBlock = some g → (v m).ownBlock ≠ some g := fun m hm e1 e2 => by
      rcases ha.own g e1 with q | q
      · exact h.apart m i g hm e2 q
      · have := h.live g (h.own m g e2).1; omega
    by_cases hj : j = i
    · subst hj
      rw [show upd v j v' j = v' by simp [upd]] at hg
      rw [show upd v j v' k = v k by simp [upd, Ne.symm hjk]] at hk
      exact new k (Ne.symm hjk) hg hk
    · rw [show upd v i v' j = v j by simp [upd, hj]] at hg
      by_cases hki : k = i
      · subst hki
        rw [show upd v k v' k = v' by simp [upd]] at hk
        exact new j hj hk hg
      · rw [show upd v i v' k = v k by simp [upd, hki]] at hk
        exact h.apart j k g hjk hg hk

/-- the lists: each in a block of its own, none the Book's, all apart -/
structure Lists (S : Nat → Prop) (w : World) (X : Fin 4 → List Value) (M : Nat) : Prop where
  row : ∀ (i : Fin 4) (u : Value), u ∈ X i → ∃ k xs, k ≤ M ∧ w.ownsRow 0 (elT i) (bkS i) u k xs
  off : ∀ (i : Fin 4) (u : Value) (g : Nat), u ∈ X i → u.ownBlock = some g → ¬ S g
  apart : ∀ (i j : Fin 4) (m n : Nat) (u v : Value) (g : Nat), (X i)[m]? = some u → (X j)[n]? = some v → u.ownBlock = some g → v.ownBlock = some g → i = j ∧ m = n
theorem Lists.keeps {S S' K : Nat → Prop} {w w' : World} {X : Fin 4 → List Value} {M : Nat} (h : Lists S w X M) (k : Keeps K w w') (hK : ∀ q, K q → S q ∨ ∀ i u, u ∈ X i → u.ownBlock ≠ some q) (hg : Grows S S' w w') : Lists S' w' X M := by
  refine ⟨fun i u hu => ?_, fun i u g hu he hs => ?_, h.apart⟩
  · obtain ⟨n, xs, h1, h2⟩ := h.row i u hu
    exact ⟨n, xs, h1, ownsRow_keeps h2 k fun g hgq hq => (hK g hq).elim (h.off i u g hu hgq) fun q => q i u hu hgq⟩
  · obtain ⟨n, xs, h1, h2⟩ := h.row i u hu
    rcases hg g hs with q | q
    · exact h.off i u g hu he q
    · have := (h2.lt g he).2; omega
theorem Lists.snoc {S : Nat → Prop} {w : World} {X : Fin 4 → List Value} {M : Nat} (h : Lists S w X M) (i : Fin 4) {x : Value} {k : Nat} {xs : List Value} (hk : k ≤ M) (hr : w.ownsRow 0 (elT i) (bkS i) x k xs) (hS : ∀ g, x.ownBlock = some g → ¬ S g)
    (hn : ∀ g, x.ownBlock = some g → ∀ j u, u ∈ X j → u.ownBlock ≠ some g) : Lists S w (upd X i (X i ++ [x])) M := by
  have mem : ∀ j u, u ∈ upd X i (X i ++ [x]) j → u ∈ X j ∨ (j = i ∧ u = x) := fun j u hu => by
    by_cases hj : j = i
    · subst hj
      rw [show upd X j (X j ++ [x]) j = X j ++ [x] by simp [upd]] at hu
      rcases List.mem_append.1 hu with q | q
      · exact .inl q
      · simp at q
        exact .inr ⟨rfl, q⟩
    · rw [show upd X i (X i ++ [x]) j = X j by simp [upd, hj]] at hu
      exact .inl hu
  have get : ∀ j m u, (upd X i (X i ++ [x]) j)[m]? = some u → (X j)[m]? = some u ∨ (j = i ∧ m = (X i).length ∧ u = x) := fun j m u hu => by
    by_cases hj : j = i
    · subst hj
      rw [show upd X j (X j ++ [x]) j = X j ++ [x] by simp [upd]] at hu
      by_cases hm : m < (X j).length
      · rw [List.getElem?_append_left hm] at hu
        exact .inl hu
      · have hl := (List.getElem?_eq_some_iff.1 hu).1
        simp at hl
        have hm2 : m = (X j).length := by omega
        subst hm2
        simp at hu
        exact .inr ⟨rfl, rfl, hu.symm⟩
    · rw [show upd X i (X i ++ [x]) j = X j by simp [upd, hj]] at hu
      exact .inl hu
  refine ⟨fun j u hu => ?_, fun j u g hu he => ?_, fun p q m n u v g hu hv hgu hgv => ?_⟩
  · rcases mem j u hu with q | ⟨rfl, rfl⟩
    · exact h.row j u q
    · exact ⟨k, xs, hk, hr⟩
  · rcases mem j u hu with q | ⟨rfl, rfl⟩
    · exact h.off j u g q he
    · exact hS g he
  · rcases get p m u hu with a | ⟨rfl, rfl, rfl⟩ <;> rcases get q n v hv with b | ⟨rfl, rfl, rfl⟩
    · exact h.apart p q m n u v g a b hgu hgv
    · exact absurd hgu (hn g hgv p u (List.mem_of_getElem? a))
    · exact absurd hgv (hn g hgu q v (List.mem_of_getElem? b))
    · exact ⟨rfl, rfl⟩
/-- a Book with what it has noted -/
def GBook (S : Nat → Prop) (w : World) (b N : Nat) (X : Fin 4 → List Value) (M : Nat) : Prop := ∃ v, GBookV S w b v X ∧ Lists S w X M ∧ ∀ i, (X i).length ≤ N
theorem GBook.keeps {S K : Nat → Prop} {w w' : World} {b N M : Nat} {X : Fin 4 → List Value} (h : GBook S w b N X M) (k : Keeps K w w') (hS : ∀ q, K q → ¬ S q) (hX : ∀ q, K q → ∀ i u, u ∈ X i → u.ownBlock ≠ some q) : GBook S w' b N X M := by
  obtain ⟨v, h1, h2, h3⟩ := h
  exact ⟨v, h1.keeps k hS, h2.keeps k (fun q hq => .inr (hX q hq)) (fun _ h => .inl h), h3⟩
theorem GBook.fresh {S : Nat → Prop} {w w' : World} {b N M : Nat} {X : Fin 4 → List Value} (h : GBook S w b N X M) (f : Fresh w w') : GBook S w' b N X M := h.keeps f (fun _ h => h.elim) (fun _ h => h.elim)
theorem GBook.most {S : Nat → Prop} {w : World} {b N N' M : Nat} {X : Fin 4 → List Value} (h : GBook S w b N X M) (hN : N ≤ N') : GBook S w b N' X M := by
  obtain ⟨v, h1, h2, h3⟩ := h
  exact ⟨v, h1, h2, fun i => Nat.le_trans (h3 i) hN⟩
/-- the Book has noted more: lists of blocks of B -/
def Gathered (S : Nat → Prop) (B : Nat → Prop) (b N : Nat) (X : Fin 4 → List Value) (M : Nat) (w w' : World) (S' : Nat → Prop) (X' : Fin 4 → List Value) : Prop :=
  Grows S S' w w' ∧ Keeps S w w' ∧ GBook S' w' b N X' M ∧ ∀ i u, u ∈ X' i → u ∈ X i ∨ ∀ g, u.ownBlock = some g → B g
/-- one list more -/
theorem GBook.push {S : Nat → Prop} {w w' : World} {b N M : Nat} {X : Fin 4 → List Value} {v : Fin 4 → Value} (h1 : GBookV S w b v X) (h2 : Lists S w X M) (h3 : ∀ i, (X i).length ≤ N) (i : Fin 4) {x v' : Value} {k : Nat} {xs : List Value} (hk : k ≤ M)
    (hr : w.ownsRow 0 (elT i) (bkS i) x k xs) (hS : ∀ g, x.ownBlock = some g → ¬ S g) (hn : ∀ g, x.ownBlock = some g → ∀ j u, u ∈ X j → u.ownBlock ≠ some g)
    (ha : Appended (bkT i) 1 w w' (v i) v' ((X i).length + 1) (X i ++ [x])) :
    ∃ S', Gathered S (fun g => x.ownBlock = some g) b (N + 1) X M w (w'.setCell ⟨b, i.val, none⟩ v') S' (upd X i (X i ++ [x])) := by
  obtain ⟨S', g1, g2, g3⟩ := h1.push i (by simp) ha
  have h4 := Lists.snoc h2 i hk hr hS hn
  refine ⟨S', g1, g2, ⟨_, g3, ?_, fun j => ?_⟩, fun j u hu => ?_⟩
  · refine ⟨fun j u hu => ?_, fun j u g hu he hs => ?_, h4.apart⟩
    · obtain ⟨n, ys, q1, q2⟩ := h4.row j u hu
      exact ⟨n, ys, q1, ownsRow_keeps q2 g2 fun g hg => h4.off j u g hu hg⟩
    · obtain ⟨n, ys, q1, q2⟩ := h4.row j u hu
      rcases g1 g hs with q | q
      · exact h4.off j u g hu he q
      · have := (q2.lt g he).2; omega
  · by_cases hj : j = i
    · subst hj
      have := h3 j
      simp [upd]
      omega
    · have := h3 j
      rw [show upd X i (X i ++ [x]) j = X j by simp [upd, hj]]
      omega
  · by_cases hj : j = i
    · subst hj
      rw [show upd X j (X j ++ [x]) j = X j ++ [x] by simp [upd]] at hu
      rcases List.mem_append.1 hu with q | q
      · exact .inl q
      · simp at q
        subst q
        exact .inr fun g hg => hg
    · rw [show upd X i (X i ++ [x]) j = X j by simp [upd, hj]] at hu
      exact .inl hu
/-- one kind's lists -/
structure KBook (w : World) (b : Nat) (i : Fin 4) (Xi : List Value) (M : Nat) (V : Value) : Prop where
  cell : w.cell? ⟨b, i.val, none⟩ = some V
  there : b < w.heap.size
  row : w.ownsRow 0 (bkT i) 1 V Xi.length Xi
  rows : ∀ (j : Nat) (u : Value), Xi[j]? = some u → ∃ k xs, k ≤ M ∧ w.ownsRow 0 (elT i) (bkS i) u k xs
  apart : ∀ (m n : Nat) (u v : Value) g, Xi[m]? = some u → Xi[n]? = some v → u.ownBlock = some g → v.ownBlock = some g → m = n
  off : ∀ u ∈ Xi, ∀ g, u.ownBlock = some g → g ≠ b ∧ V.ownBlock ≠ some g
theorem GBookV.kind {S K : Nat → Prop} {w w' : World} {b M : Nat} {v : Fin 4 → Value} {X : Fin 4 → List Value} (h1 : GBookV S w b v X) (h2 : Lists S w X M) (i : Fin 4) (k : Keeps K w w') (hK : ∀ q, K q → ∃ j u, j ≠ i ∧ u ∈ X j ∧ u.ownBlock = some q) : KBook w' b i (X i) M (v i) := by
  have hoff : ∀ j u g, u ∈ X j → u.ownBlock = some g → ¬ S g := h2.off
  have hb : ¬ K b := fun q => by
    obtain ⟨j, u, -, hu, hg⟩ := hK b q
    exact hoff j u b hu hg h1.sb
  have hc : w.cell? ⟨b, i.val, none⟩ = some (v i) := by
    rw [cell_at h1.at_ i.val]
    obtain ⟨i, hi⟩ := i
    match i, hi with
    | 0, _ => rfl
    | 1, _ => rfl
    | 2, _ => rfl
    | 3, _ => rfl
  refine ⟨(k.cell (p := ⟨b, i.val, none⟩) (h1.live b h1.sb) hb).trans hc, Nat.lt_of_lt_of_le (h1.live b h1.sb) k.size, ownsRow_keeps (h1.row i) k fun g hg q => ?_, fun j u hu => ?_, fun m n u u' g hu hv hgu hgv => (h2.apart i i m n u u' g hu hv hgu hgv).2, fun u hu g hg => ⟨fun e => ?_, fun e => hoff i u g hu hg (h1.own i g e).1⟩⟩
  · obtain ⟨j, u, -, hu, hgu⟩ := hK g q
    exact hoff j u g hu hgu (h1.own i g hg).1
  · obtain ⟨n, xs, q1, q2⟩ := h2.row i u (List.mem_of_getElem? hu)
    refine ⟨n, xs, q1, ownsRow_keeps q2 k fun g hg q => ?_⟩
    obtain ⟨j', u', hne, hu', hgu'⟩ := hK g q
    obtain ⟨m', hm'⟩ := List.mem_iff_getElem?.1 hu'
    exact hne (h2.apart j' i m' j u' u g hm' hu hgu' hg).1
  · subst e
    exact hoff i u _ hu hg h1.sb
theorem GBook.kind {S K : Nat → Prop} {w w' : World} {b N M : Nat} {X : Fin 4 → List Value} (h : GBook S w b N X M) (i : Fin 4) (k : Keeps K w w') (hK : ∀ q, K q → ∃ j u, j ≠ i ∧ u ∈ X j ∧ u.ownBlock = some q) : ∃ V, KBook w' b i (X i) M V := by
  obtain ⟨v, h1, h2, -⟩ := h
  exact ⟨v i, h1.kind h2 i k hK⟩
/-- the lists of requests, and those of replies -/
structure Outer (w : World) (b : Nat) (X Y : List Value) (M : Nat) (V W : Value) : Prop where
  one : KBook w b 2 X M V
  two : KBook w b 3 Y M W
  apart : ∀ u ∈ X, ∀ g, u.ownBlock = some g → W.ownBlock ≠ some g ∧ ∀ v ∈ Y, v.ownBlock ≠ some g
  off : ∀ v ∈ Y, ∀ g, v.ownBlock = some g → V.ownBlock ≠ some g
theorem GBook.outer {S K : Nat → Prop} {w w' : World} {b N M : Nat} {X : Fin 4 → List Value} (h : GBook S w b N X M) (k : Keeps K w w') (hK : ∀ q, K q → ∃ j u, j ≠ 2 ∧ j ≠ 3 ∧ u ∈ X j ∧ u.ownBlock = some q) : ∃ V W, Outer w' b (X 2) (X 3) M V W := by
  obtain ⟨v, h1, h2, -⟩ := h
  refine ⟨v 2, v 3, h1.kind h2 2 k (fun q hq => ?_), h1.kind h2 3 k (fun q hq => ?_), fun u hu g hg => ⟨fun e => h2.off 2 u g hu hg (h1.own 3 g e).1, fun y hy e => ?_⟩, fun y hy g hg e => h2.off 3 y g hy hg (h1.own 2 g e).1⟩
  · obtain ⟨j, u, q1, -, q3⟩ := hK q hq
    exact ⟨j, u, q1, q3⟩
  · obtain ⟨j, u, -, q2, q3⟩ := hK q hq
    exact ⟨j, u, q2, q3⟩
  · obtain ⟨m, hm⟩ := List.mem_iff_getElem?.1 hu
    obtain ⟨n, hn⟩ := List.mem_iff_getElem?.1 hy
    exact absurd (h2.apart 2 3 m n u y g hm hn hg e).1 (by decide)
theorem Gathered.trans {S S1 S2 B1 B2 B : Nat → Prop} {b N1 N2 M : Nat} {X X1 X2 : Fin 4 → List Value} {w w1 w2 : World} (h1 : Gathered S B1 b N1 X M w w1 S1 X1) (h2 : Gathered S1 B2 b N2 X1 M w1 w2 S2 X2) (hB1 : ∀ g, B1 g → B g) (hB2 : ∀ g, B2 g → B g) : Gathered S B b N2 X M w w2 S2 X2 := by
  obtain ⟨g1, k1, -, x1⟩ := h1
  obtain ⟨g2, k2, b2, x2⟩ := h2
  refine ⟨fun q hq => ?_, k1.trans' k2 fun q hq h => ?_, b2, fun i u hu => ?_⟩
  · rcases g2 q hq with h | h
    · rcases g1 q h with h' | h'
      · exact .inl h'
      · exact .inr ⟨h'.1, Nat.lt_of_lt_of_le h'.2 k2.size⟩
    · exact .inr ⟨Nat.le_trans k1.size h.1, h.2⟩
  · rcases g1 q h with h' | h'
    · exact h'
    · omega
  · rcases x2 i u hu with h | h
    · rcases x1 i u h with h' | h'
      · exact .inl h'
      · exact .inr fun g hg => hB1 g (h' g hg)
    · exact .inr fun g hg => hB2 g (h g hg)
theorem Gathered.start {S B : Nat → Prop} {b N M : Nat} {X : Fin 4 → List Value} {w w' : World} (h : GBook S w b N X M) (f : Fresh w w') : Gathered S B b N X M w w' S X :=
  ⟨fun _ h => .inl h, f.mono fun _ _ h => h.elim, h.fresh f, fun _ _ h => .inl h⟩
theorem Gathered.pre {S S1 B : Nat → Prop} {b N M : Nat} {X X1 : Fin 4 → List Value} {w w1 w2 : World} (f : Fresh w w1) (h : Gathered S B b N X M w1 w2 S1 X1) : Gathered S B b N X M w w2 S1 X1 :=
  ⟨fun q hq => (h.1 q hq).imp (fun h => h) fun h => ⟨Nat.le_trans f.size h.1, h.2⟩, (f.mono fun _ _ h => h.elim).trans' h.2.1 fun _ _ h => h, h.2.2.1, h.2.2.2⟩
/-- a block that was there and is none of the Book's stays so -/
theorem Gathered.off {S S1 B : Nat → Prop} {b N M : Nat} {X X1 : Fin 4 → List Value} {w w1 : World} (h : Gathered S B b N X M w w1 S1 X1) {q : Nat} (hq : q < w.heap.size) (hn : ¬ S q) : ¬ S1 q := fun hs => (h.1 q hs).elim hn fun h => by omega
/-- a block that was none of the lists' is none now -/
theorem Gathered.apart {S S1 B : Nat → Prop} {b N M : Nat} {X X1 : Fin 4 → List Value} {w w1 : World} (h : Gathered S B b N X M w w1 S1 X1) {q : Nat} (hn : ∀ i u, u ∈ X i → u.ownBlock ≠ some q) (hB : ¬ B q) : ∀ i u, u ∈ X1 i → u.ownBlock ≠ some q := fun i u hu e => (h.2.2.2 i u hu).elim (fun h => hn i u h e) fun h => hB (h q e)
end Go.Proofs.YtpccaodkgboefaaGreatDoor

namespace Go.Proofs.YtpccaodkgboefaaGreatDoor
open Go.RowKit

theorem reps_one (u : Value) : ∀ (k j : Nat), j < k → (reps k [u])[j]? = some u := fun k j h => by
  have := reps_get [u] k j 0 h (by simp)
  simpa using this

set_option maxRecDepth 100000 in
set_option maxHeartbeats 8000000 in
theorem numbers_any (w : World) (b : Nat) (X : List Value) (V : Value) (h : KBook w b 0 X 1000000000 V) (hN : X.length ≤ 4294967296) :
    Calls Tryz.prog 51 #[.pointer (some ⟨b, 0, none⟩)] w fun e w' => e = .returned (.bool true) ∧ Keeps (fun q => ∃ u ∈ X, u.ownBlock = some q) w w' := by
  obtain ⟨c, hF, hc⟩ := Flock.start (e := 3) (size := 1) (U := fun n => [.int .i64 (-5 - (n : Int))]) h.rows h.apart
  have hcb : ¬ c b < X.length := fun q => by
    obtain ⟨v, hv, he⟩ := hc b q
    exact (h.off v hv b he).1 rfl
  have hcV : ∀ g, V.ownBlock = some g → ¬ c g < X.length := fun g hg q => by
    obtain ⟨v, hv, he⟩ := hc g q
    exact (h.off v hv g he).2 hg
  have HK : ∀ wr, Keeps (fun g => c g < X.length) w wr → wr.cell? ⟨b, 0, none⟩ = some V ∧ wr.ownsRow 0 22 1 V X.length X := fun wr k => ⟨(k.cell (p := ⟨b, 0, none⟩) h.there hcb).trans h.cell, ownsRow_keeps h.row k hcV⟩
  have HEND : ∀ wr, Keeps (fun g => c g < X.length) w wr → Keeps (fun q => ∃ u ∈ X, u.ownBlock = some q) w wr := fun wr k => k.mono fun q _ hq => by
    obtain ⟨v, hv, he⟩ := hc q hq
    exact ⟨v, hv, he⟩
  obtain ⟨ov, cv, hV⟩ := ownsRow_slice h.row
  subst hV
  have HF := hid hF
  have hk0 := hid HK
  have HE := hid HEND
  have c0 := h.cell
  clear hF HK HEND hcb hcV hc h
  go_enter Tryz.func51, Tryz.ntmps51
  go_wp2_with fail
  clear c0
  go_loopw [3] (fun i wr => ∃ n : Nat, i = .int .i64 (n : Int) ∧ n ≤ X.length ∧ Flock c w 3 1 (fun n => [.int .i64 (-5 - (n : Int))]) n X 1000000000 wr) (fun i _ => X.length - (intOf i).toNat)
  case atStart => exact ⟨0, rfl, Nat.zero_le _, HF.out⟩
  case round =>
    obtain ⟨n, rfl, hn, fl⟩ := hrel
    obtain ⟨c0, hrow⟩ := hk0.out wr fl.keeps
    have FL := hid fl
    by_cases hlt : n < X.length
    · obtain ⟨x, hx⟩ : ∃ x, X[n]? = some x := ⟨X[n], by simp⟩
      obtain ⟨k, hk, hh⟩ := fl.begin hx
      have hn1 : (n : Int) < (X.length : Int) := by omega
      have HX := hid hx
      have HH := hid hh
      clear fl hrow hx hh
      go_wp2_with fail
      clear c0
      go_loopw [4] (fun i wr => ∃ j : Nat, i = .int .i64 (j : Int) ∧ j ≤ k ∧ Flock c w 3 1 (fun n => [.int .i64 (-5 - (n : Int))]) n X 1000000000 wr ∧ Half wr 3 1 [.int .i64 (-5 - (n : Int))] x k j) (fun i _ => k - (intOf i).toNat)
      case atStart => exact ⟨0, rfl, Nat.zero_le _, FL.out, HH.out⟩
      case round =>
        obtain ⟨j, rfl, hj, fl, hh⟩ := hrel
        obtain ⟨c0, hrow⟩ := hk0.out wr fl.keeps
        obtain ⟨gr, rfl, hcells⟩ := rowCellsB hrow (by omega)
        obtain ⟨-, hcx⟩ := hcells n _ HX.out
        obtain ⟨ys, hrx, -⟩ := id hh
        obtain ⟨ao, cap, rfl⟩ := ownsRow_slice hrx
        have hn0 : (0 : Int) ≤ (n : Int) := by omega
        have FL2 := hid fl
        have HH2 := hid hh
        by_cases hjk : j < k
        · obtain ⟨g, rfl, hgc⟩ := rowCellsB hrx (by omega)
          have hj0 : (0 : Int) ≤ (j : Int) := by omega
          have hj1 : (j : Int) < (k : Int) := by omega
          have hcell : wr.cell? ⟨g, j, none⟩ ≠ none := by
            obtain ⟨y, hy⟩ : ∃ y, (reps j [Value.int .i64 (-5 - (n : Int))] ++ ys)[j]? = some y := by
              have hl := hrx.1
              exact ⟨_, List.getElem?_eq_getElem (by omega)⟩
            rw [(hgc j y hy).2]
            exact fun h => by cases h
          have hfr : wr.frozen? ⟨g, j, none⟩ = false := hrx.frozenAt j
          have hh2 := hh.put1 hjk
          have HP := hid (FL2.out.turn HX.out (Keeps.setCell (S := fun q => (Value.slice (some ⟨g, 0, none⟩) k cap).ownBlock = some q) (p := ⟨g, j, none⟩) (Keeps.refl _ wr) (fun _ => rfl) (.int .i64 (-5 - (n : Int)))) hh2 hk)
          have HH3 := hid hh2
          clear fl hh hrow hcells hrx hgc hh2
          go_wp2_with fail
          go_roundw
          case rel => exact ⟨j + 1, by go_num, by omega, HP.out, HH3.out⟩
          case measure => simp [intOf]; omega
        · obtain rfl : j = k := by omega
          clear fl hh hrow hcells hrx
          go_wp2_with fail
          go_roundw
          case rel => exact ⟨n + 1, by go_num, by omega, FL2.out.next HX.out HH2.out hk rfl⟩
          case measure => simp [intOf]; omega
    · obtain rfl : n = X.length := by omega
      have HH := hid (fl.herd (T := 22) (fun m => m / 20))
      clear fl hrow
      go_wp2_with fail
      clear c0
      go_loopw [5, 6] (fun av i wr => ∃ (n : Nat) (c' : Nat → Nat) (A : List Value), i = .int .i64 (n : Int) ∧ n ≤ X.length ∧ (∀ g, g < w.heap.size → c' g = c g) ∧ A.length = 20 * n ∧ Herd c' w 3 1 22 (fun n => [.int .i64 (-5 - (n : Int))]) (fun m => m / 20) X.length n X A av 1000000000 1000000020 wr) (fun _ i _ => X.length - (intOf i).toNat)
      case atStart => exact ⟨0, c, [], rfl, Nat.zero_le _, fun _ _ => rfl, rfl, HH.out.most (by omega)⟩
      case round =>
        obtain ⟨n, c', A, rfl, hn, hag, hA, hd⟩ := hrel
        have hkw : Keeps (fun g => c g < X.length) w wr := hd.keeps.mono fun g hg h => by rw [← hag g hg]; exact h
        obtain ⟨c0, hrow⟩ := hk0.out wr hkw
        have HD := hid hd
        by_cases hlt : n < X.length
        · obtain ⟨x, hx⟩ : ∃ x, X[n]? = some x := ⟨X[n], by simp⟩
          obtain ⟨gr, rfl, hcells⟩ := rowCellsB hrow (by omega)
          obtain ⟨-, hcx⟩ := hcells n _ hx
          obtain ⟨L, hL, hg⟩ := hd.begin hx
          have HG := hid hg
          have hn0 : (0 : Int) ≤ (n : Int) := by omega
          have hn1 : (n : Int) < (X.length : Int) := by omega
          obtain ⟨ax, cx, rfl⟩ := ownsRow_slice hg.x.1
          obtain ⟨aa, ca, rfl⟩ := ownsRow_slice hd.all
          clear hd hkw hrow hcells hg
          go_wp2_with fail
          clear c0 hcx
          go_loopw [5, 7, 8] (fun av xv i wr => ∃ (j : Nat) (c' : Nat → Nat) (A : List Value) (L : Nat), i = .int .i64 (j : Int) ∧ j ≤ 20 ∧ (∀ g, g < w.heap.size → c' g = c g) ∧ A.length = 20 * n + j ∧ L ≤ 1000000000 + j ∧ Growing c' w 3 1 22 (fun n => [.int .i64 (-5 - (n : Int))]) (fun m => m / 20) X.length n X A av xv L 1000000000 1000000020 wr) (fun _ _ i _ => 20 - (intOf i).toNat)
          case atStart => exact ⟨0, c', A, L, rfl, by omega, hag, hA, hL, HG.out⟩
          case round =>
            obtain ⟨j, c2, B, L2, rfl, hj, hag2, hB, hL2, hg⟩ := hrel
            obtain ⟨ax, cx, rfl⟩ := ownsRow_slice hg.x.1
            obtain ⟨aa, ca, rfl⟩ := ownsRow_slice hg.all
            have HG2 := hid hg
            by_cases hj20 : j < 20
            · have hj1 : (j : Int) < 20 := by omega
              obtain ⟨i0, hi, hz0, hz1, hz2⟩ := info_parts Tryz.infoIntB
              obtain ⟨i1, hi', hz0', hz1', hz2'⟩ := info_parts (Tryz.infoSliceB 0)
              have hBl : B.length + 1 ≤ 85899345940 := by omega
              have HBL := hid hB
              clear hg hB
              go_wp2_with (at_builtin; refine wpList_push rfl (.tmp 63) (.tmp 65) 29 rfl 22 i1 (.slice none 0 0) 24 Tryz.underlying29 hi' hz0' hz1' hz2' rfl wr HG2.out.all _ (by rfl) (by rfl) rfl (by omega) (by unfold maxLen; omega) ?_)
              intro v4 w4 ha
              obtain ⟨c3, hag3, hg3⟩ := HG2.out.note (by have := HBL.out; show B.length / 20 = n; omega) (by omega) ha
              obtain ⟨aa4, ca4, rfl⟩ := ownsRow_slice ha.row
              have HG3 := hid hg3
              clear ha hg3
              go_wp2_with (at_builtin; refine wpList_growN rfl (.tmp 67) (.tmp 70) 22 rfl 3 i0 (.int .i64 0) 1 8 Tryz.underlying22 hi hz0 hz1 hz2 rfl (by decide) w4 HG3.out.x.1 #[.int .i64 (-5 - (n : Int))] rfl (by rfl) (by rfl) (by simp [Value.oneCell']) (by omega) (by unfold maxLen; omega) ?_)
              intro v5 w5 hgr
              obtain ⟨c4, hag4, hg4⟩ := HG3.out.grow hgr
              obtain ⟨ax5, cx5, rfl⟩ := ownsRow_slice hgr.app.row
              have HG4 := hid hg4
              clear hgr hg4
              go_wp2_with fail
              go_roundw
              case rel => exact ⟨j + 1, c4, B ++ [.slice ax L2 cx], L2 + 1, by go_num, by omega, fun g hg => by rw [hag4 g hg, hag3 g hg, hag2 g hg], by rw [List.length_append, HBL.out]; rfl, by omega, HG4.out⟩
              case measure => simp [intOf]; omega
            · obtain rfl : j = 20 := by omega
              clear hg
              go_wp2_with fail
              go_roundw
              case rel => exact ⟨n + 1, c2, B, by go_num, by omega, hag2, by omega, HG2.out.fin⟩
              case measure => simp [intOf]; omega
        · obtain rfl : n = X.length := by omega
          obtain ⟨aa, ca, rfl⟩ := ownsRow_slice hd.all
          rename World => w5
          have HAL := hid hA
          clear hd hrow hA
          go_wp2_with fail
          clear c0
          go_loopw [9] (fun i wr => ∃ m : Nat, i = .int .i64 (m : Int) ∧ m ≤ A.length ∧ Fresh w5 wr) (fun i _ => A.length - (intOf i).toNat)
          case atStart => exact ⟨0, rfl, Nat.zero_le _, Keeps.refl _ _⟩
          case round =>
            obtain ⟨m, rfl, hm, f⟩ := hrel
            have hd := HD.out.fresh f
            by_cases hlt : m < A.length
            · obtain ⟨x, hx⟩ : ∃ x, A[m]? = some x := ⟨A[m], by simp⟩
              obtain ⟨k, hk, hrx, -⟩ := hd.grown m x hx
              obtain ⟨ga, rfl, hcells⟩ := rowCellsB hd.all (by omega)
              obtain ⟨-, hcx⟩ := hcells m _ hx
              obtain ⟨ax, cx, rfl⟩ := ownsRow_slice hrx.1
              have hm0 : (0 : Int) ≤ (m : Int) := by omega
              have hmb : m ≤ 85899345920 := by have := HAL.out; omega
              have hm1 : (m : Int) < (A.length : Int) := by omega
              have HX := hid hx
              clear hd hcells hx
              go_wp2_with fail
              clear hcx
              go_loopw [10] (fun i wr => ∃ j : Nat, i = .int .i64 (j : Int) ∧ j ≤ k ∧ Fresh w5 wr) (fun i _ => k - (intOf i).toNat)
              case atStart => exact ⟨0, rfl, Nat.zero_le _, f⟩
              case round =>
                obtain ⟨j, rfl, hj, f2⟩ := hrel
                have hd := HD.out.fresh f2
                obtain ⟨k2, -, hrx2, -⟩ := hd.grown m _ HX.out
                obtain ⟨gb, hgb, hcells⟩ := rowCellsB hd.all (by omega)
                injection hgb with hgb
                injection hgb with hgb
                subst hgb
                obtain ⟨-, hcx⟩ := hcells m _ HX.out
                obtain ⟨ax2, cx2, hve⟩ := ownsRow_slice hrx2.1
                injection hve with e1 e2 e3
                obtain rfl : k2 = k := e2.symm
                subst e1
                subst e3
                by_cases hjk : j < k2
                · obtain ⟨g, rfl, hgc⟩ := rowCellsB hrx2.1 (by omega)
                  obtain ⟨-, hv⟩ := hgc j _ (reps_one _ k2 j hjk)
                  have hj0 : (0 : Int) ≤ (j : Int) := by omega
                  have hj1 : (j : Int) < (k2 : Int) := by omega
                  clear hd hcells hrx2 hgc
                  go_wp2_with fail
                  go_roundw
                  case rel => exact ⟨j + 1, by go_num, by omega, f2⟩
                  case measure => simp [intOf]; omega
                · obtain rfl : j = k2 := by omega
                  clear hd hcells hrx2
                  go_wp2_with fail
                  go_roundw
                  case rel => exact ⟨m + 1, by go_num, by omega, f2⟩
                  case measure => simp [intOf]; omega
            · obtain rfl : m = A.length := by omega
              have hkw : Keeps (fun g => c g < X.length) w wr := hd.keeps.mono fun g hg h => by rw [← hag g hg]; exact h
              have HKW := hid (HE.out wr hkw)
              clear hd hkw
              go_wp2_with fail
              go_ret
              exact ⟨rfl, HKW.out⟩
end Go.Proofs.YtpccaodkgboefaaGreatDoor

namespace Go.Proofs.YtpccaodkgboefaaGreatDoor
open Go.RowKit

def markL (n : Nat) : List UInt8 := [109, 97, 114, 107, UInt8.ofNat n, UInt8.ofNat (n / 256)]

set_option maxRecDepth 100000 in
set_option maxHeartbeats 2000000 in
theorem mark_any (n : Nat) (w : World) :
    Calls Tryz.prog 93 #[.int .i64 (n : Int)] w fun e w' => e = .returned (.string (str (markL n))) ∧ Fresh w w' := by
  have hconv : (convert 96 9 (.slice (some ⟨w.heap.size, 0, none⟩) 2 2)).run Tryz.prog (w.alloc (.cells #[.int .u8 ((n : Int) % 256), .int .u8 ((n : Int) / 256 % 256)] 5)) = .ok (.string (str [UInt8.ofNat n, UInt8.ofNat (n / 256)])) (w.alloc (.cells #[.int .u8 ((n : Int) % 256), .int .u8 ((n : Int) / 256 % 256)] 5)) := run_convert_bytes_back (P := Tryz.prog) (w.alloc (.cells #[.int .u8 ((n : Int) % 256), .int .u8 ((n : Int) / 256 % 256)] 5)) 96 9 5 ⟨w.heap.size, 0, none⟩ 2 [UInt8.ofNat n, UInt8.ofNat (n / 256)] Tryz.underlying96 Tryz.underlying5 Tryz.underlying9 (fun j hj => by
    rw [addr_add0, cell_at (heap_alloc_new w _)]
    match j, hj with
    | 0, _ => simp
    | 1, _ => simp
    | j + 2, hj => simp at hj; omega)
  go_enter Tryz.func93, Tryz.ntmps93
  go_wp2_with fail
  go_ret
  refine ⟨?_, (Keeps.refl _ _).alloc _⟩
  rfl
end Go.Proofs.YtpccaodkgboefaaGreatDoor

namespace Go.Proofs.YtpccaodkgboefaaGreatDoor
open Go.RowKit

theorem mark_quo (n : Nat) (hn : n ≤ 1099511627776) (w : World) :
    Calls Tryz.prog 93 #[.int .i64 (IntKind.i64.wrap ((n : Int) / 20))] w fun e w' => e = .returned (.string (str (markL (n / 20)))) ∧ Fresh w w' := by
  have := mark_any (n / 20) w
  have hw : IntKind.i64.wrap ((n : Int) / 20) = (n : Int) / 20 := by rw [IntKind.wrap_i64]; omega
  rw [hw]
  rwa [show ((n / 20 : Nat) : Int) = (n : Int) / 20 by omega] at this

set_option maxRecDepth 100000 in
set_option maxHeartbeats 8000000 in
theorem words_any (w : World) (b : Nat) (X : List Value) (V : Value) (h : KBook w b 1 X 1000000000 V) (hN : X.length ≤ 4294967296) :
    Calls Tryz.prog 52 #[.pointer (some ⟨b, 0, none⟩)] w fun e w' => e = .returned (.bool true) ∧ Keeps (fun q => ∃ u ∈ X, u.ownBlock = some q) w w' := by
  obtain ⟨c, hF, hc⟩ := Flock.start (e := 9) (size := 1) (U := fun n => [.string (str (markL n))]) h.rows h.apart
  have hcb : ¬ c b < X.length := fun q => by
    obtain ⟨v, hv, he⟩ := hc b q
    exact (h.off v hv b he).1 rfl
  have hcV : ∀ g, V.ownBlock = some g → ¬ c g < X.length := fun g hg q => by
    obtain ⟨v, hv, he⟩ := hc g q
    exact (h.off v hv g he).2 hg
  have HK : ∀ wr, Keeps (fun g => c g < X.length) w wr → wr.cell? ⟨b, 1, none⟩ = some V ∧ wr.ownsRow 0 23 1 V X.length X := fun wr k => ⟨(k.cell (p := ⟨b, 1, none⟩) h.there hcb).trans h.cell, ownsRow_keeps h.row k hcV⟩
  have HEND : ∀ wr, Keeps (fun g => c g < X.length) w wr → Keeps (fun q => ∃ u ∈ X, u.ownBlock = some q) w wr := fun wr k => k.mono fun q _ hq => by
    obtain ⟨v, hv, he⟩ := hc q hq
    exact ⟨v, hv, he⟩
  obtain ⟨ov, cv, hV⟩ := ownsRow_slice h.row
  subst hV
  have HF := hid hF
  have hk0 := hid HK
  have HE := hid HEND
  have c0 := h.cell
  clear hF HK HEND hcb hcV hc h
  go_enter Tryz.func52, Tryz.ntmps52
  go_wp2_with fail
  clear c0
  go_loopw [3] (fun i wr => ∃ n : Nat, i = .int .i64 (n : Int) ∧ n ≤ X.length ∧ Flock c w 9 1 (fun n => [.string (str (markL n))]) n X 1000000000 wr) (fun i _ => X.length - (intOf i).toNat)
  case atStart => exact ⟨0, rfl, Nat.zero_le _, HF.out⟩
  case round =>
    obtain ⟨n, rfl, hn, fl⟩ := hrel
    obtain ⟨c0, hrow⟩ := hk0.out wr fl.keeps
    have FL := hid fl
    by_cases hlt : n < X.length
    · obtain ⟨x, hx⟩ : ∃ x, X[n]? = some x := ⟨X[n], by simp⟩
      obtain ⟨k, hk, hh⟩ := fl.begin hx
      have hn1 : (n : Int) < (X.length : Int) := by omega
      have HX := hid hx
      have HH := hid hh
      clear fl hrow hx hh
      go_wp2_with fail
      clear c0
      go_loopw [4] (fun i wr => ∃ j : Nat, i = .int .i64 (j : Int) ∧ j ≤ k ∧ Flock c w 9 1 (fun n => [.string (str (markL n))]) n X 1000000000 wr ∧ Half wr 9 1 [.string (str (markL n))] x k j) (fun i _ => k - (intOf i).toNat)
      case atStart => exact ⟨0, rfl, Nat.zero_le _, FL.out, HH.out⟩
      case round =>
        obtain ⟨j, rfl, hj, fl, hh⟩ := hrel
        obtain ⟨c0, hrow⟩ := hk0.out wr fl.keeps
        obtain ⟨gr, rfl, hcells⟩ := rowCellsB hrow (by omega)
        obtain ⟨-, hcx⟩ := hcells n _ HX.out
        obtain ⟨ys, hrx, -⟩ := id hh
        obtain ⟨ao, cap, rfl⟩ := ownsRow_slice hrx
        have hn0 : (0 : Int) ≤ (n : Int) := by omega
        have FL2 := hid fl
        have HH2 := hid hh
        by_cases hjk : j < k
        · obtain ⟨g, rfl, hgc⟩ := rowCellsB hrx (by omega)
          have hj0 : (0 : Int) ≤ (j : Int) := by omega
          have hj1 : (j : Int) < (k : Int) := by omega
          obtain ⟨y, hcell⟩ : ∃ y, wr.cell? ⟨g, j, none⟩ = some y := by
            obtain ⟨y, hy⟩ : ∃ y, (reps j [Value.string (str (markL n))] ++ ys)[j]? = some y := by
              have hl := hrx.1
              exact ⟨_, List.getElem?_eq_getElem (by omega)⟩
            exact ⟨y, (hgc j y hy).2⟩
          have hfr : wr.frozen? ⟨g, j, none⟩ = false := hrx.frozenAt j
          have hgl : g < wr.heap.size := (hrx.lt g rfl).2
          have hgr : gr < wr.heap.size := (hrow.lt gr rfl).2
          have hbl : b < wr.heap.size := by
            have := World.block_lt_of_cell? wr _ c0
            exact this
          clear fl hh hrow hcells hrx hgc
          go_wp2_with fail
          go_region_law (first | (go_simp; go_at_call 93; refine (mark_any n _).mono ?_; rintro e w3 ⟨rfl, f0⟩; have f : Fresh wr w3 := (by first | exact f0 | exact ((Keeps.refl (fun _ => False) wr).drew).trans f0); clear f0; have c0' := (f.cell (p := ⟨b, 1, none⟩) hbl (fun h => h)).trans c0; have hcx' := (f.cell (p := ⟨gr, n, none⟩) hgr (fun h => h)).trans hcx; have hcell' := (f.cell (p := ⟨g, j, none⟩) hgl (fun h => h)).trans hcell; have hfr' := (f.frozen (p := ⟨g, j, none⟩) hgl (fun h => h)).trans hfr))
          all_goals
            have hh2 := (HH2.out.fresh f).put1 hjk
            have HP := hid ((FL2.out.fresh f).turn HX.out (Keeps.setCell (S := fun q => (Value.slice (some ⟨g, 0, none⟩) k cap).ownBlock = some q) (p := ⟨g, j, none⟩) (Keeps.refl _ w3) (fun _ => rfl) (.string (str (markL n)))) hh2 hk)
            have HH3 := hid hh2
            clear hh2
            go_wp2_with fail
            go_roundw
            case rel => exact ⟨j + 1, by go_num, by omega, HP.out, HH3.out⟩
            case measure => simp [intOf]; omega
        · obtain rfl : j = k := by omega
          clear fl hh hrow hcells hrx
          go_wp2_with fail
          go_roundw
          case rel => exact ⟨n + 1, by go_num, by omega, FL2.out.next HX.out HH2.out hk rfl⟩
          case measure => simp [intOf]; omega
    · obtain rfl : n = X.length := by omega
      have HH := hid (fl.herd (T := 23) (fun m => m / 20))
      clear fl hrow
      go_wp2_with fail
      clear c0
      go_loopw [5, 6] (fun av i wr => ∃ (n : Nat) (c' : Nat → Nat) (A : List Value), i = .int .i64 (n : Int) ∧ n ≤ X.length ∧ (∀ g, g < w.heap.size → c' g = c g) ∧ A.length = 20 * n ∧ Herd c' w 9 1 23 (fun n => [.string (str (markL n))]) (fun m => m / 20) X.length n X A av 1000000000 1000000020 wr) (fun _ i _ => X.length - (intOf i).toNat)
      case atStart => exact ⟨0, c, [], rfl, Nat.zero_le _, fun _ _ => rfl, rfl, HH.out.most (by omega)⟩
      case round =>
        obtain ⟨n, c', A, rfl, hn, hag, hA, hd⟩ := hrel
        have hkw : Keeps (fun g => c g < X.length) w wr := hd.keeps.mono fun g hg h => by rw [← hag g hg]; exact h
        obtain ⟨c0, hrow⟩ := hk0.out wr hkw
        have HD := hid hd
        by_cases hlt : n < X.length
        · obtain ⟨x, hx⟩ : ∃ x, X[n]? = some x := ⟨X[n], by simp⟩
          obtain ⟨gr, rfl, hcells⟩ := rowCellsB hrow (by omega)
          obtain ⟨-, hcx⟩ := hcells n _ hx
          obtain ⟨L, hL, hg⟩ := hd.begin hx
          have HG := hid hg
          have hn0 : (0 : Int) ≤ (n : Int) := by omega
          have hn1 : (n : Int) < (X.length : Int) := by omega
          obtain ⟨ax, cx, rfl⟩ := ownsRow_slice hg.x.1
          obtain ⟨aa, ca, rfl⟩ := ownsRow_slice hd.all
          clear hd hkw hrow hcells hg
          go_wp2_with fail
          clear c0 hcx
          go_loopw [5, 7, 8] (fun av xv i wr => ∃ (j : Nat) (c' : Nat → Nat) (A : List Value) (L : Nat), i = .int .i64 (j : Int) ∧ j ≤ 20 ∧ (∀ g, g < w.heap.size → c' g = c g) ∧ A.length = 20 * n + j ∧ L ≤ 1000000000 + j ∧ Growing c' w 9 1 23 (fun n => [.string (str (markL n))]) (fun m => m / 20) X.length n X A av xv L 1000000000 1000000020 wr) (fun _ _ i _ => 20 - (intOf i).toNat)
          case atStart => exact ⟨0, c', A, L, rfl, by omega, hag, hA, hL, HG.out⟩
          case round =>
            obtain ⟨j, c2, B, L2, rfl, hj, hag2, hB, hL2, hg⟩ := hrel
            obtain ⟨ax, cx, rfl⟩ := ownsRow_slice hg.x.1
            obtain ⟨aa, ca, rfl⟩ := ownsRow_slice hg.all
            have HG2 := hid hg
            by_cases hj20 : j < 20
            · have hj1 : (j : Int) < 20 := by omega
              obtain ⟨i0, hi, hz0, hz1, hz2⟩ := info_parts Tryz.infoStrB
              obtain ⟨i1, hi', hz0', hz1', hz2'⟩ := info_parts (Tryz.infoSliceB 1)
              have hBl : B.length + 1 ≤ 85899345940 := by omega
              have HBL := hid hB
              clear hg hB
              go_wp2_with (at_builtin; refine wpList_push rfl (.tmp 63) (.tmp 65) 30 rfl 23 i1 (.slice none 0 0) 24 Tryz.underlying30 hi' hz0' hz1' hz2' rfl wr HG2.out.all _ (by rfl) (by rfl) rfl (by omega) (by unfold maxLen; omega) ?_)
              intro v4 w4 ha
              obtain ⟨c3, hag3, hg3⟩ := HG2.out.note (by have := HBL.out; show B.length / 20 = n; omega) (by omega) ha
              obtain ⟨aa4, ca4, rfl⟩ := ownsRow_slice ha.row
              have HG3 := hid hg3
              clear ha hg3
              go_wp2_with fail
              refine (mark_any n w4).mono ?_
              rintro e w4b ⟨rfl, f4⟩
              have HG3b := hid (HG3.out.fresh f4)
              clear f4
              go_wp2_with (at_builtin; refine wpList_growN rfl (.tmp 67) (.tmp 70) 23 rfl 9 i0 (.string ⟨#[]⟩) 1 16 Tryz.underlying23 hi hz0 hz1 hz2 rfl (by decide) w4b HG3b.out.x.1 #[.string (str (markL n))] rfl (by rfl) (by rfl) (by simp [Value.oneCell']) (by omega) (by unfold maxLen; omega) ?_)
              intro v5 w5 hgr
              obtain ⟨c4, hag4, hg4⟩ := HG3b.out.grow hgr
              obtain ⟨ax5, cx5, rfl⟩ := ownsRow_slice hgr.app.row
              have HG4 := hid hg4
              clear hgr hg4
              go_wp2_with fail
              go_roundw
              case rel => exact ⟨j + 1, c4, B ++ [.slice ax L2 cx], L2 + 1, by go_num, by omega, fun g hg => by rw [hag4 g hg, hag3 g hg, hag2 g hg], by rw [List.length_append, HBL.out]; rfl, by omega, HG4.out⟩
              case measure => simp [intOf]; omega
            · obtain rfl : j = 20 := by omega
              clear hg
              go_wp2_with fail
              go_roundw
              case rel => exact ⟨n + 1, c2, B, by go_num, by omega, hag2, by omega, HG2.out.fin⟩
              case measure => simp [intOf]; omega
        · obtain rfl : n = X.length := by omega
          obtain ⟨aa, ca, rfl⟩ := ownsRow_slice hd.all
          rename World => w5
          have HAL := hid hA
          clear hd hrow hA
          go_wp2_with fail
          clear c0
          go_loopw [9] (fun i wr => ∃ m : Nat, i = .int .i64 (m : Int) ∧ m ≤ A.length ∧ Fresh w5 wr) (fun i _ => A.length - (intOf i).toNat)
          case atStart => exact ⟨0, rfl, Nat.zero_le _, Keeps.refl _ _⟩
          case round =>
            obtain ⟨m, rfl, hm, f⟩ := hrel
            have hd := HD.out.fresh f
            by_cases hlt : m < A.length
            · obtain ⟨x, hx⟩ : ∃ x, A[m]? = some x := ⟨A[m], by simp⟩
              obtain ⟨k, hk, hrx, -⟩ := hd.grown m x hx
              obtain ⟨ga, rfl, hcells⟩ := rowCellsB hd.all (by omega)
              obtain ⟨-, hcx⟩ := hcells m _ hx
              obtain ⟨ax, cx, rfl⟩ := ownsRow_slice hrx.1
              have hm0 : (0 : Int) ≤ (m : Int) := by omega
              have hmb : m ≤ 85899345920 := by have := HAL.out; omega
              have hm1 : (m : Int) < (A.length : Int) := by omega
              have HX := hid hx
              clear hd hcells hx
              go_wp2_with fail
              clear hcx
              go_loopw [10] (fun i wr => ∃ j : Nat, i = .int .i64 (j : Int) ∧ j ≤ k ∧ Fresh w5 wr) (fun i _ => k - (intOf i).toNat)
              case atStart => exact ⟨0, rfl, Nat.zero_le _, f⟩
              case round =>
                obtain ⟨j, rfl, hj, f2⟩ := hrel
                have hd := HD.out.fresh f2
                obtain ⟨k2, -, hrx2, -⟩ := hd.grown m _ HX.out
                obtain ⟨gb, hgb, hcells⟩ := rowCellsB hd.all (by omega)
                injection hgb with hgb
                injection hgb with hgb
                subst hgb
                obtain ⟨-, hcx⟩ := hcells m _ HX.out
                obtain ⟨ax2, cx2, hve⟩ := ownsRow_slice hrx2.1
                injection hve with e1 e2 e3
                obtain rfl : k2 = k := e2.symm
                subst e1
                subst e3
                by_cases hjk : j < k2
                · obtain ⟨g, rfl, hgc⟩ := rowCellsB hrx2.1 (by omega)
                  obtain ⟨-, hv⟩ := hgc j _ (reps_one _ k2 j hjk)
                  have hj0 : (0 : Int) ≤ (j : Int) := by omega
                  have hj1 : (j : Int) < (k2 : Int) := by omega
                  have hgal : ga < wr.heap.size := (hd.all.lt ga rfl).2
                  have hgl : g < wr.heap.size := (hrx2.1.lt g rfl).2
                  have hmk := fun W => mark_quo m (by have := HAL.out; omega) W
                  replace hv : wr.cell? ⟨g, j, none⟩ = some (.string (str (markL (m / 20)))) := hv
                  generalize str (markL (m / 20)) = ms at hmk hv
                  have hqm : (ms.toList != ms.toList) = false := by simp
                  clear hd hcells hrx2 hgc
                  go_wp2_with fail
                  go_region_law (first | (go_simp; go_at_call 93; refine (hmk _).mono ?_; rintro e w3 ⟨rfl, f0⟩; have f : Fresh wr w3 := (by first | exact f0 | exact ((Keeps.refl (fun _ => False) wr).drew).trans f0); clear f0; have hcx' := (f.cell (p := ⟨ga, m, none⟩) hgal (fun h => h)).trans hcx; have hv' := (f.cell (p := ⟨g, j, none⟩) hgl (fun h => h)).trans hv))
                  all_goals
                    go_wp2_with fail
                    go_roundw
                    case rel => exact ⟨j + 1, by go_num, by omega, f2.trans f⟩
                    case measure => simp [intOf]; omega
                · obtain rfl : j = k2 := by omega
                  clear hd hcells hrx2
                  go_wp2_with fail
                  go_roundw
                  case rel => exact ⟨m + 1, by go_num, by omega, f2⟩
                  case measure => simp [intOf]; omega
            · obtain rfl : m = A.length := by omega
              have hkw : Keeps (fun g => c g < X.length) w wr := hd.keeps.mono fun g hg h => by rw [← hag g hg]; exact h
              have HKW := hid (HE.out wr hkw)
              clear hd hkw
              go_wp2_with fail
              go_ret
              exact ⟨rfl, HKW.out⟩
end Go.Proofs.YtpccaodkgboefaaGreatDoor

namespace Go.Proofs.YtpccaodkgboefaaGreatDoor
open Go.RowKit

set_option maxRecDepth 100000 in
set_option maxHeartbeats 16000000 in
theorem outer_any (w : World) (b : Nat) (X Y : List Value) (V W : Value) (h : Outer w b X Y 1000000000 V W) (hN : X.length ≤ 4294967296) (hNY : Y.length ≤ 4294967296) :
    Calls Tryz.prog 53 #[.pointer (some ⟨b, 0, none⟩)] w fun e w' => e = .returned (.bool true) ∧ Keeps (fun q => (∃ u ∈ X, u.ownBlock = some q) ∨ ∃ u ∈ Y, u.ownBlock = some q) w w' := by
  obtain ⟨TT, hTT⟩ : ∃ TT : Nat → Prop, (fun q => (∃ u ∈ X, u.ownBlock = some q) ∨ ∃ u ∈ Y, u.ownBlock = some q) = TT := ⟨_, rfl⟩
  have hTX : ∀ u ∈ X, ∀ q, u.ownBlock = some q → TT q := fun u hu q hq => by rw [← hTT]; exact .inl ⟨u, hu, hq⟩
  have hTY : ∀ u ∈ Y, ∀ q, u.ownBlock = some q → TT q := fun u hu q hq => by rw [← hTT]; exact .inr ⟨u, hu, hq⟩
  have hTb : ¬ TT b := fun q => by
    rw [← hTT] at q
    rcases q with ⟨u, hu, hq⟩ | ⟨u, hu, hq⟩
    · exact (h.one.off u hu b hq).1 rfl
    · exact (h.two.off u hu b hq).1 rfl
  have hTV : ∀ g, V.ownBlock = some g → ¬ TT g := fun g hg q => by
    rw [← hTT] at q
    rcases q with ⟨u, hu, hq⟩ | ⟨u, hu, hq⟩
    · exact (h.one.off u hu g hq).2 hg
    · exact h.off u hu g hq hg
  have hTW : ∀ g, W.ownBlock = some g → ¬ TT g := fun g hg q => by
    rw [← hTT] at q
    rcases q with ⟨u, hu, hq⟩ | ⟨u, hu, hq⟩
    · exact (h.apart u hu g hq).1 hg
    · exact (h.two.off u hu g hq).2 hg
  rw [hTT]
  have HK2 : Hid (∀ wr, Keeps TT w wr → wr.cell? ⟨b, 2, none⟩ = some V ∧ wr.ownsRow 0 24 1 V X.length X) := fun wr k => ⟨(k.cell (p := ⟨b, 2, none⟩) h.one.there hTb).trans h.one.cell, ownsRow_keeps h.one.row k hTV⟩
  have HK3 : Hid (∀ wr, Keeps TT w wr → wr.cell? ⟨b, 3, none⟩ = some W ∧ wr.ownsRow 0 46 1 W Y.length Y) := fun wr k => ⟨(k.cell (p := ⟨b, 3, none⟩) h.one.there hTb).trans h.two.cell, ownsRow_keeps h.two.row k hTW⟩
  obtain ⟨c2, hF2, hc2⟩ := Flock.start (e := 26) (size := 7) (U := fun n => [.int .i64 (-5 - (n : Int)), .int .i64 0, .int .i64 0, .int .i64 0, .slice none 0 0, .slice none 0 0, .slice none 0 0]) h.one.rows h.one.apart
  have HF2 := hid hF2
  have HC2 : Hid (∀ q, c2 q < X.length → TT q) := fun q hq => by
    obtain ⟨v, hv, he⟩ := hc2 q hq
    exact hTX v hv q he
  have HO2 := hid hc2
  have HKE := hid (Keeps.refl TT w)
  have KW2 := HKE
  have HOUT := hid h
  have HTX := hid hTX
  have HTY := hid hTY
  obtain ⟨ov, cv, hV⟩ := ownsRow_slice h.one.row
  obtain ⟨oW, cW, hW⟩ := ownsRow_slice h.two.row
  subst hV
  subst hW
  have cc := (HK2.out w KW2.out).1
  clear hF2 hTX hTY hTb hTV hTW hc2 h hTT
  go_enter Tryz.func53, Tryz.ntmps53
  go_wp2_with fail
  clear cc
  go_loopw [3] (fun i wr => ∃ n : Nat, i = .int .i64 (n : Int) ∧ n ≤ X.length ∧ Flock c2 w 26 7 (fun n => [.int .i64 (-5 - (n : Int)), .int .i64 0, .int .i64 0, .int .i64 0, .slice none 0 0, .slice none 0 0, .slice none 0 0]) n X 1000000000 wr) (fun i _ => X.length - (intOf i).toNat)
  case atStart => exact ⟨0, rfl, Nat.zero_le _, HF2.out⟩
  case round =>
    obtain ⟨n, rfl, hn, fl⟩ := hrel
    obtain ⟨cc, hrow⟩ := HK2.out wr (KW2.out.trans (fl.keeps.mono fun q _ hq => HC2.out q hq))
    have FL := hid fl
    by_cases hlt : n < X.length
    · obtain ⟨x, hx⟩ : ∃ x, X[n]? = some x := ⟨X[n], by simp⟩
      obtain ⟨k, hk, hh⟩ := fl.begin hx
      have hn1 : (n : Int) < (X.length : Int) := by omega
      have HX := hid hx
      have HH := hid hh
      clear fl hrow hx hh
      go_wp2_with fail
      clear cc
      go_loopw [4] (fun i wr => ∃ j : Nat, i = .int .i64 (j : Int) ∧ j ≤ k ∧ Flock c2 w 26 7 (fun n => [.int .i64 (-5 - (n : Int)), .int .i64 0, .int .i64 0, .int .i64 0, .slice none 0 0, .slice none 0 0, .slice none 0 0]) n X 1000000000 wr ∧ Half wr 26 7 [.int .i64 (-5 - (n : Int)), .int .i64 0, .int .i64 0, .int .i64 0, .slice none 0 0, .slice none 0 0, .slice none 0 0] x k j) (fun i _ => k - (intOf i).toNat)
      case atStart => exact ⟨0, rfl, Nat.zero_le _, FL.out, HH.out⟩
      case round =>
        obtain ⟨j, rfl, hj, fl, hh⟩ := hrel
        obtain ⟨cc, hrow⟩ := HK2.out wr (KW2.out.trans (fl.keeps.mono fun q _ hq => HC2.out q hq))
        obtain ⟨gr, hgr0, hcells⟩ := rowCellsB hrow (by omega)
        rw [hgr0] at cc
        obtain ⟨-, hcx⟩ := hcells n _ HX.out
        obtain ⟨ys, hrx, -⟩ := id hh
        obtain ⟨ao, cap, rfl⟩ := ownsRow_slice hrx
        have hn0 : (0 : Int) ≤ (n : Int) := by omega
        have FL2 := hid fl
        have HH2 := hid hh
        by_cases hjk : j < k
        · obtain ⟨g, rfl, hgc⟩ := rowCellsB hrx (by omega)
          have hj0 : (0 : Int) ≤ (j : Int) := by omega
          have hj1 : (j : Int) < (k : Int) := by omega
          have hyl : (reps j [.int .i64 (-5 - (n : Int)), .int .i64 0, .int .i64 0, .int .i64 0, .slice none 0 0, .slice none 0 0, .slice none 0 0] ++ ys).length = k * 7 := hrx.1
          have hcl : ∀ i, i < 7 → ∃ y, wr.cell? ⟨g, j * 7 + i, none⟩ = some y := fun i hi => ⟨_, (hgc (j * 7 + i) _ (List.getElem?_eq_getElem (by have := Nat.mul_le_mul_right 7 (show j + 1 ≤ k from hjk); omega))).2⟩
          obtain ⟨y0, hy0⟩ := hcl 0 (by decide)
          obtain ⟨y1, hy1⟩ := hcl 1 (by decide)
          obtain ⟨y2, hy2⟩ := hcl 2 (by decide)
          obtain ⟨y3, hy3⟩ := hcl 3 (by decide)
          obtain ⟨y4, hy4⟩ := hcl 4 (by decide)
          obtain ⟨y5, hy5⟩ := hcl 5 (by decide)
          obtain ⟨y6, hy6⟩ := hcl 6 (by decide)
          simp only [Nat.add_zero] at hy0
          have hf0 := hrx.frozenAt (j * 7 + 0)
          have hf1 := hrx.frozenAt (j * 7 + 1)
          have hf2 := hrx.frozenAt (j * 7 + 2)
          have hf3 := hrx.frozenAt (j * 7 + 3)
          have hf4 := hrx.frozenAt (j * 7 + 4)
          have hf5 := hrx.frozenAt (j * 7 + 5)
          have hf6 := hrx.frozenAt (j * 7 + 6)
          simp only [Nat.add_zero] at hf0
          have hh2 := hh.puts rfl hjk
          have HP := hid (FL2.out.turn HX.out (w' := wr.setCells g (j * 7) [.int .i64 (-5 - (n : Int)), .int .i64 0, .int .i64 0, .int .i64 0, .slice none 0 0, .slice none 0 0, .slice none 0 0]) ⟨(setCells_os g _ _ _).1, (setCells_os g _ _ _).2.1, (setCells_os g _ _ _).2.2, by rw [setCells_size]; exact Nat.le_refl _, fun q _ hq => setCells_other g q (fun e => hq (by rw [e]; rfl)) _ _ _⟩ hh2 hk)
          have HH3 := hid hh2
          simp only [World.setCells, Nat.add_assoc, Nat.reduceAdd] at HP HH3
          clear fl hh hrow hcells hrx hgc hh2 hcl hyl hgr0
          go_wp2_with fail
          go_roundw
          case rel => exact ⟨j + 1, by go_num, by omega, HP.out, HH3.out⟩
          case measure => simp [intOf]; omega
        · obtain rfl : j = k := by omega
          clear fl hh hrow hcells hrx hgr0
          go_wp2_with fail
          go_roundw
          case rel => exact ⟨n + 1, by go_num, by omega, FL2.out.next HX.out HH2.out hk rfl⟩
          case measure => simp [intOf]; omega
    · obtain rfl : n = X.length := by omega
      rename World => w1
      have FL0 := FL
      have k1 := fl.keeps.mono (S' := TT) fun q _ hq => HC2.out q hq
      have KW3 := hid k1
      have hoff3 : ∀ q, c2 q < X.length → ∀ v ∈ Y, v.ownBlock ≠ some q := fun q hq v hv => by
        obtain ⟨u, hu, he⟩ := HO2.out q hq
        exact (HOUT.out.apart u hu q he).2 v hv
      have HOFF := hid hoff3
      have hrows3 : ∀ (j : Nat) (u : Value), Y[j]? = some u → ∃ k xs, k ≤ 1000000000 ∧ w1.ownsRow 0 48 8 u k xs := fun j u hu => by
        obtain ⟨k, xs, q1, q2⟩ := HOUT.out.two.rows j u hu
        exact ⟨k, xs, q1, ownsRow_keeps q2 fl.keeps fun g hg hq => hoff3 g hq u (List.mem_of_getElem? hu) hg⟩
      obtain ⟨c3, hF3, hc3⟩ := Flock.start (e := 48) (size := 8) (U := fun n => [.int .i64 0, .int .i64 0, .int .i64 (-5 - (n : Int)), .int .i64 0, .string ⟨#[]⟩, .slice none 0 0, .slice none 0 0, .slice none 0 0]) hrows3 HOUT.out.two.apart
      have HF3 := hid hF3
      have HC3 : Hid (∀ q, c3 q < Y.length → TT q) := fun q hq => by
        obtain ⟨v, hv, he⟩ := hc3 q hq
        exact HTY.out v hv q he
      have HO3 := hid hc3
      have HDIS : Hid (∀ q, c3 q < Y.length → ¬ c2 q < X.length) := fun q hq hq2 => by
        obtain ⟨v, hv, he⟩ := hc3 q hq
        exact hoff3 q hq2 v hv he
      have HSM : Hid (∀ q, c3 q < Y.length → q < w1.heap.size) := fun q hq => by
        obtain ⟨v, hv, he⟩ := hc3 q hq
        obtain ⟨j, hj⟩ := List.mem_iff_getElem?.1 hv
        obtain ⟨k, xs, -, q2⟩ := hrows3 j v hj
        exact (q2.lt q he).2
      have cw := (HK3.out w1 k1).1
      clear fl hrow k1 hoff3 hrows3 hF3 hc3
      go_wp2_with fail
      clear cc cw
      go_loopw [5] (fun i wr => ∃ n : Nat, i = .int .i64 (n : Int) ∧ n ≤ Y.length ∧ Flock c3 w1 48 8 (fun n => [.int .i64 0, .int .i64 0, .int .i64 (-5 - (n : Int)), .int .i64 0, .string ⟨#[]⟩, .slice none 0 0, .slice none 0 0, .slice none 0 0]) n Y 1000000000 wr) (fun i _ => Y.length - (intOf i).toNat)
      case atStart => exact ⟨0, rfl, Nat.zero_le _, HF3.out⟩
      case round =>
        obtain ⟨n, rfl, hn, fl⟩ := hrel
        obtain ⟨cc, hrow⟩ := HK3.out wr (KW3.out.trans (fl.keeps.mono fun q _ hq => HC3.out q hq))
        have FL := hid fl
        by_cases hlt : n < Y.length
        · obtain ⟨x, hx⟩ : ∃ x, Y[n]? = some x := ⟨Y[n], by simp⟩
          obtain ⟨k, hk, hh⟩ := fl.begin hx
          have hn1 : (n : Int) < (Y.length : Int) := by omega
          have HX := hid hx
          have HH := hid hh
          clear fl hrow hx hh
          go_wp2_with fail
          clear cc
          go_loopw [6] (fun i wr => ∃ j : Nat, i = .int .i64 (j : Int) ∧ j ≤ k ∧ Flock c3 w1 48 8 (fun n => [.int .i64 0, .int .i64 0, .int .i64 (-5 - (n : Int)), .int .i64 0, .string ⟨#[]⟩, .slice none 0 0, .slice none 0 0, .slice none 0 0]) n Y 1000000000 wr ∧ Half wr 48 8 [.int .i64 0, .int .i64 0, .int .i64 (-5 - (n : Int)), .int .i64 0, .string ⟨#[]⟩, .slice none 0 0, .slice none 0 0, .slice none 0 0] x k j) (fun i _ => k - (intOf i).toNat)
          case atStart => exact ⟨0, rfl, Nat.zero_le _, FL.out, HH.out⟩
          case round =>
            obtain ⟨j, rfl, hj, fl, hh⟩ := hrel
            obtain ⟨cc, hrow⟩ := HK3.out wr (KW3.out.trans (fl.keeps.mono fun q _ hq => HC3.out q hq))
            obtain ⟨gr, hgr0, hcells⟩ := rowCellsB hrow (by omega)
            rw [hgr0] at cc
            obtain ⟨-, hcx⟩ := hcells n _ HX.out
            obtain ⟨ys, hrx, -⟩ := id hh
            obtain ⟨ao, cap, rfl⟩ := ownsRow_slice hrx
            have hn0 : (0 : Int) ≤ (n : Int) := by omega
            have FL2 := hid fl
            have HH2 := hid hh
            by_cases hjk : j < k
            · obtain ⟨g, rfl, hgc⟩ := rowCellsB hrx (by omega)
              have hj0 : (0 : Int) ≤ (j : Int) := by omega
              have hj1 : (j : Int) < (k : Int) := by omega
              have hyl : (reps j [.int .i64 0, .int .i64 0, .int .i64 (-5 - (n : Int)), .int .i64 0, .string ⟨#[]⟩, .slice none 0 0, .slice none 0 0, .slice none 0 0] ++ ys).length = k * 8 := hrx.1
              have hcl : ∀ i, i < 8 → ∃ y, wr.cell? ⟨g, j * 8 + i, none⟩ = some y := fun i hi => ⟨_, (hgc (j * 8 + i) _ (List.getElem?_eq_getElem (by have := Nat.mul_le_mul_right 8 (show j + 1 ≤ k from hjk); omega))).2⟩
              obtain ⟨y0, hy0⟩ := hcl 0 (by decide)
              obtain ⟨y1, hy1⟩ := hcl 1 (by decide)
              obtain ⟨y2, hy2⟩ := hcl 2 (by decide)
              obtain ⟨y3, hy3⟩ := hcl 3 (by decide)
              obtain ⟨y4, hy4⟩ := hcl 4 (by decide)
              obtain ⟨y5, hy5⟩ := hcl 5 (by decide)
              obtain ⟨y6, hy6⟩ := hcl 6 (by decide)
              obtain ⟨y7, hy7⟩ := hcl 7 (by decide)
              simp only [Nat.add_zero] at hy0
              have hf0 := hrx.frozenAt (j * 8 + 0)
              have hf1 := hrx.frozenAt (j * 8 + 1)
              have hf2 := hrx.frozenAt (j * 8 + 2)
              have hf3 := hrx.frozenAt (j * 8 + 3)
              have hf4 := hrx.frozenAt (j * 8 + 4)
              have hf5 := hrx.frozenAt (j * 8 + 5)
              have hf6 := hrx.frozenAt (j * 8 + 6)
              have hf7 := hrx.frozenAt (j * 8 + 7)
              simp only [Nat.add_zero] at hf0
              have hh2 := hh.puts rfl hjk
              have HP := hid (FL2.out.turn HX.out (w' := wr.setCells g (j * 8) [.int .i64 0, .int .i64 0, .int .i64 (-5 - (n : Int)), .int .i64 0, .string ⟨#[]⟩, .slice none 0 0, .slice none 0 0, .slice none 0 0]) ⟨(setCells_os g _ _ _).1, (setCells_os g _ _ _).2.1, (setCells_os g _ _ _).2.2, by rw [setCells_size]; exact Nat.le_refl _, fun q _ hq => setCells_other g q (fun e => hq (by rw [e]; rfl)) _ _ _⟩ hh2 hk)
              have HH3 := hid hh2
              simp only [World.setCells, Nat.add_assoc, Nat.reduceAdd] at HP HH3
              clear fl hh hrow hcells hrx hgc hh2 hcl hyl hgr0
              go_wp2_with fail
              go_roundw
              case rel => exact ⟨j + 1, by go_num, by omega, HP.out, HH3.out⟩
              case measure => simp [intOf]; omega
            · obtain rfl : j = k := by omega
              clear fl hh hrow hcells hrx hgr0
              go_wp2_with fail
              go_roundw
              case rel => exact ⟨n + 1, by go_num, by omega, FL2.out.next HX.out HH2.out hk rfl⟩
              case measure => simp [intOf]; omega
        · obtain rfl : n = Y.length := by omega
          rename World => w2
          have k2 := KW3.out.trans (fl.keeps.mono (S' := TT) fun q _ hq => HC3.out q hq)
          have KG2 := hid k2
          have HSZ := hid fl.keeps.size
          have HH2 := hid (FL0.out.again 24 (fun m => m / 20) fl.keeps (fun q hq => HDIS.out q hq))
          have FL3 := hid fl
          have cw := (HK2.out w2 k2).1
          clear fl hrow k2
          go_wp2_with fail
          clear cc cw
          go_loopw [7, 8] (fun av i wr => ∃ (n : Nat) (c' : Nat → Nat) (A : List Value), i = .int .i64 (n : Int) ∧ n ≤ X.length ∧ (∀ g, g < w2.heap.size → c' g = c2 g) ∧ A.length = 20 * n ∧ Herd c' w2 26 7 24 (fun n => [.int .i64 (-5 - (n : Int)), .int .i64 0, .int .i64 0, .int .i64 0, .slice none 0 0, .slice none 0 0, .slice none 0 0]) (fun m => m / 20) X.length n X A av 1000000000 1000000020 wr) (fun _ i _ => X.length - (intOf i).toNat)
          case atStart => exact ⟨0, c2, [], rfl, Nat.zero_le _, fun _ _ => rfl, rfl, HH2.out.most (by omega)⟩
          case round =>
            obtain ⟨n, c', A, rfl, hn, hag, hA, hd⟩ := hrel
            have hkw := KG2.out.trans (hd.keeps.mono fun g hg h => HC2.out g (by rw [← hag g hg]; exact h))
            obtain ⟨cc, hrow⟩ := HK2.out wr hkw
            have HKW := hid hkw
            have HD := hid hd
            by_cases hlt : n < X.length
            · obtain ⟨x, hx⟩ : ∃ x, X[n]? = some x := ⟨X[n], by simp⟩
              obtain ⟨gr, hgr0, hcells⟩ := rowCellsB hrow (by omega)
              rw [hgr0] at cc
              obtain ⟨-, hcx⟩ := hcells n _ hx
              obtain ⟨L, hL, hg⟩ := hd.begin hx
              have HG := hid hg
              have hn0 : (0 : Int) ≤ (n : Int) := by omega
              have hn1 : (n : Int) < (X.length : Int) := by omega
              obtain ⟨ax, cx, rfl⟩ := ownsRow_slice hg.x.1
              obtain ⟨aa, ca, rfl⟩ := ownsRow_slice hd.all
              clear hd hkw hrow hcells hg hgr0
              go_wp2_with fail
              clear cc hcx
              go_loopw [7, 9, 10] (fun av xv i wr => ∃ (j : Nat) (c' : Nat → Nat) (A : List Value) (L : Nat), i = .int .i64 (j : Int) ∧ j ≤ 20 ∧ (∀ g, g < w2.heap.size → c' g = c2 g) ∧ A.length = 20 * n + j ∧ L ≤ 1000000000 + j ∧ Growing c' w2 26 7 24 (fun n => [.int .i64 (-5 - (n : Int)), .int .i64 0, .int .i64 0, .int .i64 0, .slice none 0 0, .slice none 0 0, .slice none 0 0]) (fun m => m / 20) X.length n X A av xv L 1000000000 1000000020 wr) (fun _ _ i _ => 20 - (intOf i).toNat)
              case atStart => exact ⟨0, c', A, L, rfl, by omega, hag, hA, hL, HG.out⟩
              case round =>
                obtain ⟨j, c2', B, L2, rfl, hj, hag2, hB, hL2, hg⟩ := hrel
                obtain ⟨ax, cx, rfl⟩ := ownsRow_slice hg.x.1
                obtain ⟨aa, ca, rfl⟩ := ownsRow_slice hg.all
                have HG2 := hid hg
                by_cases hj20 : j < 20
                · have hj1 : (j : Int) < 20 := by omega
                  obtain ⟨i0, hi, hz0, hz1, hz2⟩ := info_parts Tryz.infoReq
                  obtain ⟨i1, hi', hz0', hz1', hz2'⟩ := info_parts (Tryz.infoSliceB 2)
                  have hBl : B.length + 1 ≤ 85899345940 := by omega
                  have HBL := hid hB
                  clear hg hB
                  go_wp2_with (at_builtin; refine wpList_push rfl (.tmp 105) (.tmp 107) 31 rfl 24 i1 (.slice none 0 0) 24 Tryz.underlying31 hi' hz0' hz1' hz2' rfl wr HG2.out.all _ (by rfl) (by rfl) rfl (by omega) (by unfold maxLen; omega) ?_)
                  intro v4 w4 ha
                  obtain ⟨c3', hag3, hg3⟩ := HG2.out.note (by have := HBL.out; show B.length / 20 = n; omega) (by omega) ha
                  obtain ⟨aa4, ca4, rfl⟩ := ownsRow_slice ha.row
                  have HG3 := hid hg3
                  clear ha hg3
                  go_wp2_with (at_builtin; refine wpList_growN rfl (.tmp 109) (.tmp 113) 24 rfl 26 i0 (.agg #[.int .i64 0, .int .i64 0, .int .i64 0, .int .i64 0, .slice none 0 0, .slice none 0 0, .slice none 0 0]) 7 104 Tryz.underlying24 hi hz0 hz1 hz2 rfl (by decide) w4 HG3.out.x.1 _ (by rfl) (by rfl) (by rfl) (by simp [Value.oneCell']) (by omega) (by unfold maxLen; omega) ?_)
                  intro v5 w5 hgr
                  obtain ⟨c4', hag4, hg4⟩ := HG3.out.grow hgr
                  obtain ⟨ax5, cx5, rfl⟩ := ownsRow_slice hgr.app.row
                  have HG4 := hid hg4
                  clear hgr hg4
                  go_wp2_with fail
                  go_roundw
                  case rel => first | exact ⟨j + 1, c4', B ++ [.slice ax L2 cx], L2 + 1, by go_num, by omega, fun g hg => by rw [hag4 g hg, hag3 g hg, hag2 g hg], by rw [List.length_append, HBL.out]; rfl, by omega, HG4.out⟩ | ((repeat apply Exists.intro); exact ⟨⟨j + 1, c4', B ++ [.slice ax L2 cx], L2 + 1, by go_num, by omega, fun g hg => by rw [hag4 g hg, hag3 g hg, hag2 g hg], by rw [List.length_append, HBL.out]; rfl, by omega, HG4.out⟩, rfl⟩)
                  case measure => simp [intOf]; omega
                · obtain rfl : j = 20 := by omega
                  clear hg
                  go_wp2_with fail
                  go_roundw
                  case rel => exact ⟨n + 1, c2', B, by go_num, by omega, hag2, by omega, HG2.out.fin⟩
                  case measure => simp [intOf]; omega
            · obtain rfl : n = X.length := by omega
              rename World => w3
              obtain ⟨A2, hA2⟩ : ∃ B, B = A := ⟨_, rfl⟩
              rw [← hA2] at hd hA
              have hrk := hd.ranks (Nat.le_refl _) (fun q => c3 q < Y.length) (fun q hq => by
                have h1 := HSM.out q hq
                have h2 := HSZ.out
                exact ⟨by omega, by rw [hag q (by omega)]; exact HDIS.out q hq⟩)
              have KG3 := hid hkw
              have HH3 := hid (FL3.out.again 46 (fun m => m / 20) (Q := fun q => c2 q < X.length) (hd.keeps.mono fun q hq h => by rw [← hag q hq]; exact h) (fun q hq hq3 => HDIS.out q hq3 hq))
              obtain ⟨aa2, ca2, rfl⟩ := ownsRow_slice hd.all
              have HRK := hid hrk
              have HAL2 := hid hA
              have cw := (HK3.out w3 hkw).1
              clear hd hrow hkw hA hrk hA2
              go_wp2_with fail
              clear cc cw
              go_loopw [11, 12] (fun av i wr => ∃ (n : Nat) (c' : Nat → Nat) (A : List Value), i = .int .i64 (n : Int) ∧ n ≤ Y.length ∧ (∀ g, g < w3.heap.size → c' g = c3 g) ∧ A.length = 20 * n ∧ Herd c' w3 48 8 46 (fun n => [.int .i64 0, .int .i64 0, .int .i64 (-5 - (n : Int)), .int .i64 0, .string ⟨#[]⟩, .slice none 0 0, .slice none 0 0, .slice none 0 0]) (fun m => m / 20) Y.length n Y A av 1000000000 1000000020 wr) (fun _ i _ => Y.length - (intOf i).toNat)
              case atStart => exact ⟨0, c3, [], rfl, Nat.zero_le _, fun _ _ => rfl, rfl, HH3.out.most (by omega)⟩
              case round =>
                obtain ⟨n, c', A, rfl, hn, hag, hA, hd⟩ := hrel
                have hkw := KG3.out.trans (hd.keeps.mono fun g hg h => HC3.out g (by rw [← hag g hg]; exact h))
                obtain ⟨cc, hrow⟩ := HK3.out wr hkw
                have HKW := hid hkw
                have HD := hid hd
                by_cases hlt : n < Y.length
                · obtain ⟨x, hx⟩ : ∃ x, Y[n]? = some x := ⟨Y[n], by simp⟩
                  obtain ⟨gr, hgr0, hcells⟩ := rowCellsB hrow (by omega)
                  rw [hgr0] at cc
                  obtain ⟨-, hcx⟩ := hcells n _ hx
                  obtain ⟨L, hL, hg⟩ := hd.begin hx
                  have HG := hid hg
                  have hn0 : (0 : Int) ≤ (n : Int) := by omega
                  have hn1 : (n : Int) < (Y.length : Int) := by omega
                  obtain ⟨ax, cx, rfl⟩ := ownsRow_slice hg.x.1
                  obtain ⟨aa, ca, rfl⟩ := ownsRow_slice hd.all
                  clear hd hkw hrow hcells hg hgr0
                  go_wp2_with fail
                  clear cc hcx
                  go_loopw [11, 13, 14] (fun av xv i wr => ∃ (j : Nat) (c' : Nat → Nat) (A : List Value) (L : Nat), i = .int .i64 (j : Int) ∧ j ≤ 20 ∧ (∀ g, g < w3.heap.size → c' g = c3 g) ∧ A.length = 20 * n + j ∧ L ≤ 1000000000 + j ∧ Growing c' w3 48 8 46 (fun n => [.int .i64 0, .int .i64 0, .int .i64 (-5 - (n : Int)), .int .i64 0, .string ⟨#[]⟩, .slice none 0 0, .slice none 0 0, .slice none 0 0]) (fun m => m / 20) Y.length n Y A av xv L 1000000000 1000000020 wr) (fun _ _ i _ => 20 - (intOf i).toNat)
                  case atStart => exact ⟨0, c', A, L, rfl, by omega, hag, hA, hL, HG.out⟩
                  case round =>
                    obtain ⟨j, c2', B, L2, rfl, hj, hag2, hB, hL2, hg⟩ := hrel
                    obtain ⟨ax, cx, rfl⟩ := ownsRow_slice hg.x.1
                    obtain ⟨aa, ca, rfl⟩ := ownsRow_slice hg.all
                    have HG2 := hid hg
                    by_cases hj20 : j < 20
                    · have hj1 : (j : Int) < 20 := by omega
                      obtain ⟨i0, hi, hz0, hz1, hz2⟩ := info_parts Tryz.infoRep
                      obtain ⟨i1, hi', hz0', hz1', hz2'⟩ := info_parts (Tryz.infoSliceB 3)
                      have hBl : B.length + 1 ≤ 85899345940 := by omega
                      have HBL := hid hB
                      clear hg hB
                      go_wp2_with (at_builtin; refine wpList_push rfl (.tmp 135) (.tmp 137) 32 rfl 46 i1 (.slice none 0 0) 24 Tryz.underlying32 hi' hz0' hz1' hz2' rfl wr HG2.out.all _ (by rfl) (by rfl) rfl (by omega) (by unfold maxLen; omega) ?_)
                      intro v4 w4 ha
                      obtain ⟨c3', hag3, hg3⟩ := HG2.out.note (by have := HBL.out; show B.length / 20 = n; omega) (by omega) ha
                      obtain ⟨aa4, ca4, rfl⟩ := ownsRow_slice ha.row
                      have HG3 := hid hg3
                      clear ha hg3
                      go_wp2_with (at_builtin; refine wpList_growN rfl (.tmp 139) (.tmp 143) 46 rfl 48 i0 (.agg #[.int .i64 0, .int .i64 0, .int .i64 0, .int .i64 0, .string ⟨#[]⟩, .slice none 0 0, .slice none 0 0, .slice none 0 0]) 8 120 Tryz.underlying46 hi hz0 hz1 hz2 rfl (by decide) w4 HG3.out.x.1 _ (by rfl) (by rfl) (by rfl) (by simp [Value.oneCell']) (by omega) (by unfold maxLen; omega) ?_)
                      intro v5 w5 hgr
                      obtain ⟨c4', hag4, hg4⟩ := HG3.out.grow hgr
                      obtain ⟨ax5, cx5, rfl⟩ := ownsRow_slice hgr.app.row
                      have HG4 := hid hg4
                      clear hgr hg4
                      go_wp2_with fail
                      go_roundw
                      case rel => first | exact ⟨j + 1, c4', B ++ [.slice ax L2 cx], L2 + 1, by go_num, by omega, fun g hg => by rw [hag4 g hg, hag3 g hg, hag2 g hg], by rw [List.length_append, HBL.out]; rfl, by omega, HG4.out⟩ | ((repeat apply Exists.intro); exact ⟨⟨j + 1, c4', B ++ [.slice ax L2 cx], L2 + 1, by go_num, by omega, fun g hg => by rw [hag4 g hg, hag3 g hg, hag2 g hg], by rw [List.length_append, HBL.out]; rfl, by omega, HG4.out⟩, rfl⟩)
                      case measure => simp [intOf]; omega
                    · obtain rfl : j = 20 := by omega
                      clear hg
                      go_wp2_with fail
                      go_roundw
                      case rel => exact ⟨n + 1, c2', B, by go_num, by omega, hag2, by omega, HG2.out.fin⟩
                      case measure => simp [intOf]; omega
                · obtain rfl : n = Y.length := by omega
                  rename World => w4
                  obtain ⟨A3, hA3⟩ : ∃ B, B = A := ⟨_, rfl⟩
                  rw [← hA3] at hd hA
                  have RK2 := hid (HRK.out.keeps hd.keeps fun q hq h => by rw [← hag q hq]; exact h)
                  have RK3 := hid (hd.ranks (Nat.le_refl _) (fun _ => False) (fun _ h => h.elim))
                  obtain ⟨aa3, ca3, rfl⟩ := ownsRow_slice hd.all
                  have HAL3 := hid hA
                  have HEND := hid hkw
                  clear hd hrow hkw hA hA3
                  go_wp2_with fail
                  clear cc
                  go_loopw [15] (fun i wr => ∃ m : Nat, i = .int .i64 (m : Int) ∧ m ≤ A2.length ∧ Fresh w4 wr) (fun i _ => A2.length - (intOf i).toNat)
                  case atStart => exact ⟨0, rfl, Nat.zero_le _, Keeps.refl _ _⟩
                  case round =>
                    obtain ⟨m, rfl, hm, f⟩ := hrel
                    have hd := RK2.out.fresh f
                    by_cases hlt : m < A2.length
                    · obtain ⟨x, hx⟩ : ∃ x, A2[m]? = some x := ⟨A2[m], by simp⟩
                      obtain ⟨k, hk, hrx, -⟩ := hd.rows m x hx
                      obtain ⟨ga, hga, hcells⟩ := rowCellsB hd.all (by omega)
                      subst hga
                      obtain ⟨-, hcx⟩ := hcells m _ hx
                      obtain ⟨ax, cx, rfl⟩ := ownsRow_slice hrx
                      have hm0 : (0 : Int) ≤ (m : Int) := by omega
                      have hmb : m ≤ 85899345920 := by have := HAL2.out; omega
                      have hm1 : (m : Int) < (A2.length : Int) := by omega
                      have HX := hid hx
                      clear hd hcells hx hrx
                      go_wp2_with fail
                      clear hcx
                      go_loopw [16] (fun i wr => ∃ j : Nat, i = .int .i64 (j : Int) ∧ j ≤ k ∧ Fresh w4 wr) (fun i _ => k - (intOf i).toNat)
                      case atStart => exact ⟨0, rfl, Nat.zero_le _, f⟩
                      case round =>
                        obtain ⟨j, rfl, hj, f2⟩ := hrel
                        have hd := RK2.out.fresh f2
                        obtain ⟨k2, -, hrx2, -⟩ := hd.rows m _ HX.out
                        obtain ⟨gb, hgb, hcells⟩ := rowCellsB hd.all (by omega)
                        injection hgb with hgb
                        injection hgb with hgb
                        subst hgb
                        obtain ⟨-, hcx⟩ := hcells m _ HX.out
                        obtain ⟨ax2, cx2, hve⟩ := ownsRow_slice hrx2
                        injection hve with e1 e2 e3
                        obtain rfl : k2 = k := e2.symm
                        subst e1
                        subst e3
                        by_cases hjk : j < k2
                        · obtain ⟨g, rfl, hgc⟩ := rowCellsB hrx2 (by omega)
                          have hv := (hgc (j * 7 + 0) _ (reps_get [.int .i64 (-5 - ((m / 20 : Nat) : Int)), .int .i64 0, .int .i64 0, .int .i64 0, .slice none 0 0, .slice none 0 0, .slice none 0 0] k2 j 0 hjk (by simp))).2
                          simp at hv
                          have hj0 : (0 : Int) ≤ (j : Int) := by omega
                          have hj1 : (j : Int) < (k2 : Int) := by omega
                          clear hd hcells hrx2 hgc
                          go_wp2_with fail
                          go_roundw
                          case rel => exact ⟨j + 1, by go_num, by omega, f2⟩
                          case measure => simp [intOf]; omega
                        · obtain rfl : j = k2 := by omega
                          clear hd hcells hrx2
                          go_wp2_with fail
                          go_roundw
                          case rel => exact ⟨m + 1, by go_num, by omega, f2⟩
                          case measure => simp [intOf]; omega
                    · obtain rfl : m = A2.length := by omega
                      clear hd
                      go_wp2_with fail
                      go_loopw [17] (fun i wr => ∃ m : Nat, i = .int .i64 (m : Int) ∧ m ≤ A3.length ∧ Fresh w4 wr) (fun i _ => A3.length - (intOf i).toNat)
                      case atStart => exact ⟨0, rfl, Nat.zero_le _, f⟩
                      case round =>
                        obtain ⟨m, rfl, hm, f⟩ := hrel
                        have hd := RK3.out.fresh f
                        by_cases hlt : m < A3.length
                        · obtain ⟨x, hx⟩ : ∃ x, A3[m]? = some x := ⟨A3[m], by simp⟩
                          obtain ⟨k, hk, hrx, -⟩ := hd.rows m x hx
                          obtain ⟨ga, hga, hcells⟩ := rowCellsB hd.all (by omega)
                          subst hga
                          obtain ⟨-, hcx⟩ := hcells m _ hx
                          obtain ⟨ax, cx, rfl⟩ := ownsRow_slice hrx
                          have hm0 : (0 : Int) ≤ (m : Int) := by omega
                          have hmb : m ≤ 85899345920 := by have := HAL3.out; omega
                          have hm1 : (m : Int) < (A3.length : Int) := by omega
                          have HX := hid hx
                          clear hd hcells hx hrx
                          go_wp2_with fail
                          clear hcx
                          go_loopw [18] (fun i wr => ∃ j : Nat, i = .int .i64 (j : Int) ∧ j ≤ k ∧ Fresh w4 wr) (fun i _ => k - (intOf i).toNat)
                          case atStart => exact ⟨0, rfl, Nat.zero_le _, f⟩
                          case round =>
                            obtain ⟨j, rfl, hj, f2⟩ := hrel
                            have hd := RK3.out.fresh f2
                            obtain ⟨k2, -, hrx2, -⟩ := hd.rows m _ HX.out
                            obtain ⟨gb, hgb, hcells⟩ := rowCellsB hd.all (by omega)
                            injection hgb with hgb
                            injection hgb with hgb
                            subst hgb
                            obtain ⟨-, hcx⟩ := hcells m _ HX.out
                            obtain ⟨ax2, cx2, hve⟩ := ownsRow_slice hrx2
                            injection hve with e1 e2 e3
                            obtain rfl : k2 = k := e2.symm
                            subst e1
                            subst e3
                            by_cases hjk : j < k2
                            · obtain ⟨g, rfl, hgc⟩ := rowCellsB hrx2 (by omega)
                              have hv := (hgc (j * 8 + 2) _ (reps_get [.int .i64 0, .int .i64 0, .int .i64 (-5 - ((m / 20 : Nat) : Int)), .int .i64 0, .string ⟨#[]⟩, .slice none 0 0, .slice none 0 0, .slice none 0 0] k2 j 2 hjk (by simp))).2
                              simp at hv
                              have hj0 : (0 : Int) ≤ (j : Int) := by omega
                              have hj1 : (j : Int) < (k2 : Int) := by omega
                              clear hd hcells hrx2 hgc
                              go_wp2_with fail
                              go_roundw
                              case rel => exact ⟨j + 1, by go_num, by omega, f2⟩
                              case measure => simp [intOf]; omega
                            · obtain rfl : j = k2 := by omega
                              clear hd hcells hrx2
                              go_wp2_with fail
                              go_roundw
                              case rel => exact ⟨m + 1, by go_num, by omega, f2⟩
                              case measure => simp [intOf]; omega
                        · obtain rfl : m = A3.length := by omega
                          clear hd
                          go_wp2_with fail
                          go_ret
                          exact ⟨rfl, HEND.out.trans (f.mono fun _ _ h => h.elim)⟩
end Go.Proofs.YtpccaodkgboefaaGreatDoor

namespace Go.Proofs.YtpccaodkgboefaaGreatDoor
open Go.RowKit

set_option maxRecDepth 100000 in
set_option maxHeartbeats 2000000 in
theorem owned_any (S : Nat → Prop) (w : World) (b N : Nat) (X : Fin 4 → List Value) (h : GBook S w b N X 1000000000) (hN : N ≤ 4294967296) :
    Calls Tryz.prog 17 #[.pointer (some ⟨b, 0, none⟩)] w fun e w' => e = .returned (.bool true) ∧ Keeps (fun q => ∃ j u, u ∈ X j ∧ u.ownBlock = some q) w w' := by
  have hlen : ∀ i, (X i).length ≤ 4294967296 := fun i => by
    obtain ⟨v, -, -, h3⟩ := h
    exact Nat.le_trans (h3 i) hN
  obtain ⟨V0, k0⟩ := h.kind 0 (Keeps.refl (fun _ => False) w) (fun _ h => h.elim)
  have H0 := hid (numbers_any w b (X 0) V0 k0 (hlen 0))
  have H1 : Hid (∀ w1, Keeps (fun q => ∃ u ∈ X 0, u.ownBlock = some q) w w1 → Calls Tryz.prog 52 #[.pointer (some ⟨b, 0, none⟩)] w1 fun e w' => e = .returned (.bool true) ∧ Keeps (fun q => ∃ u ∈ X 1, u.ownBlock = some q) w1 w') := fun w1 k => by
    obtain ⟨V1, k1⟩ := h.kind 1 k (fun q hq => by
      obtain ⟨u, hu, he⟩ := hq
      exact ⟨0, u, by decide, hu, he⟩)
    exact words_any w1 b (X 1) V1 k1 (hlen 1)
  have H2 : Hid (∀ w2, Keeps (fun q => (∃ u ∈ X 0, u.ownBlock = some q) ∨ ∃ u ∈ X 1, u.ownBlock = some q) w w2 → Calls Tryz.prog 53 #[.pointer (some ⟨b, 0, none⟩)] w2 fun e w' => e = .returned (.bool true) ∧ Keeps (fun q => (∃ u ∈ X 2, u.ownBlock = some q) ∨ ∃ u ∈ X 3, u.ownBlock = some q) w2 w') := fun w2 k => by
    obtain ⟨V2, V3, k2⟩ := h.outer k (fun q hq => by
      rcases hq with ⟨u, hu, he⟩ | ⟨u, hu, he⟩
      · exact ⟨0, u, by decide, by decide, hu, he⟩
      · exact ⟨1, u, by decide, by decide, hu, he⟩)
    exact outer_any w2 b (X 2) (X 3) V2 V3 k2 (hlen 2) (hlen 3)
  clear h k0 hlen
  go_enter Tryz.func17, Tryz.ntmps17
  go_wp2_with fail
  refine H0.out.mono ?_
  rintro e w1 ⟨rfl, k1⟩
  have HC1 := hid (H1.out w1 k1)
  have K1 := hid k1
  clear k1
  go_wp2_with fail
  refine HC1.out.mono ?_
  rintro e w2 ⟨rfl, k2⟩
  have k12 : Keeps (fun q => (∃ u ∈ X 0, u.ownBlock = some q) ∨ ∃ u ∈ X 1, u.ownBlock = some q) w w2 := (K1.out.mono fun q _ h => .inl h).trans (k2.mono fun q _ h => .inr h)
  have HC2 := hid (H2.out w2 k12)
  have K2 := hid k12
  clear k2 k12
  go_wp2_with fail
  refine HC2.out.mono ?_
  rintro e w3 ⟨rfl, k3⟩
  have K3 := hid k3
  clear k3
  go_wp2_with fail
  go_ret
  refine ⟨rfl, (K2.out.mono fun q _ h => ?_).trans (K3.out.mono fun q _ h => ?_)⟩
  · rcases h with ⟨u, hu, he⟩ | ⟨u, hu, he⟩
    · exact ⟨0, u, hu, he⟩
    · exact ⟨1, u, hu, he⟩
  · rcases h with ⟨u, hu, he⟩ | ⟨u, hu, he⟩
    · exact ⟨2, u, hu, he⟩
    · exact ⟨3, u, hu, he⟩
end Go.Proofs.YtpccaodkgboefaaGreatDoor

namespace Go.Proofs.YtpccaodkgboefaaGreatDoor
open Go.RowKit

theorem Appended.base {e : TypeId} {size : Nat} {w0 w w' : World} {v v' : Value} {n : Nat} {xs : List Value} (h : Appended e size w w' v v' n xs) (f : Fresh w0 w) : Appended e size w0 w' v v' n xs :=
  ⟨h.row, (f.mono fun _ _ h => h.elim).trans' h.keeps fun _ _ h => h, fun g hg => (h.own g hg).imp (fun h => h) fun h1 => ⟨Nat.le_trans f.size h1.1, h1.2⟩⟩
theorem Gathered.push1 {S S1 B : Nat → Prop} {b N M : Nat} {X X1 : Fin 4 → List Value} {V : Fin 4 → Value} {wA w w' : World} (h : Gathered S B b N X M wA w S1 X1) (i : Fin 4) {x v' : Value} {k : Nat} {xs : List Value} (hV : GBookV S1 w b V X1) (hL : Lists S1 w X1 M) (hX : ∀ j, (X1 j).length ≤ N) (hk : k ≤ M)
    (hr : wA.ownsRow 0 (elT i) (bkS i) x k xs) (hS : ∀ g, x.ownBlock = some g → ¬ S g) (hn : ∀ g, x.ownBlock = some g → ¬ B g ∧ ∀ j u, u ∈ X j → u.ownBlock ≠ some g) (ha : Appended (bkT i) 1 w w' (V i) v' ((X1 i).length + 1) (X1 i ++ [x])) :
    ∃ S2, Gathered S (fun g => B g ∨ x.ownBlock = some g) b (N + 1) X M wA (w'.setCell ⟨b, i.val, none⟩ v') S2 (upd X1 i (X1 i ++ [x])) := by
  obtain ⟨S2, h2⟩ := GBook.push hV hL hX i hk (ownsRow_keeps hr h.2.1 hS) (fun g hg => h.off (hr.lt g hg).2 (hS g hg)) (fun g hg => h.apart (hn g hg).2 (hn g hg).1) ha
  exact ⟨S2, h.trans h2 (fun g hg => .inl hg) fun g hg => .inr hg⟩
/-- a block may be told otherwise -/
theorem Gathered.mono {S S1 B B' : Nat → Prop} {b N N' M : Nat} {X X1 : Fin 4 → List Value} {wA w : World} (h : Gathered S B b N X M wA w S1 X1) (hB : ∀ g, B g → B' g) (hN : N ≤ N') : Gathered S B' b N' X M wA w S1 X1 :=
  ⟨h.1, h.2.1, h.2.2.1.most hN, fun i u hu => (h.2.2.2 i u hu).imp (fun h => h) fun h g hg => hB g (h g hg)⟩
theorem Gathered.next {S S1 B : Nat → Prop} {b N M : Nat} {X X1 : Fin 4 → List Value} {wA w w' : World} (h : Gathered S B b N X M wA w S1 X1) (f : Fresh w w') : Gathered S B b N X M wA w' S1 X1 :=
  ⟨fun q hq => (h.1 q hq).imp (fun h => h) fun h => ⟨h.1, Nat.lt_of_lt_of_le h.2 f.size⟩, h.2.1.trans' f fun _ _ h => h.elim, h.2.2.1.fresh f, h.2.2.2⟩
def Gath (S : Nat → Prop) (bl : List Nat) (b N : Nat) (X : Fin 4 → List Value) (M : Nat) (w : World) (e : Ending) (w' : World) : Prop :=
  e = .returned (.tuple #[]) ∧ ∃ S' X', Gathered S (fun g => g ∈ bl) b N X M w w' S' X'
end Go.Proofs.YtpccaodkgboefaaGreatDoor

namespace Go.Proofs.YtpccaodkgboefaaGreatDoor
open Go.RowKit

theorem upd_upd {α : Type} (f : Fin 4 → α) (i : Fin 4) (a c : α) : upd (upd f i a) i c = upd f i c := by
  funext j
  by_cases h : j = i <;> simp [upd, h]
theorem upd_at {α : Type} (f : Fin 4 → α) (i : Fin 4) (a : α) : upd f i a i = a := by simp [upd]
theorem GBook.push2 {S : Nat → Prop} {w w' : World} {b N M : Nat} {X : Fin 4 → List Value} {v : Fin 4 → Value} (h1 : GBookV S w b v X) (h2 : Lists S w X M) (h3 : ∀ i, (X i).length ≤ N) (i : Fin 4) {x y v' : Value} {k l : Nat} {xs ys : List Value} (hk : k ≤ M) (hl : l ≤ M)
    (hr : w.ownsRow 0 (elT i) (bkS i) x k xs) (hS : ∀ g, x.ownBlock = some g → ¬ S g) (hn : ∀ g, x.ownBlock = some g → ∀ j u, u ∈ X j → u.ownBlock ≠ some g)
    (hr2 : w.ownsRow 0 (elT i) (bkS i) y l ys) (hS2 : ∀ g, y.ownBlock = some g → ¬ S g) (hn2 : ∀ g, y.ownBlock = some g → ∀ j u, u ∈ X j → u.ownBlock ≠ some g) (hxy : ∀ g, y.ownBlock = some g → x.ownBlock ≠ some g)
    (ha : Appended (bkT i) 1 w w' (v i) v' ((X i).length + 2) (X i ++ [x, y])) :
    ∃ S', Gathered S (fun g => x.ownBlock = some g ∨ y.ownBlock = some g) b (N + 2) X M w (w'.setCell ⟨b, i.val, none⟩ v') S' (upd X i (X i ++ [x, y])) := by
  obtain ⟨S', g1, g2, g3⟩ := h1.push i (by simp) ha
  have h4 := Lists.snoc (Lists.snoc h2 i hk hr hS hn) i hl hr2 hS2 (fun g hg j u hu => by
    by_cases hj : j = i
    · subst hj
      rw [upd_at] at hu
      rcases List.mem_append.1 hu with q | q
      · exact hn2 g hg j u q
      · simp at q
        subst q
        exact hxy g hg
    · rw [show upd X i (X i ++ [x]) j = X j by simp [upd, hj]] at hu
      exact hn2 g hg j u hu)
  rw [upd_at, upd_upd, List.append_assoc] at h4
  refine ⟨S', g1, g2, ⟨_, g3, ?_, fun j => ?_⟩, fun j u hu => ?_⟩
  · refine ⟨fun j u hu => ?_, fun j u g hu he hs => ?_, h4.apart⟩
    · obtain ⟨n, ys, q1, q2⟩ := h4.row j u hu
      exact ⟨n, ys, q1, ownsRow_keeps q2 g2 fun g hg => h4.off j u g hu hg⟩
    · obtain ⟨n, ys, q1, q2⟩ := h4.row j u hu
      rcases g1 g hs with q | q
      · exact h4.off j u g hu he q
      · have := (q2.lt g he).2; omega
  · by_cases hj : j = i
    · subst hj
      have := h3 j
      simp [upd]
      omega
    · have := h3 j
      rw [show upd X i (X i ++ [x, y]) j = X j by simp [upd, hj]]
      omega
  · by_cases hj : j = i
    · subst hj
      rw [upd_at] at hu
      rcases List.mem_append.1 hu with q | q
      · exact .inl q
      · simp at q
        rcases q with rfl | rfl
        · exact .inr fun g hg => .inl hg
        · exact .inr fun g hg => .inr hg
    · rw [show upd X i (X i ++ [x, y]) j = X j by simp [upd, hj]] at hu
      exact .inl hu
theorem Gathered.pushP {S S1 B : Nat → Prop} {b N M : Nat} {X X1 : Fin 4 → List Value} {V : Fin 4 → Value} {wA w w' : World} (h : Gathered S B b N X M wA w S1 X1) (i : Fin 4) {x y v' : Value} {k l : Nat} {xs ys : List Value} (hV : GBookV S1 w b V X1) (hL : Lists S1 w X1 M) (hX : ∀ j, (X1 j).length ≤ N) (hk : k ≤ M) (hl : l ≤ M)
    (hr : wA.ownsRow 0 (elT i) (bkS i) x k xs) (hS : ∀ g, x.ownBlock = some g → ¬ S g) (hn : ∀ g, x.ownBlock = some g → ¬ B g ∧ ∀ j u, u ∈ X j → u.ownBlock ≠ some g)
    (hr2 : wA.ownsRow 0 (elT i) (bkS i) y l ys) (hS2 : ∀ g, y.ownBlock = some g → ¬ S g) (hn2 : ∀ g, y.ownBlock = some g → ¬ B g ∧ ∀ j u, u ∈ X j → u.ownBlock ≠ some g) (hxy : ∀ g, y.ownBlock = some g → x.ownBlock ≠ some g)
    (ha : Appended (bkT i) 1 w w' (V i) v' ((X1 i).length + 2) (X1 i ++ [x, y])) :
    ∃ S2, Gathered S (fun g => B g ∨ (x.ownBlock = some g ∨ y.ownBlock = some g)) b (N + 2) X M wA (w'.setCell ⟨b, i.val, none⟩ v') S2 (upd X1 i (X1 i ++ [x, y])) := by
  obtain ⟨S2, h2⟩ := GBook.push2 hV hL hX i hk hl (ownsRow_keeps hr h.2.1 hS) (fun g hg => h.off (hr.lt g hg).2 (hS g hg)) (fun g hg => h.apart (hn g hg).2 (hn g hg).1) (ownsRow_keeps hr2 h.2.1 hS2) (fun g hg => h.off (hr2.lt g hg).2 (hS2 g hg)) (fun g hg => h.apart (hn2 g hg).2 (hn2 g hg).1) hxy ha
  exact ⟨S2, h.trans h2 (fun g hg => .inl hg) fun g hg => .inr hg⟩

theorem step_push_two {P : Program} {ops : Array Oper} {o : Oper} {a : Act} {K : Act → World → Prop} {Q : Exit → Act → World → Prop} {F : Prop} (hgd : o.guard = none) (s x : Operand) (t : TypeId)
    (ho : o.op = .call { callee := .builtin .append, args := #[s, x], argTypes := #[t, t] })
    (e : TypeId) (i : TypeInfo) (z : Value) (bytes : Nat) (ht : P.underlying t = some (.slice e)) (hi : P.info? e = some i) (hz : i.zero = some z) (hsize : i.size = 1) (hby : i.bytes = bytes) (hzs : z.cells.size = 1)
    {v : Value} {n : Nat} {xs : List Value} (w : World) (hown : w.ownsRow 0 e 1 v n xs) (g : Nat) (u1 u2 : Value) (hg : w.heap[g]? = some (.cells #[u1, u2] e (0, 0))) (hone1 : u1.oneCell' = true) (hone2 : u2.oneCell' = true)
    (hs : a.eval s = v) (hx : a.eval x = .slice (some ⟨g, 0, none⟩) 2 2)
    (hb : (n + 2) * bytes ≤ 140737488355328) (hn : n + 2 ≤ maxLen)
    (h : ∀ v' w', Appended e 1 w w' v v' (n + 2) (xs ++ [u1, u2]) → K (a.put o.dst v') w') :
    if Region.wanted o (yielded ops a.tmps) = true then Oper.wp P o a w K Q else F := by
  have hw : Region.wanted o (yielded ops a.tmps) = true := by simp [Region.wanted, hgd]
  rw [if_pos hw]
  have hsrc : Src P 1 t (.slice (some ⟨g, 0, none⟩) 2 2) 2 [u1, u2] w := Src.ofSlice _ ht _ 2 2 [u1, u2] rfl (fun j y hj => by
    rw [addr_add0, cell_at hg]
    simpa using hj) (fun y hy => by
      simp at hy
      rcases hy with rfl | rfl <;> assumption)
  obtain ⟨v', w', hr, h1, h4⟩ := run_append_row (P := P) w t t o.type e i z 1 bytes ht hi hz hsize hby hzs (by decide) v n xs hown _ 2 [u1, u2] hsrc hn hb
  unfold Oper.wp
  simp [execOp, ho, resolve, invoke, builtin, hs, hx, hr, Result.andThen]
  exact h v' w' h1
end Go.Proofs.YtpccaodkgboefaaGreatDoor

namespace Go.Proofs.YtpccaodkgboefaaGreatDoor
open Go.RowKit

set_option maxRecDepth 100000 in
set_option maxHeartbeats 8000000 in
theorem gatherReply_any (n : Nat) : ∀ (R : Rep), SizeOf.sizeOf R ≤ n → TinyR R → ∀ (S : Nat → Prop) (b N : Nat) (X : Fin 4 → List Value) (v : Value) (bl : List Nat) (w : World), GBook S w b N X 1000000000 → RepOwn w R v bl → bl.Nodup → (∀ q ∈ bl, ¬ S q) → (∀ q ∈ bl, ∀ i u, u ∈ X i → u.ownBlock ≠ some q) → N + cntR R ≤ 4294967296 →
    Calls Tryz.prog 25 #[.pointer (some ⟨b, 0, none⟩), v] w fun e w' => Gath S bl b (N + cntR R) X 1000000000 w e w' := by
  induction n with
  | zero =>
    intro R hR
    exfalso
    cases R
    simp at hR
  | succ n ih =>
    intro R hR hti S b N X v bl w hb hv hnd hbS hbX hN
    obtain ⟨lv, ev, av, cs, b1, hve, hr1, hr2, hr3, hel, hbl⟩ : ∃ lv ev av cs b1, v = .agg #[.int .i64 R.status, .int .i64 R.size, .int .i64 R.a, .int .i64 R.b, .string (str R.root), lv, ev, av] ∧ w.ownsRow 0 9 1 lv R.hashes.length (texts R.hashes) ∧ w.ownsRow 0 9 1 ev R.entries.length (texts R.entries) ∧ w.ownsRow 0 48 8 av R.replies.length cs ∧ ReplsOwn w R.replies cs b1 ∧ bl = lv.ownBlock.toList ++ (ev.ownBlock.toList ++ (av.ownBlock.toList ++ b1)) := by
      cases R
      rw [RepOwn] at hv
      exact hv
    obtain ⟨al, cl, rfl⟩ := ownsRow_slice hr1
    obtain ⟨ae, ce, rfl⟩ := ownsRow_slice hr2
    obtain ⟨ao, cap, rfl⟩ := ownsRow_slice hr3
    subst hve
    obtain ⟨t1, t2, t3, t4⟩ := hti.parts
    have hcn := cntR_eq R
    have hmem : ∀ x ∈ R.replies, SizeOf.sizeOf x ≤ n := fun x hx => by have := Rep.lt_of_mem' (R := R) hx; omega
    have HMEM := hid hmem
    have HT4 := hid t4
    have hbw : b < w.heap.size ∧ S b := by obtain ⟨V, h1, -, -⟩ := hb; exact ⟨h1.live b h1.sb, h1.sb⟩
    have hlive : ∀ q, S q → q < w.heap.size := by obtain ⟨V, h1, -, -⟩ := hb; exact h1.live
    obtain ⟨cells, hcells⟩ : ∃ z : Array Value, #[Value.int .i64 R.status, .int .i64 R.size, .int .i64 R.a, .int .i64 R.b, .string (str R.root), .slice al R.hashes.length cl, .slice ae R.entries.length ce, .slice ao R.replies.length cap] = z := ⟨_, rfl⟩
    have fA : Fresh w (w.alloc (.cells cells 48)) := (Keeps.refl _ _).alloc _
    have hboxA := heap_alloc_new w (.cells cells 48)
    obtain ⟨wA, hwA⟩ : ∃ W, w.alloc (.cells cells 48) = W := ⟨_, rfl⟩
    obtain ⟨bx, hbx⟩ : ∃ g, w.heap.size = g := ⟨_, rfl⟩
    rw [hwA] at fA hboxA
    rw [hbx] at hboxA hbw
    have hszA : bx < wA.heap.size := lt_of_block hboxA
    have hnS : ¬ S bx := fun h => by have := hlive bx h; omega
    have HBX := hid hboxA
    have HEL := hid (ReplsOwn.keeps fA _ _ _ hel (fun _ _ h => h))
    have HR := hid (And.intro (ownsRow_keeps hr1 fA fun _ _ h => h) (And.intro (ownsRow_keeps hr2 fA fun _ _ h => h) (ownsRow_keeps hr3 fA fun _ _ h => h)))
    have HFA := hid fA
    have hbs : ∀ q ∈ bl, q < wA.heap.size := fun q hq => Nat.lt_of_lt_of_le (RepOwn.there _ _ _ hv q hq) fA.size
    have HBS := hid (And.intro hbs (And.intro hbS hbX))
    have HND := hid hnd
    have HBL := hid hbl
    have HG0 := hid (Gathered.start (B := fun g => g ∈ ([] : List Nat)) (hb.fresh fA) (Keeps.refl (fun _ => False) wA))
    have hnn := hnd
    rw [hbl] at hnn
    have HNN := hid hnn
    clear hr1 hr2 hr3 hel hv hmem t4 hb fA hbs hbS hbX hnd hbl hlive hboxA hnn
    go_enter Tryz.func25, Tryz.ntmps25
    rw [hcells]
    go_wp2_with fail
    obtain ⟨V, hV, hL, hX⟩ := HG0.out.2.2.1
    have hrow := hV.row 1
    obtain ⟨oo, oc, hVi⟩ := ownsRow_slice hrow
    rw [hVi] at hrow
    have c0 := cell_at hV.at_ 1
    simp at c0
    rw [hVi] at c0
    obtain ⟨i1, hi', hz0', hz1', hz2'⟩ := info_parts (Tryz.infoSliceB 1)
    have hXi := hX 1
    have HVV := hid (And.intro hV (And.intro hL hX))
    have hrow0 := hid hrow
    have hbx0 := HG0.out.2.1.at_ HBX.out hnS
    have x5 := cell_at hbx0 5
    have x6 := cell_at hbx0 6
    rw [← hcells] at x5 x6
    simp at x5 x6
    have hbw0 := hV.live b hV.sb
    have c0a : (wA.alloc (.cells #[.slice al R.hashes.length cl, .slice ae R.entries.length ce] 23)).cell? ⟨b, 1, none⟩ = some (.slice oo (X 1).length oc) := (((Keeps.refl (fun _ => False) wA).alloc _).cell (p := ⟨b, 1, none⟩) hbw0 (fun h => h)).trans c0
    clear hV hL hX hrow hbx0
    go_cut [] (fun wx => ∃ S2 X2, Gathered S (fun g => g ∈ (Value.slice al R.hashes.length cl).ownBlock.toList ++ (Value.slice ae R.entries.length ce).ownBlock.toList) b (N + 2) X 1000000000 wA wx S2 X2)
    case first =>
      go_region_law (first | (refine step_push_two rfl (.tmp 9) (.tmp 14) 30 rfl 23 i1 (.slice none 0 0) 24 Tryz.underlying30 hi' hz0' hz1' hz2' rfl _ (ownsRow_keeps hrow0.out (S := fun _ => False) (by first | exact ((Keeps.refl _ _).alloc _).drew | exact (Keeps.refl _ _).drew.alloc _ | exact (Keeps.refl _ _).alloc _) (fun _ _ h => h)) wA.heap.size (.slice al R.hashes.length cl) (.slice ae R.entries.length ce) (by exact heap_alloc_new wA _) rfl rfl (by rfl) (by rfl) (by omega) (by unfold maxLen; omega) ?_; intro v4 w4 ha0; have ha := ha0.base (w0 := wA) (by first | exact ((Keeps.refl _ _).alloc _).drew | exact (Keeps.refl _ _).drew.alloc _ | exact (Keeps.refl _ _).alloc _); clear ha0; obtain ⟨ao4, cp4, rfl⟩ := ownsRow_slice ha.row; have hb4 := ha.keeps.at_ HVV.out.1.at_ (fun q => (HVV.out.1.own 1 b (by rw [hVi]; exact q)).2 rfl); have z0 := cell_at hb4 1; have z0f := free_at hb4 1; simp at z0))
      all_goals
        rw [← hVi] at ha
        obtain ⟨S2, hG2⟩ := HG0.out.pushP 1 HVV.out.1 HVV.out.2.1 HVV.out.2.2 (k := R.hashes.length) (l := R.entries.length) (by omega) (by omega) HR.out.1 (fun g hg => HBS.out.2.1 g (by rw [HBL.out]; simp [mem_ownBlock.2 hg])) (fun g hg => ⟨(fun h => by cases h), HBS.out.2.2 g (by rw [HBL.out]; simp [mem_ownBlock.2 hg])⟩) HR.out.2.1 (fun g hg => HBS.out.2.1 g (by rw [HBL.out]; simp [mem_ownBlock.2 hg])) (fun g hg => ⟨(fun h => by cases h), HBS.out.2.2 g (by rw [HBL.out]; simp [mem_ownBlock.2 hg])⟩) (fun g hg h => (List.nodup_append.1 HNN.out).2.2 g (mem_ownBlock.2 h) g (by simp [mem_ownBlock.2 hg]) rfl) ha
        have HG' := hid (hG2.mono (B' := fun g => g ∈ (Value.slice al R.hashes.length cl).ownBlock.toList ++ (Value.slice ae R.entries.length ce).ownBlock.toList) (by simp) (Nat.le_refl _))
        clear ha hG2 z0 z0f hb4
        go_wp2
        go_meet
        exact ⟨_, _, HG'.out⟩
    case rest =>
    obtain ⟨S2, X2, hcut⟩ := hcut
    rename World => w2
    have HG2 := hid hcut
    clear hcut c0 c0a x5 x6 HVV hrow0 hVi hXi hi' hz0' hz1' hz2' hbw0
    go_wp2_with fail
    obtain ⟨V, hV, hL, hX⟩ := HG2.out.2.2.1
    have hrow := hV.row 3
    obtain ⟨oo, oc, hVi⟩ := ownsRow_slice hrow
    rw [hVi] at hrow
    have c0 := cell_at hV.at_ 3
    simp at c0
    rw [hVi] at c0
    obtain ⟨i1, hi', hz0', hz1', hz2'⟩ := info_parts (Tryz.infoSliceB 3)
    have hXi := hX 3
    have HVV := hid (And.intro hV (And.intro hL hX))
    have hrow0 := hid hrow
    have hbx2 := HG2.out.2.1.at_ HBX.out hnS
    have x4 := cell_at hbx2 7
    rw [← hcells] at x4
    simp at x4
    have hbw2 := hV.live b hV.sb
    have c0a : (w2.alloc (.cells #[.slice ao R.replies.length cap] 46)).cell? ⟨b, 3, none⟩ = some (.slice oo (X2 3).length oc) := (((Keeps.refl (fun _ => False) w2).alloc _).cell (p := ⟨b, 3, none⟩) hbw2 (fun h => h)).trans c0
    clear hV hL hX hrow hbx2
    go_cut [] (fun wx => ∃ S2 X2, Gathered S (fun g => g ∈ (Value.slice al R.hashes.length cl).ownBlock.toList ++ ((Value.slice ae R.entries.length ce).ownBlock.toList ++ (Value.slice ao R.replies.length cap).ownBlock.toList)) b (N + 2 + 1) X 1000000000 wA wx S2 X2)
    case first =>
      go_region_law (first | (refine step_push_at rfl (.tmp 22) (.tmp 25) 32 rfl 46 i1 (.slice none 0 0) 1 24 Tryz.underlying32 hi' hz0' hz1' hz2' rfl (by decide) _ (ownsRow_keeps hrow0.out (S := fun _ => False) (by first | exact ((Keeps.refl _ _).alloc _).drew | exact (Keeps.refl _ _).drew.alloc _ | exact (Keeps.refl _ _).alloc _) (fun _ _ h => h)) w2.heap.size [.slice ao R.replies.length cap] rfl (by exact heap_alloc_new w2 _) (by simp [Value.oneCell']) (by rfl) (by rfl) (by omega) (by unfold maxLen; omega) ?_; intro v4 w4 ha0; have ha := ha0.base (w0 := w2) (by first | exact ((Keeps.refl _ _).alloc _).drew | exact (Keeps.refl _ _).drew.alloc _ | exact (Keeps.refl _ _).alloc _); clear ha0; obtain ⟨ao4, cp4, rfl⟩ := ownsRow_slice ha.row; have hb4 := ha.keeps.at_ HVV.out.1.at_ (fun q => (HVV.out.1.own 3 b (by rw [hVi]; exact q)).2 rfl); have z0 := cell_at hb4 3; have z0f := free_at hb4 3; simp at z0))
      all_goals
        rw [← hVi] at ha
        obtain ⟨S2, hG2⟩ := HG2.out.push1 3 HVV.out.1 HVV.out.2.1 HVV.out.2.2 (k := R.replies.length) (by omega) HR.out.2.2 (fun g hg => HBS.out.2.1 g (by rw [HBL.out]; simp [mem_ownBlock.2 hg])) (fun g hg => ⟨(fun h => (List.mem_append.1 h).elim (fun h => (List.nodup_append.1 HNN.out).2.2 g h g (by simp [mem_ownBlock.2 hg]) rfl) fun h => (List.nodup_append.1 (List.nodup_append.1 HNN.out).2.1).2.2 g h g (by simp [mem_ownBlock.2 hg]) rfl), HBS.out.2.2 g (by rw [HBL.out]; simp [mem_ownBlock.2 hg])⟩) ha
        have HG' := hid (hG2.mono (B' := fun g => g ∈ (Value.slice al R.hashes.length cl).ownBlock.toList ++ ((Value.slice ae R.entries.length ce).ownBlock.toList ++ (Value.slice ao R.replies.length cap).ownBlock.toList)) (by simp [or_assoc]) (Nat.le_refl _))
        clear ha hG2 z0 z0f hb4
        go_wp2
        go_meet
        exact ⟨_, _, HG'.out⟩
    case rest =>
    obtain ⟨S3, X3, hcut⟩ := hcut
    rename World => w3
    have HG3 := hid hcut
    clear hcut c0 c0a x4 HVV hrow0 hVi hXi hi' hz0' hz1' hz2' hbw2
    go_wp2_with fail
    go_loopw [4] (fun i wr => ∃ (m : Nat) (p r : List Nat) (S5 : Nat → Prop) (X5 : Fin 4 → List Value), i = .int .i64 (m : Int) ∧ m ≤ R.replies.length ∧ b1 = p ++ r ∧ ReplsOwn wA (R.replies.drop m) (cs.drop (m * 8)) r ∧ Gathered S (fun g => g ∈ (Value.slice al R.hashes.length cl).ownBlock.toList ++ ((Value.slice ae R.entries.length ce).ownBlock.toList ++ ((Value.slice ao R.replies.length cap).ownBlock.toList ++ p))) b (N + 3 + cntRs (R.replies.take m)) X 1000000000 wA wr S5 X5) (fun i _ => R.replies.length - (intOf i).toNat)
    case atStart => exact ⟨0, [], b1, S3, X3, rfl, Nat.zero_le _, rfl, HEL.out, HG3.out.mono (fun g hg => by simpa using hg) (by omega)⟩
    case round =>
      obtain ⟨m, p, r, S5, X5, rfl, hm, hp, hel, hG⟩ := hrel
      have hbxm := hG.2.1.at_ HBX.out hnS
      have x7 := cell_at hbxm 7
      rw [← hcells] at x7
      simp at x7
      have HG := hid hG
      have HPP := hid hp
      by_cases hlt : m < R.replies.length
      · obtain ⟨u, hu⟩ : ∃ u, R.replies[m]? = some u := ⟨R.replies[m], by simp⟩
        have hsn := cntRs_snoc R.replies hu
        have htk := cntRs_take R.replies (m + 1)
        have hdr : R.replies.drop m = u :: R.replies.drop (m + 1) := by
          obtain ⟨hj, rfl⟩ := List.getElem?_eq_some_iff.1 hu
          exact List.drop_eq_getElem_cons hj
        rw [hdr, ReplsOwn] at hel
        obtain ⟨c0, c1, c2, c3, c4, c5, c6, c7, cs', bu, b2, hcs, hou, hel', rfl⟩ := hel
        have hcs2 : cs.drop ((m + 1) * 8) = cs' := by
          have := congrArg (List.drop 8) hcs
          rwa [List.drop_drop, show m * 8 + 8 = (m + 1) * 8 by omega] at this
        have hget : ∀ j y, [c0, c1, c2, c3, c4, c5, c6, c7][j]? = some y → cs[m * 8 + j]? = some y := fun j y hy => by
          have h1 : (cs.drop (m * 8))[j]? = some y := by
            rw [hcs, show c0 :: c1 :: c2 :: c3 :: c4 :: c5 :: c6 :: c7 :: cs' = [c0, c1, c2, c3, c4, c5, c6, c7] ++ cs' from rfl, List.getElem?_append_left (List.getElem?_eq_some_iff.1 hy).1]
            exact hy
          rwa [List.getElem?_drop] at h1
        have hrowm := ownsRow_keeps HR.out.2.2 hG.2.1 (fun g hg => HBS.out.2.1 g (by rw [HBL.out]; simp [mem_ownBlock.2 hg]))
        obtain ⟨ga, hga, hcells6⟩ := rowCellsB hrowm (by omega)
        have y0 := (hcells6 _ _ (hget 0 c0 rfl)).2
        have y1 := (hcells6 _ _ (hget 1 c1 rfl)).2
        have y2 := (hcells6 _ _ (hget 2 c2 rfl)).2
        have y3 := (hcells6 _ _ (hget 3 c3 rfl)).2
        have y4 := (hcells6 _ _ (hget 4 c4 rfl)).2
        have y5 := (hcells6 _ _ (hget 5 c5 rfl)).2
        have y6 := (hcells6 _ _ (hget 6 c6 rfl)).2
        have y7 := (hcells6 _ _ (hget 7 c7 rfl)).2
        rw [Nat.add_zero] at y0
        rw [hga] at x7
        have hmemu : ∀ q ∈ bu, q ∈ bl := fun q hq => by rw [HBL.out, HPP.out]; simp [hq]
        have hdis : ∀ q ∈ bu, ¬ q ∈ (Value.slice al R.hashes.length cl).ownBlock.toList ++ ((Value.slice ae R.entries.length ce).ownBlock.toList ++ ((Value.slice ao R.replies.length cap).ownBlock.toList ++ p)) := fun q hq hq2 => by
          have h1 := HNN.out
          rw [HPP.out] at h1
          simp only [List.nodup_append, List.mem_append] at h1 hq2
          grind
        have hndu : bu.Nodup := by
          have h1 := HNN.out
          rw [HPP.out] at h1
          simp only [List.nodup_append] at h1
          grind
        have hcall := ih u (HMEM.out u (List.mem_of_getElem? hu)) (HT4.out u (List.mem_of_getElem? hu)) S5 b _ X5 _ bu wr hG.2.2.1 (RepOwn.keeps hG.2.1 _ _ _ hou (fun q hq => HBS.out.2.1 q (hmemu q hq))) hndu (fun q hq => hG.off (HBS.out.1 q (hmemu q hq)) (HBS.out.2.1 q (hmemu q hq))) (fun q hq => hG.apart (HBS.out.2.2 q (hmemu q hq)) (hdis q hq)) (by omega)
        have HC := hid hcall
        have HELB := hid (show ReplsOwn wA (R.replies.drop (m + 1)) (cs.drop ((m + 1) * 8)) b2 by rw [hcs2]; exact hel')
        have hm0 : (0 : Int) ≤ (m : Int) := by omega
        have hm1 : (m : Int) < (R.replies.length : Int) := by omega
        have HSN := hid hsn
        clear hcall hG hcs hou hel' hget hrowm hcells6 hmemu hdis hndu hdr hu hsn hcs2 hbxm hp hga
        go_wp2_with fail
        refine HC.out.mono ?_
        rintro e w6 ⟨rfl, S6, X6, hG6⟩
        have HG7 := hid ((HG.out.trans hG6 (B := fun g => g ∈ (Value.slice al R.hashes.length cl).ownBlock.toList ++ ((Value.slice ae R.entries.length ce).ownBlock.toList ++ ((Value.slice ao R.replies.length cap).ownBlock.toList ++ (p ++ bu)))) (fun g hg => by simp only [List.mem_append] at hg ⊢; grind) (fun g hg => by simp [hg])).mono (fun _ h => h) (Nat.le_refl _))
        clear hG6
        go_wp2_with fail
        go_roundw
        case rel => exact ⟨m + 1, p ++ bu, b2, S6, X6, by go_num, by omega, by rw [HPP.out, List.append_assoc], HELB.out, by rw [HSN.out, ← Nat.add_assoc]; exact HG7.out⟩
        case measure => simp [intOf]; omega
      · obtain rfl : m = R.replies.length := by omega
        rw [List.drop_length, ReplsOwn] at hel
        obtain ⟨-, rfl⟩ := hel
        clear hG hbxm hp
        go_wp2_with fail
        go_end0
        refine ⟨rfl, S5, X5, ?_⟩
        have h1 := HG.out
        rw [List.take_length] at h1
        have h2 := HPP.out
        rw [List.append_nil] at h2
        exact Gathered.pre HFA.out (h1.mono (fun g hg => by rw [HBL.out, h2]; exact hg) (by omega))
end Go.Proofs.YtpccaodkgboefaaGreatDoor
