/-
  What a call leaves alone: 'Keeps S w w1': outside the set S of block numbers the world w1 is as w was; laws for new blocks, stores, draws, appends. No program is in sight.
  'append' on a row that an object owns, whatever is appended: what the row is then, which blocks may have been written, where it lies. No program is in sight.
  Bytes and texts as lists; what an object in memory owns and what its methods may write. No program is in sight.
-/
import Derived.WalkKit
import Derived.WalkSpells
import Derived.WalkLawsBesides
import Derived.Deep.AppendSrc
import Derived.Laws.BytesArg
import Derived.Laws.IdiomStrings
namespace Go.Proofs.Ytbhienlalpbflaa
open Go.RowKit

theorem orr {a b c : Prop} (h : a ∨ b) (f : b → c) : a ∨ c := h.elim .inl fun h => .inr (f h)
theorem orl {a b c : Prop} (h : a ∨ b) (f : a → c) : c ∨ b := h.elim (fun h => .inl (f h)) .inr
theorem hid {p : Prop} (h : p) : Hid p := h

/-- Outside the set S of blocks w' is as w was. -/
structure Keeps (S : Nat → Prop) (w w' : World) : Prop where
  os : w'.os = w.os
  tape : w'.tape = w.tape
  output : w'.output = w.output
  size : w.heap.size ≤ w'.heap.size
  block : ∀ k, k < w.heap.size → ¬ S k → w'.heap[k]? = w.heap[k]?

theorem addr_add0 (g j : Nat) : (⟨g, 0, none⟩ : Addr).add j = ⟨g, j, none⟩ := by unfold Addr.add; split <;> simp_all
theorem lt_of_block {w : World} {k : Nat} {o : Obj} (h : w.heap[k]? = some o) : k < w.heap.size := (Array.getElem?_eq_some_iff.1 h).1

theorem heap_setCell_ne (w : World) (a : Addr) (u : Value) (k : Nat) (h : k ≠ a.block) : (w.setCell a u).heap[k]? = w.heap[k]? := Below.heap_setCell w a u k h
theorem heap_setCell_at {w : World} {b : Nat} {c : Array Value} {e : TypeId} {fr : Nat × Nat} (h : w.heap[b]? = some (.cells c e fr)) (o : Nat) (u : Value) :
    (w.setCell ⟨b, o, none⟩ u).heap[b]? = some (.cells (c.setIfInBounds o u) e fr) := by
  simp only [World.setCell, Array.getElem?_modify, if_true, h]; rfl
theorem heap_drew (w : World) (k : Nat) : w.drew.heap[k]? = w.heap[k]? := rfl
theorem cell_at {w : World} {b : Nat} {c : Array Value} {e : TypeId} {fr : Nat × Nat} (h : w.heap[b]? = some (.cells c e fr)) (o : Nat) : w.cell? ⟨b, o, none⟩ = c[o]? := by
  simp [World.cell?, h]
theorem free_at {w : World} {b : Nat} {c : Array Value} {e : TypeId} (h : w.heap[b]? = some (.cells c e (0, 0))) (o : Nat) : w.frozen? ⟨b, o, none⟩ = false := by
  simp [World.frozen?, h]

namespace Keeps
variable {S : Nat → Prop} {w w1 w2 : World}
theorem refl (S : Nat → Prop) (w : World) : Keeps S w w := ⟨rfl, rfl, rfl, Nat.le_refl _, fun _ _ _ => rfl⟩
theorem trans' {S' : Nat → Prop} (h : Keeps S w w1) (k : Keeps S' w1 w2) (hs : ∀ i, i < w.heap.size → S' i → S i) : Keeps S w w2 :=
  ⟨k.os.trans h.os, k.tape.trans h.tape, k.output.trans h.output, Nat.le_trans h.size k.size,
    fun i hi hn => (k.block i (Nat.lt_of_lt_of_le hi h.size) (fun e => hn (hs i hi e))).trans (h.block i hi hn)⟩
theorem trans (h : Keeps S w w1) (k : Keeps S w1 w2) : Keeps S w w2 := h.trans' k (fun _ _ h => h)
theorem mono {S' : Nat → Prop} (h : Keeps S w w1) (hs : ∀ i, i < w.heap.size → S i → S' i) : Keeps S' w w1 :=
  ⟨h.os, h.tape, h.output, h.size, fun i hi hn => h.block i hi (fun e => hn (hs i hi e))⟩
theorem drew (h : Keeps S w w1) : Keeps S w w1.drew := ⟨h.os, h.tape, h.output, h.size, h.block⟩
theorem drewN (h : Keeps S w w1) (n : Nat) : Keeps S w (w1.drewN n) := ⟨h.os, h.tape, h.output, h.size, h.block⟩
theorem alloc (h : Keeps S w w1) (o : Obj) : Keeps S w (w1.alloc o) :=
  h.trans ⟨rfl, rfl, rfl, by simp, fun k hk _ => Below.heap_alloc _ _ _ hk⟩
theorem setCell (h : Keeps S w w1) {p : Addr} (hp : p.block < w.heap.size → S p.block) (u : Value) : Keeps S w (w1.setCell p u) :=
  ⟨h.os, h.tape, h.output, by simpa using h.size, fun k hk hn => by
    rw [heap_setCell_ne _ _ _ _ (fun e => hn (by subst e; exact hp hk))]; exact h.block k hk hn⟩
theorem grown {row : Option Nat} (h : Keeps S w w1) (hg : w1.grownBy w2 row) (hr : ∀ k, row = some k → k < w.heap.size → S k) : Keeps S w w2 :=
  ⟨hg.os.trans h.os, hg.tape.trans h.tape, hg.output.trans h.output, Nat.le_trans h.size hg.size,
    fun k hk hn => (hg.block k (Nat.lt_of_lt_of_le hk h.size) (fun e => hn (hr k e.symm hk))).trans (h.block k hk hn)⟩
theorem below {B : Nat} (h : Keeps S w w1) (hB : B ≤ w.heap.size) (hs : ∀ k, S k → B ≤ k) : Below B w w1 :=
  ⟨h.os, h.tape, h.output, h.size, fun k hk => h.block k (by omega) (fun e => by have := hs k e; omega)⟩
theorem of_below {B : Nat} (h : Below B w w1) : Keeps (fun k => B ≤ k) w w1 :=
  ⟨h.os, h.tape, h.output, h.size, fun k _ hn => h.block k (by omega)⟩
theorem at_ (h : Keeps S w w1) {k : Nat} {o : Obj} (ho : w.heap[k]? = some o) (hn : ¬ S k) : w1.heap[k]? = some o :=
  (h.block k (lt_of_block ho) hn).trans ho
theorem cell (h : Keeps S w w1) {p : Addr} (hp : p.block < w.heap.size) (hn : ¬ S p.block) : w1.cell? p = w.cell? p := World.cell?_of_block (w := w) (h.block p.block hp hn)
theorem frozen (h : Keeps S w w1) {p : Addr} (hp : p.block < w.heap.size) (hn : ¬ S p.block) : w1.frozen? p = w.frozen? p := World.frozen?_of_block (w := w) (h.block p.block hp hn)
end Keeps

/-- An owned row stays where nothing writes its block. -/
theorem ownsRow_keeps {S : Nat → Prop} {w w' : World} {base : Nat} {e : TypeId} {size : Nat} {v : Value} {n : Nat} {xs : List Value} (h : w.ownsRow base e size v n xs) (hk : Keeps S w w')
    (hn : ∀ g, v.ownBlock = some g → ¬ S g) : w'.ownsRow base e size v n xs := by
  refine ⟨h.1, ?_⟩
  rcases h.2 with h2 | ⟨g, cap, cur, rfl, hb, hg, r⟩
  · exact .inl h2
  · exact .inr ⟨g, cap, cur, rfl, hb, hk.at_ hg (hn g rfl), r⟩
theorem ownsRow_setCell_ne {w : World} {base : Nat} {e : TypeId} {size : Nat} {v : Value} {n : Nat} {xs : List Value} (h : w.ownsRow base e size v n xs) {a : Addr} (ha : v.ownBlock ≠ some a.block) (u : Value) :
    (w.setCell a u).ownsRow base e size v n xs := by
  refine ⟨h.1, ?_⟩
  rcases h.2 with h2 | ⟨g, cap, cur, rfl, hb, hg, r⟩
  · exact .inl h2
  · exact .inr ⟨g, cap, cur, rfl, hb, by rw [heap_setCell_ne _ _ _ _ (fun e => ha (by simp [Value.ownBlock, e]))]; exact hg, r⟩

theorem ownsRow_slice {w : World} {base : Nat} {e : TypeId} {size : Nat} {v : Value} {n : Nat} {xs : List Value} (h : w.ownsRow base e size v n xs) : ∃ ao cap, v = .slice ao n cap := by
  rcases h.2 with ⟨rfl, rfl⟩ | ⟨g, cap, cur, rfl, _⟩
  · exact ⟨none, 0, rfl⟩
  · exact ⟨some ⟨g, 0, none⟩, cap, rfl⟩

/-- What an object owns now: what it owned, and blocks that are new. -/
def Grows (S S' : Nat → Prop) (w w' : World) : Prop := ∀ k, S' k → S k ∨ (w.heap.size ≤ k ∧ k < w'.heap.size)
end Go.Proofs.Ytbhienlalpbflaa

namespace Go.Proofs.Ytbhienlalpbflaa
open Go.RowKit

theorem setCells_size (b : Nat) : ∀ (vs : List Value) (o : Nat) (w : World), (w.setCells b o vs).heap.size = w.heap.size
  | [], _, _ => rfl
  | v :: r, o, w => by rw [World.setCells, setCells_size b r]; simp
theorem setCells_other (b : Nat) (k : Nat) (hk : k ≠ b) : ∀ (vs : List Value) (o : Nat) (w : World), (w.setCells b o vs).heap[k]? = w.heap[k]?
  | [], _, _ => rfl
  | v :: r, o, w => by rw [World.setCells, setCells_other b k hk r, heap_setCell_ne _ _ _ _ hk]
theorem setCells_os (b : Nat) : ∀ (vs : List Value) (o : Nat) (w : World), (w.setCells b o vs).os = w.os ∧ (w.setCells b o vs).tape = w.tape ∧ (w.setCells b o vs).output = w.output
  | [], _, _ => ⟨rfl, rfl, rfl⟩
  | v :: r, o, w => by rw [World.setCells]; exact setCells_os b r _ _
theorem setCells_at (b : Nat) (e : TypeId) : ∀ (vs : List Value) (o : Nat) (w : World) (cur : Array Value), w.heap[b]? = some (.cells cur e (0, 0)) → o + vs.length ≤ cur.size →
    ∃ cur', (w.setCells b o vs).heap[b]? = some (.cells cur' e (0, 0)) ∧ cur'.size = cur.size ∧ cur'.toList.take (o + vs.length) = cur.toList.take o ++ vs
  | [], o, w, cur, h, _ => ⟨cur, h, rfl, by simp⟩
  | v :: r, o, w, cur, h, hl => by
    simp at hl
    obtain ⟨cur', h1, h2, h3⟩ := setCells_at b e r (o + 1) (w.setCell ⟨b, o, none⟩ v) _ (heap_setCell_at h o v) (by simp; omega)
    refine ⟨cur', h1, by simpa using h2, ?_⟩
    rw [show o + (v :: r).length = o + 1 + r.length by simp; omega, h3]
    rw [List.take_succ_eq_append_getElem (by simp; omega)]
    simp [List.take_set_of_le]

theorem firstCells_own {P : Program} {w : World} {base : Nat} {e : TypeId} {size n cap g : Nat} {xs : List Value} (hown : w.ownsRow base e size (.slice (some ⟨g, 0, none⟩) n cap) n xs) :
    (Builtin.firstCells size n (.slice (some ⟨g, 0, none⟩) n cap)).run P w.drew = .ok xs.toArray w.drew :=
  run_firstCells_some w.drew size n ⟨g, 0, none⟩ n cap xs hown.1 (by simpa using hown.cells (g := g) rfl)

/-- what a row is behind an append -/
structure Appended (e : TypeId) (size : Nat) (w w' : World) (v v' : Value) (n : Nat) (xs : List Value) : Prop where
  row : w'.ownsRow 0 e size v' n xs
  keeps : Keeps (fun k => v.ownBlock = some k) w w'
  own : ∀ g, v'.ownBlock = some g → v.ownBlock = some g ∨ (w.heap.size ≤ g ∧ g < w'.heap.size)

theorem Appended.refl {e : TypeId} {size : Nat} {w : World} {v : Value} {n : Nat} {xs : List Value} (h : w.ownsRow 0 e size v n xs) : Appended e size w w v v n xs := ⟨h, Keeps.refl _ _, fun _ h => .inl h⟩
theorem Appended.trans {e : TypeId} {size : Nat} {w w1 w2 : World} {v v1 v2 : Value} {n n' : Nat} {xs xs' : List Value} (h : Appended e size w w1 v v1 n xs) (k : Appended e size w1 w2 v1 v2 n' xs') : Appended e size w w2 v v2 n' xs' := by
  refine ⟨k.row, h.keeps.trans' k.keeps fun i hi h1 => ?_, fun g hg => ?_⟩
  · rcases h.own i h1 with h0 | h0
    · exact h0
    · omega
  · rcases k.own g hg with h1 | h1
    · rcases h.own g h1 with h0 | h0
      · exact .inl h0
      · exact .inr ⟨h0.1, Nat.lt_of_lt_of_le h0.2 k.keeps.size⟩
    · exact .inr ⟨Nat.le_trans h.keeps.size h1.1, h1.2⟩

theorem run_append_row {P : Program} (w : World) (t tx ty e : TypeId) (i : TypeInfo) (z : Value) (size bytes : Nat) (ht : P.underlying t = some (.slice e)) (hi : P.info? e = some i) (hz : i.zero = some z)
    (hsize : i.size = size) (hby : i.bytes = bytes) (hzs : z.cells.size = size) (_hsz : 0 < size)
    (v : Value) (n : Nat) (xs : List Value) (hown : w.ownsRow 0 e size v n xs) (x : Value) (m : Nat) (news : List Value) (hs : Src P size tx x m news w)
    (h63 : n + m ≤ maxLen) (hbytes : (n + m) * bytes ≤ 140737488355328) :
    ∃ v' w', (Builtin.append_ #[t, tx] ty #[v, x]).run P w = .ok v' w' ∧ Appended e size w w' v v' (n + m) (xs ++ news) ∧ (v' = .slice none 0 0 ↔ v = .slice none 0 0 ∧ m = 0) := by
  subst hsize
  subst hby
  have hsmall : ((n + m : Nat) : Int) ≤ 9223372036854775807 := by simp only [maxLen] at h63; omega
  have hlen : (xs ++ news).length = (n + m) * i.size := by rw [List.length_append, hown.1, hs.newsLen, Nat.add_mul]
  have grown : ∀ old, old < n + m → ∀ (v0 : Value),
      Appended e i.size w (w.drew.alloc (.cells ((xs ++ news).toArray ++ Builtin.zeroCells z.cells (grownCap w (n + m) old e - (n + m))) e)) v0 (.slice (some ⟨w.heap.size, 0, none⟩) (n + m) (grownCap w (n + m) old e)) (n + m) (xs ++ news) := by
    intro old ho v0
    have hge := grownCap_ge w (n + m) old e
    have hcm : grownCap w (n + m) old e ≤ maxLen := grownCap_le_maxLen w (n + m) old e h63
    refine ⟨⟨hlen, .inr ⟨w.heap.size, _, _, rfl, Nat.zero_le _, heap_alloc_new w.drew _, hge, hcm, ?_, ?_⟩⟩, (Keeps.refl _ w).drew.alloc _, fun g hg => ?_⟩
    · simp only [Array.size_append, List.size_toArray, size_zeroCells, hzs, hlen, ← Nat.add_mul]
      congr 1
      omega
    · simp only [Array.toList_append, ← hlen]
      exact List.take_left
    · simp [Value.ownBlock] at hg
      subst hg
      exact .inr ⟨Nat.le_refl _, by simp⟩
  rcases hown.2 with ⟨rfl, rfl⟩ | ⟨g, cap, cur, rfl, hbg, hg, hnc, hcm, hcs, htake⟩
  · have hx : xs = [] := List.eq_nil_of_length_eq_zero (by simpa using hown.1)
    subst hx
    by_cases hm : m = 0
    · subst hm
      have hn : news = [] := List.eq_nil_of_length_eq_zero (by simpa using hs.newsLen)
      subst hn
      refine ⟨.slice none 0 0, w, ?_, ⟨World.ownsRow_nil w 0 e i.size, Keeps.refl _ _, fun g h => .inl h⟩, by simp⟩
      rcases hs.kind with ⟨e', hk⟩ | hk <;> simp [Builtin.append_, run_underlying ht, run_underlying hk, sizeOf, typeInfo, hi, hs.len, hs.cells]
    · have hr := run_append_grow_src (P := P) w t tx ty e i z ht hi hz none 0 0 [] (run_firstCells_none w.drew i.size 0 0 0) x m news hs (by omega) (by simpa using hsmall) (growslice_fits (by omega) hbytes)
      have hgr := grown 0 (by omega) (.slice none 0 0)
      refine ⟨_, _, hr, hgr, by simp [hm]⟩
  · by_cases hroom : n + m ≤ cap
    · have hfit : n * i.size + news.length ≤ cur.size := by rw [hs.newsLen, hcs, ← Nat.add_mul]; exact Nat.mul_le_mul_right _ hroom
      have hr := run_append_room_src (P := P) w t tx ty e i ht hi g 0 n cap x m news hs hroom
        (fun j hj => by rw [cell_at hg]; simp; omega) (fun j _ => free_at hg _)
      obtain ⟨cur', h1, h2, h3⟩ := setCells_at g e news (0 + n * i.size) w cur hg (by omega)
      refine ⟨_, _, hr, ⟨⟨hlen, .inr ⟨g, cap, cur', rfl, hbg, h1, hroom, hcm, by omega, ?_⟩⟩, ⟨(setCells_os g _ _ _).1, (setCells_os g _ _ _).2.1, (setCells_os g _ _ _).2.2, by rw [setCells_size]; exact Nat.le_refl _, fun k _ hk => setCells_other g k (fun e => hk (by simp [Value.ownBlock, e])) _ _ _⟩, fun _ h => .inl h⟩, by simp⟩
      rw [show (n + m) * i.size = 0 + n * i.size + news.length by rw [hs.newsLen, Nat.add_mul]; omega, h3]
      simp [htake]
    · have hr := run_append_grow_src (P := P) w t tx ty e i z ht hi hz (some ⟨g, 0, none⟩) n cap xs (firstCells_own hown) x m news hs (by omega) hsmall (growslice_fits (by omega) hbytes)
      exact ⟨_, _, hr, grown cap (by omega) _, by simp⟩

/-- THE WALK's STEP: one element, which the statement has just laid in a block of its own. -/
theorem wpList_push {P : Program} {ops : Array Oper} {rest : List Oper} {o : Oper} {a : Act} {Q : Exit → Act → World → Prop} (hgd : o.guard = none) (s x : Operand) (t : TypeId)
    (ho : o.op = .call { callee := .builtin .append, args := #[s, x], argTypes := #[t, t] })
    (e : TypeId) (i : TypeInfo) (z : Value) (bytes : Nat) (ht : P.underlying t = some (.slice e)) (hi : P.info? e = some i) (hz : i.zero = some z) (hsize : i.size = 1) (hby : i.bytes = bytes) (hzs : z.cells.size = 1)
    {v : Value} {n : Nat} {xs : List Value} (w0 : World) (hown : w0.ownsRow 0 e 1 v n xs) (u : Value) (hs : a.eval s = v) (hx : a.eval x = .slice (some ⟨w0.heap.size, 0, none⟩) 1 1) (hu : u.oneCell' = true)
    (hb : (n + 1) * bytes ≤ 140737488355328) (hn : n + 1 ≤ maxLen)
    (h : ∀ v' w', Appended e 1 w0 w' v v' (n + 1) (xs ++ [u]) → wpList P ops Q rest (a.put o.dst v') w') : wpList P ops Q (o :: rest) a (w0.alloc (.cells #[u] e)) := by
  refine wpList_plain hgd fun K hK => ?_
  have hsrc : Src P 1 t (.slice (some ⟨w0.heap.size, 0, none⟩) 1 1) 1 [u] (w0.alloc (.cells #[u] e)) := Src.ofSlice _ ht _ 1 1 [u] rfl (fun j y hj => by
    match j, hj with
    | 0, hj => simp at hj; subst hj; simp [Addr.add]
    | (j + 1), hj => simp at hj) (fun y hy => by simp at hy; subst hy; exact hu)
  obtain ⟨v', w', hr, ⟨h1, h2, h3⟩, h4⟩ := run_append_row (P := P) (w0.alloc (.cells #[u] e)) t t o.type e i z 1 bytes ht hi hz hsize hby hzs (by decide) v n xs (hown.alloc _) _ 1 [u] hsrc hn hb
  unfold Oper.wp
  simp [execOp, ho, resolve, invoke, builtin, hs, hx, hr, Result.andThen]
  refine hK _ _ (h v' w' ⟨h1, ((Keeps.refl _ w0).alloc _).trans h2, fun g hg => ?_⟩)
  rcases h3 g hg with h | h
  · exact .inl h
  · have := h.1; simp at this; exact .inr ⟨by omega, h.2⟩

theorem step_push {P : Program} {ops : Array Oper} {o : Oper} {a : Act} {K : Act → World → Prop} {Q : Exit → Act → World → Prop} {F : Prop} (hgd : o.guard = none) (s x : Operand) (t : TypeId)
    (ho : o.op = .call { callee := .builtin .append, args := #[s, x], argTypes := #[t, t] })
    (e : TypeId) (i : TypeInfo) (z : Value) (bytes : Nat) (ht : P.underlying t = some (.slice e)) (hi : P.info? e = some i) (hz : i.zero = some z) (hsize : i.size = 1) (hby : i.bytes = bytes) (hzs : z.cells.size = 1)
    {v : Value} {n : Nat} {xs : List Value} (w0 : World) (hown : w0.ownsRow 0 e 1 v n xs) (u : Value) (hs : a.eval s = v) (hx : a.eval x = .slice (some ⟨w0.heap.size, 0, none⟩) 1 1) (hu : u.oneCell' = true)
    (hb : (n + 1) * bytes ≤ 140737488355328) (hn : n + 1 ≤ maxLen)
    (h : ∀ v' w', Appended e 1 w0 w' v v' (n + 1) (xs ++ [u]) → K (a.put o.dst v') w') :
    if Region.wanted o (yielded ops a.tmps) = true then Oper.wp P o a (w0.alloc (.cells #[u] e)) K Q else F := by
  have hw : Region.wanted o (yielded ops a.tmps) = true := by simp [Region.wanted, hgd]
  rw [if_pos hw]
  have hsrc : Src P 1 t (.slice (some ⟨w0.heap.size, 0, none⟩) 1 1) 1 [u] (w0.alloc (.cells #[u] e)) := Src.ofSlice _ ht _ 1 1 [u] rfl (fun j y hj => by
    match j, hj with
    | 0, hj => simp at hj; subst hj; simp [Addr.add]
    | (j + 1), hj => simp at hj) (fun y hy => by simp at hy; subst hy; exact hu)
  obtain ⟨v', w', hr, ⟨h1, h2, h3⟩, h4⟩ := run_append_row (P := P) (w0.alloc (.cells #[u] e)) t t o.type e i z 1 bytes ht hi hz hsize hby hzs (by decide) v n xs (hown.alloc _) _ 1 [u] hsrc hn hb
  unfold Oper.wp
  simp [execOp, ho, resolve, invoke, builtin, hs, hx, hr, Result.andThen]
  refine h v' w' ⟨h1, ((Keeps.refl _ w0).alloc _).trans h2, fun g hg => ?_⟩
  rcases h3 g hg with h | h
  · exact .inl h
  · have := h.1; simp at this; exact .inr ⟨by omega, h.2⟩

/-- THE WALK's STEP: whatever is appended ('append(s, x...)'). -/
theorem wpList_append_src {P : Program} {w : World} {ops : Array Oper} {rest : List Oper} {o : Oper} {a : Act} {Q : Exit → Act → World → Prop} (hgd : o.guard = none) (s x : Operand) (t tx : TypeId)
    (ho : o.op = .call { callee := .builtin .append, args := #[s, x], argTypes := #[t, tx] })
    (e : TypeId) (i : TypeInfo) (z : Value) (size bytes : Nat) (ht : P.underlying t = some (.slice e)) (hi : P.info? e = some i) (hz : i.zero = some z) (hsize : i.size = size) (hby : i.bytes = bytes) (hzs : z.cells.size = size) (hsz : 0 < size)
    {v : Value} {n : Nat} {xs : List Value} (hown : w.ownsRow 0 e size v n xs) (xv : Value) (m : Nat) (news : List Value) (hs : a.eval s = v) (hx : a.eval x = xv) (hsrc : Src P size tx xv m news w)
    (hn : n + m ≤ maxLen) (hb : (n + m) * bytes ≤ 140737488355328)
    (h : ∀ v' w', Appended e size w w' v v' (n + m) (xs ++ news) → wpList P ops Q rest (a.put o.dst v') w') : wpList P ops Q (o :: rest) a w := by
  refine wpList_plain hgd fun K hK => ?_
  obtain ⟨v', w', hr, h1, h4⟩ := run_append_row (P := P) w t tx o.type e i z size bytes ht hi hz hsize hby hzs hsz v n xs hown xv m news hsrc hn hb
  unfold Oper.wp
  simp [execOp, ho, resolve, invoke, builtin, hs, hx, hr, Result.andThen]
  exact hK _ _ (h v' w' h1)

/-- 'string(b)' of a row of bytes that is owned. -/
theorem run_text_of_row {P : Program} {w : World} {base : Nat} {e : TypeId} {v : Value} {bs : List UInt8} (src dst : TypeId) (hs : P.underlying src = some (.slice e)) (he : P.underlying e = some (.int .u8)) (hd : P.underlying dst = some .string)
    (h : w.ownsRow base e 1 v bs.length (bs.map fun b => Value.int .u8 (b.toNat : Int))) : (convert src dst v).run P w = .ok (.string ⟨bs.toArray⟩) w := by
  rcases h.2 with ⟨rfl, h0⟩ | ⟨g, cap, cur, rfl, _⟩
  · have : bs = [] := List.eq_nil_of_length_eq_zero h0
    subst this
    exact run_convert_bytes_nil w src e hs he 0 0 dst hd
  · refine run_convert_bytes_back w src dst e _ cap bs hs he hd fun j hj => ?_
    exact h.cells (g := g) rfl j _ (by simp [List.getElem?_eq_getElem hj])
end Go.Proofs.Ytbhienlalpbflaa

namespace Go.Proofs.Ytbhienlalpbflaa
open Go.RowKit

/-- The bytes as the cells of a []byte. -/
def u8s (l : List UInt8) : List Value := l.map fun b => Value.int .u8 (b.toNat : Int)

/-- A text by its bytes. -/
def str (l : List UInt8) : ByteArray := ⟨l.toArray⟩
theorem str_size (l : List UInt8) : (str l).size = l.length := by simp [str, ByteArray.size]
theorem str_data (l : List UInt8) : (str l).data.toList = l := rfl
theorem str_of (s : ByteArray) : s = str s.data.toList := rfl
theorem str_extract (l : List UInt8) (a b : Nat) : (str l).extract a b = str ((l.take b).drop a) := by
  apply ByteArray.ext
  simp [str, ByteArray.data_extract, List.drop_take]
theorem str_to (l : List UInt8) (n : Nat) : (str l).extract 0 n = str (l.take n) := by rw [str_extract, List.drop_zero]
theorem str_from (l : List UInt8) (n : Nat) : (str l).extract n l.length = str (l.drop n) := by rw [str_extract, List.take_length]

theorem str_toList (l : List UInt8) : (str l).toList = l := ByteArray.toList_eq _

/-- Nothing that was there has turned. -/
abbrev Fresh (w w' : World) : Prop := Keeps (fun _ => False) w w'

/-- What an object owns lies behind the package-level variables, and is there. -/
def Lives (S : Nat → Prop) (w : World) : Prop := ∀ k, S k → 1 ≤ k ∧ k < w.heap.size
theorem Lives.keeps {S T : Nat → Prop} {w w' : World} (h : Lives S w) (hk : Keeps T w w') : Lives S w' := fun k h' => ⟨(h k h').1, Nat.lt_of_lt_of_le (h k h').2 hk.size⟩
theorem Lives.grows {S S' : Nat → Prop} {w w' : World} {b : Nat} (h : Lives S w) (hb : S b) (hs : w.heap.size ≤ w'.heap.size) (hg : Grows S S' w w') : Lives S' w' := fun k hk => by
  have := h b hb
  rcases hg k hk with h1 | h1
  · have := h k h1; omega
  · omega

/-- noted first -/
def first (e f : Int) : Int := if e = 0 then f else e

/-- What a method does to an object: it owns now what it owned and what is new; all else is as it was. -/
def Acts (S : Nat → Prop) (w w' : World) (R : (Nat → Prop) → Prop) : Prop := ∃ S', Grows S S' w w' ∧ Keeps S w w' ∧ R S'

theorem Acts.same {S : Nat → Prop} {w : World} {R : (Nat → Prop) → Prop} (h : R S) : Acts S w w R := ⟨S, fun _ h => .inl h, Keeps.refl _ _, h⟩
/-- one call behind the other -/
theorem Acts.after {S S1 : Nat → Prop} {w w1 w2 : World} {R : (Nat → Prop) → Prop} (hg : Grows S S1 w w1) (hk : Keeps S w w1) (h : Acts S1 w1 w2 R) : Acts S w w2 R := by
  obtain ⟨S2, hg2, hk2, hr2⟩ := h
  refine ⟨S2, fun k hk' => ?_, hk.trans' hk2 fun i hi h1 => ?_, hr2⟩
  · rcases hg2 k hk' with h1 | h1
    · rcases hg k h1 with h0 | h0
      · exact .inl h0
      · exact .inr ⟨h0.1, Nat.lt_of_lt_of_le h0.2 hk2.size⟩
    · exact .inr ⟨Nat.le_trans hk.size h1.1, h1.2⟩
  · rcases hg i h1 with h0 | h0
    · exact h0
    · omega
/-- the same, where something beside the object's own may have been written as well -/
theorem Acts.afterT {S S1 T : Nat → Prop} {w w1 w2 : World} {R : (Nat → Prop) → Prop} (hg : Grows S S1 w w1) (hk : Keeps (fun k => S k ∨ T k) w w1) (h : Acts S1 w1 w2 R) :
    ∃ S2, Grows S S2 w w2 ∧ Keeps (fun k => S k ∨ T k) w w2 ∧ R S2 := by
  obtain ⟨S2, hg2, hk2, hr2⟩ := h
  refine ⟨S2, fun k hk' => ?_, hk.trans' hk2 fun i hi h1 => ?_, hr2⟩
  · rcases hg2 k hk' with h1 | h1
    · rcases hg k h1 with h0 | h0
      · exact .inl h0
      · exact .inr ⟨h0.1, Nat.lt_of_lt_of_le h0.2 hk2.size⟩
    · exact .inr ⟨Nat.le_trans hk.size h1.1, h1.2⟩
  · rcases hg i h1 with h0 | h0
    · exact .inl h0
    · omega
theorem heap_size_alloc (w : World) (o : Obj) : (w.alloc o).heap[w.heap.size]? = some o := heap_alloc_new w o

/-- an object that was made since w: nothing that was there in w has turned -/
def Mine (w : World) (S : Nat → Prop) (w' : World) : Prop := Fresh w w' ∧ ∀ k, S k → w.heap.size ≤ k
theorem Mine.step {w w1 w2 : World} {S S2 : Nat → Prop} (h : Mine w S w1) (hg : Grows S S2 w1 w2) (hk : Keeps S w1 w2) : Mine w S2 w2 :=
  ⟨h.1.trans' hk fun i hi hs => by have := h.2 i hs; omega, fun k hk2 => by
    have := h.1.size
    rcases hg k hk2 with h1 | h1
    · exact h.2 k h1
    · omega⟩
theorem Mine.fresh {w w1 w2 : World} {S : Nat → Prop} (h : Mine w S w1) (hk : Fresh w1 w2) : Mine w S w2 := ⟨h.1.trans hk, h.2⟩

/-- three variables of one cell or more, one behind the other -/
theorem cells3 (w : World) (a b c : Array Value) (ta tb tc : TypeId) (o : Nat) :
    (((w.alloc (.cells a ta)).alloc (.cells b tb)).alloc (.cells c tc)).cell? ⟨w.heap.size, o, none⟩ = a[o]? ∧ (((w.alloc (.cells a ta)).alloc (.cells b tb)).alloc (.cells c tc)).cell? ⟨w.heap.size + 1, o, none⟩ = b[o]? ∧
    (((w.alloc (.cells a ta)).alloc (.cells b tb)).alloc (.cells c tc)).cell? ⟨w.heap.size + 1 + 1, o, none⟩ = c[o]? ∧ (((w.alloc (.cells a ta)).alloc (.cells b tb)).alloc (.cells c tc)).frozen? ⟨w.heap.size, o, none⟩ = false ∧
    (((w.alloc (.cells a ta)).alloc (.cells b tb)).alloc (.cells c tc)).frozen? ⟨w.heap.size + 1, o, none⟩ = false ∧ (((w.alloc (.cells a ta)).alloc (.cells b tb)).alloc (.cells c tc)).frozen? ⟨w.heap.size + 1 + 1, o, none⟩ = false := by
  refine ⟨?_, ?_, ?_, ?_, ?_, ?_⟩
  · rw [World.cell?_alloc_past _ _ _ (by simp only [World.size_alloc]; try omega), World.cell?_alloc_past _ _ _ (by simp only [World.size_alloc]; try omega), World.cell?_alloc_at _ _ _ _ rfl]
  · rw [World.cell?_alloc_past _ _ _ (by simp only [World.size_alloc]; try omega), World.cell?_alloc_at _ _ _ _ (by simp only [World.size_alloc]; try omega)]
  · rw [World.cell?_alloc_at _ _ _ _ (by simp only [World.size_alloc]; try omega)]
  · rw [World.frozen?_alloc_past _ _ _ (by simp only [World.size_alloc]; try omega), World.frozen?_alloc_past _ _ _ (by simp only [World.size_alloc]; try omega), World.frozen?_alloc_at _ _ _ _ rfl]
  · rw [World.frozen?_alloc_past _ _ _ (by simp only [World.size_alloc]; try omega), World.frozen?_alloc_at _ _ _ _ (by simp only [World.size_alloc]; try omega)]
  · rw [World.frozen?_alloc_at _ _ _ _ (by simp only [World.size_alloc]; try omega)]
theorem cells3n (w : World) (a b c : Array Value) (ta tb tc : TypeId) (n o : Nat) :
    ((((w.alloc (.cells a ta)).alloc (.cells b tb)).alloc (.cells c tc)).drewN n).cell? ⟨w.heap.size, o, none⟩ = a[o]? ∧ ((((w.alloc (.cells a ta)).alloc (.cells b tb)).alloc (.cells c tc)).drewN n).cell? ⟨w.heap.size + 1, o, none⟩ = b[o]? ∧
    ((((w.alloc (.cells a ta)).alloc (.cells b tb)).alloc (.cells c tc)).drewN n).cell? ⟨w.heap.size + 1 + 1, o, none⟩ = c[o]? ∧ ((((w.alloc (.cells a ta)).alloc (.cells b tb)).alloc (.cells c tc)).drewN n).frozen? ⟨w.heap.size, o, none⟩ = false ∧
    ((((w.alloc (.cells a ta)).alloc (.cells b tb)).alloc (.cells c tc)).drewN n).frozen? ⟨w.heap.size + 1, o, none⟩ = false ∧ ((((w.alloc (.cells a ta)).alloc (.cells b tb)).alloc (.cells c tc)).drewN n).frozen? ⟨w.heap.size + 1 + 1, o, none⟩ = false := cells3 w a b c ta tb tc o
end Go.Proofs.Ytbhienlalpbflaa
