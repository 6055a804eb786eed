/-
  Lists of texts in memory: as they came in, in blocks of their own; a row copied over.
-/
import Derived.Test.YtgikabafaocemaaDoorMShaC
import Derived.Test.YtgikabafaocemaaDoorMShaA
import Derived.Handy
import Derived.Deep.RegionLaw
import Derived.Deep.DeepCutAuto
import Derived.Deep.CutBlock
import Derived.BigQuiet
import Derived.Laws.IdiomCopy
namespace Go.Proofs.YtgikabafaocemaaDoor
open Go.RowKit

theorem Tryd.infoText : (Tryd.prog.info? 9).map (fun i => (i.zero, i.size, i.bytes)) = some (some (.string ⟨#[]⟩), 1, 16) := by kernel_rfl
theorem ownsRow_lt {w : World} {base : Nat} {e : TypeId} {size : Nat} {v : Value} {n : Nat} {xs : List Value} {g : Nat} (h : w.ownsRow base e size v n xs) (hg : v.ownBlock = some g) : g < w.heap.size := by
  obtain ⟨_, ⟨rfl, _⟩ | ⟨g', cap, cur, rfl, _, hb, _⟩⟩ := h
  · simp [Value.ownBlock] at hg
  · simp [Value.ownBlock] at hg
    subst hg
    exact lt_of_block hb
theorem ownsRow_at {w : World} {base : Nat} {e : TypeId} {v : Value} {n : Nat} {xs : List Value} (h : w.ownsRow base e 1 v n xs) : ∃ ao cap, v = .slice ao n cap ∧ ∀ (k : Nat) (u : Value), xs[k]? = some u → ∃ bb, ao = some ⟨bb, 0, none⟩ ∧ bb < w.heap.size ∧ w.cell? ⟨bb, k, none⟩ = some u := by
  obtain ⟨hl, ⟨rfl, rfl⟩ | ⟨g', cap, cur, rfl, _, hb, hn, _, hcs, ht⟩⟩ := h
  · refine ⟨_, _, rfl, fun k u hu => ?_⟩
    have : k < xs.length := (List.getElem?_eq_some_iff.1 hu).1
    omega
  · refine ⟨_, _, rfl, fun k u hu => ⟨g', rfl, lt_of_block hb, ?_⟩⟩
    rw [cell_at hb]
    rw [← ht, List.getElem?_take] at hu
    split at hu
    · simpa using hu
    · cases hu
theorem OwnTexts_at {B : Nat} {w : World} {v : Value} {l : List (List UInt8)} (h : w.ownsRow B 9 1 v l.length (l.map fun s => Value.string (str s))) : TextsAt w v l := by
  obtain ⟨ao, cap, rfl, hc⟩ := ownsRow_at h
  refine ⟨ao, cap, rfl, fun k s hs => ?_⟩
  obtain ⟨bb, rfl, h1, h2⟩ := hc k (.string (str s)) (by simp [hs])
  exact ⟨bb, 0, rfl, h1, by rw [Nat.zero_add]; exact h2⟩
def texts (l : List (List UInt8)) : List Value := l.map fun s => .string (str s)
theorem texts_snoc (l : List (List UInt8)) (x : List UInt8) : texts (l ++ [x]) = texts l ++ [Value.string (str x)] := by simp [texts]
/-- a list of texts in blocks of its own, all made since there were B blocks -/
def OwnTexts (B : Nat) (w : World) (v : Value) (l : List (List UInt8)) : Prop :=
  w.ownsRow 0 9 1 v l.length (texts l) ∧ ∀ g, v.ownBlock = some g → B ≤ g
theorem OwnTexts.at_ {B : Nat} {w : World} {v : Value} {l : List (List UInt8)} (h : OwnTexts B w v l) : TextsAt w v l := OwnTexts_at h.1
theorem step_append {P : Program} {ops : Array Oper} {o : Oper} {a : Act} {K : Act → World → Prop} {Q : Exit → Act → World → Prop} {F : Prop} {w : World} (hgd : o.guard = none) (s x : Operand) (t : TypeId)
    (ho : o.op = .call { callee := .builtin .append, args := #[s, x], argTypes := #[t, t] })
    (e : TypeId) (i : TypeInfo) (z : Value) (bytes : Nat) (ht : P.underlying t = some (.slice e)) (hi : P.info? e = some i) (hz : i.zero = some z) (hsize : i.size = 1) (hby : i.bytes = bytes) (hzs : z.cells.size = 1)
    {v : Value} {n : Nat} {xs : List Value} (hown : w.ownsRow 0 e 1 v n xs) (xv : Value) (m : Nat) (news : List Value) (hs : a.eval s = v) (hx : a.eval x = xv) (hsrc : Src P 1 t xv m news w)
    (hn : n + m ≤ maxLen) (hb : (n + m) * bytes ≤ 140737488355328)
    (h : ∀ v' w', Appended e 1 w w' v v' (n + m) (xs ++ news) → K (a.put o.dst v') w') :
    if Region.wanted o (yielded ops a.tmps) = true then Oper.wp P o a w K Q else F := by
  have hw : Region.wanted o (yielded ops a.tmps) = true := by simp [Region.wanted, hgd]
  rw [if_pos hw]
  obtain ⟨v', w', hr, h1, h4⟩ := run_append_row (P := P) w t t o.type e i z 1 bytes ht hi hz hsize hby hzs (by decide) v n xs hown xv m news hsrc hn hb
  unfold Oper.wp
  simp [execOp, ho, resolve, invoke, builtin, hs, hx, hr, Result.andThen]
  exact h v' w' h1
theorem Src.ofTexts {P : Program} {w : World} {tx e : TypeId} {v : Value} {l : List (List UInt8)} (hk : P.underlying tx = some (.slice e)) (h : TextsAt w v l) : Src P 1 tx v l.length (texts l) w := by
  obtain ⟨ao, cap, rfl, hc⟩ := h
  have h1 : ∀ u ∈ texts l, u.oneCell' = true := fun u hu => by obtain ⟨x, _, rfl⟩ := List.mem_map.1 hu; rfl
  cases l with
  | nil =>
    cases ao with
    | none => exact Src.ofNil w hk cap
    | some a => exact Src.ofSlice w hk a 0 cap [] rfl (fun j u hj => by simp at hj) (fun u hu => by simp at hu)
  | cons x r =>
    obtain ⟨bb, off, rfl, _⟩ := hc 0 x rfl
    refine Src.ofSlice w hk _ _ cap (texts (x :: r)) (by simp [texts]) (fun j u hj => ?_) h1
    simp only [texts, List.getElem?_map, Option.map_eq_some_iff] at hj
    obtain ⟨s, hs, rfl⟩ := hj
    obtain ⟨bb2, off2, he, _, hcc⟩ := hc j s hs
    simp only [Option.some.injEq, Addr.mk.injEq, and_true] at he
    have e : (⟨bb, off, none⟩ : Addr).add j = ⟨bb, off + j, none⟩ := by unfold Addr.add; split <;> simp_all
    rw [e, he.1, he.2]
    exact hcc
theorem TextsAt.fresh {w w' : World} {v : Value} {l : List (List UInt8)} (h : TextsAt w v l) (f : Fresh w w') : TextsAt w' v l := by
  obtain ⟨ao, cap, rfl, hc⟩ := h
  exact ⟨ao, cap, rfl, fun k s hs => by
    obtain ⟨bb, off, e1, e2, e3⟩ := hc k s hs
    exact ⟨bb, off, e1, Nat.lt_of_lt_of_le e2 f.size, (f.cell (p := ⟨bb, off + k, none⟩) e2 (fun h => h)).trans e3⟩⟩
theorem TextsAt.keepsNew {w w' : World} {v : Value} {l : List (List UInt8)} (h : TextsAt w v l) (f : Keeps (fun q => w.heap.size ≤ q) w w') : TextsAt w' v l := by
  obtain ⟨ao, cap, rfl, hc⟩ := h
  exact ⟨ao, cap, rfl, fun k s hs => by
    obtain ⟨bb, off, e1, e2, e3⟩ := hc k s hs
    exact ⟨bb, off, e1, Nat.lt_of_lt_of_le e2 f.size, (f.cell (p := ⟨bb, off + k, none⟩) e2 (fun h => by simp only at h; omega)).trans e3⟩⟩
/-- a row of texts with more behind them: the first of them, by a shorter slice -/
theorem row_texts {w : World} {g n c : Nat} {l m : List (List UInt8)} (h : w.ownsRow 0 9 1 (.slice (some ⟨g, 0, none⟩) n c) n (texts (l ++ m))) : TextsAt w (.slice (some ⟨g, 0, none⟩) l.length c) l := by
  obtain ⟨ao, cap, he, hc⟩ := ownsRow_at h
  simp only [Value.slice.injEq] at he
  obtain ⟨rfl, _, rfl⟩ := he
  refine ⟨_, _, rfl, fun k s hs => ?_⟩
  have hk : k < l.length := (List.getElem?_eq_some_iff.1 hs).1
  obtain ⟨bb, e1, e2, e3⟩ := hc k (.string (str s)) (by simp only [texts, List.getElem?_map, List.getElem?_append_left hk, hs, Option.map_some])
  exact ⟨bb, 0, e1, e2, by rw [Nat.zero_add]; exact e3⟩
theorem row_cell {w : World} {g n c j : Nat} {l : List (List UInt8)} {s : List UInt8} (h : w.ownsRow 0 9 1 (.slice (some ⟨g, 0, none⟩) n c) n (texts l)) (hs : l[j]? = some s) : w.cell? ⟨g, j, none⟩ = some (.string (str s)) := by
  obtain ⟨ao, cap, he, hc⟩ := ownsRow_at h
  simp only [Value.slice.injEq] at he
  obtain ⟨rfl, _, rfl⟩ := he
  obtain ⟨bb, e1, e2, e3⟩ := hc j (.string (str s)) (by simp [texts, hs])
  simp only [Option.some.injEq, Addr.mk.injEq, and_true] at e1
  rw [e1]
  exact e3
theorem row_cap {w : World} {g n c : Nat} {xs : List Value} {e : TypeId} (h : w.ownsRow 0 e 1 (.slice (some ⟨g, 0, none⟩) n c) n xs) : n ≤ c := by
  rcases h.2 with ⟨h0, _⟩ | ⟨g', c', cur, e, _, _, hcap, _⟩
  · cases h0
  · simp only [Value.slice.injEq] at e
    omega
theorem row_cells {w : World} {g n c : Nat} {xs : List Value} {e : TypeId} (h : w.ownsRow 0 e 1 (.slice (some ⟨g, 0, none⟩) n c) n xs) : ∃ cur : Array Value, w.heap[g]? = some (.cells cur e (0, 0)) ∧ cur.size = c := by
  rcases h.2 with ⟨h0, _⟩ | ⟨g', c', cur, e, _, hg, hcap, _, hs, _⟩
  · cases h0
  · simp only [Value.slice.injEq, Option.some.injEq, Addr.mk.injEq, and_true] at e
    obtain ⟨rfl, _, rfl⟩ := e
    exact ⟨cur, hg, by omega⟩
theorem OwnTexts.fresh {B : Nat} {w w' : World} {v : Value} {l : List (List UInt8)} (h : OwnTexts B w v l) (f : Fresh w w') : OwnTexts B w' v l := ⟨ownsRow_keeps h.1 f (fun _ _ h => h), h.2⟩
theorem OwnTexts.keeps {S : Nat → Prop} {B : Nat} {w w' : World} {v : Value} {l : List (List UInt8)} (h : OwnTexts B w v l) (f : Keeps S w w') (hS : ∀ g, B ≤ g → ¬ S g) : OwnTexts B w' v l := ⟨ownsRow_keeps h.1 f (fun g hg => hS g (h.2 g hg)), h.2⟩
theorem drop_cons {α : Type} {l : List α} {k : Nat} {x : α} (h : l[k]? = some x) : l.drop k = x :: l.drop (k + 1) := by
  obtain ⟨hk, rfl⟩ := List.getElem?_eq_some_iff.1 h
  exact List.drop_eq_getElem_cons hk
/-- the owner turns the list round, where it lies -/
theorem copy_back (w : World) (g c : Nat) (l r : List (List UInt8)) (nv : Value) (cur : Array Value) (hg : w.heap[g]? = some (.cells cur 9 (0, 0))) (hc : l.length ≤ cur.size) (hr : r.length = l.length) (hn : w.ownsRow 0 9 1 nv r.length (texts r)) (hne : nv.ownBlock ≠ some g) :
    ∃ u w', (Builtin.copy_ #[26, 26] 3 #[.slice (some ⟨g, 0, none⟩) l.length c, nv]).run Tryd.prog w = .ok u w' ∧ Keeps (fun q => q = g) w w' ∧ TextsAt w' (.slice (some ⟨g, 0, none⟩) l.length c) r := by
  have hsz : (Tryd.prog.info? 9).map (·.size) = some 1 := by kernel_rfl
  obtain ⟨ao, cap, rfl, hcc⟩ := ownsRow_at hn
  by_cases h0 : l.length = 0
  · have hr0 : r = [] := List.eq_nil_of_length_eq_zero (by omega)
    subst hr0
    refine ⟨_, w, run_copy_none w 26 26 3 9 _ _ _ _ _ _ Tryd.underlying26 hsz (by simp), Keeps.refl _ _, ?_⟩
    rw [← hr]
    exact ⟨_, _, rfl, fun k s hs => by simp at hs⟩
  · have hlen : (texts r).length = r.length := by simp [texts]
    obtain ⟨x, hx⟩ : ∃ x, (texts r)[0]? = some x := ⟨(texts r)[0]'(by omega), by simp⟩
    obtain ⟨bb, rfl, hbb, _⟩ := hcc 0 x hx
    have hrun := run_copy_cells (P := Tryd.prog) w 26 26 3 9 g 0 l.length c ⟨bb, 0, none⟩ r.length cap (texts r) Tryd.underlying26 hsz (by rw [hlen, hr]; simp)
      (fun j v hj => by
        obtain ⟨b2, e1, _, e3⟩ := hcc j v hj
        simp only [Option.some.injEq, Addr.mk.injEq, and_true] at e1
        rw [addr_add0, e1]; exact e3)
      (fun j hj => by rw [Nat.zero_add, cell_at hg]; simp; omega) (fun j _ => by rw [Nat.zero_add]; exact free_at hg j) (fun u hu => by obtain ⟨x, _, rfl⟩ := List.mem_map.1 hu; rfl)
    obtain ⟨cur', hg', hs', ht'⟩ := setCells_at g 9 (texts r) 0 w cur hg (by omega)
    have hk : Keeps (fun q => q = g) w (w.setCells g 0 (texts r)) := ⟨(setCells_os g _ _ _).1, (setCells_os g _ _ _).2.1, (setCells_os g _ _ _).2.2, by rw [setCells_size]; exact Nat.le_refl _, fun k hk hn => setCells_other g k hn _ _ _⟩
    refine ⟨_, _, hrun, hk, ?_⟩
    rw [← hr]
    refine ⟨_, _, rfl, fun k s hs => ⟨g, 0, rfl, lt_of_block hg', ?_⟩⟩
    have hk2 : k < r.length := (List.getElem?_eq_some_iff.1 hs).1
    rw [Nat.zero_add, cell_at hg']
    have := congrArg (fun z => z[k]?) ht'
    simp [texts, hs, List.getElem?_take] at this
    exact this.2

end Go.Proofs.YtgikabafaocemaaDoor
