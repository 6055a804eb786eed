/-
  Lists read from a place on; spans appended.
-/
import Derived.Test.YtgikabafaocemaaDoorSpRun
import Derived.Test.YtgikabafaocemaaDoorMSpF
import Derived.Test.YtgikabafaocemaaDoorRowT
namespace Go.Proofs.YtgikabafaocemaaDoor
open Go.RowKit

theorem addr_add (bb off d : Nat) : (⟨bb, off, none⟩ : Addr).add d = ⟨bb, off + d, none⟩ := by unfold Addr.add; split <;> simp_all
theorem Src.ofSpans {w : World} {v : Value} {l : List (Nat × Nat)} (h : SpansAt w v l) : Src Tryd.prog 2 60 v l.length (spanCells l) w := by
  obtain ⟨ao, cap, rfl, hcap, hc⟩ := h
  have hone : ∀ u ∈ spanCells l, u.oneCell' = true := fun u hu => by
    simp only [spanCells, List.mem_flatMap] at hu
    obtain ⟨x, _, hu⟩ := hu
    simp at hu
    rcases hu with rfl | rfl <;> rfl
  cases l with
  | nil =>
    cases ao with
    | none => exact Src.ofNil w Tryd.underlying60 cap
    | some a => exact Src.ofSlice w Tryd.underlying60 a 0 cap [] rfl (fun j u hj => by simp at hj) (fun u hu => by simp at hu)
  | cons x r =>
    obtain ⟨bb, off, rfl, _⟩ := hc 0 x rfl
    refine Src.ofSlice w Tryd.underlying60 _ _ cap (spanCells (x :: r)) (spanCells_len _) (fun j u hj => ?_) hone
    have hjl := (List.getElem?_eq_some_iff.1 hj).1
    rw [spanCells_len] at hjl
    obtain ⟨y, hy⟩ : ∃ y, (x :: r)[j / 2]? = some y := ⟨(x :: r)[j / 2]'(by omega), by simp⟩
    obtain ⟨b2, o2, he, _, h0, h1⟩ := hc (j / 2) y hy
    simp only [Option.some.injEq, Addr.mk.injEq, and_true] at he
    obtain ⟨rfl, rfl⟩ := he
    obtain ⟨s0, s1⟩ := spanCells_at _ _ _ hy
    rw [addr_add]
    have e0 : j = j / 2 * 2 ∨ j = j / 2 * 2 + 1 := by omega
    obtain ⟨i, hi⟩ : ∃ i, j / 2 = i := ⟨_, rfl⟩
    rw [hi] at e0 s0 s1 h0 h1
    rcases e0 with e | e
    · rw [e] at hj ⊢
      rw [s0] at hj
      rw [← Option.some.inj hj]
      exact h0
    · rw [e] at hj ⊢
      rw [s1] at hj
      rw [← Option.some.inj hj]
      exact h1
theorem SpansAt.from {w : World} {ao : Option Addr} {k ct d : Nat} {l : List (Nat × Nat)} (h : SpansAt w (.slice ao l.length ct) l) (hk : l.length = k) (hd : d ≤ k) :
    SpansAt w (.slice (if ct = d then ao else Option.map (fun x => x.add (d * 2)) ao) (k - d) (ct - d)) (l.drop d) := by
  obtain ⟨a', c', e', hcap, hc⟩ := h
  simp only [Value.slice.injEq] at e'
  obtain ⟨rfl, -, rfl⟩ := e'
  refine ⟨_, _, by rw [List.length_drop, hk], by rw [List.length_drop]; omega, fun i x hx => ?_⟩
  rw [List.getElem?_drop] at hx
  have hl := (List.getElem?_eq_some_iff.1 hx).1
  obtain ⟨bb, off, rfl, h0, h1, h2⟩ := hc (d + i) x hx
  refine ⟨bb, off + d * 2, ?_, h0, by rw [← h1]; congr 2; omega, by rw [← h2]; congr 2; omega⟩
  rw [if_neg (by omega), Option.map_some, addr_add]
theorem TextsAt.from {w : World} {ao : Option Addr} {k ct d : Nat} {l : List (List UInt8)} (h : TextsAt w (.slice ao k ct) l) (hk : l.length = k) (hd : d ≤ k) (hct : k ≤ ct) :
    TextsAt w (.slice (if ct = d then ao else Option.map (fun x => x.add d) ao) (k - d) (ct - d)) (l.drop d) := by
  obtain ⟨a', c', e', hc⟩ := h
  simp only [Value.slice.injEq] at e'
  obtain ⟨rfl, -, rfl⟩ := e'
  refine ⟨_, _, by rw [List.length_drop, hk], fun i x hx => ?_⟩
  rw [List.getElem?_drop] at hx
  have hl := (List.getElem?_eq_some_iff.1 hx).1
  obtain ⟨bb, off, rfl, h0, h1⟩ := hc (d + i) x hx
  refine ⟨bb, off + d, ?_, h0, by rw [← h1]; congr 2; omega⟩
  rw [if_neg (by omega), Option.map_some, addr_add]
theorem append_wp {P : Program} {o : Oper} {a : Act} {K : Act → World → Prop} {Q : Exit → Act → World → Prop} {w : World} (hgd : o.guard = none) (s x : Operand) (t : TypeId)
    (ho : o.op = .call { callee := .builtin .append, args := #[s, x], argTypes := #[t, t] })
    (e : TypeId) (i : TypeInfo) (z : Value) (bytes : Nat) (ht : P.underlying t = some (.slice e)) (hi : P.info? e = some i) (hz : i.zero = some z) (hsize : i.size = 1) (hby : i.bytes = bytes) (hzs : z.cells.size = 1)
    {v : Value} {n : Nat} {xs : List Value} (hown : w.ownsRow 0 e 1 v n xs) (xv : Value) (m : Nat) (news : List Value) (hs : a.eval s = v) (hx : a.eval x = xv) (hsrc : Src P 1 t xv m news w)
    (hn : n + m ≤ maxLen) (hb : (n + m) * bytes ≤ 140737488355328)
    (h : ∀ v' w', Appended e 1 w w' v v' (n + m) (xs ++ news) → K (a.put o.dst v') w') : Oper.wp P o a w K Q := by
  have := step_append (ops := #[]) (F := True) hgd s x t ho e i z bytes ht hi hz hsize hby hzs hown xv m news hs hx hsrc hn hb (K := K) (Q := Q) h
  rwa [if_pos (by simp [Region.wanted, hgd])] at this
end Go.Proofs.YtgikabafaocemaaDoor
