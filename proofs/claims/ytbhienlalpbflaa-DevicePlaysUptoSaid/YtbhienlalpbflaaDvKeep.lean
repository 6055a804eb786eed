/-
  A list of keeps, as a row.
-/
import Derived.Test.YtbhienlalpbflaaDvCrash
namespace Go.Proofs.Ytbhienlalpbflaa
open Go.RowKit Go.Maps

def keepCells (ks : List (Int × Int)) : List Value := ks.flatMap fun x => [.int .i64 x.1, .int .i64 x.2]
theorem keepCells_snoc (ks : List (Int × Int)) (x : Int × Int) : keepCells (ks ++ [x]) = keepCells ks ++ [.int .i64 x.1, .int .i64 x.2] := by simp [keepCells]
theorem keepCells_at : ∀ (ks : List (Int × Int)) (k : Nat) (x : Int × Int), ks[k]? = some x → (keepCells ks)[k * 2]? = some (.int .i64 x.1) ∧ (keepCells ks)[k * 2 + 1]? = some (.int .i64 x.2)
  | [], k, x, h => by simp at h
  | y :: r, 0, x, h => by
    simp at h
    subst h
    exact ⟨rfl, rfl⟩
  | y :: r, k + 1, x, h => by
    have ih := keepCells_at r k x (by simpa using h)
    have e : keepCells (y :: r) = .int .i64 y.1 :: .int .i64 y.2 :: keepCells r := rfl
    rw [e, show (k + 1) * 2 = k * 2 + 1 + 1 by omega, show k * 2 + 1 + 1 + 1 = (k * 2 + 1) + 1 + 1 by omega]
    simpa using ih
theorem Try.infoKeep : (Try.prog.info? 71).map (fun i => (i.zero, i.size, i.bytes)) = some (some (.agg #[.int .i64 0, .int .i64 0]), 2, 16) := by kernel_rfl

theorem KeepsAt.of_row {w : World} {v : Value} {ks : List (Int × Int)} (h : w.ownsRow 0 71 2 v ks.length (keepCells ks)) : KeepsAt w v ks := by
  rcases h.2 with ⟨rfl, h0⟩ | ⟨g, cap, cur, rfl, _, hb, h2, h3, h4, h5⟩
  · refine ⟨none, 0, by rw [h0], fun k x hx => ?_⟩
    have := (List.getElem?_eq_some_iff.1 hx).1
    omega
  · refine ⟨some ⟨g, 0, none⟩, cap, rfl, fun k x hx => ⟨g, 0, rfl, lt_of_block hb, ?_⟩⟩
    obtain ⟨q1, q2⟩ := keepCells_at _ k x hx
    rw [← h5] at q1 q2
    rw [List.getElem?_take] at q1 q2
    refine ⟨?_, ?_⟩
    · rw [cell_at hb, Nat.zero_add]
      split at q1
      · simpa using q1
      · cases q1
    · rw [cell_at hb, Nat.zero_add]
      split at q2
      · simpa using q2
      · cases q2
end Go.Proofs.Ytbhienlalpbflaa
