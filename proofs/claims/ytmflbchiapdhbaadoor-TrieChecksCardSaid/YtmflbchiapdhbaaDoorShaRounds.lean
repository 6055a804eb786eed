/-
  The document's table of round numbers, as an array; words in an array in memory.
-/
import Derived.Test.YtmflbchiapdhbaaDoorShaRef
import Derived.Deep.WholeRow
import Derived.Deep.CutBlock
namespace Go.Proofs.YtmflbchiapdhbaaDoor
open Go.RowKit

/-- whole numbers of a kind, as cells -/
def words (k : IntKind) (l : List Nat) : Array Value := (l.map fun (n : Nat) => Value.int k (n : Int)).toArray
theorem words_size (k : IntKind) (l : List Nat) : (words k l).size = l.length := by simp [words]
theorem words_at {k : IntKind} {l : List Nat} {j : Nat} (h : j < l.length) : (words k l)[j]? = some (.int k (l.getD j 0 : Int)) := by
  simp [words, List.getD, h]
theorem words_set (k : IntKind) (l : List Nat) (j n : Nat) : (words k l).setIfInBounds j (.int k (n : Int)) = words k (l.set j n) := by
  simp [words]
theorem words_one (k : IntKind) (l : List Nat) : (words k l).all (·.oneCell') = true := by
  rw [Array.all_eq_true_iff_forall_mem]
  intro v hv
  simp only [words, List.mem_toArray, List.mem_map] at hv
  obtain ⟨n, _, rfl⟩ := hv
  rfl

theorem Tryd.sizeEight : (Tryd.prog.info? 89).map (·.size) = some 8 := by kernel_rfl
theorem Tryd.sizeTab : (Tryd.prog.info? 122).map (·.size) = some 64 := by kernel_rfl

theorem wpList_build_to {P : Program} {ops : Array Oper} {rest : List Oper} {o : Oper} {a : Act} {w : World} {Q : Exit → Act → World → Prop} (hg : o.guard = none) (t : TypeId) (parts : Array (Nat × Operand)) (ho : o.op = .build t parts)
    (cells : Array Value) (hf : P.built t (parts.map fun (i, x) => (i, a.eval x)).toList = some cells) (h : wpList P ops Q rest (a.put o.dst (.agg cells)) w) : wpList P ops Q (o :: rest) a w := by
  refine wpList_build hg t parts ho (by rw [hf]; rfl) ?_
  rw [hf]
  exact h

set_option maxRecDepth 100000 in
set_option maxHeartbeats 1000000 in
theorem rounds_any (w : World) :
    Calls Tryd.prog 63 #[] w fun e w' => e = .returned (.agg (words .i64 kTab)) ∧ Fresh w w' := by
  have hld := fun (c : Array Value) (h : (Tryd.prog.info? 122).map (·.size) = some c.size) => run_loadVar_new (P := Tryd.prog) w 122 c 64 3 (by kernel_rfl) h
  have hl2 := hld (words .i64 kTab) (by rw [Tryd.sizeTab]; rfl)
  go_enter Tryd.func63, Tryd.ntmps63
  go_upto_region 1 with (fail)
  go_wp2_with (first | (refine wpList_build_to rfl 122 _ rfl (words .i64 kTab) (by kernel_rfl) ?_) | (refine wpList_store_row rfl 122 (.tmp 0) (.tmp 1) rfl w.heap.size (words .i64 kTab) rfl rfl 122 _ (heap_alloc_last w _) (by rw [Tryd.sizeTab]; rfl) (by rfl) (words_one _ _) ?_; rw [World.setRow_alloc_new]))
  refine bodyPost_ret (v := .agg (words .i64 kTab)) ?_ rfl ⟨rfl, (Keeps.refl _ w).alloc _⟩
  simp [results, Tryd.results63, Act.put, Result.andThen]
  exact hl2
end Go.Proofs.YtmflbchiapdhbaaDoor
