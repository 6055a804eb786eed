/-
  The program's Hasher: a new one.
-/
import Derived.Test.YtmflbchiapdhbaaDoorShaWrite
namespace Go.Proofs.YtmflbchiapdhbaaDoor
open Go.RowKit

/-- the first state lies in its variable -/
def FirstLaid (w : World) : Prop := ∀ j, j < 8 → w.cell? ⟨0, j, none⟩ = some (.int .u32 (eight0.list.getD j 0 : Int))
theorem FirstLaid.keeps {S : Nat → Prop} {w w' : World} (h : FirstLaid w) (hk : Keeps S w w') (hn : ¬ S 0) : FirstLaid w' := fun t ht =>
  (hk.cell (p := ⟨0, t, none⟩) (World.block_lt_of_cell? w _ (h t ht)) hn).trans (h t ht)
def rest0 : List UInt8 := List.replicate 64 0
set_option maxRecDepth 100000 in
set_option maxHeartbeats 1000000 in
theorem pnew_any (w : World) (hF : FirstLaid w) :
    Calls Tryd.prog 35 #[] w fun e w' => e = .returned (.pointer (some ⟨w.heap.size, 0, none⟩)) ∧ Fresh w w' ∧ w'.heap[w.heap.size]? = some (.cells (hcells eight0 rest0 0) 102 (0, 0)) := by
  have c0 := hF 0 (by decide)
  have c1 := hF 1 (by decide)
  have c2 := hF 2 (by decide)
  have c3 := hF 3 (by decide)
  have c4 := hF 4 (by decide)
  have c5 := hF 5 (by decide)
  have c6 := hF 6 (by decide)
  have c7 := hF 7 (by decide)
  simp only [eight0, Eight.list, List.getD_cons_zero, List.getD_cons_succ] at c0 c1 c2 c3 c4 c5 c6 c7
  go_enter Tryd.func35, Tryd.ntmps35
  go_wp2_with (first | (refine wpList_build_to rfl 102 _ rfl (hcells eight0 rest0 0) (by kernel_rfl) ?_))
  go_ret
  exact ⟨rfl, (Keeps.refl _ _).alloc _, heap_alloc_new w _⟩
theorem hcells_one (v : Eight) (rest : List UInt8) (n : Int) : (hcells v rest n).all (·.oneCell') = true := by
  rw [Array.all_eq_true_iff_forall_mem]
  intro x hx
  simp only [hcells, u8s, List.mem_toArray, List.mem_append, List.mem_map, List.mem_cons, List.not_mem_nil, or_false] at hx
  rcases hx with ⟨a, _, rfl⟩ | ⟨a, _, rfl⟩ | rfl <;> rfl
theorem Tryd.sizeHasher : (Tryd.prog.info? 102).map (·.size) = some 73 := by kernel_rfl
end Go.Proofs.YtmflbchiapdhbaaDoor
