/-
  The laws on spans: a list of numbers as it comes in.
-/
import Derived.Test.YtgikabafaocemaaDoorSpLaid
import Derived.Test.YtgikabafaocemaaDoorSpLawN
import Derived.Deep.Slices
import Derived.OpenShut
namespace Go.Proofs.YtgikabafaocemaaDoor
open Go.RowKit Go.ChangeShapes Go.WideShapes Go.ChangeAt Go.Deep

theorem Tryd.cellsInt : Tryd.prog.cellsOf 3 = 1 := by kernel_rfl
set_option maxRecDepth 100000 in
theorem open_nums {H : Type} {enc : TypeId × Value → H} {W : World} {base : Nat} {v : Value} {d : DataW H} {p : List MemPlace} (hok : Value.okWide Tryd.prog W .any base 22 v) (h : DataW.Trod enc Tryd.prog W 0 (fun _ => true) true 22 v d p) :
    ∃ n, NumbersAt W v n := by
  obtain ⟨a0, len0, cap0, rfl⟩ := okWide_slice Tryd.underlying22 hok
  obtain ⟨fuel, hf⟩ := h
  rcases open_ints Tryd.underlying22 Tryd.underlying3 Tryd.cellsInt hf with ⟨hcs, hx⟩ | ⟨a, len, cap, zs, hcs, _, hl, hm, hz, hx, hcell, hws⟩
  · simp [Value.cells] at hcs
    obtain ⟨rfl, rfl, rfl⟩ := hcs
    exact ⟨0, ⟨none, 0, rfl, fun k hk => absurd hk (by omega)⟩⟩
  · simp [Value.cells] at hcs
    obtain ⟨rfl, rfl, rfl⟩ := hcs
    simp only [if_true] at hz
    refine ⟨len0, ⟨some a, _, rfl, fun k hk => ?_⟩⟩
    have h1 := hcell k (by omega)
    have h3 := World.cell?_spot (hcell 0 (by omega))
    have h2 := World.block_lt_of_cell? W _ (hcell 0 (by omega))
    obtain ⟨b, off, spot⟩ := a
    simp [Addr.add] at h2 h3
    subst h3
    have hadd : (⟨b, off, none⟩ : Addr).add k = ⟨b, off + k, none⟩ := by unfold Addr.add; split <;> simp_all
    rw [hadd] at h1
    exact ⟨b, off, _, rfl, h2, h1⟩
end Go.Proofs.YtgikabafaocemaaDoor
