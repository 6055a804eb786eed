/-
  The digest's two package variables, as a row lists them.
-/
import Derived.Test.YtmflbchiapdhbaaDoorShaPSum
import Derived.Lib.LaidTab
namespace Go.Proofs.YtmflbchiapdhbaaDoor
open Go.RowKit

theorem laidMet_tail {P : Program} {x : String × DataW Unit} {l : List (String × DataW Unit)} {W : World} (h : laidMet P (x :: l) W) : laidMet P l W := by
  obtain ⟨ps, ⟨g, t, cs, fuel, p, q, h1, h2, h3, h4, h5, rfl⟩, hn, hf⟩ := h
  exact ⟨q, h5, (List.nodup_append.1 hn).2.1, fun b off hm => hf b off (List.mem_append.2 (.inr hm))⟩

theorem Tryd.gFirst : Tryd.prog.globalNamed "scrivener/digest.first" = some 0 := by kernel_rfl
theorem Tryd.gFirstType : (Tryd.prog.globals[0]?).map (·.type) = some 99 := by kernel_rfl
theorem Tryd.gNumbers : Tryd.prog.globalNamed "scrivener/digest.numbers" = some 1 := by kernel_rfl
theorem Tryd.gNumbersType : (Tryd.prog.globals[1]?).map (·.type) = some 125 := by kernel_rfl
theorem Tryd.underState : Tryd.prog.underlying 99 = some (.array 8 97) := by kernel_rfl
theorem Tryd.underTab : Tryd.prog.underlying 125 = some (.array 64 97) := by kernel_rfl
theorem Tryd.underWord : Tryd.prog.underlying 97 = some (.int .u32) := by kernel_rfl
theorem Tryd.cellsWord : Tryd.prog.cellsOf 97 = 1 := by kernel_rfl
theorem Tryd.cellsState : Tryd.prog.cellsOf 99 = 8 := by kernel_rfl
theorem Tryd.cellsTab : Tryd.prog.cellsOf 125 = 64 := by kernel_rfl

theorem sha_laid {l : List (String × DataW Unit)} {W : World} (h : laidMet Tryd.prog (("scrivener/digest.first", Rows.laid_scrivener_digest_first) :: ("scrivener/digest.numbers", Rows.laid_scrivener_digest_numbers) :: l) W) : FirstLaid W ∧ TabLaid W := by
  have a := Lib.tabIs_of_head (k := .u32) (zs := eight0.list.map fun (n : Nat) => (n : Int)) Tryd.gFirst Tryd.gFirstType Tryd.underState Tryd.underWord Tryd.cellsWord Tryd.cellsState h
  have b := Lib.tabIs_of_head (k := .u32) (zs := kTab.map fun (n : Nat) => (n : Int)) Tryd.gNumbers Tryd.gNumbersType Tryd.underTab Tryd.underWord Tryd.cellsWord Tryd.cellsTab (laidMet_tail h)
  refine ⟨fun j hj => ?_, fun t ht => ?_⟩
  · have hl : eight0.list.length = 8 := rfl
    have := a.cell Tryd.gFirst j (by rw [List.length_map]; omega)
    rw [this, List.getD, List.getElem?_map, List.getD, List.getElem?_eq_getElem (by omega)]
    rfl
  · have hl : kTab.length = 64 := rfl
    have := b.cell Tryd.gNumbers t (by rw [List.length_map]; omega)
    rw [this, List.getD, List.getElem?_map, kAt, List.getD, List.getElem?_eq_getElem (by omega)]
    rfl
end Go.Proofs.YtmflbchiapdhbaaDoor
