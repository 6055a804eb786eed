/-
  A list of whole numbers that came in.
-/
import Derived.Test.YtpccaodkgboefaaDoorArgs
import Derived.ChangeSlices
namespace Go.Proofs.YtpccaodkgboefaaDoor
open Go.RowKit Go.ChangeShapes Go.WideShapes Go.ChangeAt

theorem Tryd.cellsInt : Tryd.prog.cellsOf 3 = 1 := by kernel_rfl

set_option maxRecDepth 100000 in
theorem open_intl {H : Type} {enc : TypeId × Value → H} {W : World} {base : Nat} {v : Value} {d : DataW H} {p : List MemPlace} (hok : Value.okWide Tryd.prog W .any base 28 v) (h : DataW.Trod enc Tryd.prog W 0 (fun _ => true) true 28 v d p) :
    ∃ ks : List Int, ListAt W v (ints ks) ∧ ks.length ≤ 9223372036854775807 ∧ (∀ x ∈ ks, -9223372036854775808 ≤ x ∧ x ≤ 9223372036854775807) ∧ True := by
  obtain ⟨a0, len, cap, rfl⟩ := okWide_slice Tryd.underlying28 hok
  obtain ⟨fuel, hf⟩ := h
  rcases open_ints Tryd.underlying28 Tryd.underlying3 Tryd.cellsInt hf with ⟨hcs, hx⟩ | ⟨a, len', cap', zs, hcs, _, hl, hm, hz, hx, hcell, hws⟩
  · simp [Value.cells] at hcs
    obtain ⟨rfl, rfl, rfl⟩ := hcs
    exact ⟨[], .inl ⟨rfl, _, _, rfl⟩, Nat.zero_le _, (fun q hq => absurd hq (by simp)), trivial⟩
  · simp [Value.cells] at hcs
    obtain ⟨rfl, rfl, rfl⟩ := hcs
    simp only [if_true] at hz
    have hlen : (zs.take len).length = len := by simp; omega
    refine ⟨zs.take len, ?_, by rw [hlen]; unfold maxLen at hm; omega, fun q hq => bounds_i64 (hws q (List.mem_of_mem_take hq)), trivial⟩
    rcases Nat.eq_zero_or_pos len with h0 | hpos
    · subst h0
      exact .inl ⟨by simp [ints], _, _, rfl⟩
    · obtain ⟨b, off, spot⟩ := a
      have hspot : spot = none := by simpa [Addr.add] using World.cell?_spot (hcell 0 (by omega))
      subst hspot
      have hadd : ∀ i, (⟨b, off, none⟩ : Addr).add i = ⟨b, off + i, none⟩ := fun i => by unfold Addr.add; split <;> simp_all
      have htl : (ints (zs.take len)).length = len := by rw [ints, List.length_map]; exact hlen
      refine .inr ⟨b, off, cap, by rw [htl], ?_, fun j u hj => ?_⟩
      · have := World.block_lt_of_cell? W _ (hcell 0 (by omega))
        rw [hadd] at this; exact this
      · have hjl : j < len := by
          have := (List.getElem?_eq_some_iff.1 hj).1
          omega
        have := hcell j (by omega)
        rw [hadd] at this
        rw [this]
        simp [ints, hjl, show j < zs.length by omega] at hj
        rw [← hj]
        simp [List.getD, show j < zs.length by omega]
end Go.Proofs.YtpccaodkgboefaaDoor
