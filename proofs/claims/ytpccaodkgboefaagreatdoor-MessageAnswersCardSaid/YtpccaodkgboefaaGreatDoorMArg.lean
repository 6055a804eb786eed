/-
  Arguments: each reads behind a call as it read before, where nothing that was there has turned; a list of texts that came in.
-/
import Derived.Test.YtpccaodkgboefaaGreatDoorCxLaid
import Derived.Test.YtpccaodkgboefaaGreatDoorCxWRise
import Derived.SliceStrings
import Derived.Deep.Slices
namespace Go.Proofs.YtpccaodkgboefaaGreatDoor
open Go.RowKit Go.ChangeShapes Go.WideShapes Go.ChangeAt

theorem Tryz.laidOut : laidOutB Tryz.prog = true := by kernel_rfl

theorem trodAll_below {H : Type} {enc : TypeId × Value → H} {P : Program} (hl : laidOutB P = true) {W W' : World} (hb : Below W.heap.size W W') : ∀ (ts : List TypeId) (vs : List Value) (ds : List (DataW H)) (ps : List MemPlace),
    (∀ t ∈ ts, P.readableRec t = true ∧ t < P.types.size) → DataW.TrodAll enc P W 0 (fun _ => true) true ts vs ds ps → (∀ x ∈ ps, x.block < W.heap.size) → DataW.TrodAll enc P W' 0 (fun b => decide (b < W.heap.size)) true ts vs ds ps
  | [], vs, ds, ps, _, h, _ => by
    obtain ⟨rfl, rfl, rfl⟩ := trodAll_nil h
    exact trodAll_mk0
  | t :: ts, vs, ds, ps, ht, h, hlt => by
    obtain ⟨v, vs', d, ds', p, q, rfl, rfl, rfl, h0, h1⟩ := trodAll_cons h
    obtain ⟨a, b⟩ := ht t (by simp)
    exact trodAll_cons_mk (Below.trod hl a b h0 hb fun x hx => hlt x (by simp [hx])) (trodAll_below hl hb ts vs' ds' q (fun t h => ht t (by simp [h])) h1 fun x hx => hlt x (by simp [hx]))

def texts (ps : List (List UInt8)) : List Value := ps.map fun p => Value.string (str p)
theorem texts_at {ps : List (List UInt8)} {k : Nat} (h : k < ps.length) : ∃ p, ps[k]? = some p ∧ (texts ps)[k]? = some (.string (str p)) := ⟨ps[k], by simp [h], by simp [texts, h]⟩

theorem Tryz.cellsText : Tryz.prog.cellsOf 9 = 1 := by kernel_rfl

set_option maxRecDepth 100000 in
theorem open_texts {H : Type} {enc : TypeId × Value → H} {W : World} {base : Nat} {v : Value} {d : DataW H} {p : List MemPlace} (hok : Value.okWide Tryz.prog W .any base 23 v) (h : DataW.Trod enc Tryz.prog W 0 (fun _ => true) true 23 v d p) :
    ∃ ps : List (List UInt8), ListAt W v (texts ps) ∧ ps.length ≤ 9223372036854775807 ∧ (∀ q ∈ ps, q.length ≤ 9223372036854775807) ∧ ((d = .nil ∧ ps = []) ∨ ∃ sp, d = .slice (ps.map fun q => .lit (.string q)) sp) := by
  obtain ⟨a0, len, cap, rfl⟩ := okWide_slice Tryz.underlying23 hok
  obtain ⟨fuel, hf⟩ := h
  rcases open_strings Tryz.underlying23 Tryz.underlying9 Tryz.cellsText hf with ⟨hcs, hx⟩ | ⟨a, len', cap', ss, hcs, _, hl, hm, hz, hx, hcell, hws⟩
  · simp [Value.cells] at hcs
    obtain ⟨rfl, rfl, rfl⟩ := hcs
    simp only [Prod.mk.injEq] at hx
    exact ⟨[], .inl ⟨rfl, _, _, rfl⟩, Nat.zero_le _, (fun q hq => absurd hq (by simp)), .inl ⟨hx.1, rfl⟩⟩
  · simp [Value.cells] at hcs
    obtain ⟨rfl, rfl, rfl⟩ := hcs
    simp only [Prod.mk.injEq] at hx
    simp only [if_true] at hz
    have hlen : ((ss.take len).map (·.data.toList)).length = len := by simp; omega
    refine ⟨(ss.take len).map (·.data.toList), ?_, by rw [hlen]; unfold maxLen at hm; omega, fun q hq => ?_, .inr ⟨strs (ss.drop len), ?_⟩⟩
    · rcases Nat.eq_zero_or_pos len with h0 | hpos
      · subst h0
        exact .inl ⟨by simp [texts], _, _, rfl⟩
      · obtain ⟨b, off, spot⟩ := a
        have hspot : spot = none := by simpa [Addr.add] using World.cell?_spot (hcell 0 (by omega))
        subst hspot
        have hadd : ∀ i, (⟨b, off, none⟩ : Addr).add i = ⟨b, off + i, none⟩ := fun i => by unfold Addr.add; split <;> simp_all
        have htl : (texts ((ss.take len).map (·.data.toList))).length = len := by rw [texts, List.length_map]; exact hlen
        refine .inr ⟨b, off, cap, by rw [htl], ?_, fun j u hj => ?_⟩
        · have := World.block_lt_of_cell? W _ (hcell 0 (by omega))
          rw [hadd] at this; exact this
        · have hjl : j < len := by
            have := (List.getElem?_eq_some_iff.1 hj).1
            omega
          have := hcell j (by omega)
          rw [hadd] at this
          rw [this]
          simp [texts, hjl, show j < ss.length by omega] at hj
          rw [← hj]
          simp [List.getD, show j < ss.length by omega]
          exact str_of _
    · obtain ⟨s, hs, rfl⟩ := List.mem_map.1 hq
      have := hws s (List.mem_of_mem_take hs)
      rw [size_toList]; unfold maxLen at this; omega
    · rw [hx.1]; simp [strs]; rfl
end Go.Proofs.YtpccaodkgboefaaGreatDoor
