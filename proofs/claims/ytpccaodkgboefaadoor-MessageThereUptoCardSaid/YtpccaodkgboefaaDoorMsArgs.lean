/-
  Requests as they come in, read whole: a type that leads back to itself.
-/
import Derived.Test.YtpccaodkgboefaaDoorMsRepM
import Derived.Test.YtpccaodkgboefaaDoorArgsInts
import Derived.Deep.Fields
namespace Go.Proofs.YtpccaodkgboefaaDoor
open Go.RowKit Go.ChangeShapes Go.WideShapes Go.ChangeAt Go.Deep

theorem bulk_lit_str {H : Type} (s : List UInt8) : Rows.uptoBulk (.lit (.string s) : DataW H) = s.length + 1 := by rw [Rows.uptoBulk]
theorem bulk_pos {H : Type} (d : DataW H) : 1 ≤ Rows.uptoBulk d := by
  cases d with
  | lit l => cases l <;> simp [Rows.uptoBulk]
  | _ => simp [Rows.uptoBulk]
theorem bulkAll_len {H : Type} : ∀ (l : List (DataW H)), l.length ≤ Rows.uptoBulkAll l
  | [] => by simp
  | x :: r => by have := bulkAll_len r; have := bulk_pos x; rw [Rows.uptoBulkAll, List.length_cons]; omega
theorem bulkAll_mem {H : Type} : ∀ {l : List (DataW H)} {x : DataW H}, x ∈ l → Rows.uptoBulk x ≤ Rows.uptoBulkAll l
  | y :: r, x, h => by
    rw [Rows.uptoBulkAll]
    rcases List.mem_cons.1 h with rfl | h
    · omega
    · have := bulkAll_mem h; omega
theorem bulk_strs {H : Type} : ∀ (l : List ByteArray), Rows.uptoBulkAll (strs (H := H) l) = (l.map fun s => s.data.toList.length + 1).sum
  | [] => rfl
  | x :: r => by
    have := bulk_strs (H := H) r
    simp only [strs, List.map_cons, List.sum_cons] at this ⊢
    rw [Rows.uptoBulkAll, bulk_lit_str, this]
theorem bulk_le_sum : ∀ (l : List (List UInt8)), bulk l + l.length ≤ 11 * (l.map fun s => s.length + 1).sum
  | [] => by simp [bulk]
  | x :: r => by
    have := bulk_le_sum r
    simp only [bulk, List.length_cons, List.map_cons, List.sum_cons]
    omega

section
variable {H : Type} {enc : TypeId × Value → H} {W : World} {fuel : Nat} {v : Value} {y : DataW H × List MemPlace}
theorem texts_of_trod (h : DataW.trod enc Tryd.prog W 0 (fun _ => true) true fuel 29 [v] = some y) :
    ∃ ps : List (List UInt8), ListAt W v (texts ps) ∧ Low (fun q => q < W.heap.size) v ps ∧ bulk ps + ps.length ≤ 11 * Rows.uptoBulk y.1 ∧ ps.length ≤ 9223372036854775807 := by
  rcases open_strings Tryd.underlying29 Tryd.underlying9 Tryd.cellsText h with ⟨hcs, hx⟩ | ⟨a, len, cap, ss, hcs, _, hl, hm, hz, hx, hcell, hws⟩
  · obtain rfl : v = .slice none 0 0 := by simpa using hcs
    exact ⟨[], .inl ⟨rfl, _, _, rfl⟩, fun _ _ h => absurd rfl h, by simp [bulk], by simp⟩
  · obtain rfl : v = .slice (some a) len cap := by simpa using hcs
    simp only [if_true] at hz
    have hlen : ((ss.take len).map (·.data.toList)).length = len := by simp; omega
    have hbk : bulk ((ss.take len).map (·.data.toList)) + len ≤ 11 * Rows.uptoBulk y.1 := by
      have h1 := bulk_le_sum ((ss.take len).map (·.data.toList))
      have h2 := bulk_strs (H := H) (ss.take len)
      rw [hlen, List.map_map] at h1
      rw [hx]
      simp only
      rw [Rows.uptoBulk, h2]
      have h3 : ((fun s : List UInt8 => s.length + 1) ∘ fun x : ByteArray => x.data.toList) = fun s : ByteArray => s.data.toList.length + 1 := rfl
      rw [h3] at h1
      omega
    have hml : len ≤ 9223372036854775807 := by unfold maxLen at hm; omega
    rcases Nat.eq_zero_or_pos len with h0 | hpos
    · subst h0
      exact ⟨[], .inl ⟨rfl, _, _, rfl⟩, fun _ _ h => absurd rfl h, by simp [bulk], by simp⟩
    · obtain ⟨b, off, spot⟩ := a
      have hspot : spot = none := by simpa [Addr.add] using World.cell?_spot (hcell 0 (by omega))
      subst hspot
      have hadd : ∀ i, (⟨b, off, none⟩ : Addr).add i = ⟨b, off + i, none⟩ := fun i => by unfold Addr.add; split <;> simp_all
      have hbl : b < W.heap.size := by
        have := World.block_lt_of_cell? W _ (hcell 0 (by omega))
        rw [hadd] at this
        exact this
      have htl : (texts ((ss.take len).map (·.data.toList))).length = len := by rw [texts, List.length_map]; exact hlen
      refine ⟨(ss.take len).map (·.data.toList), .inr ⟨b, off, cap, by rw [htl], hbl, fun j u hj => ?_⟩, fun g hg _ => ?_, by rw [hlen]; exact hbk, by rw [hlen]; exact hml⟩
      · have hjl : j < len := by
          have := (List.getElem?_eq_some_iff.1 hj).1
          omega
        have := hcell j (by omega)
        rw [hadd] at this
        rw [this]
        simp [texts, hjl, show j < ss.length by omega] at hj
        rw [← hj]
        simp [List.getD, show j < ss.length by omega]
        exact str_of _
      · simp [Value.ownBlock] at hg
        subst hg
        exact hbl
theorem ints_of_trod (h : DataW.trod enc Tryd.prog W 0 (fun _ => true) true fuel 28 [v] = some y) :
    ∃ ks : List Int, ListAt W v (ints ks) ∧ Low (fun q => q < W.heap.size) v ks ∧ ks.length ≤ Rows.uptoBulk y.1 ∧ ks.length ≤ 9223372036854775807 := by
  rcases open_ints Tryd.underlying28 Tryd.underlying3 Tryd.cellsInt h with ⟨hcs, hx⟩ | ⟨a, len, cap, zs, hcs, _, hl, hm, hz, hx, hcell, hws⟩
  · obtain rfl : v = .slice none 0 0 := by simpa using hcs
    exact ⟨[], .inl ⟨rfl, _, _, rfl⟩, fun _ _ h => absurd rfl h, by simp, by simp⟩
  · obtain rfl : v = .slice (some a) len cap := by simpa using hcs
    simp only [if_true] at hz
    have hlen : (zs.take len).length = len := by simp; omega
    have hml : len ≤ 9223372036854775807 := by unfold maxLen at hm; omega
    have hbk : len ≤ Rows.uptoBulk y.1 := by
      rw [hx]
      simp only
      rw [Rows.uptoBulk]
      have := bulkAll_len (lits (H := H) .i64 (zs.take len))
      have h2 : (lits (H := H) .i64 (zs.take len)).length = len := by rw [lits, List.length_map]; exact hlen
      omega
    rcases Nat.eq_zero_or_pos len with h0 | hpos
    · subst h0
      exact ⟨[], .inl ⟨rfl, _, _, rfl⟩, fun _ _ h => absurd rfl h, by simp, by simp⟩
    · obtain ⟨b, off, spot⟩ := a
      have hspot : spot = none := by simpa [Addr.add] using World.cell?_spot (hcell 0 (by omega))
      subst hspot
      have hadd : ∀ i, (⟨b, off, none⟩ : Addr).add i = ⟨b, off + i, none⟩ := fun i => by unfold Addr.add; split <;> simp_all
      have hbl : b < W.heap.size := by
        have := World.block_lt_of_cell? W _ (hcell 0 (by omega))
        rw [hadd] at this
        exact this
      have htl : (ints (zs.take len)).length = len := by rw [ints, List.length_map]; exact hlen
      refine ⟨zs.take len, .inr ⟨b, off, cap, by rw [htl], hbl, fun j u hj => ?_⟩, fun g hg _ => ?_, by rw [hlen]; exact hbk, by rw [hlen]; exact hml⟩
      · have hjl : j < len := by
          have := (List.getElem?_eq_some_iff.1 hj).1
          omega
        have := hcell j (by omega)
        rw [hadd] at this
        rw [this]
        simp [ints, hjl, show j < zs.length by omega] at hj
        rw [← hj]
        simp [List.getD, show j < zs.length by omega]
      · simp [Value.ownBlock] at hg
        subst hg
        exact hbl
end
end Go.Proofs.YtpccaodkgboefaaDoor
