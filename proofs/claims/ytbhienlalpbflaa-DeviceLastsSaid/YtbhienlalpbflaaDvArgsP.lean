/-
  DeviceLasts' arguments as they come in: a list of puts, a list of numbers.
-/
import Derived.Test.YtbhienlalpbflaaDvArgs
import Derived.Test.YtbhienlalpbflaaDvLastsP
import Derived.ChangeSlices
namespace Go.Proofs.Ytbhienlalpbflaa
open Go.RowKit Go.ChangeShapes Go.WideShapes Go.ChangeAt Go.Deep

theorem list_of {α : Type} {P : Nat → α → Prop} : ∀ (n : Nat), (∀ i, i < n → ∃ x, P i x) → ∃ l : List α, l.length = n ∧ ∀ i x, l[i]? = some x → P i x
  | 0, _ => ⟨[], rfl, fun i x h => by cases h⟩
  | n + 1, h => by
    obtain ⟨l, hl, hp⟩ := list_of n (fun i hi => h i (by omega))
    obtain ⟨x, hx⟩ := h n (by omega)
    refine ⟨l ++ [x], by simp [hl], fun i y hy => ?_⟩
    by_cases hi : i < n
    · rw [List.getElem?_append_left (by omega)] at hy
      exact hp i y hy
    · have : i = n := by
        have := (List.getElem?_eq_some_iff.1 hy).1
        simp at this
        omega
      subst this
      rw [List.getElem?_append_right (by omega), hl] at hy
      simp at hy
      rw [← hy]
      exact hx

theorem Try.cellsInt : Try.prog.cellsOf 3 = 1 := by kernel_rfl
set_option maxRecDepth 100000 in
theorem open_nums {H : Type} {enc : TypeId × Value → H} {W : World} {base : Nat} {v : Value} {d : DataW H} {p : List MemPlace} (hok : Value.okWide Try.prog W .any base 60 v) (h : DataW.Trod enc Try.prog W 0 (fun _ => true) true 60 v d p) :
    ∃ ks : List Int, NumsAt W v ks ∧ ks.length ≤ 9223372036854775807 ∧ (∀ x ∈ ks, -9223372036854775808 ≤ x ∧ x ≤ 9223372036854775807) := by
  obtain ⟨a0, len, cap, rfl⟩ := okWide_slice Try.underlying60 hok
  obtain ⟨fuel, hf⟩ := h
  rcases open_ints Try.underlying60 Try.underlying3 Try.cellsInt hf with ⟨hcs, hx⟩ | ⟨a, len', cap', zs, hcs, _, hl, hm, hz, hx, hcell, hws⟩
  · simp [Value.cells] at hcs
    obtain ⟨rfl, rfl, rfl⟩ := hcs
    exact ⟨[], ⟨none, 0, rfl, fun k x h => by cases h⟩, Nat.zero_le _, (fun q hq => absurd hq (by simp))⟩
  · simp [Value.cells] at hcs
    obtain ⟨rfl, rfl, rfl⟩ := hcs
    simp only [if_true] at hz
    have hlen : (zs.take len).length = len := by simp; omega
    refine ⟨zs.take len, ⟨some a, cap, by rw [hlen], fun j u hj => ?_⟩, by rw [hlen]; unfold maxLen at hm; omega, fun q hq => bounds_i64 (hws q (List.mem_of_mem_take hq))⟩
    have hjl : j < len := by
      have := (List.getElem?_eq_some_iff.1 hj).1
      omega
    obtain ⟨b, off, spot⟩ := a
    have hspot : spot = none := by simpa [Addr.add] using World.cell?_spot (hcell 0 (by omega))
    subst hspot
    have hadd : ∀ i, (⟨b, off, none⟩ : Addr).add i = ⟨b, off + i, none⟩ := fun i => by unfold Addr.add; split <;> simp_all
    refine ⟨b, off, rfl, ?_, ?_⟩
    · have := World.block_lt_of_cell? W _ (hcell 0 (by omega))
      rw [hadd] at this; exact this
    · have := hcell j (by omega)
      rw [hadd] at this
      rw [this]
      simp [hjl, show j < zs.length by omega] at hj
      rw [← hj]
      simp [List.getD, show j < zs.length by omega]

theorem Try.underPuts : Try.prog.underlying 59 = some (.slice 65) := by kernel_rfl
noncomputable def Try.putFields : Array Field := match Try.prog.underlying 65 with
  | some (.struct fs) => fs
  | _ => #[]
theorem Try.underPut : Try.prog.underlying 65 = some (.struct Try.putFields) := by kernel_rfl
theorem Try.putLaid : (Try.putFields.toList.map fun f => (f.type, f.offset, Try.prog.cellsOf f.type)) = [(4, 0, 1), (3, 1, 1), (3, 2, 1)] := by kernel_rfl
theorem Try.cellsPut : Try.prog.cellsOf 65 = 3 := by kernel_rfl
theorem putField_at {j : Nat} {t : TypeId} {o c : Nat} (hj : ([(4, 0, 1), (3, 1, 1), (3, 2, 1)] : List (TypeId × Nat × Nat))[j]? = some (t, o, c)) :
    ∃ f, Try.putFields[j]? = some f ∧ f.type = t ∧ f.offset = o ∧ Try.prog.cellsOf f.type = c := by
  rw [← Try.putLaid, List.getElem?_map, Array.getElem?_toList] at hj
  cases hf : Try.putFields[j]? with
  | none => rw [hf] at hj; cases hj
  | some f =>
    rw [hf] at hj
    simp only [Option.map_some, Option.some.injEq, Prod.mk.injEq] at hj
    exact ⟨f, rfl, hj.1, hj.2.1, hj.2.2⟩

set_option maxRecDepth 100000 in
theorem open_puts {H : Type} {enc : TypeId × Value → H} {W : World} {base : Nat} {v : Value} {d : DataW H} {p : List MemPlace} (hok : Value.okWide Try.prog W .any base 59 v) (h : DataW.Trod enc Try.prog W 0 (fun _ => true) true 59 v d p) :
    ∃ ps : List (Bool × Int × Int), PutsAt W v ps ∧ ps.length ≤ 9223372036854775807 ∧ (∀ x ∈ ps, (-9223372036854775808 ≤ x.2.1 ∧ x.2.1 ≤ 9223372036854775807) ∧ -9223372036854775808 ≤ x.2.2 ∧ x.2.2 ≤ 9223372036854775807) := by
  obtain ⟨a0, len0, cap0, rfl⟩ := okWide_slice Try.underPuts hok
  obtain ⟨fuel, hf⟩ := h
  rcases open_slice Try.underPuts hf with ⟨hcs, hx⟩ | ⟨a, len, cap, m, n, D, Pl, hcs, _, hl, hm, hmm, hx, hi⟩
  · simp [Value.cells] at hcs
    obtain ⟨rfl, rfl, rfl⟩ := hcs
    exact ⟨[], ⟨none, 0, rfl, fun k x h => by cases h⟩, Nat.zero_le _, (fun q hq => absurd hq (by simp))⟩
  · simp [Value.cells] at hcs
    obtain ⟨rfl, rfl, rfl⟩ := hcs
    simp only [if_true] at hmm
    have key : ∀ i, i < len0 → ∃ x : Bool × Int × Int, (∃ b off, some a = some (⟨b, off, none⟩ : Addr) ∧ b < W.heap.size ∧ W.cell? ⟨b, off + i * 3, none⟩ = some (.bool x.1) ∧ W.cell? ⟨b, off + i * 3 + 1, none⟩ = some (.int .i64 x.2.1) ∧ W.cell? ⟨b, off + i * 3 + 2, none⟩ = some (.int .i64 x.2.2)) ∧ (-9223372036854775808 ≤ x.2.1 ∧ x.2.1 ≤ 9223372036854775807) ∧ -9223372036854775808 ≤ x.2.2 ∧ x.2.2 ≤ 9223372036854775807 := by
      intro i hil
      obtain ⟨cs', hc, ht'⟩ := hi i (by omega)
      rw [Try.cellsPut] at hc
      obtain ⟨xs, n', _, hy, hlen, hyl, hfl⟩ := DataW.trod_struct Try.underPut ht'
      obtain ⟨_, hcl, hat⟩ := World.cells?_some hc
      have hsz : Try.putFields.size = 3 := by
        have := congrArg List.length Try.putLaid
        simpa using this
      rw [hsz] at hyl
      match cs', hcl, xs, hyl with
      | [c0, c1, c2], _, [y0, y1, y2], _ =>
        have at_ : ∀ (j : Nat) (t : TypeId) (o c : Nat), ([(4, 0, 1), (3, 1, 1), (3, 2, 1)] : List (TypeId × Nat × Nat))[j]? = some (t, o, c) →
            DataW.trod enc Try.prog W 0 (fun _ => true) true n' t ((([c0, c1, c2] : List Value).drop o).take c) = ([y0, y1, y2] : List (DataW H × List MemPlace))[j]? := by
          intro j t o c hj
          obtain ⟨f, hf1, rfl, rfl, rfl⟩ := putField_at hj
          exact hfl j f hf1
        have t0 := at_ 0 _ _ _ rfl
        have t1 := at_ 1 _ _ _ rfl
        have t2 := at_ 2 _ _ _ rfl
        obtain ⟨b0, h0, e0⟩ := DataW.trod_bool Try.underlying4 t0
        obtain ⟨n1, h1, e1, w1⟩ := DataW.trod_int Try.underlying3 t1
        obtain ⟨n2, h2, e2, w2⟩ := DataW.trod_int Try.underlying3 t2
        simp at h0 h1 h2
        subst h0 h1 h2
        have hspot : a.spot = none ∧ a.block < W.heap.size := by
          obtain ⟨cs0, hd0, _⟩ := hi 0 (by omega)
          rw [Try.cellsPut] at hd0
          obtain ⟨_, hz, hw⟩ := World.cells?_some hd0
          have h1 := hw 0 (by omega)
          have e : cs0[0]? = some (cs0[0]'(by omega)) := List.getElem?_eq_getElem _
          rw [e] at h1
          simp only [Addr.add, Nat.zero_mul, if_true] at h1
          exact ⟨World.cell?_spot h1, World.block_lt_of_cell? W _ h1⟩
        obtain ⟨b, off, spot⟩ := a
        obtain ⟨hs, hb⟩ := hspot
        simp only at hs hb
        subst hs
        have hadd : ∀ i, (⟨b, off, none⟩ : Addr).add i = ⟨b, off + i, none⟩ := fun i => by unfold Addr.add; split <;> simp_all
        have hadd2 : ∀ i j, ((⟨b, off, none⟩ : Addr).add i).add j = ⟨b, off + i + j, none⟩ := fun i j => by rw [hadd]; unfold Addr.add; split <;> simp_all
        refine ⟨⟨b0, n1, n2⟩, ⟨b, off, rfl, hb, ?_, ?_, ?_⟩, bounds_i64 w1, bounds_i64 w2⟩
        all_goals try simp only
        · have := hat 0 (by omega); rw [hadd2] at this; simpa using this
        · have := hat 1 (by omega); rw [hadd2] at this; simpa using this
        · have := hat 2 (by omega); rw [hadd2] at this; simpa using this
    obtain ⟨ps, hpl, hp⟩ := list_of len0 key
    subst hpl
    refine ⟨ps, ⟨some a, _, rfl, fun k x hx => (hp k x hx).1⟩, by unfold maxLen at hm; omega, fun x hx => ?_⟩
    obtain ⟨k, hk⟩ := List.getElem?_of_mem hx
    exact (hp k x hk).2
end Go.Proofs.Ytbhienlalpbflaa
