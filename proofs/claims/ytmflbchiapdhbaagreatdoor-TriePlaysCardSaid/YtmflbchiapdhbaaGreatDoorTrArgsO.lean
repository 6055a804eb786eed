/-
  TrieGets: a script as it comes in: a list of steps.
-/
import Derived.Test.YtmflbchiapdhbaaGreatDoorMTrB
import Derived.Test.YtmflbchiapdhbaaGreatDoorTrOps
import Derived.Deep.Fields
namespace Go.Proofs.YtmflbchiapdhbaaGreatDoor
open Go.RowKit Go.ChangeShapes Go.WideShapes Go.ChangeAt Go.Deep

theorem Tryz.underOps : Tryz.prog.underlying 22 = some (.slice 36) := by kernel_rfl
noncomputable def Tryz.opFields : Array Field := match Tryz.prog.underlying 36 with
  | some (.struct fs) => fs
  | _ => #[]
theorem Tryz.underOp : Tryz.prog.underlying 36 = some (.struct Tryz.opFields) := by kernel_rfl
theorem Tryz.opLaid : (Tryz.opFields.toList.map fun f => (f.type, f.offset, Tryz.prog.cellsOf f.type)) = [(4, 0, 1), (4, 1, 1), (3, 2, 1), (9, 3, 1), (9, 4, 1)] := by kernel_rfl
theorem Tryz.cellsOp : Tryz.prog.cellsOf 36 = 5 := by kernel_rfl
theorem opField_at {j : Nat} {t : TypeId} {o c : Nat} (hj : ([(4, 0, 1), (4, 1, 1), (3, 2, 1), (9, 3, 1), (9, 4, 1)] : List (TypeId × Nat × Nat))[j]? = some (t, o, c)) :
    ∃ f, Tryz.opFields[j]? = some f ∧ f.type = t ∧ f.offset = o ∧ Tryz.prog.cellsOf f.type = c := by
  rw [← Tryz.opLaid, List.getElem?_map, Array.getElem?_toList] at hj
  cases hf : Tryz.opFields[j]? with
  | none => rw [hf] at hj; cases hj
  | some f =>
    rw [hf] at hj
    simp only [Option.map_some, Option.some.injEq, Prod.mk.injEq] at hj
    exact ⟨f, rfl, hj.1, hj.2.1, hj.2.2⟩

set_option maxRecDepth 100000 in
theorem open_ops {H : Type} {enc : TypeId × Value → H} {W : World} {base : Nat} {v : Value} {d : DataW H} {p : List MemPlace} (hok : Value.okWide Tryz.prog W .any base 22 v) (h : DataW.Trod enc Tryz.prog W 0 (fun _ => true) true 22 v d p) :
    ∃ n, OpsAt W v n ∧ n ≤ 9223372036854775807 := by
  obtain ⟨a0, len0, cap0, rfl⟩ := okWide_slice Tryz.underOps hok
  obtain ⟨fuel, hf⟩ := h
  rcases open_slice Tryz.underOps hf with ⟨hcs, hx⟩ | ⟨a, len, cap, m, n, D, Pl, hcs, _, hl, hm, hmm, hx, hi⟩
  · simp [Value.cells] at hcs
    obtain ⟨rfl, rfl, rfl⟩ := hcs
    exact ⟨0, ⟨none, 0, rfl, fun i hi => absurd hi (by omega)⟩, by omega⟩
  · simp [Value.cells] at hcs
    obtain ⟨rfl, rfl, rfl⟩ := hcs
    simp only [if_true] at hmm
    refine ⟨len0, ⟨some a, _, rfl, fun i hil => ?_⟩, by unfold maxLen at hm; omega⟩
    obtain ⟨cs', hc, ht'⟩ := hi i (by omega)
    rw [Tryz.cellsOp] at hc
    obtain ⟨xs, n', _, hy, hlen, hyl, hfl⟩ := DataW.trod_struct Tryz.underOp ht'
    obtain ⟨_, hcl, hat⟩ := World.cells?_some hc
    have hsz : Tryz.opFields.size = 5 := by
      have := congrArg List.length Tryz.opLaid
      simpa using this
    rw [hsz] at hyl
    match cs', hcl, xs, hyl with
    | [c0, c1, c2, c3, c4], _, [y0, y1, y2, y3, y4], _ =>
      have at_ : ∀ (j : Nat) (t : TypeId) (o c : Nat), ([(4, 0, 1), (4, 1, 1), (3, 2, 1), (9, 3, 1), (9, 4, 1)] : List (TypeId × Nat × Nat))[j]? = some (t, o, c) →
          DataW.trod enc Tryz.prog W 0 (fun _ => true) true n' t ((([c0, c1, c2, c3, c4] : List Value).drop o).take c) = ([y0, y1, y2, y3, y4] : List (DataW H × List MemPlace))[j]? := by
        intro j t o c hj
        obtain ⟨f, hf1, rfl, rfl, rfl⟩ := opField_at hj
        exact hfl j f hf1
      have t0 := at_ 0 _ _ _ rfl
      have t1 := at_ 1 _ _ _ rfl
      have t2 := at_ 2 _ _ _ rfl
      have t3 := at_ 3 _ _ _ rfl
      have t4 := at_ 4 _ _ _ rfl
      obtain ⟨b0, h0, e0⟩ := DataW.trod_bool Tryz.underlying4 t0
      obtain ⟨b1, h1, e1⟩ := DataW.trod_bool Tryz.underlying4 t1
      obtain ⟨n2, h2, e2, _⟩ := DataW.trod_int Tryz.underlying3 t2
      obtain ⟨s3, h3, e3, w3⟩ := DataW.trod_string Tryz.underlying9 t3
      obtain ⟨s4, h4, e4, w4⟩ := DataW.trod_string Tryz.underlying9 t4
      simp at h0 h1 h2 h3 h4
      subst h0 h1 h2 h3 h4
      have hspot : a.spot = none ∧ a.block < W.heap.size := by
        obtain ⟨cs0, hd0, _⟩ := hi 0 (by omega)
        rw [Tryz.cellsOp] at hd0
        obtain ⟨_, hz, hw⟩ := World.cells?_some hd0
        have h1 := hw 0 (by omega)
        have e : cs0[0]? = some (cs0[0]'(by omega)) := List.getElem?_eq_getElem _
        rw [e] at h1
        simp only [Addr.add, Nat.zero_mul, if_true] at h1
        exact ⟨World.cell?_spot h1, World.block_lt_of_cell? W _ h1⟩
      obtain ⟨b, off, spot⟩ := a
      obtain ⟨hs, hb⟩ := hspot
      simp only at hs hb
      subst hs
      have hadd : ∀ i, (⟨b, off, none⟩ : Addr).add i = ⟨b, off + i, none⟩ := fun i => by unfold Addr.add; split <;> simp_all
      have hadd2 : ∀ i j, ((⟨b, off, none⟩ : Addr).add i).add j = ⟨b, off + i + j, none⟩ := fun i j => by rw [hadd]; unfold Addr.add; split <;> simp_all
      refine ⟨b, off, rfl, hb, ⟨b0, b1, n2, s3.data.toList, s4.data.toList⟩, ?_, ?_, ?_, ?_, ?_, ?_, ?_⟩
      all_goals try simp only
      · have := size_toList s3; unfold maxLen at w3; omega
      · have := size_toList s4; unfold maxLen at w4; omega
      · have := hat 0 (by omega); rw [hadd2] at this; simpa using this
      · have := hat 1 (by omega); rw [hadd2] at this; simpa using this
      · have := hat 2 (by omega); rw [hadd2] at this; simpa using this
      · have := hat 3 (by omega); rw [hadd2] at this; rw [← str_of]; simpa using this
      · have := hat 4 (by omega); rw [hadd2] at this; rw [← str_of]; simpa using this
end Go.Proofs.YtmflbchiapdhbaaGreatDoor
