/-
  The laws on spans: a span as it comes in.
-/
import Derived.Test.YtgikabafaocemaaDoorSpArgsI
namespace Go.Proofs.YtgikabafaocemaaDoor
open Go.RowKit Go.ChangeShapes Go.WideShapes Go.ChangeAt Go.Deep

noncomputable def Tryd.spanFields : Array Field := match Tryd.prog.underlying 24 with
  | some (.struct fs) => fs
  | _ => #[]
theorem Tryd.underSpan : Tryd.prog.underlying 24 = some (.struct Tryd.spanFields) := by kernel_rfl
theorem Tryd.spanLaid : (Tryd.spanFields.toList.map fun f => (f.type, f.offset, Tryd.prog.cellsOf f.type)) = [(3, 0, 1), (3, 1, 1)] := by kernel_rfl
theorem Tryd.cellsSpan : Tryd.prog.cellsOf 24 = 2 := by kernel_rfl
theorem spanField_at {j : Nat} {t : TypeId} {o c : Nat} (hj : ([(3, 0, 1), (3, 1, 1)] : List (TypeId × Nat × Nat))[j]? = some (t, o, c)) :
    ∃ f, Tryd.spanFields[j]? = some f ∧ f.type = t ∧ f.offset = o ∧ Tryd.prog.cellsOf f.type = c := by
  rw [← Tryd.spanLaid, List.getElem?_map, Array.getElem?_toList] at hj
  cases hf : Tryd.spanFields[j]? with
  | none => rw [hf] at hj; cases hj
  | some f =>
    rw [hf] at hj
    simp only [Option.map_some, Option.some.injEq, Prod.mk.injEq] at hj
    exact ⟨f, rfl, hj.1, hj.2.1, hj.2.2⟩
set_option maxRecDepth 100000 in
theorem open_span {H : Type} {enc : TypeId × Value → H} {W : World} {base : Nat} {v : Value} {d : DataW H} {p : List MemPlace} (hok : Value.okWide Tryd.prog W .any base 24 v) (h : DataW.Trod enc Tryd.prog W 0 (fun _ => true) true 24 v d p) :
    ∃ b e : Int, v = .agg #[.int .i64 b, .int .i64 e] := by
  obtain ⟨cs, rfl, hsz0⟩ := okWide_struct Tryd.underSpan hok
  obtain ⟨fuel, hf⟩ := h
  obtain ⟨xs, n', _, hy, hlen, hyl, hfl⟩ := DataW.trod_struct Tryd.underSpan hf
  have hsz : Tryd.spanFields.size = 2 := by
    have := congrArg List.length Tryd.spanLaid
    simpa using this
  rw [hsz] at hyl
  rw [Tryd.cellsSpan] at hsz0
  obtain ⟨cl⟩ := cs
  simp only [List.size_toArray] at hsz0
  match cl, hsz0, xs, hyl with
  | [c0, c1], _, [y0, y1], _ =>
    have at_ : ∀ (j : Nat) (t : TypeId) (o c : Nat), ([(3, 0, 1), (3, 1, 1)] : List (TypeId × Nat × Nat))[j]? = some (t, o, c) →
        DataW.trod enc Tryd.prog W 0 (fun _ => true) true n' t ((([c0, c1] : List Value).drop o).take c) = ([y0, y1] : List (DataW H × List MemPlace))[j]? := by
      intro j t o c hj
      obtain ⟨f, hf1, rfl, rfl, rfl⟩ := spanField_at hj
      exact hfl j f hf1
    have t0 := at_ 0 _ _ _ rfl
    have t1 := at_ 1 _ _ _ rfl
    obtain ⟨z0, h0, q0⟩ := DataW.trod_int Tryd.underlying3 t0
    obtain ⟨z1, h1, q1⟩ := DataW.trod_int Tryd.underlying3 t1
    simp at h0 h1
    subst h0 h1
    exact ⟨z0, z1, rfl⟩
end Go.Proofs.YtgikabafaocemaaDoor
