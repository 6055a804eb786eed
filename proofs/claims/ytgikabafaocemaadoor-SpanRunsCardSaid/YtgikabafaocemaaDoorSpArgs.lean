/-
  The laws on spans: the arguments as they come in: a run, texts.
-/
import Derived.Test.YtgikabafaocemaaDoorRowT
import Derived.Test.YtgikabafaocemaaDoorSpRoot
import Derived.Test.YtgikabafaocemaaDoorMShaC
import Derived.SliceStrings
import Derived.Deep.Slices
import Derived.Deep.Fields
import Derived.ChangeSame
import Derived.SizedLaws
namespace Go.Proofs.YtgikabafaocemaaDoor
open Go.RowKit Go.ChangeShapes Go.WideShapes Go.ChangeAt Go.Deep
open Go.ChangeMaps (open_string shut_string)

theorem Tryd.laidOut : laidOutB Tryd.prog = true := by kernel_rfl
theorem trodAll_below {H : Type} {enc : TypeId × Value → H} {P : Program} (hl : laidOutB P = true) {W W' : World} (hb : Below W.heap.size W W') : ∀ (ts : List TypeId) (vs : List Value) (ds : List (DataW H)) (ps : List MemPlace),
    (∀ t ∈ ts, P.readableRec t = true ∧ t < P.types.size) → DataW.TrodAll enc P W 0 (fun _ => true) true ts vs ds ps → (∀ x ∈ ps, x.block < W.heap.size) → DataW.TrodAll enc P W' 0 (fun b => decide (b < W.heap.size)) true ts vs ds ps
  | [], vs, ds, ps, _, h, _ => by
    obtain ⟨rfl, rfl, rfl⟩ := trodAll_nil h
    exact trodAll_mk0
  | t :: ts, vs, ds, ps, ht, h, hlt => by
    obtain ⟨v, vs', d, ds', p, q, rfl, rfl, rfl, h0, h1⟩ := trodAll_cons h
    obtain ⟨a, b⟩ := ht t (by simp)
    exact trodAll_cons_mk (Below.trod hl a b h0 hb fun x hx => hlt x (by simp [hx])) (trodAll_below hl hb ts vs' ds' q (fun t h => ht t (by simp [h])) h1 fun x hx => hlt x (by simp [hx]))
theorem Tryd.cellsText : Tryd.prog.cellsOf 9 = 1 := by kernel_rfl

theorem size_toList (s : ByteArray) : s.data.toList.length = s.size := rfl
theorem bulk_one {H : Type} (d : DataW H) : 1 ≤ Rows.uptoBulk d := by
  cases d with
  | lit l => cases l <;> simp [Rows.uptoBulk]
  | _ => simp [Rows.uptoBulk]
theorem bulk_length {H : Type} : ∀ (l : List (DataW H)), l.length ≤ Rows.uptoBulkAll l
  | [] => by simp
  | x :: r => by have := bulk_length r; have := bulk_one x; rw [Rows.uptoBulkAll, List.length_cons]; omega
theorem bulk_slice {H : Type} (l m : List (DataW H)) : Rows.uptoBulkAll l + 1 ≤ Rows.uptoBulk (.slice l m) := by rw [Rows.uptoBulk]; omega

section
variable {H : Type} {enc : TypeId × Value → H} {W : World} {fuel : Nat} {v : Value} {y : DataW H × List MemPlace}
theorem textsAt_of_trod (h : DataW.trod enc Tryd.prog W 0 (fun _ => true) true fuel 26 [v] = some y) :
    ∃ ks : List (List UInt8), TextsAt W v ks ∧ ks.length ≤ Rows.uptoBulk y.1 ∧ (∀ s ∈ ks, s.length ≤ 9223372036854775807) ∧ (ks = [] ∨ ∃ elems spare, y.1 = .slice elems spare ∧ ks.length ≤ elems.length) := by
  rcases open_strings Tryd.underlying26 Tryd.underlying9 Tryd.cellsText h with ⟨hcs, hx⟩ | ⟨a, len, cap, ss, hcs, _, hl, hm, hz, hx, hcell, hws⟩
  · obtain rfl : v = .slice none 0 0 := by simpa using hcs
    exact ⟨[], ⟨none, 0, rfl, fun k s hs => by simp at hs⟩, by simp, (fun s hs => by simp at hs), .inl rfl⟩
  · obtain rfl : v = .slice (some a) len cap := by simpa using hcs
    simp only [if_true] at hz
    have hlen : ((ss.take len).map (·.data.toList)).length = len := by simp; omega
    refine ⟨(ss.take len).map (·.data.toList), ⟨some a, cap, by rw [hlen], fun k s hs => ?_⟩, ?_, fun q hq => ?_, .inr ⟨strs (ss.take len), strs (ss.drop len), by rw [hx], by rw [hlen, strs, List.length_map]; rw [List.length_map] at hlen; omega⟩⟩
    · have hk : k < len := by have := (List.getElem?_eq_some_iff.1 hs).1; omega
      have h1 := hcell k (by omega)
      have h3 := World.cell?_spot (hcell 0 (by omega))
      have h2 := World.block_lt_of_cell? W _ (hcell 0 (by omega))
      obtain ⟨b, off, spot⟩ := a
      simp [Addr.add] at h2 h3
      subst h3
      have hadd : (⟨b, off, none⟩ : Addr).add k = ⟨b, off + k, none⟩ := by unfold Addr.add; split <;> simp_all
      refine ⟨b, off, rfl, h2, ?_⟩
      rw [hadd] at h1
      rw [h1]
      simp [hk, show k < ss.length by omega] at hs
      rw [← hs]
      simp [List.getD, show k < ss.length by omega]
      exact str_of _
    · rw [hx, hlen]
      have h1 := bulk_slice (H := H) (strs (ss.take len)) (strs (ss.drop len))
      have h2 := bulk_length (strs (H := H) (ss.take len))
      have h3 : (strs (H := H) (ss.take len)).length = len := by rw [strs, List.length_map]; simpa using hlen
      simp only
      omega
    · obtain ⟨s, hs, rfl⟩ := List.mem_map.1 hq
      have := hws s (List.mem_of_mem_take hs)
      have h2 := size_toList s
      unfold maxLen at this
      omega
end


theorem Tryd.bytesText : Tryd.prog.bytesOf 9 = 16 := by kernel_rfl
theorem texts_weight {H : Type} {ts : List TypeId} {ds : List (DataW H)} {elems spare : List (DataW H)} (h : (DataW.weightsEach Tryd.prog (26 :: ts) (.slice elems spare :: ds)).all (· ≤ reachBytes) = true) : elems.length ≤ 8796093021952 := by
  have hm : (elems.length + spare.length) * Tryd.prog.bytesOf 9 ∈ DataW.weightsEach Tryd.prog (26 :: ts) (.slice elems spare :: ds) := by
    simp only [DataW.weightsEach, DataW.weights, Tryd.underlying26]
    simp
  have h1 := List.all_eq_true.1 h _ hm
  rw [Tryd.bytesText] at h1
  have h2 := of_decide_eq_true h1
  have h3 : reachBytes = 140737488351232 := rfl
  omega
theorem weights_tail {H : Type} {t : TypeId} {ts : List TypeId} {d : DataW H} {ds : List (DataW H)} (h : (DataW.weightsEach Tryd.prog (t :: ts) (d :: ds)).all (· ≤ reachBytes) = true) : (DataW.weightsEach Tryd.prog ts ds).all (· ≤ reachBytes) = true := by
  simp only [DataW.weightsEach, List.all_append, Bool.and_eq_true] at h
  exact h.2
set_option maxRecDepth 100000 in
theorem texts_in {H : Type} {enc : TypeId × Value → H} {W : World} {base : Nat} {v : Value} {d : DataW H} {p : List MemPlace} {ts : List TypeId} {ds : List (DataW H)} (h : DataW.Trod enc Tryd.prog W 0 (fun _ => true) true 26 v d p) (hok : Value.okWide Tryd.prog W .any base 26 v) (hk : (DataW.weightsEach Tryd.prog (26 :: ts) (d :: ds)).all (· ≤ reachBytes) = true) :
    ∃ ks, TextsAt W v ks ∧ ks.length ≤ 8796093021952 ∧ (∀ s ∈ ks, s.length ≤ 9223372036854775807) := by
  obtain ⟨a0, len, cap, rfl⟩ := okWide_slice Tryd.underlying26 hok
  obtain ⟨fuel, hf⟩ := h
  obtain ⟨ks, h1, -, h3, h4⟩ := textsAt_of_trod (v := .slice a0 len cap) (y := (d, p)) hf
  refine ⟨ks, h1, ?_, h3⟩
  rcases h4 with rfl | ⟨elems, spare, h5, hle⟩
  · simp
  · simp only at h5
    subst h5
    exact Nat.le_trans hle (texts_weight hk)

noncomputable def Tryd.runFields : Array Field := match Tryd.prog.underlying 41 with
  | some (.struct fs) => fs
  | _ => #[]
theorem Tryd.underRun : Tryd.prog.underlying 41 = some (.struct Tryd.runFields) := by kernel_rfl
theorem Tryd.runLaid : (Tryd.runFields.toList.map fun f => (f.type, f.offset, Tryd.prog.cellsOf f.type)) = [(3, 0, 1), (3, 1, 1), (3, 2, 1), (26, 3, 1)] := by kernel_rfl
theorem Tryd.cellsRun : Tryd.prog.cellsOf 41 = 4 := by kernel_rfl
theorem runField_at {j : Nat} {t : TypeId} {o c : Nat} (hj : ([(3, 0, 1), (3, 1, 1), (3, 2, 1), (26, 3, 1)] : List (TypeId × Nat × Nat))[j]? = some (t, o, c)) :
    ∃ f, Tryd.runFields[j]? = some f ∧ f.type = t ∧ f.offset = o ∧ Tryd.prog.cellsOf f.type = c := by
  rw [← Tryd.runLaid, List.getElem?_map, Array.getElem?_toList] at hj
  cases hf : Tryd.runFields[j]? with
  | none => rw [hf] at hj; cases hj
  | some f =>
    rw [hf] at hj
    simp only [Option.map_some, Option.some.injEq, Prod.mk.injEq] at hj
    exact ⟨f, rfl, hj.1, hj.2.1, hj.2.2⟩
theorem Tryd.runTypes : Tryd.runFields.toList.map (·.type) = [3, 3, 3, 26] := by kernel_rfl
theorem run_weight {H : Type} {ts : List TypeId} {ds : List (DataW H)} {e0 e1 e2 : DataW H} {elems spare : List (DataW H)} (h : (DataW.weightsEach Tryd.prog (41 :: ts) (.agg [e0, e1, e2, .slice elems spare] :: ds)).all (· ≤ reachBytes) = true) : elems.length ≤ 8796093021952 := by
  have hm : (elems.length + spare.length) * Tryd.prog.bytesOf 9 ∈ DataW.weightsEach Tryd.prog (41 :: ts) (.agg [e0, e1, e2, .slice elems spare] :: ds) := by
    simp only [DataW.weightsEach, DataW.weights, Tryd.underRun, Tryd.runTypes, Tryd.underlying26]
    simp
  have h1 := List.all_eq_true.1 h _ hm
  rw [Tryd.bytesText] at h1
  have h2 := of_decide_eq_true h1
  have h3 : reachBytes = 140737488351232 := rfl
  omega

set_option maxRecDepth 100000 in
theorem open_run {H : Type} {enc : TypeId × Value → H} {W : World} {base : Nat} {v : Value} {d : DataW H} {p : List MemPlace} (hok : Value.okWide Tryd.prog W .any base 41 v) (h : DataW.Trod enc Tryd.prog W 0 (fun _ => true) true 41 v d p) :
    ∃ n b e vl ks, v = runV n b e vl ∧ TextsAt W vl ks ∧ (∀ s ∈ ks, s.length ≤ 9223372036854775807) ∧ ∃ e0 e1 e2 e3, d = .agg [e0, e1, e2, e3] ∧ (ks = [] ∨ ∃ elems spare, e3 = .slice elems spare ∧ ks.length ≤ elems.length) := by
  obtain ⟨cs, rfl, hsz0⟩ := okWide_struct Tryd.underRun hok
  obtain ⟨fuel, hf⟩ := h
  obtain ⟨xs, n', _, hy, hlen, hyl, hfl⟩ := DataW.trod_struct Tryd.underRun hf
  have hsz : Tryd.runFields.size = 4 := by
    have := congrArg List.length Tryd.runLaid
    simpa using this
  rw [hsz] at hyl
  rw [Tryd.cellsRun] at hsz0
  obtain ⟨cl⟩ := cs
  simp only [List.size_toArray] at hsz0
  simp only [Prod.mk.injEq] at hy
  match cl, hsz0, xs, hyl with
  | [c0, c1, c2, c3], _, [y0, y1, y2, y3], _ =>
    have at_ : ∀ (j : Nat) (t : TypeId) (o c : Nat), ([(3, 0, 1), (3, 1, 1), (3, 2, 1), (26, 3, 1)] : List (TypeId × Nat × Nat))[j]? = some (t, o, c) →
        DataW.trod enc Tryd.prog W 0 (fun _ => true) true n' t ((([c0, c1, c2, c3] : List Value).drop o).take c) = ([y0, y1, y2, y3] : List (DataW H × List MemPlace))[j]? := by
      intro j t o c hj
      obtain ⟨f, hf1, rfl, rfl, rfl⟩ := runField_at hj
      exact hfl j f hf1
    have t0 := at_ 0 _ _ _ rfl
    have t1 := at_ 1 _ _ _ rfl
    have t2 := at_ 2 _ _ _ rfl
    have t3 := at_ 3 _ _ _ rfl
    obtain ⟨ks, l1, l2, l3, l4⟩ := textsAt_of_trod (v := c3) t3
    obtain ⟨z0, h0, q0⟩ := DataW.trod_int Tryd.underlying3 t0
    obtain ⟨z1, h1, q1⟩ := DataW.trod_int Tryd.underlying3 t1
    obtain ⟨z2, h2, q2⟩ := DataW.trod_int Tryd.underlying3 t2
    simp at h0 h1 h2
    subst h0 h1 h2
    exact ⟨z0, z1, z2, c3, ks, rfl, l1, l3, y0.1, y1.1, y2.1, y3.1, hy.1, l4⟩
end Go.Proofs.YtgikabafaocemaaDoor
