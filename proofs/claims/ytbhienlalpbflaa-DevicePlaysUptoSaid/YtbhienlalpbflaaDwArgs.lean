/-
  DevicePlays' arguments as they come in: a list of steps, each with a list of keeps.
-/
import Derived.Test.YtbhienlalpbflaaDwPlayP
import Derived.Test.YtbhienlalpbflaaDvArgs
import Derived.ChangeSlices
import Derived.Deep.Fields
namespace Go.Proofs.Ytbhienlalpbflaa
open Go.RowKit Go.ChangeShapes Go.WideShapes Go.ChangeAt Go.Deep

theorem list_of {α : Type} {P : Nat → α → Prop} : ∀ (n : Nat), (∀ i, i < n → ∃ x, P i x) → ∃ l : List α, l.length = n ∧ ∀ i x, l[i]? = some x → P i x
  | 0, _ => ⟨[], rfl, fun i x h => by cases h⟩
  | n + 1, h => by
    obtain ⟨l, hl, hp⟩ := list_of n (fun i hi => h i (by omega))
    obtain ⟨x, hx⟩ := h n (by omega)
    refine ⟨l ++ [x], by simp [hl], fun i y hy => ?_⟩
    by_cases hi : i < n
    · rw [List.getElem?_append_left (by omega)] at hy
      exact hp i y hy
    · have : i = n := by
        have := (List.getElem?_eq_some_iff.1 hy).1
        simp at this
        omega
      subst this
      rw [List.getElem?_append_right (by omega), hl] at hy
      simp at hy
      rw [← hy]
      exact hx
theorem bulk_pos {H : Type} (d : DataW H) : 1 ≤ Rows.uptoBulk d := by
  cases d with
  | lit l => cases l <;> simp [Rows.uptoBulk]
  | _ => simp [Rows.uptoBulk]
theorem bulkAll_len {H : Type} : ∀ (l : List (DataW H)), l.length ≤ Rows.uptoBulkAll l
  | [] => by simp
  | x :: r => by have := bulkAll_len r; have := bulk_pos x; rw [Rows.uptoBulkAll, List.length_cons]; omega
theorem bulkAll_mem {H : Type} : ∀ {l : List (DataW H)} {x : DataW H}, x ∈ l → Rows.uptoBulk x ≤ Rows.uptoBulkAll l
  | y :: r, x, h => by
    rw [Rows.uptoBulkAll]
    rcases List.mem_cons.1 h with rfl | h
    · omega
    · have := bulkAll_mem h; omega

theorem Try.underKeeps : Try.prog.underlying 49 = some (.slice 71) := by kernel_rfl
noncomputable def Try.keepFields : Array Field := match Try.prog.underlying 71 with
  | some (.struct fs) => fs
  | _ => #[]
theorem Try.underKeep : Try.prog.underlying 71 = some (.struct Try.keepFields) := by kernel_rfl
theorem Try.keepLaid : (Try.keepFields.toList.map fun f => (f.type, f.offset, Try.prog.cellsOf f.type)) = [(3, 0, 1), (3, 1, 1)] := by kernel_rfl
theorem Try.cellsKeep : Try.prog.cellsOf 71 = 2 := by kernel_rfl
theorem keepField_at {j : Nat} {t : TypeId} {o c : Nat} (hj : ([(3, 0, 1), (3, 1, 1)] : List (TypeId × Nat × Nat))[j]? = some (t, o, c)) :
    ∃ f, Try.keepFields[j]? = some f ∧ f.type = t ∧ f.offset = o ∧ Try.prog.cellsOf f.type = c := by
  rw [← Try.keepLaid, List.getElem?_map, Array.getElem?_toList] at hj
  cases hf : Try.keepFields[j]? with
  | none => rw [hf] at hj; cases hj
  | some f =>
    rw [hf] at hj
    simp only [Option.map_some, Option.some.injEq, Prod.mk.injEq] at hj
    exact ⟨f, rfl, hj.1, hj.2.1, hj.2.2⟩
set_option maxRecDepth 100000 in
theorem open_keeps {H : Type} {enc : TypeId × Value → H} {W : World} {fuel : Nat} {v : Value} {y : DataW H × List MemPlace} (hf : DataW.trod enc Try.prog W 0 (fun _ => true) true fuel 49 [v] = some y) :
    ∃ (ko : Option Addr) (kc : Nat) (ks : List (Int × Int)), v = .slice ko ks.length kc ∧ KeepsAt W v ks ∧ (0 < ks.length → ∀ a, ko = some a → a.block < W.heap.size) ∧ ks.length ≤ Rows.uptoBulk y.1 ∧ (∀ x ∈ ks, (Lit.int .i64 x.1).wf = true ∧ (Lit.int .i64 x.2).wf = true) := by
  rcases open_slice Try.underKeeps hf with ⟨hcs, hx⟩ | ⟨a, len, cap, m, n, D, Pl, hcs, _, hl, hm, hmm, hx, hi⟩
  · obtain rfl : v = .slice none 0 0 := by simpa using hcs
    exact ⟨none, 0, [], rfl, ⟨none, 0, rfl, fun k x h => by cases h⟩, fun h => absurd h (by simp), by simp, (fun q hq => absurd hq (by simp))⟩
  · obtain rfl : v = .slice (some a) len cap := by simpa using hcs
    simp only [if_true] at hmm
    have key : ∀ i, i < len → ∃ x : Int × Int, (∃ b off, some a = some (⟨b, off, none⟩ : Addr) ∧ b < W.heap.size ∧ W.cell? ⟨b, off + i * 2, none⟩ = some (.int .i64 x.1) ∧ W.cell? ⟨b, off + i * 2 + 1, none⟩ = some (.int .i64 x.2)) ∧ (Lit.int .i64 x.1).wf = true ∧ (Lit.int .i64 x.2).wf = true := by
      intro i hil
      obtain ⟨cs', hc, ht'⟩ := hi i (by omega)
      rw [Try.cellsKeep] at hc
      obtain ⟨xs, n', _, hy, hlen, hyl, hfl⟩ := DataW.trod_struct Try.underKeep ht'
      obtain ⟨_, hcl, hat⟩ := World.cells?_some hc
      have hsz : Try.keepFields.size = 2 := by
        have := congrArg List.length Try.keepLaid
        simpa using this
      rw [hsz] at hyl
      match cs', hcl, xs, hyl with
      | [c0, c1], _, [y0, y1], _ =>
        have at_ : ∀ (j : Nat) (t : TypeId) (o c : Nat), ([(3, 0, 1), (3, 1, 1)] : List (TypeId × Nat × Nat))[j]? = some (t, o, c) →
            DataW.trod enc Try.prog W 0 (fun _ => true) true n' t ((([c0, c1] : List Value).drop o).take c) = ([y0, y1] : List (DataW H × List MemPlace))[j]? := by
          intro j t o c hj
          obtain ⟨f, hf1, rfl, rfl, rfl⟩ := keepField_at hj
          exact hfl j f hf1
        have t0 := at_ 0 _ _ _ rfl
        have t1 := at_ 1 _ _ _ rfl
        obtain ⟨n1, h1, e1, w1⟩ := DataW.trod_int Try.underlying3 t0
        obtain ⟨n2, h2, e2, w2⟩ := DataW.trod_int Try.underlying3 t1
        simp at h1 h2
        subst h1 h2
        have hspot : a.spot = none ∧ a.block < W.heap.size := by
          obtain ⟨cs0, hd0, _⟩ := hi 0 (by omega)
          rw [Try.cellsKeep] at hd0
          obtain ⟨_, hz, hw⟩ := World.cells?_some hd0
          have h1 := hw 0 (by omega)
          have e : cs0[0]? = some (cs0[0]'(by omega)) := List.getElem?_eq_getElem _
          rw [e] at h1
          simp only [Addr.add, Nat.zero_mul, if_true] at h1
          exact ⟨World.cell?_spot h1, World.block_lt_of_cell? W _ h1⟩
        obtain ⟨b, off, spot⟩ := a
        obtain ⟨hs, hb⟩ := hspot
        simp only at hs hb
        subst hs
        have hadd : ∀ i, (⟨b, off, none⟩ : Addr).add i = ⟨b, off + i, none⟩ := fun i => by unfold Addr.add; split <;> simp_all
        have hadd2 : ∀ i j, ((⟨b, off, none⟩ : Addr).add i).add j = ⟨b, off + i + j, none⟩ := fun i j => by rw [hadd]; unfold Addr.add; split <;> simp_all
        refine ⟨⟨n1, n2⟩, ⟨b, off, rfl, hb, ?_, ?_⟩, w1, w2⟩
        all_goals try simp only
        · have := hat 0 (by omega); rw [hadd2] at this; simpa using this
        · have := hat 1 (by omega); rw [hadd2] at this; simpa using this
    obtain ⟨ps, hpl, hp⟩ := list_of len key
    subst hpl
    refine ⟨some a, cap, ps, rfl, ⟨some a, _, rfl, fun k x hx => (hp k x hx).1⟩, fun h0 a' e => ?_, ?_, fun x hx => ?_⟩
    · obtain ⟨b, off, e2, e3, -⟩ := (hp 0 (ps[0]) (List.getElem?_eq_getElem h0)).1
      cases e
      cases e2
      exact e3
    · rw [hx]
      simp only
      rw [Rows.uptoBulk]
      have := bulkAll_len ((List.range ps.length).map D)
      rw [List.length_map, List.length_range] at this
      omega
    · obtain ⟨k, hk⟩ := List.getElem?_of_mem hx
      exact (hp k x hk).2

/-- a step -/
structure StepAt (W : World) (b o : Nat) : Prop where
  ex : ∃ (k on m : Int) (s : List UInt8) (ko : Option Addr) (kc : Nat) (ks : List (Int × Int)), W.cell? ⟨b, o, none⟩ = some (.int .i64 k) ∧ W.cell? ⟨b, o + 1, none⟩ = some (.int .i64 on) ∧ W.cell? ⟨b, o + 2, none⟩ = some (.int .i64 m) ∧ W.cell? ⟨b, o + 3, none⟩ = some (.string (str s)) ∧ W.cell? ⟨b, o + 4, none⟩ = some (.slice ko ks.length kc) ∧
    KeepsAt W (.slice ko ks.length kc) ks ∧ (0 < ks.length → ∀ a, ko = some a → a.block < W.heap.size) ∧ ks.length ≤ 10000000 ∧ (∀ x ∈ ks, (Lit.int .i64 x.1).wf = true ∧ (Lit.int .i64 x.2).wf = true) ∧ (-9223372036854775808 ≤ on ∧ on ≤ 9223372036854775807) ∧ (-9223372036854775808 ≤ m ∧ m ≤ 9223372036854775807) ∧ s.length ≤ 9223372036854775807
def OpsAt (W : World) (v : Value) (n : Nat) : Prop := ∃ ao cap, v = .slice ao n cap ∧ ∀ i, i < n → ∃ bb off, ao = some ⟨bb, off, none⟩ ∧ bb < W.heap.size ∧ StepAt W bb (off + i * 5)

theorem Try.underOps : Try.prog.underlying 41 = some (.slice 51) := by kernel_rfl
noncomputable def Try.opFields : Array Field := match Try.prog.underlying 51 with
  | some (.struct fs) => fs
  | _ => #[]
theorem Try.underOp : Try.prog.underlying 51 = some (.struct Try.opFields) := by kernel_rfl
theorem Try.opLaid : (Try.opFields.toList.map fun f => (f.type, f.offset, Try.prog.cellsOf f.type)) = [(3, 0, 1), (3, 1, 1), (3, 2, 1), (9, 3, 1), (49, 4, 1)] := by kernel_rfl
theorem Try.cellsOp : Try.prog.cellsOf 51 = 5 := by kernel_rfl
theorem opField_at {j : Nat} {t : TypeId} {o c : Nat} (hj : ([(3, 0, 1), (3, 1, 1), (3, 2, 1), (9, 3, 1), (49, 4, 1)] : List (TypeId × Nat × Nat))[j]? = some (t, o, c)) :
    ∃ f, Try.opFields[j]? = some f ∧ f.type = t ∧ f.offset = o ∧ Try.prog.cellsOf f.type = c := by
  rw [← Try.opLaid, List.getElem?_map, Array.getElem?_toList] at hj
  cases hf : Try.opFields[j]? with
  | none => rw [hf] at hj; cases hj
  | some f =>
    rw [hf] at hj
    simp only [Option.map_some, Option.some.injEq, Prod.mk.injEq] at hj
    exact ⟨f, rfl, hj.1, hj.2.1, hj.2.2⟩

set_option maxRecDepth 100000 in
theorem open_ops {H : Type} {enc : TypeId × Value → H} {W : World} {base : Nat} {v : Value} {d : DataW H} {p : List MemPlace} (hok : Value.okWide Try.prog W .any base 41 v) (h : DataW.Trod enc Try.prog W 0 (fun _ => true) true 41 v d p) (hbk : Rows.uptoBulk d ≤ 1048576) :
    ∃ n, OpsAt W v n ∧ n ≤ 9223372036854775807 := by
  obtain ⟨a0, len0, cap0, rfl⟩ := okWide_slice Try.underOps hok
  obtain ⟨fuel, hf⟩ := h
  rcases open_slice Try.underOps hf with ⟨hcs, hx⟩ | ⟨a, len, cap, m, n, D, Pl, hcs, _, hl, hm, hmm, hx, hi⟩
  · simp [Value.cells] at hcs
    obtain ⟨rfl, rfl, rfl⟩ := hcs
    exact ⟨0, ⟨none, 0, rfl, fun i hi => absurd hi (by omega)⟩, by omega⟩
  · simp [Value.cells] at hcs
    obtain ⟨rfl, rfl, rfl⟩ := hcs
    simp only [if_true] at hmm
    refine ⟨len0, ⟨some a, _, rfl, fun i hil => ?_⟩, by unfold maxLen at hm; omega⟩
    obtain ⟨cs', hc, ht'⟩ := hi i (by omega)
    rw [Try.cellsOp] at hc
    obtain ⟨xs, n', _, hy, hlen, hyl, hfl⟩ := DataW.trod_struct Try.underOp ht'
    obtain ⟨_, hcl, hat⟩ := World.cells?_some hc
    have hsz : Try.opFields.size = 5 := by
      have := congrArg List.length Try.opLaid
      simpa using this
    rw [hsz] at hyl
    have hDi : Rows.uptoBulk (D i) ≤ 1048576 := by
      have h1 : d = _ := congrArg Prod.fst hx
      rw [h1, Rows.uptoBulk] at hbk
      have h2 := bulkAll_mem (l := (List.range len0).map D) (x := D i) (List.mem_map.2 ⟨i, List.mem_range.2 hil, rfl⟩)
      omega
    match cs', hcl, xs, hyl, hy with
    | [c0, c1, c2, c3, c4], _, [y0, y1, y2, y3, y4], _, hy =>
      have at_ : ∀ (j : Nat) (t : TypeId) (o c : Nat), ([(3, 0, 1), (3, 1, 1), (3, 2, 1), (9, 3, 1), (49, 4, 1)] : List (TypeId × Nat × Nat))[j]? = some (t, o, c) →
          DataW.trod enc Try.prog W 0 (fun _ => true) true n' t ((([c0, c1, c2, c3, c4] : List Value).drop o).take c) = ([y0, y1, y2, y3, y4] : List (DataW H × List MemPlace))[j]? := by
        intro j t o c hj
        obtain ⟨f, hf1, rfl, rfl, rfl⟩ := opField_at hj
        exact hfl j f hf1
      have t0 := at_ 0 _ _ _ rfl
      have t1 := at_ 1 _ _ _ rfl
      have t2 := at_ 2 _ _ _ rfl
      have t3 := at_ 3 _ _ _ rfl
      have t4 := at_ 4 _ _ _ rfl
      obtain ⟨n0, h0, e0, w0⟩ := DataW.trod_int Try.underlying3 t0
      obtain ⟨n1, h1, e1, w1⟩ := DataW.trod_int Try.underlying3 t1
      obtain ⟨n2, h2, e2, w2⟩ := DataW.trod_int Try.underlying3 t2
      obtain ⟨s3, h3, e3, w3⟩ := DataW.trod_string Try.underlying9 t3
      obtain ⟨ko, kc, ks, h4, q1, q2, q3, q4⟩ := open_keeps t4
      simp at h0 h1 h2 h3
      subst h0 h1 h2 h3 h4
      have hy4 : Rows.uptoBulk y4.1 ≤ 1048576 := by
        have h1 : D i = _ := congrArg Prod.fst hy
        rw [h1, Rows.uptoBulk] at hDi
        have h2 := bulkAll_mem (l := [y0.1, y1.1, y2.1, y3.1, y4.1]) (x := y4.1) (by simp)
        simp only [List.map_cons, List.map_nil] at hDi
        omega
      have hspot : a.spot = none ∧ a.block < W.heap.size := by
        obtain ⟨cs0, hd0, _⟩ := hi 0 (by omega)
        rw [Try.cellsOp] at hd0
        obtain ⟨_, hz, hw⟩ := World.cells?_some hd0
        have h1 := hw 0 (by omega)
        have e : cs0[0]? = some (cs0[0]'(by omega)) := List.getElem?_eq_getElem _
        rw [e] at h1
        simp only [Addr.add, Nat.zero_mul, if_true] at h1
        exact ⟨World.cell?_spot h1, World.block_lt_of_cell? W _ h1⟩
      obtain ⟨b, off, spot⟩ := a
      obtain ⟨hs, hb⟩ := hspot
      simp only at hs hb
      subst hs
      have hadd : ∀ i, (⟨b, off, none⟩ : Addr).add i = ⟨b, off + i, none⟩ := fun i => by unfold Addr.add; split <;> simp_all
      have hadd2 : ∀ i j, ((⟨b, off, none⟩ : Addr).add i).add j = ⟨b, off + i + j, none⟩ := fun i j => by rw [hadd]; unfold Addr.add; split <;> simp_all
      refine ⟨b, off, rfl, hb, ⟨n0, n1, n2, s3.data.toList, ko, kc, ks, ?_, ?_, ?_, ?_, ?_, q1, q2, by omega, q4, bounds_i64 w1, bounds_i64 w2, ?_⟩⟩
      · have := hat 0 (by omega); rw [hadd2] at this; simpa using this
      · have := hat 1 (by omega); rw [hadd2] at this; simpa using this
      · have := hat 2 (by omega); rw [hadd2] at this; simpa using this
      · have := hat 3 (by omega); rw [hadd2] at this; rw [← str_of]; simpa using this
      · have := hat 4 (by omega); rw [hadd2] at this; simpa using this
      · have := size_toList s3; unfold maxLen at w3; omega
end Go.Proofs.Ytbhienlalpbflaa
