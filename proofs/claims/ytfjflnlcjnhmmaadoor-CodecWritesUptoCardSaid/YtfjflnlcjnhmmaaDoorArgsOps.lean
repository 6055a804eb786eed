/-
  A script that came in: a list of steps, each of eight fields; what its bulk bounds.
-/
import Derived.Test.YtfjflnlcjnhmmaaDoorArgsInts
import Derived.Test.YtfjflnlcjnhmmaaDoorLawWrites
import Derived.Deep.Fields
import Derived.ChangeSame
namespace Go.Proofs.YtfjflnlcjnhmmaaDoor
open Go.RowKit Go.ChangeShapes Go.WideShapes Go.ChangeAt Go.Deep

theorem bulk_one {H : Type} (d : DataW H) : 1 ≤ Rows.uptoBulk d := by
  cases d with
  | lit l => cases l <;> simp [Rows.uptoBulk]
  | _ => simp [Rows.uptoBulk]
theorem bulk_mem {H : Type} {d : DataW H} : ∀ {l : List (DataW H)}, d ∈ l → Rows.uptoBulk d ≤ Rows.uptoBulkAll l
  | x :: r, h => by
    rw [Rows.uptoBulkAll]
    rcases List.mem_cons.1 h with rfl | h
    · omega
    · have := bulk_mem h; omega
theorem bulk_length {H : Type} : ∀ (l : List (DataW H)), l.length ≤ Rows.uptoBulkAll l
  | [] => by simp
  | x :: r => by have := bulk_length r; have := bulk_one x; rw [Rows.uptoBulkAll, List.length_cons]; omega
theorem bulk_slice {H : Type} (l m : List (DataW H)) : Rows.uptoBulkAll l + 1 ≤ Rows.uptoBulk (.slice l m) := by rw [Rows.uptoBulk]; omega
theorem bulk_strs {H : Type} : ∀ (ss : List ByteArray), bulk (ss.map (·.data.toList)) ≤ 10 * Rows.uptoBulkAll (strs (H := H) ss)
  | [] => by simp [bulk]
  | s :: r => by
    have := bulk_strs (H := H) r
    rw [List.map_cons, bulk, strs, List.map_cons, Rows.uptoBulkAll, Rows.uptoBulk, ← strs]
    omega

section
variable {H : Type} {enc : TypeId × Value → H} {W : World} {fuel : Nat} {v : Value} {y : DataW H × List MemPlace}
theorem ints_of_trod (h : DataW.trod enc Tryd.prog W 0 (fun _ => true) true fuel 41 [v] = some y) :
    ∃ ks : List Int, ListAt W v (ints ks) ∧ NilOr v ∧ (ks ≠ [] → ∀ g, v.ownBlock = some g → g < W.heap.size) ∧ ks.length ≤ Rows.uptoBulk y.1 ∧ (∀ x ∈ ks, -9223372036854775808 ≤ x ∧ x ≤ 9223372036854775807) := by
  rcases open_ints Tryd.underlying41 Tryd.underlying3 Tryd.cellsInt h with ⟨hcs, hx⟩ | ⟨a, len, cap, zs, hcs, _, hl, hm, hz, hx, hcell, hws⟩
  · obtain rfl : v = .slice none 0 0 := by simpa using hcs
    exact ⟨[], .inl ⟨rfl, _, _, rfl⟩, .inl rfl, fun h => absurd rfl h, by simp, fun x hx => by simp at hx⟩
  · obtain rfl : v = .slice (some a) len cap := by simpa using hcs
    simp only [if_true] at hz
    have hlen : (zs.take len).length = len := by simp; omega
    have hblk : 0 < len → a.spot = none ∧ a.block < W.heap.size := fun h0 => by
      have h1 := hcell 0 (by omega)
      have h2 := World.block_lt_of_cell? W _ h1
      have h3 := World.cell?_spot h1
      simp [Addr.add] at h2 h3
      exact ⟨h3, h2⟩
    refine ⟨zs.take len, ?_, .inr ⟨_, _, _, rfl⟩, fun h0 g hg => ?_, ?_, fun q hq => bounds_i64 (hws q (List.mem_of_mem_take hq))⟩
    · rcases Nat.eq_zero_or_pos len with h0 | hpos
      · subst h0
        exact .inl ⟨by simp [ints], _, _, rfl⟩
      · obtain ⟨b, off, spot⟩ := a
        obtain ⟨hs, hb⟩ := hblk hpos
        simp only at hs hb
        subst hs
        have hadd : ∀ i, (⟨b, off, none⟩ : Addr).add i = ⟨b, off + i, none⟩ := fun i => by unfold Addr.add; split <;> simp_all
        have htl : (ints (zs.take len)).length = len := by rw [ints, List.length_map]; exact hlen
        refine .inr ⟨b, off, cap, by rw [htl], hb, fun j u hj => ?_⟩
        have hjl : j < len := by
          have := (List.getElem?_eq_some_iff.1 hj).1
          omega
        have := hcell j (by omega)
        rw [hadd] at this
        rw [this]
        simp [ints, hjl, show j < zs.length by omega] at hj
        rw [← hj]
        simp [List.getD, show j < zs.length by omega]
    · have h1 : 0 < len := by
        rcases Nat.eq_zero_or_pos len with h1 | h1
        · subst h1; simp at h0
        · exact h1
      simp [Value.ownBlock] at hg
      subst hg
      exact (hblk h1).2
    · rw [hx, hlen]
      have h1 := bulk_slice (H := H) (lits .i64 (zs.take len)) (lits .i64 (zs.drop len))
      have h2 := bulk_length (lits (H := H) .i64 (zs.take len))
      have h3 : (lits (H := H) .i64 (zs.take len)).length = len := by rw [lits, List.length_map]; exact hlen
      simp only
      omega
theorem texts_of_trod (h : DataW.trod enc Tryd.prog W 0 (fun _ => true) true fuel 32 [v] = some y) :
    ∃ ks : List (List UInt8), ListAt W v (texts ks) ∧ NilOr v ∧ (ks ≠ [] → ∀ g, v.ownBlock = some g → g < W.heap.size) ∧ ks.length ≤ Rows.uptoBulk y.1 ∧ bulk ks ≤ 10 * Rows.uptoBulk y.1 := by
  rcases open_strings Tryd.underlying32 Tryd.underlying9 Tryd.cellsText h with ⟨hcs, hx⟩ | ⟨a, len, cap, ss, hcs, _, hl, hm, hz, hx, hcell, hws⟩
  · obtain rfl : v = .slice none 0 0 := by simpa using hcs
    exact ⟨[], .inl ⟨rfl, _, _, rfl⟩, .inl rfl, fun h => absurd rfl h, by simp, by simp [bulk]⟩
  · obtain rfl : v = .slice (some a) len cap := by simpa using hcs
    simp only [if_true] at hz
    have hlen : ((ss.take len).map (·.data.toList)).length = len := by simp; omega
    have hblk : 0 < len → a.spot = none ∧ a.block < W.heap.size := fun h0 => by
      have h1 := hcell 0 (by omega)
      have h2 := World.block_lt_of_cell? W _ h1
      have h3 := World.cell?_spot h1
      simp [Addr.add] at h2 h3
      exact ⟨h3, h2⟩
    refine ⟨(ss.take len).map (·.data.toList), ?_, .inr ⟨_, _, _, rfl⟩, fun h0 g hg => ?_, ?_, ?_⟩
    · rcases Nat.eq_zero_or_pos len with h0 | hpos
      · subst h0
        exact .inl ⟨by simp [texts], _, _, rfl⟩
      · obtain ⟨b, off, spot⟩ := a
        obtain ⟨hs, hb⟩ := hblk hpos
        simp only at hs hb
        subst hs
        have hadd : ∀ i, (⟨b, off, none⟩ : Addr).add i = ⟨b, off + i, none⟩ := fun i => by unfold Addr.add; split <;> simp_all
        have htl : (texts ((ss.take len).map (·.data.toList))).length = len := by rw [texts, List.length_map]; exact hlen
        refine .inr ⟨b, off, cap, by rw [htl], hb, fun j u hj => ?_⟩
        have hjl : j < len := by
          have := (List.getElem?_eq_some_iff.1 hj).1
          omega
        have := hcell j (by omega)
        rw [hadd] at this
        rw [this]
        simp [texts, hjl, show j < ss.length by omega] at hj
        rw [← hj]
        simp [List.getD, show j < ss.length by omega]
        exact str_of _
    · have h1 : 0 < len := by
        rcases Nat.eq_zero_or_pos len with h1 | h1
        · subst h1; simp at h0
        · exact h1
      simp [Value.ownBlock] at hg
      subst hg
      exact (hblk h1).2
    · rw [hx, hlen]
      have h1 := bulk_slice (H := H) (strs (ss.take len)) (strs (ss.drop len))
      have h2 := bulk_length (strs (H := H) (ss.take len))
      have h3 : (strs (H := H) (ss.take len)).length = len := by rw [strs, List.length_map]; simpa using hlen
      simp only
      omega
    · rw [hx]
      have h1 := bulk_slice (H := H) (strs (ss.take len)) (strs (ss.drop len))
      have h2 := bulk_strs (H := H) (ss.take len)
      simp only
      omega
end

theorem Tryd.underOps : Tryd.prog.underlying 34 = some (.slice 43) := by kernel_rfl
noncomputable def Tryd.opFields : Array Field := match Tryd.prog.underlying 43 with
  | some (.struct fs) => fs
  | _ => #[]
theorem Tryd.underOp : Tryd.prog.underlying 43 = some (.struct Tryd.opFields) := by kernel_rfl
theorem Tryd.opLaid : (Tryd.opFields.toList.map fun f => (f.type, f.offset, Tryd.prog.cellsOf f.type)) = [(4, 0, 1), (4, 1, 1), (3, 2, 1), (3, 3, 1), (3, 4, 1), (9, 5, 1), (41, 6, 1), (32, 7, 1)] := by kernel_rfl
theorem Tryd.cellsOp : Tryd.prog.cellsOf 43 = 8 := by kernel_rfl

theorem field_at {j : Nat} {t : TypeId} {o c : Nat} (hj : ([(4, 0, 1), (4, 1, 1), (3, 2, 1), (3, 3, 1), (3, 4, 1), (9, 5, 1), (41, 6, 1), (32, 7, 1)] : List (TypeId × Nat × Nat))[j]? = some (t, o, c)) :
    ∃ f, Tryd.opFields[j]? = some f ∧ f.type = t ∧ f.offset = o ∧ Tryd.prog.cellsOf f.type = c := by
  rw [← Tryd.opLaid, List.getElem?_map, Array.getElem?_toList] at hj
  cases hf : Tryd.opFields[j]? with
  | none => rw [hf] at hj; cases hj
  | some f =>
    rw [hf] at hj
    simp only [Option.map_some, Option.some.injEq, Prod.mk.injEq] at hj
    exact ⟨f, rfl, hj.1, hj.2.1, hj.2.2⟩

set_option maxRecDepth 100000 in
theorem open_script {H : Type} {enc : TypeId × Value → H} {W : World} {base : Nat} {v : Value} {d : DataW H} {p : List MemPlace} (hok : Value.okWide Tryd.prog W .any base 34 v) (h : DataW.Trod enc Tryd.prog W 0 (fun _ => true) true 34 v d p) (hk : Rows.uptoBulk d ≤ 1048576) :
    ∃ n, ScriptAt W v n ∧ n ≤ 9223372036854775807 := by
  obtain ⟨a0, len0, cap0, rfl⟩ := okWide_slice Tryd.underOps hok
  obtain ⟨fuel, hf⟩ := h
  rcases open_slice Tryd.underOps hf with ⟨hcs, hx⟩ | ⟨a, len, cap, m, n, D, Pl, hcs, _, hl, hm, hmm, hx, hi⟩
  · simp [Value.cells] at hcs
    obtain ⟨rfl, rfl, rfl⟩ := hcs
    exact ⟨0, ⟨none, 0, rfl, fun i hi => absurd hi (by omega)⟩, by omega⟩
  · simp [Value.cells] at hcs
    obtain ⟨rfl, rfl, rfl⟩ := hcs
    simp only [if_true] at hmm
    simp only [Prod.mk.injEq] at hx
    rw [hx.1] at hk
    have hks := bulk_slice (H := H) ((List.range len0).map D) ((List.range (m - len0)).map fun j => D (len0 + j))
    refine ⟨len0, ⟨some a, _, rfl, fun i hil => ?_⟩, by unfold maxLen at hm; omega⟩
    have hDi := bulk_mem (H := H) (d := D i) (l := (List.range len0).map D) (List.mem_map.2 ⟨i, List.mem_range.2 hil, rfl⟩)
    obtain ⟨cs', hc, ht'⟩ := hi i (by omega)
    rw [Tryd.cellsOp] at hc
    obtain ⟨xs, n', _, hy, hlen, hyl, hfl⟩ := DataW.trod_struct Tryd.underOp ht'
    obtain ⟨_, hcl, hat⟩ := World.cells?_some hc
    simp only [Prod.mk.injEq] at hy
    have hsz : Tryd.opFields.size = 8 := by
      have := congrArg List.length Tryd.opLaid
      simpa using this
    rw [hsz] at hyl
    match cs', hcl, xs, hyl with
    | [c0, c1, c2, c3, c4, c5, c6, c7], _, [y0, y1, y2, y3, y4, y5, y6, y7], _ =>
      have at_ : ∀ (j : Nat) (t : TypeId) (o c : Nat), ([(4, 0, 1), (4, 1, 1), (3, 2, 1), (3, 3, 1), (3, 4, 1), (9, 5, 1), (41, 6, 1), (32, 7, 1)] : List (TypeId × Nat × Nat))[j]? = some (t, o, c) →
          DataW.trod enc Tryd.prog W 0 (fun _ => true) true n' t ((([c0, c1, c2, c3, c4, c5, c6, c7] : List Value).drop o).take c) = ([y0, y1, y2, y3, y4, y5, y6, y7] : List (DataW H × List MemPlace))[j]? := by
        intro j t o c hj
        obtain ⟨f, hf1, rfl, rfl, rfl⟩ := field_at hj
        exact hfl j f hf1
      have t0 := at_ 0 _ _ _ rfl
      have t1 := at_ 1 _ _ _ rfl
      have t2 := at_ 2 _ _ _ rfl
      have t3 := at_ 3 _ _ _ rfl
      have t4 := at_ 4 _ _ _ rfl
      have t5 := at_ 5 _ _ _ rfl
      have t6 := at_ 6 _ _ _ rfl
      have t7 := at_ 7 _ _ _ rfl
      obtain ⟨b0, h0, e0⟩ := DataW.trod_bool Tryd.underlying4 t0
      obtain ⟨b1, h1, e1⟩ := DataW.trod_bool Tryd.underlying4 t1
      obtain ⟨n2, h2, e2, _⟩ := DataW.trod_int Tryd.underlying3 t2
      obtain ⟨n3, h3, e3, _⟩ := DataW.trod_int Tryd.underlying3 t3
      obtain ⟨n4, h4, e4, _⟩ := DataW.trod_int Tryd.underlying3 t4
      obtain ⟨s5, h5, e5, _⟩ := DataW.trod_string Tryd.underlying9 t5
      obtain ⟨ks, l1, l2, l3, l4, l5⟩ := ints_of_trod (v := c6) t6
      obtain ⟨ps, m1, m2, m3, m4, m5⟩ := texts_of_trod (v := c7) t7
      simp at h0 h1 h2 h3 h4 h5
      subst h0 h1 h2 h3 h4 h5
      have hbd : Rows.uptoBulk (D i) = Rows.uptoBulkAll [y0.1, y1.1, y2.1, y3.1, y4.1, y5.1, y6.1, y7.1] + 1 := by rw [hy.1]; rfl
      have hb5 : Rows.uptoBulk y5.1 = s5.data.toList.length + 1 := by rw [e5]; rfl
      simp only [Rows.uptoBulkAll] at hbd
      have hspot : a.spot = none ∧ a.block < W.heap.size := by
        obtain ⟨cs0, hd0, _⟩ := hi 0 (by omega)
        rw [Tryd.cellsOp] at hd0
        obtain ⟨_, hz, hw⟩ := World.cells?_some hd0
        have h1 := hw 0 (by omega)
        have e : cs0[0]? = some (cs0[0]'(by omega)) := List.getElem?_eq_getElem _
        rw [e] at h1
        simp only [Addr.add, Nat.zero_mul, if_true] at h1
        exact ⟨World.cell?_spot h1, World.block_lt_of_cell? W _ h1⟩
      obtain ⟨b, off, spot⟩ := a
      obtain ⟨hs, hb⟩ := hspot
      simp only at hs hb
      subst hs
      have hadd : ∀ i, (⟨b, off, none⟩ : Addr).add i = ⟨b, off + i, none⟩ := fun i => by unfold Addr.add; split <;> simp_all
      have hadd2 : ∀ i j, ((⟨b, off, none⟩ : Addr).add i).add j = ⟨b, off + i + j, none⟩ := fun i j => by rw [hadd]; unfold Addr.add; split <;> simp_all
      refine ⟨b, off, rfl, hb, ⟨b0, b1, n2, n3, n4, s5.data.toList, ks, ps⟩, c6, c7, ⟨by simp only; omega, by simp only; omega, by simp only; omega, by simp only; omega, l5⟩, ?_, ?_, ?_, ?_, ?_, ?_, ?_, ?_, l1, l2, l3, m1, m2, m3⟩
      all_goals try simp only
      · have := hat 0 (by omega); rw [hadd2] at this; simpa using this
      · have := hat 1 (by omega); rw [hadd2] at this; simpa using this
      · have := hat 2 (by omega); rw [hadd2] at this; simpa using this
      · have := hat 3 (by omega); rw [hadd2] at this; simpa using this
      · have := hat 4 (by omega); rw [hadd2] at this; simpa using this
      · have := hat 5 (by omega); rw [hadd2] at this; rw [← str_of]; simpa using this
      · have := hat 6 (by omega); rw [hadd2] at this; simpa using this
      · have := hat 7 (by omega); rw [hadd2] at this; simpa using this
end Go.Proofs.YtfjflnlcjnhmmaaDoor
