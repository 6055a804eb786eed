/-
  Requests as they come in, read whole: a type that leads back to itself.
  Requests and replies as they come in: types that lead back to themselves, read whole.
-/
import Derived.Test.YtpccaodkgboefaaGreatDoorMsRepM
import Derived.Test.YtpccaodkgboefaaGreatDoorMArg
import Derived.Deep.Fields
import Derived.Test.YtpccaodkgboefaaGreatDoorMMsL
namespace Go.Proofs.YtpccaodkgboefaaGreatDoor
open Go.RowKit Go.ChangeShapes Go.WideShapes Go.ChangeAt Go.Deep

theorem bulk_lit_str {H : Type} (s : List UInt8) : Rows.uptoBulk (.lit (.string s) : DataW H) = s.length + 1 := by rw [Rows.uptoBulk]
theorem bulk_pos {H : Type} (d : DataW H) : 1 ≤ Rows.uptoBulk d := by
  cases d with
  | lit l => cases l <;> simp [Rows.uptoBulk]
  | _ => simp [Rows.uptoBulk]
theorem bulkAll_len {H : Type} : ∀ (l : List (DataW H)), l.length ≤ Rows.uptoBulkAll l
  | [] => by simp
  | x :: r => by have := bulkAll_len r; have := bulk_pos x; rw [Rows.uptoBulkAll, List.length_cons]; omega
theorem bulkAll_mem {H : Type} : ∀ {l : List (DataW H)} {x : DataW H}, x ∈ l → Rows.uptoBulk x ≤ Rows.uptoBulkAll l
  | y :: r, x, h => by
    rw [Rows.uptoBulkAll]
    rcases List.mem_cons.1 h with rfl | h
    · omega
    · have := bulkAll_mem h; omega
theorem bulk_strs {H : Type} : ∀ (l : List ByteArray), Rows.uptoBulkAll (strs (H := H) l) = (l.map fun s => s.data.toList.length + 1).sum
  | [] => rfl
  | x :: r => by
    have := bulk_strs (H := H) r
    simp only [strs, List.map_cons, List.sum_cons] at this ⊢
    rw [Rows.uptoBulkAll, bulk_lit_str, this]
theorem bulk_le_sum : ∀ (l : List (List UInt8)), bulk l + l.length ≤ 11 * (l.map fun s => s.length + 1).sum
  | [] => by simp [bulk]
  | x :: r => by
    have := bulk_le_sum r
    simp only [bulk, List.length_cons, List.map_cons, List.sum_cons]
    omega

section
variable {H : Type} {enc : TypeId × Value → H} {W : World} {fuel : Nat} {v : Value} {y : DataW H × List MemPlace}
theorem texts_of_trod (h : DataW.trod enc Tryz.prog W 0 (fun _ => true) true fuel 23 [v] = some y) :
    ∃ ps : List (List UInt8), ListAt W v (texts ps) ∧ Low (fun q => q < W.heap.size) v ps ∧ bulk ps + ps.length ≤ 11 * Rows.uptoBulk y.1 ∧ ps.length ≤ 9223372036854775807 := by
  rcases open_strings Tryz.underlying23 Tryz.underlying9 Tryz.cellsText h with ⟨hcs, hx⟩ | ⟨a, len, cap, ss, hcs, _, hl, hm, hz, hx, hcell, hws⟩
  · obtain rfl : v = .slice none 0 0 := by simpa using hcs
    exact ⟨[], .inl ⟨rfl, _, _, rfl⟩, fun _ _ h => absurd rfl h, by simp [bulk], by simp⟩
  · obtain rfl : v = .slice (some a) len cap := by simpa using hcs
    simp only [if_true] at hz
    have hlen : ((ss.take len).map (·.data.toList)).length = len := by simp; omega
    have hbk : bulk ((ss.take len).map (·.data.toList)) + len ≤ 11 * Rows.uptoBulk y.1 := by
      have h1 := bulk_le_sum ((ss.take len).map (·.data.toList))
      have h2 := bulk_strs (H := H) (ss.take len)
      rw [hlen, List.map_map] at h1
      rw [hx]
      simp only
      rw [Rows.uptoBulk, h2]
      have h3 : ((fun s : List UInt8 => s.length + 1) ∘ fun x : ByteArray => x.data.toList) = fun s : ByteArray => s.data.toList.length + 1 := rfl
      rw [h3] at h1
      omega
    have hml : len ≤ 9223372036854775807 := by unfold maxLen at hm; omega
    rcases Nat.eq_zero_or_pos len with h0 | hpos
    · subst h0
      exact ⟨[], .inl ⟨rfl, _, _, rfl⟩, fun _ _ h => absurd rfl h, by simp [bulk], by simp⟩
    · obtain ⟨b, off, spot⟩ := a
      have hspot : spot = none := by simpa [Addr.add] using World.cell?_spot (hcell 0 (by omega))
      subst hspot
      have hadd : ∀ i, (⟨b, off, none⟩ : Addr).add i = ⟨b, off + i, none⟩ := fun i => by unfold Addr.add; split <;> simp_all
      have hbl : b < W.heap.size := by
        have := World.block_lt_of_cell? W _ (hcell 0 (by omega))
        rw [hadd] at this
        exact this
      have htl : (texts ((ss.take len).map (·.data.toList))).length = len := by rw [texts, List.length_map]; exact hlen
      refine ⟨(ss.take len).map (·.data.toList), .inr ⟨b, off, cap, by rw [htl], hbl, fun j u hj => ?_⟩, fun g hg _ => ?_, by rw [hlen]; exact hbk, by rw [hlen]; exact hml⟩
      · have hjl : j < len := by
          have := (List.getElem?_eq_some_iff.1 hj).1
          omega
        have := hcell j (by omega)
        rw [hadd] at this
        rw [this]
        simp [texts, hjl, show j < ss.length by omega] at hj
        rw [← hj]
        simp [List.getD, show j < ss.length by omega]
        exact str_of _
      · simp [Value.ownBlock] at hg
        subst hg
        exact hbl
theorem ints_of_trod (h : DataW.trod enc Tryz.prog W 0 (fun _ => true) true fuel 22 [v] = some y) :
    ∃ ks : List Int, ListAt W v (ints ks) ∧ Low (fun q => q < W.heap.size) v ks ∧ ks.length ≤ Rows.uptoBulk y.1 ∧ ks.length ≤ 9223372036854775807 := by
  rcases open_ints Tryz.underlying22 Tryz.underlying3 Tryz.cellsInt h with ⟨hcs, hx⟩ | ⟨a, len, cap, zs, hcs, _, hl, hm, hz, hx, hcell, hws⟩
  · obtain rfl : v = .slice none 0 0 := by simpa using hcs
    exact ⟨[], .inl ⟨rfl, _, _, rfl⟩, fun _ _ h => absurd rfl h, by simp, by simp⟩
  · obtain rfl : v = .slice (some a) len cap := by simpa using hcs
    simp only [if_true] at hz
    have hlen : (zs.take len).length = len := by simp; omega
    have hml : len ≤ 9223372036854775807 := by unfold maxLen at hm; omega
    have hbk : len ≤ Rows.uptoBulk y.1 := by
      rw [hx]
      simp only
      rw [Rows.uptoBulk]
      have := bulkAll_len (lits (H := H) .i64 (zs.take len))
      have h2 : (lits (H := H) .i64 (zs.take len)).length = len := by rw [lits, List.length_map]; exact hlen
      omega
    rcases Nat.eq_zero_or_pos len with h0 | hpos
    · subst h0
      exact ⟨[], .inl ⟨rfl, _, _, rfl⟩, fun _ _ h => absurd rfl h, by simp, by simp⟩
    · obtain ⟨b, off, spot⟩ := a
      have hspot : spot = none := by simpa [Addr.add] using World.cell?_spot (hcell 0 (by omega))
      subst hspot
      have hadd : ∀ i, (⟨b, off, none⟩ : Addr).add i = ⟨b, off + i, none⟩ := fun i => by unfold Addr.add; split <;> simp_all
      have hbl : b < W.heap.size := by
        have := World.block_lt_of_cell? W _ (hcell 0 (by omega))
        rw [hadd] at this
        exact this
      have htl : (ints (zs.take len)).length = len := by rw [ints, List.length_map]; exact hlen
      refine ⟨zs.take len, .inr ⟨b, off, cap, by rw [htl], hbl, fun j u hj => ?_⟩, fun g hg _ => ?_, by rw [hlen]; exact hbk, by rw [hlen]; exact hml⟩
      · have hjl : j < len := by
          have := (List.getElem?_eq_some_iff.1 hj).1
          omega
        have := hcell j (by omega)
        rw [hadd] at this
        rw [this]
        simp [ints, hjl, show j < zs.length by omega] at hj
        rw [← hj]
        simp [List.getD, show j < zs.length by omega]
      · simp [Value.ownBlock] at hg
        subst hg
        exact hbl
end
end Go.Proofs.YtpccaodkgboefaaGreatDoor

namespace Go.Proofs.YtpccaodkgboefaaGreatDoor
open Go.RowKit Go.ChangeShapes Go.WideShapes Go.ChangeAt Go.Deep

theorem wt_wtF (R : Req) : 1 + wtF R ≤ wt R := by unfold wt; omega
theorem bulk_ten : ∀ (l : List (List UInt8)), 10 * l.length ≤ bulk l
  | [] => by simp [bulk]
  | x :: r => by
    have := bulk_ten r
    simp only [bulk, List.length_cons]
    omega
/-- a reply's weight, as it came in -/
def wtQ (R : Rep) : Nat := wtR R + 140
theorem wtP_wtQ (R : Rep) : wtP R + 1 ≤ wtQ R := by
  unfold wtP wtQ wtR
  omega

noncomputable def Tryz.reqFlds : Array Field := match Tryz.prog.underlying 26 with
  | some (.struct fs) => fs
  | _ => #[]
theorem Tryz.underRq : Tryz.prog.underlying 26 = some (.struct Tryz.reqFlds) := by kernel_rfl
theorem Tryz.laidRq : (Tryz.reqFlds.toList.map fun f => (f.type, f.offset, Tryz.prog.cellsOf f.type)) = [(3, 0, 1), (3, 1, 1), (3, 2, 1), (3, 3, 1), (22, 4, 1), (23, 5, 1), (24, 6, 1)] := by kernel_rfl
theorem Tryz.cellsRq : Tryz.prog.cellsOf 26 = 7 := by kernel_rfl
theorem fieldRq_at {j : Nat} {t : TypeId} {o c : Nat} (hj : ([(3, 0, 1), (3, 1, 1), (3, 2, 1), (3, 3, 1), (22, 4, 1), (23, 5, 1), (24, 6, 1)] : List (TypeId × Nat × Nat))[j]? = some (t, o, c)) : ∃ f, Tryz.reqFlds[j]? = some f ∧ f.type = t ∧ f.offset = o ∧ Tryz.prog.cellsOf f.type = c := by
  rw [← Tryz.laidRq, List.getElem?_map, Array.getElem?_toList] at hj
  cases hf : Tryz.reqFlds[j]? with
  | none => rw [hf] at hj; cases hj
  | some f =>
    rw [hf] at hj
    simp only [Option.map_some, Option.some.injEq, Prod.mk.injEq] at hj
    exact ⟨f, rfl, hj.1, hj.2.1, hj.2.2⟩
/-- the elements of a list, one after the other -/
theorem collRq {W : World} {b off len : Nat} {g : Nat → Nat} (hb : b < W.heap.size) (h : ∀ i, i < len → ∃ (x : Req) (c0 c1 c2 c3 c4 c5 c6 : Value), W.cell? ⟨b, off + i * 7, none⟩ = some c0 ∧ W.cell? ⟨b, off + i * 7 + 1, none⟩ = some c1 ∧ W.cell? ⟨b, off + i * 7 + 2, none⟩ = some c2 ∧ W.cell? ⟨b, off + i * 7 + 3, none⟩ = some c3 ∧ W.cell? ⟨b, off + i * 7 + 4, none⟩ = some c4 ∧ W.cell? ⟨b, off + i * 7 + 5, none⟩ = some c5 ∧ W.cell? ⟨b, off + i * 7 + 6, none⟩ = some c6 ∧ ReqAt (fun q => q < W.heap.size) W x (.agg #[c0, c1, c2, c3, c4, c5, c6]) ∧ wt x ≤ 200 * g i) :
    ∀ (j k : Nat), k + j = len → ∃ l : List Req, l.length = j ∧ ReqsAt (fun q => q < W.heap.size) W l (some ⟨b, off, none⟩) k ∧ wtAll l ≤ 200 * (((List.range len).drop k).map g).sum
  | 0, k, _ => ⟨[], rfl, by rw [ReqsAt]; trivial, by simp [wtAll]⟩
  | j + 1, k, hk => by
    obtain ⟨x, c0, c1, c2, c3, c4, c5, c6, h0, h1, h2, h3, h4, h5, h6, hx, hw⟩ := h k (by omega)
    obtain ⟨l, p1, p2, p3⟩ := collRq hb h j (k + 1) (by omega)
    refine ⟨x :: l, by simp [p1], ?_, ?_⟩
    · rw [ReqsAt]
      exact ⟨⟨b, off, c0, c1, c2, c3, c4, c5, c6, rfl, hb, hb, h0, h1, h2, h3, h4, h5, h6, hx⟩, p2⟩
    · have hd : (List.range len).drop k = k :: (List.range len).drop (k + 1) := by
        rw [List.drop_eq_getElem_cons (by simp; omega)]
        simp
      rw [hd, List.map_cons, List.sum_cons]
      simp only [wtAll]
      have := wt_wtF x
      omega

set_option maxRecDepth 100000 in
set_option maxHeartbeats 1000000 in
theorem openRq {H : Type} {enc : TypeId × Value → H} {W : World} : ∀ (N fuel : Nat) (cs : List Value) (y : DataW H × List MemPlace), Rows.uptoBulk y.1 ≤ N → DataW.trod enc Tryz.prog W 0 (fun _ => true) true fuel 26 cs = some y →
    ∃ (R : Req) (c0 c1 c2 c3 c4 c5 c6 : Value), cs = [c0, c1, c2, c3, c4, c5, c6] ∧ ReqAt (fun q => q < W.heap.size) W R (.agg #[c0, c1, c2, c3, c4, c5, c6]) ∧ wt R ≤ 200 * Rows.uptoBulk y.1
  | 0, fuel, cs, y, hN, _ => by have := bulk_pos y.1; omega
  | N + 1, fuel, cs, y, hN, hf => by
    obtain ⟨xs, n', _, hy, hlen, hyl, hfl⟩ := DataW.trod_struct Tryz.underRq hf
    have hsz : Tryz.reqFlds.size = 7 := by
      have := congrArg List.length Tryz.laidRq
      simpa using this
    rw [hsz] at hyl
    rw [Tryz.cellsRq] at hlen
    match cs, hlen, xs, hyl with
    | [c0, c1, c2, c3, c4, c5, c6], _, [y0, y1, y2, y3, y4, y5, y6], _ =>
      have at_ : ∀ (j : Nat) (t : TypeId) (o c : Nat), ([(3, 0, 1), (3, 1, 1), (3, 2, 1), (3, 3, 1), (22, 4, 1), (23, 5, 1), (24, 6, 1)] : List (TypeId × Nat × Nat))[j]? = some (t, o, c) →
          DataW.trod enc Tryz.prog W 0 (fun _ => true) true n' t ((([c0, c1, c2, c3, c4, c5, c6] : List Value).drop o).take c) = ([y0, y1, y2, y3, y4, y5, y6] : List (DataW H × List MemPlace))[j]? := by
        intro j t o c hj
        obtain ⟨f, hf1, rfl, rfl, rfl⟩ := fieldRq_at hj
        exact hfl j f hf1
      have t0 := at_ 0 _ _ _ rfl
      have t1 := at_ 1 _ _ _ rfl
      have t2 := at_ 2 _ _ _ rfl
      have t3 := at_ 3 _ _ _ rfl
      have t4 := at_ 4 _ _ _ rfl
      have t5 := at_ 5 _ _ _ rfl
      have t6 := at_ 6 _ _ _ rfl
      obtain ⟨n0, h0, e0, _⟩ := DataW.trod_int Tryz.underlying3 t0
      simp at h0
      subst h0
      obtain ⟨n1, h1, e1, _⟩ := DataW.trod_int Tryz.underlying3 t1
      simp at h1
      subst h1
      obtain ⟨n2, h2, e2, _⟩ := DataW.trod_int Tryz.underlying3 t2
      simp at h2
      subst h2
      obtain ⟨n3, h3, e3, _⟩ := DataW.trod_int Tryz.underlying3 t3
      simp at h3
      subst h3
      obtain ⟨l4, a4, b4, k4, m4⟩ := ints_of_trod (v := c4) t4
      obtain ⟨l5, a5, b5, k5, m5⟩ := texts_of_trod (v := c5) t5
      have hbd : Rows.uptoBulk y.1 = Rows.uptoBulkAll [y0.1, y1.1, y2.1, y3.1, y4.1, y5.1, y6.1] + 1 := by rw [hy]; rfl
      simp only [Rows.uptoBulkAll] at hbd
      rcases open_slice Tryz.underlying24 t6 with ⟨hcs, hx⟩ | ⟨a, len, cap, m, n, D, Pl, hcs, _, hl, hm, hmm, hx, hi⟩
      · simp at hcs
        subst hcs
        refine ⟨.mk n0 n1 n2 n3 l4 l5 [], _, _, _, _, _, _, _, rfl, ?_, ?_⟩
        · rw [ReqAt]
          exact ⟨_, _, _, _, rfl, ⟨a4, b4⟩, ⟨a5, b5⟩, by rw [ReqsAt]; trivial, by simp⟩
        · have hb1 : 1 ≤ Rows.uptoBulk y6.1 := bulk_pos _
          (simp only [wt, wtF, Req.list, Req.entries, Req.asks, wtAll]; have hp0 := bulk_pos y0.1; have hp1 := bulk_pos y1.1; have hp2 := bulk_pos y2.1; have hp3 := bulk_pos y3.1; omega)
      · simp at hcs
        subst hcs
        simp only [if_true] at hmm
        have hml : len ≤ 9223372036854775807 := by unfold maxLen at hm; omega
        have hbl : Rows.uptoBulk y6.1 = Rows.uptoBulkAll ((List.range len).map D) + Rows.uptoBulkAll ((List.range (m - len)).map fun j => D (len + j)) + 1 := by rw [hx]; rfl
        have hsum : (((List.range len).drop 0).map fun i => Rows.uptoBulk (D i)).sum = Rows.uptoBulkAll ((List.range len).map D) := by
          rw [List.drop_zero]
          generalize List.range len = l
          induction l with
          | nil => rfl
          | cons x r ih => rw [List.map_cons, List.sum_cons, List.map_cons, Rows.uptoBulkAll, ih]
        have hDle : ∀ i, i < len → Rows.uptoBulk (D i) ≤ N := fun i hi' => by
          have := bulkAll_mem (l := (List.range len).map D) (x := D i) (List.mem_map.2 ⟨i, by simpa using hi', rfl⟩)
          omega
        rcases Nat.eq_zero_or_pos len with h0 | hpos
        · subst h0
          refine ⟨.mk n0 n1 n2 n3 l4 l5 [], _, _, _, _, _, _, _, rfl, ?_, ?_⟩
          · rw [ReqAt]
            exact ⟨_, _, _, _, rfl, ⟨a4, b4⟩, ⟨a5, b5⟩, by rw [ReqsAt]; trivial, by simp⟩
          · have hb1 : 1 ≤ Rows.uptoBulk y6.1 := bulk_pos _
            (simp only [wt, wtF, Req.list, Req.entries, Req.asks, wtAll]; have hp0 := bulk_pos y0.1; have hp1 := bulk_pos y1.1; have hp2 := bulk_pos y2.1; have hp3 := bulk_pos y3.1; omega)
        · have hspot : a.spot = none ∧ a.block < W.heap.size := by
            obtain ⟨cs0, hd0, _⟩ := hi 0 (by omega)
            rw [Tryz.cellsRq] at hd0
            obtain ⟨_, hz, hw⟩ := World.cells?_some hd0
            have h1 := hw 0 (by omega)
            have e : cs0[0]? = some (cs0[0]'(by omega)) := List.getElem?_eq_getElem _
            rw [e] at h1
            simp only [Addr.add, Nat.zero_mul, if_true] at h1
            exact ⟨World.cell?_spot h1, World.block_lt_of_cell? W _ h1⟩
          obtain ⟨b, off, spot⟩ := a
          obtain ⟨hs, hb⟩ := hspot
          simp only at hs hb
          subst hs
          have hadd1 : ∀ o i, (⟨b, o, none⟩ : Addr).add i = ⟨b, o + i, none⟩ := fun o i => by unfold Addr.add; split <;> simp_all
          have hadd2 : ∀ i j, ((⟨b, off, none⟩ : Addr).add i).add j = ⟨b, off + i + j, none⟩ := fun i j => by rw [hadd1, hadd1]
          have hel : ∀ i, i < len → ∃ (x : Req) (c0 c1 c2 c3 c4 c5 c6 : Value), W.cell? ⟨b, off + i * 7, none⟩ = some c0 ∧ W.cell? ⟨b, off + i * 7 + 1, none⟩ = some c1 ∧ W.cell? ⟨b, off + i * 7 + 2, none⟩ = some c2 ∧ W.cell? ⟨b, off + i * 7 + 3, none⟩ = some c3 ∧ W.cell? ⟨b, off + i * 7 + 4, none⟩ = some c4 ∧ W.cell? ⟨b, off + i * 7 + 5, none⟩ = some c5 ∧ W.cell? ⟨b, off + i * 7 + 6, none⟩ = some c6 ∧ ReqAt (fun q => q < W.heap.size) W x (.agg #[c0, c1, c2, c3, c4, c5, c6]) ∧ wt x ≤ 200 * (fun i => Rows.uptoBulk (D i)) i := fun i hil => by
            obtain ⟨cs', hc, ht'⟩ := hi i (by omega)
            rw [Tryz.cellsRq] at hc
            obtain ⟨_, hcl, hat⟩ := World.cells?_some hc
            obtain ⟨x, c0, c1, c2, c3, c4, c5, c6, hcse, hx1, hx2⟩ := openRq N n cs' (D i, Pl i) (hDle i hil) ht'
            subst hcse
            refine ⟨x, c0, c1, c2, c3, c4, c5, c6, ?_, ?_, ?_, ?_, ?_, ?_, ?_, hx1, hx2⟩
            · have := hat 0 (by omega); rw [hadd2] at this; simpa using this
            · have := hat 1 (by omega); rw [hadd2] at this; simpa using this
            · have := hat 2 (by omega); rw [hadd2] at this; simpa using this
            · have := hat 3 (by omega); rw [hadd2] at this; simpa using this
            · have := hat 4 (by omega); rw [hadd2] at this; simpa using this
            · have := hat 5 (by omega); rw [hadd2] at this; simpa using this
            · have := hat 6 (by omega); rw [hadd2] at this; simpa using this
          obtain ⟨l, g1, g2, g3⟩ := collRq hb hel len 0 (by omega)
          rw [hsum] at g3
          subst g1
          refine ⟨.mk n0 n1 n2 n3 l4 l5 l, _, _, _, _, _, _, _, rfl, ?_, ?_⟩
          · rw [ReqAt]
            exact ⟨_, _, _, _, rfl, ⟨a4, b4⟩, ⟨a5, b5⟩, g2, hml⟩
          · (simp only [wt, wtF, Req.list, Req.entries, Req.asks]; have hp0 := bulk_pos y0.1; omega)

noncomputable def Tryz.repFlds : Array Field := match Tryz.prog.underlying 48 with
  | some (.struct fs) => fs
  | _ => #[]
theorem Tryz.underRp : Tryz.prog.underlying 48 = some (.struct Tryz.repFlds) := by kernel_rfl
theorem Tryz.laidRp : (Tryz.repFlds.toList.map fun f => (f.type, f.offset, Tryz.prog.cellsOf f.type)) = [(45, 0, 1), (3, 1, 1), (3, 2, 1), (3, 3, 1), (9, 4, 1), (23, 5, 1), (23, 6, 1), (46, 7, 1)] := by kernel_rfl
theorem Tryz.cellsRp : Tryz.prog.cellsOf 48 = 8 := by kernel_rfl
theorem fieldRp_at {j : Nat} {t : TypeId} {o c : Nat} (hj : ([(45, 0, 1), (3, 1, 1), (3, 2, 1), (3, 3, 1), (9, 4, 1), (23, 5, 1), (23, 6, 1), (46, 7, 1)] : List (TypeId × Nat × Nat))[j]? = some (t, o, c)) : ∃ f, Tryz.repFlds[j]? = some f ∧ f.type = t ∧ f.offset = o ∧ Tryz.prog.cellsOf f.type = c := by
  rw [← Tryz.laidRp, List.getElem?_map, Array.getElem?_toList] at hj
  cases hf : Tryz.repFlds[j]? with
  | none => rw [hf] at hj; cases hj
  | some f =>
    rw [hf] at hj
    simp only [Option.map_some, Option.some.injEq, Prod.mk.injEq] at hj
    exact ⟨f, rfl, hj.1, hj.2.1, hj.2.2⟩
/-- the elements of a list, one after the other -/
theorem collRp {W : World} {b off len : Nat} {g : Nat → Nat} (hb : b < W.heap.size) (h : ∀ i, i < len → ∃ (x : Rep) (c0 c1 c2 c3 c4 c5 c6 c7 : Value), W.cell? ⟨b, off + i * 8, none⟩ = some c0 ∧ W.cell? ⟨b, off + i * 8 + 1, none⟩ = some c1 ∧ W.cell? ⟨b, off + i * 8 + 2, none⟩ = some c2 ∧ W.cell? ⟨b, off + i * 8 + 3, none⟩ = some c3 ∧ W.cell? ⟨b, off + i * 8 + 4, none⟩ = some c4 ∧ W.cell? ⟨b, off + i * 8 + 5, none⟩ = some c5 ∧ W.cell? ⟨b, off + i * 8 + 6, none⟩ = some c6 ∧ W.cell? ⟨b, off + i * 8 + 7, none⟩ = some c7 ∧ RepAt (fun q => q < W.heap.size) W x (.agg #[c0, c1, c2, c3, c4, c5, c6, c7]) ∧ wtQ x ≤ 200 * g i) :
    ∀ (j k : Nat), k + j = len → ∃ l : List Rep, l.length = j ∧ RepsAt (fun q => q < W.heap.size) W l (some ⟨b, off, none⟩) k ∧ wtPs l ≤ 200 * (((List.range len).drop k).map g).sum
  | 0, k, _ => ⟨[], rfl, by rw [RepsAt]; trivial, by simp [wtPs]⟩
  | j + 1, k, hk => by
    obtain ⟨x, c0, c1, c2, c3, c4, c5, c6, c7, h0, h1, h2, h3, h4, h5, h6, h7, hx, hw⟩ := h k (by omega)
    obtain ⟨l, p1, p2, p3⟩ := collRp hb h j (k + 1) (by omega)
    refine ⟨x :: l, by simp [p1], ?_, ?_⟩
    · rw [RepsAt]
      exact ⟨⟨b, off, c0, c1, c2, c3, c4, c5, c6, c7, rfl, hb, hb, h0, h1, h2, h3, h4, h5, h6, h7, hx⟩, p2⟩
    · have hd : (List.range len).drop k = k :: (List.range len).drop (k + 1) := by
        rw [List.drop_eq_getElem_cons (by simp; omega)]
        simp
      rw [hd, List.map_cons, List.sum_cons]
      simp only [wtPs]
      have := wtP_wtQ x
      omega

set_option maxRecDepth 100000 in
set_option maxHeartbeats 1000000 in
theorem openRp {H : Type} {enc : TypeId × Value → H} {W : World} : ∀ (N fuel : Nat) (cs : List Value) (y : DataW H × List MemPlace), Rows.uptoBulk y.1 ≤ N → DataW.trod enc Tryz.prog W 0 (fun _ => true) true fuel 48 cs = some y →
    ∃ (R : Rep) (c0 c1 c2 c3 c4 c5 c6 c7 : Value), cs = [c0, c1, c2, c3, c4, c5, c6, c7] ∧ RepAt (fun q => q < W.heap.size) W R (.agg #[c0, c1, c2, c3, c4, c5, c6, c7]) ∧ wtQ R ≤ 200 * Rows.uptoBulk y.1
  | 0, fuel, cs, y, hN, _ => by have := bulk_pos y.1; omega
  | N + 1, fuel, cs, y, hN, hf => by
    obtain ⟨xs, n', _, hy, hlen, hyl, hfl⟩ := DataW.trod_struct Tryz.underRp hf
    have hsz : Tryz.repFlds.size = 8 := by
      have := congrArg List.length Tryz.laidRp
      simpa using this
    rw [hsz] at hyl
    rw [Tryz.cellsRp] at hlen
    match cs, hlen, xs, hyl with
    | [c0, c1, c2, c3, c4, c5, c6, c7], _, [y0, y1, y2, y3, y4, y5, y6, y7], _ =>
      have at_ : ∀ (j : Nat) (t : TypeId) (o c : Nat), ([(45, 0, 1), (3, 1, 1), (3, 2, 1), (3, 3, 1), (9, 4, 1), (23, 5, 1), (23, 6, 1), (46, 7, 1)] : List (TypeId × Nat × Nat))[j]? = some (t, o, c) →
          DataW.trod enc Tryz.prog W 0 (fun _ => true) true n' t ((([c0, c1, c2, c3, c4, c5, c6, c7] : List Value).drop o).take c) = ([y0, y1, y2, y3, y4, y5, y6, y7] : List (DataW H × List MemPlace))[j]? := by
        intro j t o c hj
        obtain ⟨f, hf1, rfl, rfl, rfl⟩ := fieldRp_at hj
        exact hfl j f hf1
      have t0 := at_ 0 _ _ _ rfl
      have t1 := at_ 1 _ _ _ rfl
      have t2 := at_ 2 _ _ _ rfl
      have t3 := at_ 3 _ _ _ rfl
      have t4 := at_ 4 _ _ _ rfl
      have t5 := at_ 5 _ _ _ rfl
      have t6 := at_ 6 _ _ _ rfl
      have t7 := at_ 7 _ _ _ rfl
      obtain ⟨n0, h0, e0, _⟩ := DataW.trod_int Tryz.underlying45 t0
      simp at h0
      subst h0
      obtain ⟨n1, h1, e1, _⟩ := DataW.trod_int Tryz.underlying3 t1
      simp at h1
      subst h1
      obtain ⟨n2, h2, e2, _⟩ := DataW.trod_int Tryz.underlying3 t2
      simp at h2
      subst h2
      obtain ⟨n3, h3, e3, _⟩ := DataW.trod_int Tryz.underlying3 t3
      simp at h3
      subst h3
      obtain ⟨s4, h4, e4, w4⟩ := DataW.trod_string Tryz.underlying9 t4
      simp at h4
      subst h4
      have hs4 : Rows.uptoBulk y4.1 = s4.data.toList.length + 1 := by rw [e4]; exact bulk_lit_str _
      obtain ⟨l5, a5, b5, k5, m5⟩ := texts_of_trod (v := c5) t5
      obtain ⟨l6, a6, b6, k6, m6⟩ := texts_of_trod (v := c6) t6
      have hbd : Rows.uptoBulk y.1 = Rows.uptoBulkAll [y0.1, y1.1, y2.1, y3.1, y4.1, y5.1, y6.1, y7.1] + 1 := by rw [hy]; rfl
      simp only [Rows.uptoBulkAll] at hbd
      rcases open_slice Tryz.underlying46 t7 with ⟨hcs, hx⟩ | ⟨a, len, cap, m, n, D, Pl, hcs, _, hl, hm, hmm, hx, hi⟩
      · simp at hcs
        subst hcs
        refine ⟨.mk n0 n1 n2 n3 s4.data.toList l5 l6 [], _, _, _, _, _, _, _, _, rfl, ?_, ?_⟩
        · rw [RepAt]
          exact ⟨_, _, _, _, rfl, ⟨a5, b5⟩, ⟨a6, b6⟩, by rw [RepsAt]; trivial, by simp⟩
        · have hb1 : 1 ≤ Rows.uptoBulk y7.1 := bulk_pos _
          (simp only [wtQ, wtR, Rep.hashes, Rep.entries, Rep.root, Rep.replies, wtPs]; have hten := bulk_ten l5; have hp1 := bulk_pos y1.1; have hp2 := bulk_pos y2.1; have hp3 := bulk_pos y3.1; have hp0 := bulk_pos y0.1; omega)
      · simp at hcs
        subst hcs
        simp only [if_true] at hmm
        have hml : len ≤ 9223372036854775807 := by unfold maxLen at hm; omega
        have hbl : Rows.uptoBulk y7.1 = Rows.uptoBulkAll ((List.range len).map D) + Rows.uptoBulkAll ((List.range (m - len)).map fun j => D (len + j)) + 1 := by rw [hx]; rfl
        have hsum : (((List.range len).drop 0).map fun i => Rows.uptoBulk (D i)).sum = Rows.uptoBulkAll ((List.range len).map D) := by
          rw [List.drop_zero]
          generalize List.range len = l
          induction l with
          | nil => rfl
          | cons x r ih => rw [List.map_cons, List.sum_cons, List.map_cons, Rows.uptoBulkAll, ih]
        have hDle : ∀ i, i < len → Rows.uptoBulk (D i) ≤ N := fun i hi' => by
          have := bulkAll_mem (l := (List.range len).map D) (x := D i) (List.mem_map.2 ⟨i, by simpa using hi', rfl⟩)
          omega
        rcases Nat.eq_zero_or_pos len with h0 | hpos
        · subst h0
          refine ⟨.mk n0 n1 n2 n3 s4.data.toList l5 l6 [], _, _, _, _, _, _, _, _, rfl, ?_, ?_⟩
          · rw [RepAt]
            exact ⟨_, _, _, _, rfl, ⟨a5, b5⟩, ⟨a6, b6⟩, by rw [RepsAt]; trivial, by simp⟩
          · have hb1 : 1 ≤ Rows.uptoBulk y7.1 := bulk_pos _
            (simp only [wtQ, wtR, Rep.hashes, Rep.entries, Rep.root, Rep.replies, wtPs]; have hten := bulk_ten l5; have hp1 := bulk_pos y1.1; have hp2 := bulk_pos y2.1; have hp3 := bulk_pos y3.1; have hp0 := bulk_pos y0.1; omega)
        · have hspot : a.spot = none ∧ a.block < W.heap.size := by
            obtain ⟨cs0, hd0, _⟩ := hi 0 (by omega)
            rw [Tryz.cellsRp] at hd0
            obtain ⟨_, hz, hw⟩ := World.cells?_some hd0
            have h1 := hw 0 (by omega)
            have e : cs0[0]? = some (cs0[0]'(by omega)) := List.getElem?_eq_getElem _
            rw [e] at h1
            simp only [Addr.add, Nat.zero_mul, if_true] at h1
            exact ⟨World.cell?_spot h1, World.block_lt_of_cell? W _ h1⟩
          obtain ⟨b, off, spot⟩ := a
          obtain ⟨hs, hb⟩ := hspot
          simp only at hs hb
          subst hs
          have hadd1 : ∀ o i, (⟨b, o, none⟩ : Addr).add i = ⟨b, o + i, none⟩ := fun o i => by unfold Addr.add; split <;> simp_all
          have hadd2 : ∀ i j, ((⟨b, off, none⟩ : Addr).add i).add j = ⟨b, off + i + j, none⟩ := fun i j => by rw [hadd1, hadd1]
          have hel : ∀ i, i < len → ∃ (x : Rep) (c0 c1 c2 c3 c4 c5 c6 c7 : Value), W.cell? ⟨b, off + i * 8, none⟩ = some c0 ∧ W.cell? ⟨b, off + i * 8 + 1, none⟩ = some c1 ∧ W.cell? ⟨b, off + i * 8 + 2, none⟩ = some c2 ∧ W.cell? ⟨b, off + i * 8 + 3, none⟩ = some c3 ∧ W.cell? ⟨b, off + i * 8 + 4, none⟩ = some c4 ∧ W.cell? ⟨b, off + i * 8 + 5, none⟩ = some c5 ∧ W.cell? ⟨b, off + i * 8 + 6, none⟩ = some c6 ∧ W.cell? ⟨b, off + i * 8 + 7, none⟩ = some c7 ∧ RepAt (fun q => q < W.heap.size) W x (.agg #[c0, c1, c2, c3, c4, c5, c6, c7]) ∧ wtQ x ≤ 200 * (fun i => Rows.uptoBulk (D i)) i := fun i hil => by
            obtain ⟨cs', hc, ht'⟩ := hi i (by omega)
            rw [Tryz.cellsRp] at hc
            obtain ⟨_, hcl, hat⟩ := World.cells?_some hc
            obtain ⟨x, c0, c1, c2, c3, c4, c5, c6, c7, hcse, hx1, hx2⟩ := openRp N n cs' (D i, Pl i) (hDle i hil) ht'
            subst hcse
            refine ⟨x, c0, c1, c2, c3, c4, c5, c6, c7, ?_, ?_, ?_, ?_, ?_, ?_, ?_, ?_, hx1, hx2⟩
            · have := hat 0 (by omega); rw [hadd2] at this; simpa using this
            · have := hat 1 (by omega); rw [hadd2] at this; simpa using this
            · have := hat 2 (by omega); rw [hadd2] at this; simpa using this
            · have := hat 3 (by omega); rw [hadd2] at this; simpa using this
            · have := hat 4 (by omega); rw [hadd2] at this; simpa using this
            · have := hat 5 (by omega); rw [hadd2] at this; simpa using this
            · have := hat 6 (by omega); rw [hadd2] at this; simpa using this
            · have := hat 7 (by omega); rw [hadd2] at this; simpa using this
          obtain ⟨l, g1, g2, g3⟩ := collRp hb hel len 0 (by omega)
          rw [hsum] at g3
          subst g1
          refine ⟨.mk n0 n1 n2 n3 s4.data.toList l5 l6 l, _, _, _, _, _, _, _, _, rfl, ?_, ?_⟩
          · rw [RepAt]
            exact ⟨_, _, _, _, rfl, ⟨a5, b5⟩, ⟨a6, b6⟩, g2, hml⟩
          · (simp only [wtQ, wtR, Rep.hashes, Rep.entries, Rep.root, Rep.replies]; have hten := bulk_ten l5; have hp1 := bulk_pos y1.1; have hp2 := bulk_pos y2.1; have hp3 := bulk_pos y3.1; have hp0 := bulk_pos y0.1; omega)
end Go.Proofs.YtpccaodkgboefaaGreatDoor
