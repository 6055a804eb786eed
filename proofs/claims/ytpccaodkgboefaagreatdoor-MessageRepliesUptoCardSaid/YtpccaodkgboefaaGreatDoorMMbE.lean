/-
  A reply as it came in, weighed with all that is within.
  MessageEncodes, walked.
  MessageReplies, walked.
-/
import Derived.Test.YtpccaodkgboefaaGreatDoorMMsJ
import Derived.Test.YtpccaodkgboefaaGreatDoorMMb
import Derived.Test.YtpccaodkgboefaaGreatDoorMMsH
import Derived.Test.YtpccaodkgboefaaGreatDoorMMr
namespace Go.Proofs.YtpccaodkgboefaaGreatDoor
open Go.RowKit Go.ChangeShapes Go.WideShapes Go.ChangeAt Go.Deep

mutual
def totR : Rep → Nat
  | .mk _ _ _ _ t h e p => 140 + 33 * h.length + bulk e + e.length + t.length + totRs p
def totRs : List Rep → Nat
  | [] => 0
  | x :: r => totR x + totRs r
end
theorem totRs_len : ∀ (l : List Rep), l.length ≤ totRs l
  | [] => by simp
  | x :: r => by
    have := totRs_len r
    have h : 140 ≤ totR x := by cases x; rw [totR]; omega
    rw [totRs, List.length_cons]
    omega
theorem totRs_wt : ∀ (l : List Rep), wtPs l ≤ totRs l
  | [] => by simp [wtPs]
  | x :: r => by
    have := totRs_wt r
    have h : wtP x ≤ totR x := by
      cases x
      rw [totR, wtP]
      simp only [Rep.hashes, Rep.root]
      omega
    rw [totRs, wtPs]
    omega
theorem totR_wt (R : Rep) : wtR R ≤ totR R := by
  cases R with
  | mk z s a b t h e p =>
    have := totRs_wt p
    rw [totR, wtR]
    simp only [Rep.hashes, Rep.entries, Rep.root, Rep.replies]
    omega
mutual
theorem totR_fine : ∀ (R : Rep), totR R ≤ 9223372036854775807 → FineR R
  | .mk _ _ _ _ t hh e p, h => by
    rw [totR] at h
    rw [FineR]
    exact ⟨by omega, by omega, totRs_fine p (by omega)⟩
theorem totRs_fine : ∀ (l : List Rep), totRs l ≤ 9223372036854775807 → FineRs l
  | [], _ => by rw [FineRs]; trivial
  | x :: r, h => by
    rw [totRs] at h
    rw [FineRs]
    exact ⟨totR_fine x (by omega), totRs_fine r (by omega)⟩
end
mutual
theorem totR_tiny : ∀ (R : Rep), totR R ≤ 1000000000 → TinyR R
  | .mk _ _ _ _ t hh e p, h => by
    rw [totR] at h
    have := totRs_len p
    rw [TinyR]
    exact ⟨by omega, by omega, by omega, totRs_tiny p (by omega)⟩
theorem totRs_tiny : ∀ (l : List Rep), totRs l ≤ 1000000000 → TinyRs l
  | [], _ => by rw [TinyRs]; trivial
  | x :: r, h => by
    rw [totRs] at h
    rw [TinyRs]
    exact ⟨totR_tiny x (by omega), totRs_tiny r (by omega)⟩
end
mutual
theorem totR_cnt : ∀ (R : Rep), cntR R ≤ totR R
  | .mk _ _ _ _ t hh e p => by
    have := totRs_cnt p
    rw [totR, cntR]
    omega
theorem totRs_cnt : ∀ (l : List Rep), cntRs l ≤ totRs l
  | [] => by simp [cntRs]
  | x :: r => by
    have := totR_cnt x
    have := totRs_cnt r
    rw [totRs, cntRs]
    omega
end

/-- the elements of a list, one after the other -/
theorem collRpT {W : World} {b off len : Nat} {g : Nat → Nat} (hb : b < W.heap.size) (h : ∀ i, i < len → ∃ (x : Rep) (c0 c1 c2 c3 c4 c5 c6 c7 : Value), W.cell? ⟨b, off + i * 8, none⟩ = some c0 ∧ W.cell? ⟨b, off + i * 8 + 1, none⟩ = some c1 ∧ W.cell? ⟨b, off + i * 8 + 2, none⟩ = some c2 ∧ W.cell? ⟨b, off + i * 8 + 3, none⟩ = some c3 ∧ W.cell? ⟨b, off + i * 8 + 4, none⟩ = some c4 ∧ W.cell? ⟨b, off + i * 8 + 5, none⟩ = some c5 ∧ W.cell? ⟨b, off + i * 8 + 6, none⟩ = some c6 ∧ W.cell? ⟨b, off + i * 8 + 7, none⟩ = some c7 ∧ RepAt (fun q => q < W.heap.size) W x (.agg #[c0, c1, c2, c3, c4, c5, c6, c7]) ∧ totR x ≤ 200 * g i) :
    ∀ (j k : Nat), k + j = len → ∃ l : List Rep, l.length = j ∧ RepsAt (fun q => q < W.heap.size) W l (some ⟨b, off, none⟩) k ∧ totRs l ≤ 200 * (((List.range len).drop k).map g).sum
  | 0, k, _ => ⟨[], rfl, by rw [RepsAt]; trivial, by simp [totRs]⟩
  | j + 1, k, hk => by
    obtain ⟨x, c0, c1, c2, c3, c4, c5, c6, c7, h0, h1, h2, h3, h4, h5, h6, h7, hx, hw⟩ := h k (by omega)
    obtain ⟨l, p1, p2, p3⟩ := collRpT hb h j (k + 1) (by omega)
    refine ⟨x :: l, by simp [p1], ?_, ?_⟩
    · rw [RepsAt]
      exact ⟨⟨b, off, c0, c1, c2, c3, c4, c5, c6, c7, rfl, hb, hb, h0, h1, h2, h3, h4, h5, h6, h7, hx⟩, p2⟩
    · have hd : (List.range len).drop k = k :: (List.range len).drop (k + 1) := by
        rw [List.drop_eq_getElem_cons (by simp; omega)]
        simp
      rw [hd, List.map_cons, List.sum_cons]
      simp only [totRs]
      omega

set_option maxRecDepth 100000 in
set_option maxHeartbeats 1000000 in
theorem openRpT {H : Type} {enc : TypeId × Value → H} {W : World} : ∀ (N fuel : Nat) (cs : List Value) (y : DataW H × List MemPlace), Rows.uptoBulk y.1 ≤ N → DataW.trod enc Tryz.prog W 0 (fun _ => true) true fuel 48 cs = some y →
    ∃ (R : Rep) (c0 c1 c2 c3 c4 c5 c6 c7 : Value), cs = [c0, c1, c2, c3, c4, c5, c6, c7] ∧ RepAt (fun q => q < W.heap.size) W R (.agg #[c0, c1, c2, c3, c4, c5, c6, c7]) ∧ totR R ≤ 200 * Rows.uptoBulk y.1
  | 0, fuel, cs, y, hN, _ => by have := bulk_pos y.1; omega
  | N + 1, fuel, cs, y, hN, hf => by
    obtain ⟨xs, n', _, hy, hlen, hyl, hfl⟩ := DataW.trod_struct Tryz.underRp hf
    have hsz : Tryz.repFlds.size = 8 := by
      have := congrArg List.length Tryz.laidRp
      simpa using this
    rw [hsz] at hyl
    rw [Tryz.cellsRp] at hlen
    match cs, hlen, xs, hyl with
    | [c0, c1, c2, c3, c4, c5, c6, c7], _, [y0, y1, y2, y3, y4, y5, y6, y7], _ =>
      have at_ : ∀ (j : Nat) (t : TypeId) (o c : Nat), ([(45, 0, 1), (3, 1, 1), (3, 2, 1), (3, 3, 1), (9, 4, 1), (23, 5, 1), (23, 6, 1), (46, 7, 1)] : List (TypeId × Nat × Nat))[j]? = some (t, o, c) →
          DataW.trod enc Tryz.prog W 0 (fun _ => true) true n' t ((([c0, c1, c2, c3, c4, c5, c6, c7] : List Value).drop o).take c) = ([y0, y1, y2, y3, y4, y5, y6, y7] : List (DataW H × List MemPlace))[j]? := by
        intro j t o c hj
        obtain ⟨f, hf1, rfl, rfl, rfl⟩ := fieldRp_at hj
        exact hfl j f hf1
      have t0 := at_ 0 _ _ _ rfl
      have t1 := at_ 1 _ _ _ rfl
      have t2 := at_ 2 _ _ _ rfl
      have t3 := at_ 3 _ _ _ rfl
      have t4 := at_ 4 _ _ _ rfl
      have t5 := at_ 5 _ _ _ rfl
      have t6 := at_ 6 _ _ _ rfl
      have t7 := at_ 7 _ _ _ rfl
      obtain ⟨n0, h0, e0, _⟩ := DataW.trod_int Tryz.underlying45 t0
      simp at h0
      subst h0
      obtain ⟨n1, h1, e1, _⟩ := DataW.trod_int Tryz.underlying3 t1
      simp at h1
      subst h1
      obtain ⟨n2, h2, e2, _⟩ := DataW.trod_int Tryz.underlying3 t2
      simp at h2
      subst h2
      obtain ⟨n3, h3, e3, _⟩ := DataW.trod_int Tryz.underlying3 t3
      simp at h3
      subst h3
      obtain ⟨s4, h4, e4, w4⟩ := DataW.trod_string Tryz.underlying9 t4
      simp at h4
      subst h4
      have hs4 : Rows.uptoBulk y4.1 = s4.data.toList.length + 1 := by rw [e4]; exact bulk_lit_str _
      obtain ⟨l5, a5, b5, k5, m5⟩ := texts_of_trod (v := c5) t5
      obtain ⟨l6, a6, b6, k6, m6⟩ := texts_of_trod (v := c6) t6
      have hbd : Rows.uptoBulk y.1 = Rows.uptoBulkAll [y0.1, y1.1, y2.1, y3.1, y4.1, y5.1, y6.1, y7.1] + 1 := by rw [hy]; rfl
      simp only [Rows.uptoBulkAll] at hbd
      rcases open_slice Tryz.underlying46 t7 with ⟨hcs, hx⟩ | ⟨a, len, cap, m, n, D, Pl, hcs, _, hl, hm, hmm, hx, hi⟩
      · simp at hcs
        subst hcs
        refine ⟨.mk n0 n1 n2 n3 s4.data.toList l5 l6 [], _, _, _, _, _, _, _, _, rfl, ?_, ?_⟩
        · rw [RepAt]
          exact ⟨_, _, _, _, rfl, ⟨a5, b5⟩, ⟨a6, b6⟩, by rw [RepsAt]; trivial, by simp⟩
        · have hb1 : 1 ≤ Rows.uptoBulk y7.1 := bulk_pos _
          (simp only [totR, totRs]; have hten := bulk_ten l5; have hp1 := bulk_pos y1.1; have hp2 := bulk_pos y2.1; have hp3 := bulk_pos y3.1; have hp0 := bulk_pos y0.1; omega)
      · simp at hcs
        subst hcs
        simp only [if_true] at hmm
        have hml : len ≤ 9223372036854775807 := by unfold maxLen at hm; omega
        have hbl : Rows.uptoBulk y7.1 = Rows.uptoBulkAll ((List.range len).map D) + Rows.uptoBulkAll ((List.range (m - len)).map fun j => D (len + j)) + 1 := by rw [hx]; rfl
        have hsum : (((List.range len).drop 0).map fun i => Rows.uptoBulk (D i)).sum = Rows.uptoBulkAll ((List.range len).map D) := by
          rw [List.drop_zero]
          generalize List.range len = l
          induction l with
          | nil => rfl
          | cons x r ih => rw [List.map_cons, List.sum_cons, List.map_cons, Rows.uptoBulkAll, ih]
        have hDle : ∀ i, i < len → Rows.uptoBulk (D i) ≤ N := fun i hi' => by
          have := bulkAll_mem (l := (List.range len).map D) (x := D i) (List.mem_map.2 ⟨i, by simpa using hi', rfl⟩)
          omega
        rcases Nat.eq_zero_or_pos len with h0 | hpos
        · subst h0
          refine ⟨.mk n0 n1 n2 n3 s4.data.toList l5 l6 [], _, _, _, _, _, _, _, _, rfl, ?_, ?_⟩
          · rw [RepAt]
            exact ⟨_, _, _, _, rfl, ⟨a5, b5⟩, ⟨a6, b6⟩, by rw [RepsAt]; trivial, by simp⟩
          · have hb1 : 1 ≤ Rows.uptoBulk y7.1 := bulk_pos _
            (simp only [totR, totRs]; have hten := bulk_ten l5; have hp1 := bulk_pos y1.1; have hp2 := bulk_pos y2.1; have hp3 := bulk_pos y3.1; have hp0 := bulk_pos y0.1; omega)
        · have hspot : a.spot = none ∧ a.block < W.heap.size := by
            obtain ⟨cs0, hd0, _⟩ := hi 0 (by omega)
            rw [Tryz.cellsRp] at hd0
            obtain ⟨_, hz, hw⟩ := World.cells?_some hd0
            have h1 := hw 0 (by omega)
            have e : cs0[0]? = some (cs0[0]'(by omega)) := List.getElem?_eq_getElem _
            rw [e] at h1
            simp only [Addr.add, Nat.zero_mul, if_true] at h1
            exact ⟨World.cell?_spot h1, World.block_lt_of_cell? W _ h1⟩
          obtain ⟨b, off, spot⟩ := a
          obtain ⟨hs, hb⟩ := hspot
          simp only at hs hb
          subst hs
          have hadd1 : ∀ o i, (⟨b, o, none⟩ : Addr).add i = ⟨b, o + i, none⟩ := fun o i => by unfold Addr.add; split <;> simp_all
          have hadd2 : ∀ i j, ((⟨b, off, none⟩ : Addr).add i).add j = ⟨b, off + i + j, none⟩ := fun i j => by rw [hadd1, hadd1]
          have hel : ∀ i, i < len → ∃ (x : Rep) (c0 c1 c2 c3 c4 c5 c6 c7 : Value), W.cell? ⟨b, off + i * 8, none⟩ = some c0 ∧ W.cell? ⟨b, off + i * 8 + 1, none⟩ = some c1 ∧ W.cell? ⟨b, off + i * 8 + 2, none⟩ = some c2 ∧ W.cell? ⟨b, off + i * 8 + 3, none⟩ = some c3 ∧ W.cell? ⟨b, off + i * 8 + 4, none⟩ = some c4 ∧ W.cell? ⟨b, off + i * 8 + 5, none⟩ = some c5 ∧ W.cell? ⟨b, off + i * 8 + 6, none⟩ = some c6 ∧ W.cell? ⟨b, off + i * 8 + 7, none⟩ = some c7 ∧ RepAt (fun q => q < W.heap.size) W x (.agg #[c0, c1, c2, c3, c4, c5, c6, c7]) ∧ totR x ≤ 200 * (fun i => Rows.uptoBulk (D i)) i := fun i hil => by
            obtain ⟨cs', hc, ht'⟩ := hi i (by omega)
            rw [Tryz.cellsRp] at hc
            obtain ⟨_, hcl, hat⟩ := World.cells?_some hc
            obtain ⟨x, c0, c1, c2, c3, c4, c5, c6, c7, hcse, hx1, hx2⟩ := openRpT N n cs' (D i, Pl i) (hDle i hil) ht'
            subst hcse
            refine ⟨x, c0, c1, c2, c3, c4, c5, c6, c7, ?_, ?_, ?_, ?_, ?_, ?_, ?_, ?_, hx1, hx2⟩
            · have := hat 0 (by omega); rw [hadd2] at this; simpa using this
            · have := hat 1 (by omega); rw [hadd2] at this; simpa using this
            · have := hat 2 (by omega); rw [hadd2] at this; simpa using this
            · have := hat 3 (by omega); rw [hadd2] at this; simpa using this
            · have := hat 4 (by omega); rw [hadd2] at this; simpa using this
            · have := hat 5 (by omega); rw [hadd2] at this; simpa using this
            · have := hat 6 (by omega); rw [hadd2] at this; simpa using this
            · have := hat 7 (by omega); rw [hadd2] at this; simpa using this
          obtain ⟨l, g1, g2, g3⟩ := collRpT hb hel len 0 (by omega)
          rw [hsum] at g3
          subst g1
          refine ⟨.mk n0 n1 n2 n3 s4.data.toList l5 l6 l, _, _, _, _, _, _, _, _, rfl, ?_, ?_⟩
          · rw [RepAt]
            exact ⟨_, _, _, _, rfl, ⟨a5, b5⟩, ⟨a6, b6⟩, g2, hml⟩
          · (simp only [totR]; have hten := bulk_ten l5; have hp1 := bulk_pos y1.1; have hp2 := bulk_pos y2.1; have hp3 := bulk_pos y3.1; have hp0 := bulk_pos y0.1; omega)
end Go.Proofs.YtpccaodkgboefaaGreatDoor

namespace Go.Proofs.YtpccaodkgboefaaGreatDoor
open Go.RowKit

theorem Book.start {w : World} {b : Nat} (hg : 1 ≤ b) (h : w.heap[b]? = some (.cells #[.slice none 0 0, .slice none 0 0, .slice none 0 0, .slice none 0 0] 34 (0, 0))) : Book (fun q => q = b) (fun _ => False) w b 0 :=
  ⟨fun _ => .slice none 0 0, fun _ => [], ⟨hg, h, rfl, fun q hq => by subst hq; exact lt_of_block h, fun _ h => h.elim, fun i => World.ownsRow_nil _ _ _ _, fun i g hg => (by cases hg), fun i j g _ hg => (by cases hg), fun i x hx => (by cases hx)⟩, fun i => Nat.le_refl _⟩
theorem enc_len {R : Req} (h : wt R ≤ 300000000) : (fieldsOf (wByte ([], 0) R.kind) R).1.length ≤ 9223372036854775807 := by
  have h1 := fieldsOf_len (R := R) (wByte ([], 0) R.kind) (by omega)
  have h2 := wByte_len ([], 0) R.kind
  simp at h2
  omega

set_option maxRecDepth 100000 in
set_option maxHeartbeats 8000000 in
theorem encodes_any (R : Req) (v : Value) (w : World) (hl : Laid w) (hv : ReqAt (fun q => q < w.heap.size) w R v) (hfi : Fine R) (hti : Tiny R) (hwt : wt R ≤ 300000000) (hcn : cnt R ≤ 4000000000) :
    Calls Tryz.prog 3 #[v] w fun e w' => e = .returned (.bool true) ∧ Fresh w w' := by
  have hg := World.block_lt_of_cell? w _ hl
  simp only at hg
  have HV := hid hv
  obtain ⟨lv, ev, ao, cap, rfl, ⟨hl1, -⟩, ⟨he1, -⟩, hreqs, hal⟩ := hv.parts
  obtain ⟨al, cl, rfl, -⟩ := hl1.ints_
  obtain ⟨ae, ce, rfl, -⟩ := he1.texts
  have hbox := heap_alloc_new w (.cells #[.int .i64 R.kind, .int .i64 R.a, .int .i64 R.b, .int .i64 R.size, .slice al R.list.length cl, .slice ae R.entries.length ce, .slice ao R.asks.length cap] 26)
  have f0 : Fresh w (w.alloc (.cells #[.int .i64 R.kind, .int .i64 R.a, .int .i64 R.b, .int .i64 R.size, .slice al R.list.length cl, .slice ae R.entries.length ce, .slice ao R.asks.length cap] 26)) := (Keeps.refl _ _).alloc _
  obtain ⟨w1, hw1⟩ : ∃ w1, w.alloc (.cells #[.int .i64 R.kind, .int .i64 R.a, .int .i64 R.b, .int .i64 R.size, .slice al R.list.length cl, .slice ae R.entries.length ce, .slice ao R.asks.length cap] 26) = w1 := ⟨_, rfl⟩
  obtain ⟨bx, hbx⟩ : ∃ bx, w.heap.size = bx := ⟨_, rfl⟩
  rw [hw1, hbx] at hbox
  rw [hw1] at f0
  have HBX := hid hbox
  clear hbox hl1 he1 hv hreqs
  go_enter Tryz.func3, Tryz.ntmps3
  go_wp2_with fail
  refine (mknown_any w1 (hl.fresh_ f0)).mono ?_
  rintro e w2 ⟨rfl, f2⟩
  clear hw1
  have F2 := f0.trans f2
  have hs2 := F2.size
  have hs02 := f2.size
  have hw1s := lt_of_block HBX.out
  have fb : Fresh w2 (w2.alloc (.cells #[.slice none 0 0, .slice none 0 0, .slice none 0 0, .slice none 0 0] 34)) := (Keeps.refl _ _).alloc _
  have hbk := Book.start (by omega) (heap_alloc_new w2 (.cells #[.slice none 0 0, .slice none 0 0, .slice none 0 0, .slice none 0 0] 34))
  have hs3 : (w2.alloc (.cells #[.slice none 0 0, .slice none 0 0, .slice none 0 0, .slice none 0 0] 34)).heap.size = w2.heap.size + 1 := by simp
  obtain ⟨w3, hw3⟩ : ∃ W, w2.alloc (.cells #[.slice none 0 0, .slice none 0 0, .slice none 0 0, .slice none 0 0] 34) = W := ⟨_, rfl⟩
  obtain ⟨b, hb⟩ : ∃ b, w2.heap.size = b := ⟨_, rfl⟩
  rw [hw3] at fb hbk hs3
  rw [hb] at hbk hs3
  have F3 := F2.trans fb
  have hbX3 := (f2.trans fb).at_ HBX.out (fun h => h)
  have HX3 := hid hbX3
  have x0 := cell_at hbX3 0
  have x1 := cell_at hbX3 1
  have x2 := cell_at hbX3 2
  have x3 := cell_at hbX3 3
  have x4 := cell_at hbX3 4
  have x5 := cell_at hbX3 5
  have x6 := cell_at hbX3 6
  simp at x0 x1 x2 x3 x4 x5 x6
  have HBK := hid hbk
  clear hbk hbX3 HBX f2
  go_wp2_with fail
  refine (lend_any _ R (Nat.le_refl _) hti _ _ (fun q => q < bx) b 0 _ w3 HBK.out (by rw [← hbx]; exact HV.out.fresh F3) (fun q hq hb2 => by subst hq; omega) (fun q hq => by omega) (by omega)).mono ?_
  rintro e w4 ⟨v4, bl, S4, T4, rfl, ho4, hnd, hnew, hN4⟩
  clear x0 x1 x2 x3 x4 x5 x6 hw3
  obtain ⟨al4, cl4, ae4, ce4, aq4, cq4, rfl⟩ := ho4.shape
  obtain ⟨n1, n2, n3, n4⟩ := hN4
  have hs4 := n3.size
  have F4 : Fresh w w4 := F3.trans' n3 fun q hq h => by have h : q = b := h; omega
  have hL4 : Laid w4 := hl.fresh_ F4
  -- 'own' in a cell of its own
  have fc : Fresh w4 (w4.alloc (.cells #[.int .i64 R.kind, .int .i64 R.a, .int .i64 R.b, .int .i64 R.size, .slice al4 R.list.length cl4, .slice ae4 R.entries.length ce4, .slice aq4 R.asks.length cq4] 26)) := (Keeps.refl _ _).alloc _
  have hc5 := heap_alloc_new w4 (.cells #[.int .i64 R.kind, .int .i64 R.a, .int .i64 R.b, .int .i64 R.size, .slice al4 R.list.length cl4, .slice ae4 R.entries.length ce4, .slice aq4 R.asks.length cq4] 26)
  obtain ⟨w5, hw5⟩ : ∃ W, w4.alloc (.cells #[.int .i64 R.kind, .int .i64 R.a, .int .i64 R.b, .int .i64 R.size, .slice al4 R.list.length cl4, .slice ae4 R.entries.length ce4, .slice aq4 R.asks.length cq4] 26) = W := ⟨_, rfl⟩
  obtain ⟨bo, hbo⟩ : ∃ b, w4.heap.size = b := ⟨_, rfl⟩
  rw [hw5] at fc hc5
  rw [hbo] at hc5
  have F5 := F4.trans fc
  have hX5 := (Keeps.trans' (S := fun q => q = b) n3 (fc.mono (S' := fun q => q = b) fun _ _ h => h.elim) (fun _ _ h => h)).at_ HX3.out (show ¬ bx = b by omega)
  have hblt : ∀ q ∈ bl, q < w4.heap.size := fun q hq => ReqOwn.there _ _ _ ho4 q hq
  have HO5 := hid (ReqOwn.fresh fc ho4)
  have HBK4 := hid n4
  have HNEW := hid hnew
  have HBLT := hid hblt
  have HCELL := hid hc5
  have HXX := hid hX5
  have y0 := cell_at hc5 0
  have y1 := cell_at hc5 1
  have y2 := cell_at hc5 2
  have y3 := cell_at hc5 3
  have y4 := cell_at hc5 4
  have y5 := cell_at hc5 5
  have y6 := cell_at hc5 6
  simp at y0 y1 y2 y3 y4 y5 y6
  have hs5 := fc.size
  clear n1 n2 n3 n4 ho4 hnew hblt hc5 hX5 HBK HX3
  go_wp2_with fail
  refine (encode_any (fun q => q ∈ bl) R _ w5 (hl.fresh_ F5) (ReqOwn.at _ _ _ HO5.out _ (fun _ h => h)) (fun q hq => by have := HBLT.out q hq; omega) (by omega) (enc_len hwt)).mono ?_
  rintro e w6 ⟨rfl, f6⟩
  have F6 := F5.trans f6
  have hX6 := f6.at_ HXX.out (fun h => h)
  have hc6 := f6.at_ HCELL.out (fun h => h)
  have x0 := cell_at hX6 0
  have x1 := cell_at hX6 1
  have x2 := cell_at hX6 2
  have x3 := cell_at hX6 3
  have x4 := cell_at hX6 4
  have x5 := cell_at hX6 5
  have x6 := cell_at hX6 6
  simp at x0 x1 x2 x3 x4 x5 x6
  clear y0 y1 y2 y3 y4 y5 y6 HXX HCELL
  have HXX := hid hX6
  have HCELL := hid hc6
  have HO6 := hid (ReqOwn.fresh f6 HO5.out)
  clear hX6 hc6
  go_wp2_with fail
  refine (dencode_any (fun q => q < w.heap.size) R _ w6 (hl.fresh_ F6) (HV.out.fresh F6) (fun q hq => Nat.lt_of_lt_of_le hq F6.size) hfi).mono ?_
  rintro e w7 ⟨rfl, f7⟩
  have F7 := F6.trans f7
  have hX7 := f7.at_ HXX.out (fun h => h)
  have hc7 := f7.at_ HCELL.out (fun h => h)
  clear x0 x1 x2 x3 x4 x5 x6 HXX HCELL
  have x0 := cell_at hX7 0
  have x1 := cell_at hX7 1
  have x2 := cell_at hX7 2
  have x3 := cell_at hX7 3
  have x4 := cell_at hX7 4
  have x5 := cell_at hX7 5
  have x6 := cell_at hX7 6
  have y0 := cell_at hc7 0
  have y1 := cell_at hc7 1
  have y2 := cell_at hc7 2
  have y3 := cell_at hc7 3
  have y4 := cell_at hc7 4
  have y5 := cell_at hc7 5
  have y6 := cell_at hc7 6
  simp at x0 x1 x2 x3 x4 x5 x6 y0 y1 y2 y3 y4 y5 y6
  have HCELL := hid hc7
  have HO7 := hid (ReqOwn.fresh f7 HO6.out)
  clear hX7 hc7
  go_wp2_with fail
  refine (sameRequest_self _ R (Nat.le_refl _) (fun q => q ∈ bl) (fun q => q < w.heap.size) _ _ w7 (ReqOwn.at _ _ _ HO7.out _ (fun _ h => h)) (HV.out.fresh F7) hfi).mono ?_
  rintro e w8 ⟨rfl, f8⟩
  have F8 := F7.trans f8
  have f58 : Fresh w4 w8 := fc.trans (f6.trans (f7.trans f8))
  clear x0 x1 x2 x3 x4 x5 x6 y0 y1 y2 y3 y4 y5 y6
  go_wp2_with fail
  refine (marked_any S4 T4 b _ w8 (HBK4.out.fresh f58) (by omega)).mono ?_
  rintro e w9 ⟨rfl, f9⟩
  have F9 := F8.trans f9
  have hc9 := (f8.trans f9).at_ HCELL.out (fun h => h)
  clear HCELL
  have y0 := cell_at hc9 0
  have y1 := cell_at hc9 1
  have y2 := cell_at hc9 2
  have y3 := cell_at hc9 3
  have y4 := cell_at hc9 4
  have y5 := cell_at hc9 5
  have y6 := cell_at hc9 6
  simp at y0 y1 y2 y3 y4 y5 y6
  have HCELL := hid hc9
  have HO9 := hid (ReqOwn.fresh (f8.trans f9) HO7.out)
  clear hc9
  go_wp2_with fail
  refine (turns_any _ R (Nat.le_refl _) hti _ bl w9 HO9.out hnd).mono ?_
  rintro e wA ⟨rfl, R', hak, hoA, kA⟩
  have FA : Fresh w wA := F9.trans' kA fun q hq h => by have := (HNEW.out q h).1; have := F3.size; omega
  have hcA := kA.at_ HCELL.out (fun h => by have := HBLT.out bo h; omega)
  have hsA := kA.size
  have hboA := lt_of_block hcA
  have hs49 := (f58.trans f9).size
  clear y0 y1 y2 y3 y4 y5 y6 HCELL HO9 HO7 HO6 HO5
  have fd : Fresh wA (wA.alloc (.cells #[.slice none 0 0, .slice none 0 0, .slice none 0 0, .slice none 0 0] 34)) := (Keeps.refl _ _).alloc _
  have hbk2 := Book.start (by have := FA.size; omega) (heap_alloc_new wA (.cells #[.slice none 0 0, .slice none 0 0, .slice none 0 0, .slice none 0 0] 34))
  have hsB : (wA.alloc (.cells #[.slice none 0 0, .slice none 0 0, .slice none 0 0, .slice none 0 0] 34)).heap.size = wA.heap.size + 1 := by simp
  obtain ⟨wB, hwB⟩ : ∃ W, wA.alloc (.cells #[.slice none 0 0, .slice none 0 0, .slice none 0 0, .slice none 0 0] 34) = W := ⟨_, rfl⟩
  obtain ⟨b2, hb2⟩ : ∃ b, wA.heap.size = b := ⟨_, rfl⟩
  rw [hwB] at fd hbk2 hsB
  rw [hb2] at hbk2 hsB
  have FB := FA.trans fd
  have hcB := fd.at_ hcA (fun h => h)
  have HOB := hid (ReqOwn.fresh fd hoA)
  have HCELL := hid hcB
  have HBK := hid hbk2
  have y0 := cell_at hcB 0
  have y1 := cell_at hcB 1
  have y2 := cell_at hcB 2
  have y3 := cell_at hcB 3
  have y4 := cell_at hcB 4
  have y5 := cell_at hcB 5
  have y6 := cell_at hcB 6
  simp at y0 y1 y2 y3 y4 y5 y6
  have hwt' : wt R' ≤ 300000000 := by rw [hak.wt]; exact hwt
  have hcn' : cnt R' ≤ 4000000000 := by rw [hak.cnt]; exact hcn
  have hfi' := hak.fine hfi
  have hti' := hak.tiny hti
  clear hcB hcA hoA hbk2
  go_wp2_with fail
  refine (lend_any _ R' (Nat.le_refl _) hti' _ _ (fun q => q ∈ bl) b2 0 _ wB HBK.out (ReqOwn.at _ _ _ HOB.out _ (fun _ h => h)) (fun q hq hb3 => by subst hq; have := HBLT.out _ hb3; omega) (fun q hq => by have := HBLT.out q hq; omega) (by omega)).mono ?_
  rintro e wC ⟨v5, bl2, S5, T5, rfl, ho5, hnd5, hnew5, hN5⟩
  clear y0 y1 y2 y3 y4 y5 y6 hwB
  obtain ⟨al5, cl5, ae5, ce5, aq5, cq5, rfl⟩ := ho5.shape
  obtain ⟨n1, n2, n3, n4⟩ := hN5
  have hsC := n3.size
  have FC : Fresh w wC := FB.trans' n3 fun q hq h => by have h : q = b2 := h; have := FA.size; omega
  have fe : Fresh wC (wC.alloc (.cells #[.int .i64 R'.kind, .int .i64 R'.a, .int .i64 R'.b, .int .i64 R'.size, .slice al5 R'.list.length cl5, .slice ae5 R'.entries.length ce5, .slice aq5 R'.asks.length cq5] 26)) := (Keeps.refl _ _).alloc _
  have hcE := heap_alloc_new wC (.cells #[.int .i64 R'.kind, .int .i64 R'.a, .int .i64 R'.b, .int .i64 R'.size, .slice al5 R'.list.length cl5, .slice ae5 R'.entries.length ce5, .slice aq5 R'.asks.length cq5] 26)
  obtain ⟨wE, hwE⟩ : ∃ W, wC.alloc (.cells #[.int .i64 R'.kind, .int .i64 R'.a, .int .i64 R'.b, .int .i64 R'.size, .slice al5 R'.list.length cl5, .slice ae5 R'.entries.length ce5, .slice aq5 R'.asks.length cq5] 26) = W := ⟨_, rfl⟩
  obtain ⟨bn, hbn⟩ : ∃ b, wC.heap.size = b := ⟨_, rfl⟩
  rw [hwE] at fe hcE
  rw [hbn] at hcE
  have FE := FC.trans fe
  have kBE : Keeps (fun q => q = b2) wB wE := Keeps.trans' (S := fun q => q = b2) n3 (fe.mono (S' := fun q => q = b2) fun _ _ h => h.elim) (fun _ _ h => h)
  have hcO := kBE.at_ HCELL.out (show ¬ bo = b2 by omega)
  have HOE := hid (ReqOwn.keeps kBE _ _ _ HOB.out (fun q h1 h2 => by have h2 : q = b2 := h2; have := HBLT.out q h1; omega))
  have HNE := hid (ReqOwn.fresh fe ho5)
  have HBL2 := hid (fun q (hq : q ∈ bl2) => ReqOwn.there _ _ _ ho5 q hq)
  have HCN := hid hcE
  have hsE := fe.size
  have y0 := cell_at hcO 0
  have y1 := cell_at hcO 1
  have y2 := cell_at hcO 2
  have y3 := cell_at hcO 3
  have y4 := cell_at hcO 4
  have y5 := cell_at hcO 5
  have y6 := cell_at hcO 6
  simp at y0 y1 y2 y3 y4 y5 y6
  clear n1 n2 n3 n4 ho5 hcE hcO HOB HCELL HBK
  go_wp2_with fail
  refine (encode_any (fun q => q ∈ bl) R' _ wE (hl.fresh_ FE) (ReqOwn.at _ _ _ HOE.out _ (fun _ h => h)) (fun q hq => by have := HBLT.out q hq; omega) (by omega) (enc_len hwt')).mono ?_
  rintro e wF ⟨rfl, fF⟩
  have FF := FE.trans fF
  have hcN := fF.at_ HCN.out (fun h => h)
  have x0 := cell_at hcN 0
  have x1 := cell_at hcN 1
  have x2 := cell_at hcN 2
  have x3 := cell_at hcN 3
  have x4 := cell_at hcN 4
  have x5 := cell_at hcN 5
  have x6 := cell_at hcN 6
  simp at x0 x1 x2 x3 x4 x5 x6
  clear y0 y1 y2 y3 y4 y5 y6 hcN
  go_wp2_with fail
  refine (dencode_any (fun q => q ∈ bl2) R' _ wF (hl.fresh_ FF) (ReqOwn.at _ _ _ (ReqOwn.fresh fF HNE.out) _ (fun _ h => h)) (fun q hq => by have := HBL2.out q hq; have := fF.size; omega) hfi').mono ?_
  rintro e wG ⟨rfl, fG⟩
  have FG := FF.trans fG
  clear x0 x1 x2 x3 x4 x5 x6
  have q1 : ((str (encOf R).1).toList == (str (encOf R).1).toList) = true := by simp
  have q2 : ((encOf R).2 == (encOf R).2) = true := by simp
  have q3 : ((str (encOf R').1).toList == (str (encOf R').1).toList) = true := by simp
  have q4 : ((encOf R').2 == (encOf R').2) = true := by simp
  go_wp2_with fail
  go_ret
  exact ⟨rfl, FG⟩
end Go.Proofs.YtpccaodkgboefaaGreatDoor

namespace Go.Proofs.YtpccaodkgboefaaGreatDoor
open Go.RowKit

set_option maxRecDepth 100000 in
set_option maxHeartbeats 8000000 in
theorem replies_any (k : Int) (R : Rep) (v : Value) (w : World) (hl : Laid w) (hv : RepAt (fun q => q < w.heap.size) w R v) (hfi : FineR R) (hti : TinyR R) (hwt : wtR R ≤ 300000000) (hcn : cntR R ≤ 4000000000) :
    Calls Tryz.prog 5 #[.int .i64 k, v] w fun e w' => e = .returned (.bool true) ∧ Fresh w w' := by
  have hg := World.block_lt_of_cell? w _ hl
  simp only at hg
  have HV := hid hv
  obtain ⟨lv, ev, ao, cap, rfl, ⟨hl1, -⟩, ⟨he1, -⟩, hreqs, hal⟩ := hv.parts
  obtain ⟨al, cl, rfl, -⟩ := hl1.texts
  obtain ⟨ae, ce, rfl, -⟩ := he1.texts
  have hbox := heap_alloc_new w (.cells #[.int .i64 R.status, .int .i64 R.size, .int .i64 R.a, .int .i64 R.b, .string (str R.root), .slice al R.hashes.length cl, .slice ae R.entries.length ce, .slice ao R.replies.length cap] 48)
  have f0 : Fresh w (w.alloc (.cells #[.int .i64 R.status, .int .i64 R.size, .int .i64 R.a, .int .i64 R.b, .string (str R.root), .slice al R.hashes.length cl, .slice ae R.entries.length ce, .slice ao R.replies.length cap] 48)) := (Keeps.refl _ _).alloc _
  obtain ⟨w1, hw1⟩ : ∃ w1, w.alloc (.cells #[.int .i64 R.status, .int .i64 R.size, .int .i64 R.a, .int .i64 R.b, .string (str R.root), .slice al R.hashes.length cl, .slice ae R.entries.length ce, .slice ao R.replies.length cap] 48) = w1 := ⟨_, rfl⟩
  obtain ⟨bx, hbx⟩ : ∃ bx, w.heap.size = bx := ⟨_, rfl⟩
  rw [hw1, hbx] at hbox
  rw [hw1] at f0
  have HBX := hid hbox
  clear hbox hl1 he1 hv hreqs
  go_enter Tryz.func5, Tryz.ntmps5
  go_wp2_with fail
  refine (mknown_any w1 (hl.fresh_ f0)).mono ?_
  rintro e w2 ⟨rfl, f2⟩
  clear hw1
  have F2 := f0.trans f2
  have hs2 := F2.size
  have hs02 := f2.size
  have hw1s := lt_of_block HBX.out
  have fb : Fresh w2 (w2.alloc (.cells #[.slice none 0 0, .slice none 0 0, .slice none 0 0, .slice none 0 0] 34)) := (Keeps.refl _ _).alloc _
  have hbk := Book.start (by omega) (heap_alloc_new w2 (.cells #[.slice none 0 0, .slice none 0 0, .slice none 0 0, .slice none 0 0] 34))
  have hs3 : (w2.alloc (.cells #[.slice none 0 0, .slice none 0 0, .slice none 0 0, .slice none 0 0] 34)).heap.size = w2.heap.size + 1 := by simp
  obtain ⟨w3, hw3⟩ : ∃ W, w2.alloc (.cells #[.slice none 0 0, .slice none 0 0, .slice none 0 0, .slice none 0 0] 34) = W := ⟨_, rfl⟩
  obtain ⟨b, hb⟩ : ∃ b, w2.heap.size = b := ⟨_, rfl⟩
  rw [hw3] at fb hbk hs3
  rw [hb] at hbk hs3
  have F3 := F2.trans fb
  have hbX3 := (f2.trans fb).at_ HBX.out (fun h => h)
  have HX3 := hid hbX3
  have x0 := cell_at hbX3 0
  have x1 := cell_at hbX3 1
  have x2 := cell_at hbX3 2
  have x3 := cell_at hbX3 3
  have x4 := cell_at hbX3 4
  have x5 := cell_at hbX3 5
  have x6 := cell_at hbX3 6
  have x7 := cell_at hbX3 7
  simp at x0 x1 x2 x3 x4 x5 x6 x7
  have HBK := hid hbk
  clear hbk hbX3 HBX f2
  go_wp2_with fail
  refine (lendReply_any _ R (Nat.le_refl _) hti _ _ (fun q => q < bx) b 0 _ w3 HBK.out (by rw [← hbx]; exact HV.out.fresh F3) (fun q hq hb2 => by subst hq; omega) (fun q hq => by omega) (by omega)).mono ?_
  rintro e w4 ⟨v4, bl, S4, T4, rfl, ho4, hnd, hnew, hN4⟩
  clear x0 x1 x2 x3 x4 x5 x6 x7 hw3
  obtain ⟨al4, cl4, ae4, ce4, aq4, cq4, rfl⟩ := ho4.shape
  obtain ⟨n1, n2, n3, n4⟩ := hN4
  have hs4 := n3.size
  have F4 : Fresh w w4 := F3.trans' n3 fun q hq h => by have h : q = b := h; omega
  have hL4 : Laid w4 := hl.fresh_ F4
  -- 'own' in a cell of its own
  have fc : Fresh w4 (w4.alloc (.cells #[.int .i64 R.status, .int .i64 R.size, .int .i64 R.a, .int .i64 R.b, .string (str R.root), .slice al4 R.hashes.length cl4, .slice ae4 R.entries.length ce4, .slice aq4 R.replies.length cq4] 48)) := (Keeps.refl _ _).alloc _
  have hc5 := heap_alloc_new w4 (.cells #[.int .i64 R.status, .int .i64 R.size, .int .i64 R.a, .int .i64 R.b, .string (str R.root), .slice al4 R.hashes.length cl4, .slice ae4 R.entries.length ce4, .slice aq4 R.replies.length cq4] 48)
  obtain ⟨w5, hw5⟩ : ∃ W, w4.alloc (.cells #[.int .i64 R.status, .int .i64 R.size, .int .i64 R.a, .int .i64 R.b, .string (str R.root), .slice al4 R.hashes.length cl4, .slice ae4 R.entries.length ce4, .slice aq4 R.replies.length cq4] 48) = W := ⟨_, rfl⟩
  obtain ⟨bo, hbo⟩ : ∃ b, w4.heap.size = b := ⟨_, rfl⟩
  rw [hw5] at fc hc5
  rw [hbo] at hc5
  have F5 := F4.trans fc
  have hX5 := (Keeps.trans' (S := fun q => q = b) n3 (fc.mono (S' := fun q => q = b) fun _ _ h => h.elim) (fun _ _ h => h)).at_ HX3.out (show ¬ bx = b by omega)
  have hblt : ∀ q ∈ bl, q < w4.heap.size := fun q hq => RepOwn.there _ _ _ ho4 q hq
  have HO5 := hid (RepOwn.fresh fc ho4)
  have HBK4 := hid n4
  have HNEW := hid hnew
  have HBLT := hid hblt
  have HCELL := hid hc5
  have HXX := hid hX5
  have y0 := cell_at hc5 0
  have y1 := cell_at hc5 1
  have y2 := cell_at hc5 2
  have y3 := cell_at hc5 3
  have y4 := cell_at hc5 4
  have y5 := cell_at hc5 5
  have y6 := cell_at hc5 6
  have y7 := cell_at hc5 7
  simp at y0 y1 y2 y3 y4 y5 y6 y7
  have hs5 := fc.size
  clear n1 n2 n3 n4 ho4 hnew hblt hc5 hX5 HBK HX3
  go_wp2_with fail
  refine (encodeRep_any (fun q => q ∈ bl) k R _ w5 (hl.fresh_ F5) (RepOwn.at _ _ _ HO5.out _ (fun _ h => h)) (fun q hq => by have := HBLT.out q hq; omega) (by omega)).mono ?_
  rintro e w6 ⟨rfl, f6⟩
  have F6 := F5.trans f6
  have hX6 := f6.at_ HXX.out (fun h => h)
  have hc6 := f6.at_ HCELL.out (fun h => h)
  have x0 := cell_at hX6 0
  have x1 := cell_at hX6 1
  have x2 := cell_at hX6 2
  have x3 := cell_at hX6 3
  have x4 := cell_at hX6 4
  have x5 := cell_at hX6 5
  have x6 := cell_at hX6 6
  have x7 := cell_at hX6 7
  simp at x0 x1 x2 x3 x4 x5 x6 x7
  clear y0 y1 y2 y3 y4 y5 y6 y7 HXX HCELL
  have HXX := hid hX6
  have HCELL := hid hc6
  have HO6 := hid (RepOwn.fresh f6 HO5.out)
  clear hX6 hc6
  go_wp2_with fail
  refine (dencodeRep_any (fun q => q < w.heap.size) k R _ w6 (hl.fresh_ F6) (HV.out.fresh F6) (fun q hq => Nat.lt_of_lt_of_le hq F6.size) hfi).mono ?_
  rintro e w7 ⟨rfl, f7⟩
  have F7 := F6.trans f7
  have hX7 := f7.at_ HXX.out (fun h => h)
  have hc7 := f7.at_ HCELL.out (fun h => h)
  clear x0 x1 x2 x3 x4 x5 x6 x7 HXX HCELL
  have x0 := cell_at hX7 0
  have x1 := cell_at hX7 1
  have x2 := cell_at hX7 2
  have x3 := cell_at hX7 3
  have x4 := cell_at hX7 4
  have x5 := cell_at hX7 5
  have x6 := cell_at hX7 6
  have x7 := cell_at hX7 7
  have y0 := cell_at hc7 0
  have y1 := cell_at hc7 1
  have y2 := cell_at hc7 2
  have y3 := cell_at hc7 3
  have y4 := cell_at hc7 4
  have y5 := cell_at hc7 5
  have y6 := cell_at hc7 6
  have y7 := cell_at hc7 7
  simp at x0 x1 x2 x3 x4 x5 x6 x7 y0 y1 y2 y3 y4 y5 y6 y7
  have HCELL := hid hc7
  have HO7 := hid (RepOwn.fresh f7 HO6.out)
  clear hX7 hc7
  go_wp2_with fail
  refine (sameReply_self _ R (Nat.le_refl _) (fun q => q ∈ bl) (fun q => q < w.heap.size) _ _ w7 (RepOwn.at _ _ _ HO7.out _ (fun _ h => h)) (HV.out.fresh F7) hfi).mono ?_
  rintro e w8 ⟨rfl, f8⟩
  have F8 := F7.trans f8
  have f58 : Fresh w4 w8 := fc.trans (f6.trans (f7.trans f8))
  clear x0 x1 x2 x3 x4 x5 x6 x7 y0 y1 y2 y3 y4 y5 y6 y7
  go_wp2_with fail
  refine (marked_any S4 T4 b _ w8 (HBK4.out.fresh f58) (by omega)).mono ?_
  rintro e w9 ⟨rfl, f9⟩
  have F9 := F8.trans f9
  have hc9 := (f8.trans f9).at_ HCELL.out (fun h => h)
  clear HCELL
  have y0 := cell_at hc9 0
  have y1 := cell_at hc9 1
  have y2 := cell_at hc9 2
  have y3 := cell_at hc9 3
  have y4 := cell_at hc9 4
  have y5 := cell_at hc9 5
  have y6 := cell_at hc9 6
  have y7 := cell_at hc9 7
  simp at y0 y1 y2 y3 y4 y5 y6 y7
  have HCELL := hid hc9
  have HO9 := hid (RepOwn.fresh (f8.trans f9) HO7.out)
  clear hc9
  go_wp2_with fail
  refine (turnsReply_any _ R (Nat.le_refl _) hti _ bl w9 HO9.out hnd).mono ?_
  rintro e wA ⟨rfl, R', hak, hoA, kA⟩
  have FA : Fresh w wA := F9.trans' kA fun q hq h => by have := (HNEW.out q h).1; have := F3.size; omega
  have hcA := kA.at_ HCELL.out (fun h => by have := HBLT.out bo h; omega)
  have hsA := kA.size
  have hboA := lt_of_block hcA
  have hs49 := (f58.trans f9).size
  clear y0 y1 y2 y3 y4 y5 y6 y7 HCELL HO9 HO7 HO6 HO5
  have fd : Fresh wA (wA.alloc (.cells #[.slice none 0 0, .slice none 0 0, .slice none 0 0, .slice none 0 0] 34)) := (Keeps.refl _ _).alloc _
  have hbk2 := Book.start (by have := FA.size; omega) (heap_alloc_new wA (.cells #[.slice none 0 0, .slice none 0 0, .slice none 0 0, .slice none 0 0] 34))
  have hsB : (wA.alloc (.cells #[.slice none 0 0, .slice none 0 0, .slice none 0 0, .slice none 0 0] 34)).heap.size = wA.heap.size + 1 := by simp
  obtain ⟨wB, hwB⟩ : ∃ W, wA.alloc (.cells #[.slice none 0 0, .slice none 0 0, .slice none 0 0, .slice none 0 0] 34) = W := ⟨_, rfl⟩
  obtain ⟨b2, hb2⟩ : ∃ b, wA.heap.size = b := ⟨_, rfl⟩
  rw [hwB] at fd hbk2 hsB
  rw [hb2] at hbk2 hsB
  have FB := FA.trans fd
  have hcB := fd.at_ hcA (fun h => h)
  have HOB := hid (RepOwn.fresh fd hoA)
  have HCELL := hid hcB
  have HBK := hid hbk2
  have y0 := cell_at hcB 0
  have y1 := cell_at hcB 1
  have y2 := cell_at hcB 2
  have y3 := cell_at hcB 3
  have y4 := cell_at hcB 4
  have y5 := cell_at hcB 5
  have y6 := cell_at hcB 6
  have y7 := cell_at hcB 7
  simp at y0 y1 y2 y3 y4 y5 y6 y7
  have hwt' : wtR R' ≤ 300000000 := Nat.le_trans hak.wt hwt
  have hcn' : cntR R' ≤ 4000000000 := by rw [hak.cnt]; exact hcn
  have hfi' := hak.fine hfi
  have hti' := hak.tiny hti
  clear hcB hcA hoA hbk2
  go_wp2_with fail
  refine (lendReply_any _ R' (Nat.le_refl _) hti' _ _ (fun q => q ∈ bl) b2 0 _ wB HBK.out (RepOwn.at _ _ _ HOB.out _ (fun _ h => h)) (fun q hq hb3 => by subst hq; have := HBLT.out _ hb3; omega) (fun q hq => by have := HBLT.out q hq; omega) (by omega)).mono ?_
  rintro e wC ⟨v5, bl2, S5, T5, rfl, ho5, hnd5, hnew5, hN5⟩
  clear y0 y1 y2 y3 y4 y5 y6 y7 hwB
  obtain ⟨al5, cl5, ae5, ce5, aq5, cq5, rfl⟩ := ho5.shape
  obtain ⟨n1, n2, n3, n4⟩ := hN5
  have hsC := n3.size
  have FC : Fresh w wC := FB.trans' n3 fun q hq h => by have h : q = b2 := h; have := FA.size; omega
  have fe : Fresh wC (wC.alloc (.cells #[.int .i64 R'.status, .int .i64 R'.size, .int .i64 R'.a, .int .i64 R'.b, .string (str R'.root), .slice al5 R'.hashes.length cl5, .slice ae5 R'.entries.length ce5, .slice aq5 R'.replies.length cq5] 48)) := (Keeps.refl _ _).alloc _
  have hcE := heap_alloc_new wC (.cells #[.int .i64 R'.status, .int .i64 R'.size, .int .i64 R'.a, .int .i64 R'.b, .string (str R'.root), .slice al5 R'.hashes.length cl5, .slice ae5 R'.entries.length ce5, .slice aq5 R'.replies.length cq5] 48)
  obtain ⟨wE, hwE⟩ : ∃ W, wC.alloc (.cells #[.int .i64 R'.status, .int .i64 R'.size, .int .i64 R'.a, .int .i64 R'.b, .string (str R'.root), .slice al5 R'.hashes.length cl5, .slice ae5 R'.entries.length ce5, .slice aq5 R'.replies.length cq5] 48) = W := ⟨_, rfl⟩
  obtain ⟨bn, hbn⟩ : ∃ b, wC.heap.size = b := ⟨_, rfl⟩
  rw [hwE] at fe hcE
  rw [hbn] at hcE
  have FE := FC.trans fe
  have kBE : Keeps (fun q => q = b2) wB wE := Keeps.trans' (S := fun q => q = b2) n3 (fe.mono (S' := fun q => q = b2) fun _ _ h => h.elim) (fun _ _ h => h)
  have hcO := kBE.at_ HCELL.out (show ¬ bo = b2 by omega)
  have HOE := hid (RepOwn.keeps kBE _ _ _ HOB.out (fun q h1 h2 => by have h2 : q = b2 := h2; have := HBLT.out q h1; omega))
  have HNE := hid (RepOwn.fresh fe ho5)
  have HBL2 := hid (fun q (hq : q ∈ bl2) => RepOwn.there _ _ _ ho5 q hq)
  have HCN := hid hcE
  have hsE := fe.size
  have y0 := cell_at hcO 0
  have y1 := cell_at hcO 1
  have y2 := cell_at hcO 2
  have y3 := cell_at hcO 3
  have y4 := cell_at hcO 4
  have y5 := cell_at hcO 5
  have y6 := cell_at hcO 6
  have y7 := cell_at hcO 7
  simp at y0 y1 y2 y3 y4 y5 y6 y7
  clear n1 n2 n3 n4 ho5 hcE hcO HOB HCELL HBK
  go_wp2_with fail
  refine (encodeRep_any (fun q => q ∈ bl) k R' _ wE (hl.fresh_ FE) (RepOwn.at _ _ _ HOE.out _ (fun _ h => h)) (fun q hq => by have := HBLT.out q hq; omega) (by omega)).mono ?_
  rintro e wF ⟨rfl, fF⟩
  have FF := FE.trans fF
  have hcN := fF.at_ HCN.out (fun h => h)
  have x0 := cell_at hcN 0
  have x1 := cell_at hcN 1
  have x2 := cell_at hcN 2
  have x3 := cell_at hcN 3
  have x4 := cell_at hcN 4
  have x5 := cell_at hcN 5
  have x6 := cell_at hcN 6
  have x7 := cell_at hcN 7
  simp at x0 x1 x2 x3 x4 x5 x6 x7
  clear y0 y1 y2 y3 y4 y5 y6 y7 hcN
  go_wp2_with fail
  refine (dencodeRep_any (fun q => q ∈ bl2) k R' _ wF (hl.fresh_ FF) (RepOwn.at _ _ _ (RepOwn.fresh fF HNE.out) _ (fun _ h => h)) (fun q hq => by have := HBL2.out q hq; have := fF.size; omega) hfi').mono ?_
  rintro e wG ⟨rfl, fG⟩
  have FG := FF.trans fG
  clear x0 x1 x2 x3 x4 x5 x6 x7
  have q1 : ((str (encRep k R).1).toList == (str (encRep k R).1).toList) = true := by simp
  have q2 : ((encRep k R).2 == (encRep k R).2) = true := by simp
  have q3 : ((str (encRep k R').1).toList == (str (encRep k R').1).toList) = true := by simp
  have q4 : ((encRep k R').2 == (encRep k R').2) = true := by simp
  go_wp2_with fail
  go_ret
  exact ⟨rfl, FG⟩
end Go.Proofs.YtpccaodkgboefaaGreatDoor
