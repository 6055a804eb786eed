/-
  Package frontier: Join.
-/
import Derived.Test.YtgikabafaocemaaDoorRnComp
namespace Go.Proofs.YtgikabafaocemaaDoor
open Go.RowKit

theorem Row.get : ∀ {l : List (Nat × Nat)} {p e k : Nat} {y : Nat × Nat}, Row p e l → l[k]? = some y → Row p y.1 (l.take k) ∧ Row p (y.1 + 2 ^ y.2) (l.take (k + 1)) ∧ y.1 % 2 ^ y.2 = 0 ∧ p ≤ y.1 ∧ y.1 + 2 ^ y.2 ≤ e
  | [], _, _, _, _, _, hy => by simp at hy
  | z :: l, p, e, 0, y, h, hy => by
    simp at hy
    subst hy
    cases h with
    | cons a b => exact ⟨.nil _, .cons a (.nil _), a, Nat.le_refl _, b.le⟩
  | z :: l, p, e, k + 1, y, h, hy => by
    cases h with
    | cons a b =>
      rename_i k0
      obtain ⟨h1, h2, h3, h4, h5⟩ := Row.get b (by simpa using hy)
      exact ⟨.cons a h1, .cons a h2, h3, by omega, h5⟩
theorem Row.uniq {l : List (Nat × Nat)} {p q x : Nat} (h : Row p q l) (h2 : Row p x l) : q = x := by
  induction h with
  | nil p => cases h2 with
    | nil => rfl
  | cons a b ih => cases h2 with
    | cons c d => exact ih d

set_option maxRecDepth 100000 in
set_option maxHeartbeats 8000000 in
theorem join_any (V : Nat × Nat → List UInt8) (b x : Nat) (la lb : List (Nat × Nat)) (va vb : Value) (w : World) (hca : Cut 0 b la) (hcb : Cut b x lb) (hx : x ≤ 1099511627776) (hla : la.length ≤ 1000) (hlb : lb.length ≤ 5000) (hva : TextsAt w va (la.map V)) (hvb : TextsAt w vb (lb.map V)) (ha32 : ∀ y ∈ la, (V y).length = 32) (hb32 : ∀ y ∈ lb, (V y).length = 32) (hH : Halves V b x) (hd : Dig w) (hdb : DbLaid w) :
    Calls Tryd.prog 29 #[.agg #[.int .i64 0, .int .i64 (b : Int), va], .agg #[.int .i64 (b : Int), .int .i64 (x : Int), vb]] w fun e w' => ∃ u l, e = .returned (.tuple #[.agg #[.int .i64 0, .int .i64 (x : Int), u], .int .i64 0]) ∧ Cut 0 x l ∧ OwnTexts w.heap.size w' u (l.map V) ∧ (∀ y ∈ l, (V y).length = 32) ∧ Fresh w w' := by
  have hle := hcb.le
  have hs1 : (w.alloc (.cells #[.int .i64 0, .int .i64 (b : Int), va] 67)).heap.size = w.heap.size + 1 := World.size_alloc _ _
  have hs2 : ((w.alloc (.cells #[.int .i64 0, .int .i64 (b : Int), va] 67)).alloc (.cells #[.int .i64 (b : Int), .int .i64 (x : Int), vb] 67)).heap.size = w.heap.size + 2 := by rw [World.size_alloc, hs1]
  have hb0 := heap_alloc_new w (.cells #[.int .i64 0, .int .i64 (b : Int), va] 67)
  have hb1 := heap_alloc_new (w.alloc (.cells #[.int .i64 0, .int .i64 (b : Int), va] 67)) (.cells #[.int .i64 (b : Int), .int .i64 (x : Int), vb] 67)
  have hb2 := heap_alloc_new ((w.alloc (.cells #[.int .i64 0, .int .i64 (b : Int), va] 67)).alloc (.cells #[.int .i64 (b : Int), .int .i64 (x : Int), vb] 67)) (.cells #[.int .i64 0, .int .i64 0, .slice none 0 0] 67)
  have hs3 : (((w.alloc (.cells #[.int .i64 0, .int .i64 (b : Int), va] 67)).alloc (.cells #[.int .i64 (b : Int), .int .i64 (x : Int), vb] 67)).alloc (.cells #[.int .i64 0, .int .i64 0, .slice none 0 0] 67)).heap.size = w.heap.size + 3 := by rw [World.size_alloc, hs2]
  rw [hs1] at hb1
  rw [hs2] at hb2
  have g1 := (Keeps.refl (fun _ => False) (w.alloc (.cells #[.int .i64 0, .int .i64 (b : Int), va] 67))).alloc (.cells #[.int .i64 (b : Int), .int .i64 (x : Int), vb] 67)
  have g2 := (Keeps.refl (fun _ => False) ((w.alloc (.cells #[.int .i64 0, .int .i64 (b : Int), va] 67)).alloc (.cells #[.int .i64 (b : Int), .int .i64 (x : Int), vb] 67))).alloc (.cells #[.int .i64 0, .int .i64 0, .slice none 0 0] 67)
  have f0 : Fresh w (((w.alloc (.cells #[.int .i64 0, .int .i64 (b : Int), va] 67)).alloc (.cells #[.int .i64 (b : Int), .int .i64 (x : Int), vb] 67)).alloc (.cells #[.int .i64 0, .int .i64 0, .slice none 0 0] 67)) := (((Keeps.refl _ _).alloc _).alloc _).alloc _
  have hb0 := (g1.trans g2).at_ hb0 (fun h => h)
  have hb1 := g2.at_ hb1 (fun h => h)
  obtain ⟨p2, hp2⟩ : ∃ p, w.heap.size = p := ⟨_, rfl⟩
  obtain ⟨p3, hp3⟩ : ∃ p, w.heap.size + 1 = p := ⟨_, rfl⟩
  obtain ⟨p4, hp4⟩ : ∃ p, w.heap.size + 1 + 1 = p := ⟨_, rfl⟩
  have hfa := hid (fun W (f : Fresh w W) => fright_any V 0 b la va W hca (by omega) (hva.fresh f) ha32 (hdb.fresh f))
  have hfb := hid (fun W (f : Fresh w W) => fright_any V b x lb vb W hcb hx (hvb.fresh f) hb32 (hdb.fresh f))
  obtain ⟨aa, ca, ea, -⟩ := hva
  rw [List.length_map] at ea
  subst ea
  obtain ⟨ab, cb, eb, -⟩ := hvb
  rw [List.length_map] at eb
  subst eb
  rw [hp2] at hb0
  rw [hp3] at hb1
  rw [show w.heap.size + 2 = w.heap.size + 1 + 1 from rfl, hp4] at hb2
  have hgl := hd.room
  have hbi : (b : Int) ≤ 1099511627776 := by omega
  have HP2 := hid hp2
  have HP3 := hid hp3
  have HP4 := hid hp4
  have HB0 := hid hb0
  have HB1 := hid hb1
  have HB2 := hid hb2
  have HCA := hid hca
  have HCB := hid hcb
  have HX := hid hx
  have HLA := hid hla
  have HLB := hid hlb
  have HA32 := hid ha32
  have HB32 := hid hb32
  have HH := hid hH
  have HD := hid hd
  have HGL := hid hgl
  have c0 := (cell_at hb0 0).trans (show _ = some (Value.int .i64 0) from rfl)
  have c1 := (cell_at hb0 1).trans (show _ = some (Value.int .i64 (b : Int)) from rfl)
  have c2 := (cell_at hb0 2).trans (show _ = some (Value.slice aa la.length ca) from rfl)
  have cl := lt_of_block hb0
  obtain ⟨W0, hW0⟩ : ∃ W0, (((w.alloc (.cells #[.int .i64 0, .int .i64 (b : Int), .slice aa la.length ca] 67)).alloc (.cells #[.int .i64 (b : Int), .int .i64 (x : Int), .slice ab lb.length cb] 67)).alloc (.cells #[.int .i64 0, .int .i64 0, .slice none 0 0] 67)) = W0 := ⟨_, rfl⟩
  have hlai : (la.length : Int) ≤ 1000 := by omega
  have hlbi : (lb.length : Int) ≤ 5000 := by omega
  clear hca hcb hx hla hlb ha32 hb32 hH hd hdb hgl hs1 hs2 hb0 hb1 hb2 g1 g2 hp2 hp3 hp4 hle
  rw [hW0] at HB0 HB1 HB2 f0 c0 c1 c2 cl hs3
  have HW0 := hid hW0
  have HS3 := hid hs3
  clear hW0 hs3
  go_enter Tryd.func29, Tryd.ntmps29
  go_wp2_with fail
  rw [HW0.out, HP4.out, HP3.out, HP2.out]
  refine (hfa.out W0 f0).mono ?_
  rintro e w1 ⟨v1, rfl, ho1, f1⟩
  have f01 := f0.trans f1
  have hd1 := f1.at_ HB1.out (fun h => h)
  have d0 := (cell_at hd1 0).trans (show _ = some (Value.int .i64 (b : Int)) from rfl)
  have d1 := (cell_at hd1 1).trans (show _ = some (Value.int .i64 (x : Int)) from rfl)
  have d2 := (cell_at hd1 2).trans (show _ = some (Value.slice ab lb.length cb) from rfl)
  have dl := lt_of_block hd1
  have HO1 := hid ho1
  obtain ⟨a1, q1, rfl⟩ := ownsRow_slice ho1.1
  clear hd1 ho1 c0 c1 c2 cl
  go_wp2_with fail
  refine (hfb.out w1 f01).mono ?_
  rintro e w2 ⟨v2, rfl, ho2, f2⟩
  have f02 := f01.trans f2
  have HO2 := hid ho2
  obtain ⟨a2, q2, rfl⟩ := ownsRow_slice ho2.1
  have hj0 := (f1.trans f2).at_ HB0.out (fun h => h)
  have hj1 := (f1.trans f2).at_ HB1.out (fun h => h)
  have e0 := (cell_at hj0 1).trans (show _ = some (Value.int .i64 (b : Int)) from rfl)
  have e1 := (cell_at hj1 0).trans (show _ = some (Value.int .i64 (b : Int)) from rfl)
  have el0 := lt_of_block hj0
  have el1 := lt_of_block hj1
  clear ho2 d0 d1 d2 dl hj0 hj1
  go_wp2_with fail
  have f3 := (Keeps.refl (fun _ => False) w2).alloc (.cells #[.slice a1 la.length q1] 123)
  have hr3 := heap_alloc_new w2 (.cells #[.slice a1 la.length q1] 123)
  have hs4 : (w2.alloc (.cells #[.slice a1 la.length q1] 123)).heap.size = w2.heap.size + 1 := World.size_alloc _ _
  obtain ⟨rb, hrb⟩ : ∃ rb, w2.heap.size = rb := ⟨_, rfl⟩
  rw [hrb] at hr3 hs4
  (try rw [hrb])
  generalize w2.alloc (.cells #[.slice a1 la.length q1] 123) = W at f3 hr3 hs4 ⊢
  have fW := f02.trans f3
  have hn1 : ∀ g, (Value.slice a1 la.length q1).ownBlock = some g → W0.heap.size ≤ g ∧ g < w1.heap.size := fun g hg => ⟨HO1.out.2 g hg, (HO1.out.1.lt g hg).2⟩
  have hn2 : ∀ g, (Value.slice a2 lb.length q2).ownBlock = some g → w1.heap.size ≤ g ∧ g < rb := fun g hg => ⟨HO2.out.2 g hg, by have := (HO2.out.1.lt g hg).2; omega⟩
  have hw12 := f2.size
  have hw01 := f1.size
  have hRW : RowBox V W rb la (.slice a1 la.length q1) := ⟨hr3, ownsRow_keeps HO1.out.1 (f2.trans f3) (fun _ _ h => h), fun e => by have := hn1 rb e; omega⟩
  have hv2 : W.ownsRow 0 126 3 (.slice a2 lb.length q2) lb.length (pcells V lb) := ownsRow_keeps HO2.out.1 f3 (fun _ _ h => h)
  have hk0 := ((f1.trans f2).trans f3).at_ HB0.out (fun h => h)
  have hk1 := ((f1.trans f2).trans f3).at_ HB1.out (fun h => h)
  have hk2 := ((f1.trans f2).trans f3).at_ HB2.out (fun h => h)
  have hpw : p2 < W0.heap.size ∧ p3 < W0.heap.size ∧ p4 < W0.heap.size := ⟨lt_of_block HB0.out, lt_of_block HB1.out, lt_of_block HB2.out⟩
  have HRW := hid hRW
  have HV2 := hid hv2
  have HK0 := hid hk0
  have HK1 := hid hk1
  have HK2 := hid hk2
  have HPW := hid hpw
  have HN1 := hid hn1
  have HN2 := hid hn2
  have HWS := hid (show W0.heap.size ≤ w1.heap.size ∧ w1.heap.size ≤ rb ∧ w.heap.size + 3 = W0.heap.size by have := HS3.out; omega)
  clear hrb hRW hr3 hs4 hv2 hk0 hk1 hk2 hpw hn1 hn2 e0 e1 el0 el1 hw12 hw01
  go_loopw [50] (fun i wr => ∃ (k q : Nat) (l : List (Nat × Nat)) (v : Value), i = .int .i64 (k : Int) ∧ k ≤ lb.length ∧ Row b q (lb.take k) ∧ Row 0 q l ∧ Red l ∧ RowBox V wr rb l v ∧ (∀ y ∈ l, (V y).length = 32) ∧ l.length ≤ 1000 + k ∧ (∀ g, v.ownBlock = some g → (W0.heap.size ≤ g ∧ g < w1.heap.size) ∨ rb < g) ∧ wr.ownsRow 0 126 3 (.slice a2 lb.length q2) lb.length (pcells V lb) ∧ (wr.heap[p2]? = some (rangeC 0 (b : Int) (.slice aa la.length ca)) ∧ wr.heap[p3]? = some (rangeC (b : Int) (x : Int) (.slice ab lb.length cb)) ∧ wr.heap[p4]? = some (rangeC 0 0 (.slice none 0 0))) ∧ Fresh w wr) (fun i _ => lb.length - (intOf i).toNat)
  case atStart => exact ⟨0, b, la, _, rfl, Nat.zero_le _, .nil _, HCA.out.row.1, HCA.out.row.2, HRW.out, HA32.out, by have := HLA.out; omega, (fun g hg => .inl (HN1.out g hg)), HV2.out, ⟨HK0.out, HK1.out, HK2.out⟩, fW⟩
  case round =>
    obtain ⟨k, q, l, v, rfl, hk, hrb, hrow, hred, hbx, h32, hll, hown, hv2, hpk, f⟩ := hrel
    have HRB := hid hrb
    have HROW := hid hrow
    have HRED := hid hred
    have HBX := hid hbx
    have HA := hid h32
    have HLL := hid hll
    have HO := hid hown
    have HVW := hid hv2
    have HPK := hid hpk
    have HK := hid hk
    have hwr : rb < wr.heap.size := lt_of_block hbx.box
    by_cases hlt : k < lb.length
    · obtain ⟨y, hy⟩ : ∃ y, lb[k]? = some y := ⟨lb[k], by simp⟩
      obtain ⟨h1, h2, h3, h4, h5⟩ := HCB.out.row.1.get hy
      have hqy := hrb.uniq h1
      subst hqy
      obtain ⟨y1, y2⟩ := y
      simp only at h1 h2 h3 h4 h5 hrow hrb HROW HRB
      obtain ⟨g, rfl, hcells⟩ := rowCellsB hv2 (by omega)
      have hc := pcells_at V lb k _ hy
      obtain ⟨gl, x0⟩ := hcells _ _ hc.1
      have x1 := (hcells _ _ hc.2.1).2
      have x2 := (hcells _ _ hc.2.2).2
      simp only at x0 x1 x2
      have fb := (Keeps.refl (fun _ => False) wr).alloc (.cells #[.int .i64 (y1 : Int), .int .i64 (y2 : Int), .string (str (V (y1, y2)))] 126)
      have hpush := push_any V 0 y1 y2 rb l v _ (HBX.out.fresh fb) HROW.out HRED.out h3 (by have := HX.out; omega) (by have := HLL.out; have := HLB.out; omega) HA.out (HB32.out _ (List.mem_of_getElem? hy)) (fun a j q1 q2 q3 => HH.out a j q2 (by have := pow_pos2 y2; omega) (by omega)) (HD.out.fresh (f.trans fb)) (by have := HGL.out; have := HWS.out; omega) (fun g hg => by have := HO.out g hg; have := HGL.out; have := HWS.out; omega)
      have HPUSH := hid hpush
      have hki : (k : Int) < (lb.length : Int) := by omega
      have hk0 : (0 : Int) ≤ (k : Int) := by omega
      have HLT := hid hlt
      have HR2 := hid h2
      have hsb := fb.size
      clear hpush hrow hred hbx h32 hll hown hk hrb hy h1 h2 h3 h4 h5 hcells hc hv2 hpk hlt
      go_wp2_with fail
      refine HPUSH.out.mono ?_
      rintro e w5 ⟨rfl, l', v', r1, r2, r3, r4, r5, r6, r7⟩
      have HR3 := hid r3
      have hoff : ∀ z, z < wr.heap.size → z ≠ rb → ¬ (W0.heap.size ≤ z ∧ z < w1.heap.size) → z ≤ rb → ¬ (z = rb ∨ v.ownBlock = some z) := fun z _ hz1 hz2 hz3 e => by
        rcases e with e | e
        · exact hz1 e
        · rcases HO.out z e with q | q
          · exact hz2 q
          · omega
      have hws := HWS.out
      have hpw := HPW.out
      have f5 : Fresh w w5 := (f.trans fb).trans' r7 (fun g hg e => by
        rcases e with e | e
        · omega
        · have := HO.out g e; omega)
      have hv5 : w5.ownsRow 0 126 3 (.slice (some ⟨g, 0, none⟩) lb.length q2) lb.length (pcells V lb) := ownsRow_keeps (ownsRow_keeps HVW.out fb (fun _ _ h => h)) r7 (fun z hz => hoff z (by have := (HVW.out.lt z hz).2; omega) (by have := HN2.out z hz; omega) (by have := HN2.out z hz; omega) (by have := HN2.out z hz; omega))
      have hp5 : w5.heap[p2]? = some (rangeC 0 (b : Int) (.slice aa la.length ca)) ∧ w5.heap[p3]? = some (rangeC (b : Int) (x : Int) (.slice ab lb.length cb)) ∧ w5.heap[p4]? = some (rangeC 0 0 (.slice none 0 0)) := ⟨r7.at_ (fb.at_ HPK.out.1 (fun h => h)) (hoff p2 (by omega) (by omega) (by omega) (by omega)), r7.at_ (fb.at_ HPK.out.2.1 (fun h => h)) (hoff p3 (by omega) (by omega) (by omega) (by omega)), r7.at_ (fb.at_ HPK.out.2.2 (fun h => h)) (hoff p4 (by omega) (by omega) (by omega) (by omega))⟩
      have ho5 : ∀ z, v'.ownBlock = some z → (W0.heap.size ≤ z ∧ z < w1.heap.size) ∨ rb < z := fun z hz => by
        rcases r6 z hz with q | q
        · exact HO.out z q
        · exact .inr (by omega)
      have HV5 := hid hv5
      have HP5 := hid hp5
      have HO5 := hid ho5
      clear r3 r6 r7 hoff hv5 hp5 ho5 hws hpw x0 x1 x2 hwr hsb
      go_wp2_with fail
      go_roundw
      case rel => exact ⟨k + 1, y1 + 2 ^ y2, l', v', by go_num, by have := HLT.out; omega, HR2.out, r1, r2, HR3.out, r4, by have := HLL.out; omega, HO5.out, HV5.out, HP5.out, f5⟩
      case measure => have := HLT.out; simp [intOf]; omega
    · obtain rfl : k = lb.length := by omega
      rw [List.take_length] at hrb
      have hqx := hrb.uniq HCB.out.row.1
      subst hqx
      have HT := hid (fun W (f2 : Fresh wr W) => ftold_any V rb l v 0 (q : Int) W (hbx.fresh f2) (by have := HLB.out; omega))
      have HC := hid (hrow.cut hred)
      have e0 := (cell_at hpk.1 0).trans (show _ = some (Value.int .i64 0) from rfl)
      have e1 := (cell_at hpk.2.1 1).trans (show _ = some (Value.int .i64 (q : Int)) from rfl)
      have el0 := lt_of_block hpk.1
      have el1 := lt_of_block hpk.2.1
      clear hrow hred hbx h32 hll hown hk hrb hv2 hpk
      go_wp2_with fail
      refine (HT.out _ (Keeps.refl _ _)).mono ?_
      rintro e w4 ⟨u, rfl, hu, f4⟩
      have hp4 := f4.at_ HPK.out.2.2 (fun h => h)
      have d0 := (cell_at hp4 0).trans (show _ = some (Value.int .i64 0) from rfl)
      have d1 := (cell_at hp4 1).trans (show _ = some (Value.int .i64 0) from rfl)
      have d2 := (cell_at hp4 2).trans (show _ = some (Value.slice none 0 0) from rfl)
      have y0 := free_at hp4 0
      have y1 := free_at hp4 1
      have y2 := free_at hp4 2
      have hpl4 := lt_of_block hp4
      have HP5 := hid hp4
      have HU := hid hu
      obtain ⟨au, cu, eu⟩ := ownsRow_slice hu.1
      rw [List.length_map] at eu
      subst eu
      clear hp4 hu e0 e1 el0 el1
      go_wp2_with fail
      have kS := (((Keeps.refl (fun q => q = p4) w4).setCell (p := ⟨p4, 0, none⟩) (fun _ => rfl) (.int .i64 0)).setCell (p := ⟨p4, 1, none⟩) (fun _ => rfl) (.int .i64 (q : Int))).setCell (p := ⟨p4, 2, none⟩) (fun _ => rfl) (.slice au l.length cu)
      have r2 := heap_setCell_at (heap_setCell_at (heap_setCell_at HP5.out 0 (.int .i64 0)) 1 (.int .i64 (q : Int))) 2 (.slice au l.length cu)
      have hfs := f.size
      refine bodyPost_ret (results_row2 rfl _ _ p4 67 _ (0, 0) _ rfl (by exact r2) Tryd.underlying67 rfl (by kernel_rfl)) rfl ?_
      refine ⟨_, l, rfl, HC.out, ⟨ownsRow_keeps HU.out.1 kS (fun z hz e => by have := HU.out.2 z hz; have := lt_of_block HPK.out.2.2; omega), fun z hz => by have := HU.out.2 z hz; omega⟩, HA.out, (f.trans f4).trans' kS (fun z hz e => by have := HP4.out; omega)⟩
end Go.Proofs.YtgikabafaocemaaDoor
