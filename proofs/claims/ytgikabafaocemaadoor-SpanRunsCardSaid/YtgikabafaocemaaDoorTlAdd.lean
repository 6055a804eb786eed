/-
  The tree of tiles: Add.
-/
import Derived.Test.YtgikabafaocemaaDoorTlPut
import Derived.Test.YtgikabafaocemaaDoorMTlB
import Derived.Test.YtgikabafaocemaaDoorMSpB
namespace Go.Proofs.YtgikabafaocemaaDoor
open Go.RowKit Go.Maps

theorem TreeAt.congr {S : Nat → Prop} {w : World} {tb h N : Nat} {sz : Int} {c : Nat → Nat} {H H' : Nat → Nat → List UInt8} (ht : TreeAt S w tb h sz N c H) (hH : ∀ l i, i < c l → H l i = H' l i) : TreeAt S w tb h sz N c H' := by
  obtain ⟨own, F, mb, h1, h2⟩ := ht.ex
  exact ⟨⟨own, F, mb, h1.congr hH, h2⟩, ht.tb_, ht.lo, ht.hi⟩
theorem TreeAt.cell {S : Nat → Prop} {w : World} {tb h N : Nat} {sz : Int} {c : Nat → Nat} {H : Nat → Nat → List UInt8} (ht : TreeAt S w tb h sz N c H) : ∃ mb, w.heap[tb]? = some (tileC h sz mb) := by
  obtain ⟨own, F, mb, -, q, -⟩ := ht.ex
  exact ⟨mb, q⟩
theorem TreeAt.sized {S : Nat → Prop} {w : World} {tb h N : Nat} {sz : Int} {c : Nat → Nat} {H : Nat → Nat → List UInt8} (ht : TreeAt S w tb h sz N c H) (sz' : Int) : TreeAt S (w.setCell ⟨tb, 1, none⟩ (.int .i64 sz')) tb h sz' N c H := by
  obtain ⟨own, F, mb, h1, h2, h3, h4, h5, h6⟩ := ht.ex
  have k : Keeps (fun q => q = tb) w (w.setCell ⟨tb, 1, none⟩ (.int .i64 sz')) := (Keeps.refl (fun q => q = tb) w).setCell (p := ⟨tb, 1, none⟩) (fun _ => rfl) _
  exact ⟨⟨own, F, mb, h1.keeps k h4 (fun g x hg e => by rw [e, h5] at hg; cases hg), heap_setCell_at h2 1 _, h3, h4, h5, h6⟩, ht.tb_, ht.lo, ht.hi⟩
theorem TreeAt.mono {S : Nat → Prop} {w : World} {tb h N N' : Nat} {sz : Int} {c : Nat → Nat} {H : Nat → Nat → List UInt8} (ht : TreeAt S w tb h sz N c H) (hN : N ≤ N') : TreeAt S w tb h sz N' c H := by
  obtain ⟨own, F, mb, h1, h2⟩ := ht.ex
  exact ⟨⟨own, F, mb, h1.mono hN, h2⟩, ht.tb_, ht.lo, ht.hi⟩
/-- a tree of tiles in memory, which has these leaves -/
structure TileTree (S : Nat → Prop) (w : World) (tb h : Nat) (L : List (List UInt8)) : Prop where
  at_ : TreeAt S w tb h (L.length : Int) (64 * L.length) (fun l => L.length / 2 ^ l) (nodeOf L)
  all : all32P L
  len : L.length ≤ 1048576
  lives : Lives S w
theorem TileTree.keeps {S T : Nat → Prop} {w w' : World} {tb h : Nat} {L : List (List UInt8)} (ht : TileTree S w tb h L) (f : Keeps T w w') (hT : ∀ g, S g → ¬ T g) : TileTree S w' tb h L := ⟨ht.at_.keeps f hT, ht.all, ht.len, ht.lives.keeps f⟩
theorem TileTree.fresh {S : Nat → Prop} {w w' : World} {tb h : Nat} {L : List (List UInt8)} (ht : TileTree S w tb h L) (f : Fresh w w') : TileTree S w' tb h L := ht.keeps f (fun _ _ h => h)
/-- the package variables that are read -/
structure Nums (w : World) : Prop where
  dig : Dig w
  db : DbLaid w
theorem Nums.keeps {T : Nat → Prop} {w w' : World} (h : Nums w) (f : Keeps T w w') (hT : ∀ g, T g → 4 ≤ g) : Nums w' :=
  ⟨⟨h.dig.tab.keeps f (fun q => absurd (hT _ q) (by omega)), h.dig.first.keeps f (fun q => absurd (hT _ q) (by omega)), Nat.le_trans h.dig.room f.size⟩, h.db.keeps f (fun q => absurd (hT _ q) (by omega))⟩
theorem Nums.fresh {w w' : World} (h : Nums w) (f : Fresh w w') : Nums w' := h.keeps f (fun _ h => h.elim)

set_option maxRecDepth 100000 in
set_option maxHeartbeats 1000000 in
theorem pair_any (a b : List UInt8) (ha : a.length = 32) (hb : b.length = 32) (w : World) (hd : Dig w) :
    Calls Tryd.prog 80 #[.string (str a), .string (str b)] w fun e w' => e = .returned (.string (str (nodeH a b))) ∧ Fresh w w' := by
  have hn := hid (node_any a b ha hb w hd)
  go_enter Tryd.func80, Tryd.ntmps80
  go_wp2_with fail
  refine hn.out.mono ?_
  rintro x w1 ⟨rfl, f⟩
  go_wp2_with fail
  go_ret
  exact ⟨rfl, f⟩

/-- a put, as a step of something greater -/
theorem acts_more {S S1 T : Nat → Prop} {w w1 w2 : World} {R : (Nat → Prop) → Prop} {nb : Nat} (hg : Grows S S1 w w1) (hk : Keeps (fun q => S q ∨ T q) w w1) (hl : Lives S1 w1) (hnb : nb < w1.heap.size) (hn : ¬ S1 nb) (hng : 4 ≤ w1.heap.size) (h : Acts S1 w1 w2 R) :
    ∃ S2, Grows S S2 w w2 ∧ Keeps (fun q => S q ∨ T q) w w2 ∧ Keeps S1 w1 w2 ∧ Lives S2 w2 ∧ ¬ S2 nb ∧ R S2 := by
  obtain ⟨S2, hg2, hk2, hr2⟩ := h
  refine ⟨S2, fun k hk' => ?_, hk.trans' hk2 fun i hi h1 => ?_, hk2, fun k hk' => ?_, fun h2 => ?_, hr2⟩
  · rcases hg2 k hk' with h1 | h1
    · rcases hg k h1 with h0 | h0
      · exact .inl h0
      · exact .inr ⟨h0.1, Nat.lt_of_lt_of_le h0.2 hk2.size⟩
    · exact .inr ⟨Nat.le_trans hk.size h1.1, h1.2⟩
  · rcases hg i h1 with h0 | h0
    · exact .inl h0
    · omega
  · rcases hg2 k hk' with h1 | h1
    · have := hl k h1
      exact ⟨this.1, Nat.lt_of_lt_of_le this.2 hk2.size⟩
    · exact ⟨Nat.le_trans hng h1.1, h1.2⟩
  · rcases hg2 nb h2 with h1 | h1
    · exact hn h1
    · omega

set_option maxRecDepth 100000 in
set_option maxHeartbeats 4000000 in
theorem add_any (S : Nat → Prop) (tb h : Nat) (L : List (List UInt8)) (x : List UInt8) (w : World) (ht : TileTree S w tb h L) (hx : x.length = 32) (hL : L.length < 1048576) (hN : Nums w) :
    Calls Tryd.prog 38 #[.pointer (some ⟨tb, 0, none⟩), .string (str x)] w fun e w' => e = .returned (.int .i64 0) ∧ Acts S w w' fun S' => TileTree S' w' tb h (L ++ [x]) := by
  obtain ⟨k, m, hkm⟩ := odd_part (L.length + 1) (by omega)
  have hk20 : k ≤ 20 := by
    apply Classical.byContradiction
    intro hc
    have h1 := Nat.pow_le_pow_right (n := 2) (by omega) (show 21 ≤ k by omega)
    have h2 := Nat.mul_le_mul_left (2 ^ k) (show 1 ≤ 2 * m + 1 by omega)
    rw [Nat.mul_one] at h2
    omega
  have hlv := ht.lives
  have htb := ht.at_.tb_
  have hcell : ∃ mb, w.heap[tb]? = some (tileC h (L.length : Int) mb) := by
    obtain ⟨own, F, mb, -, q, -⟩ := ht.at_.ex
    exact ⟨mb, q⟩
  obtain ⟨mb, hcell⟩ := hcell
  have htbl := lt_of_block hcell
  have hng := hN.dig.room
  obtain ⟨s, hs⟩ : ∃ s, L.length = s := ⟨_, rfl⟩
  have hget : (L ++ [x])[s]? = some x := by rw [← hs]; simp
  have hL' : (L ++ [x]).length = s + 1 := by rw [List.length_append, hs]; rfl
  have hall : all32P (L ++ [x]) := by
    intro y hy
    rcases List.mem_append.1 hy with hy | hy
    · exact ht.all y hy
    · rw [List.mem_singleton.1 hy]; exact hx
  have T0 := ht.at_.congr (H' := nodeOf (L ++ [x])) (fun l i hi => (nodeOf_old L [x] hi).symm)
  rw [hs] at T0 hcell hkm hL
  have f0 : Fresh w (w.alloc (.cells #[.int .i64 0, .int .i64 (s : Int)] 72)) := (Keeps.refl _ _).alloc _
  have hput := put_any S tb h 0 (64 * s) s (fun l => s / 2 ^ l) (nodeOf (L ++ [x])) _ (T0.fresh f0) (by omega) (by simp; omega) (by omega)
  simp only [Nat.pow_zero, Nat.div_one, nodeOf_zero hget, cAt_first] at hput
  rw [show (((0 : Nat) : Int)) = 0 from rfl] at hput
  have htr := fun W (q : DbLaid W) => trail_any k m (by omega) W q
  rw [← hkm, show ((s + 1 : Nat) : Int) = (s : Int) + 1 from rfl] at htr
  obtain ⟨M, hM⟩ : ∃ M, L ++ [x] = M := ⟨_, rfl⟩
  rw [hM] at hput hL' hall ⊢
  have hx0 : nodeOf M 0 s = x := by rw [← hM]; exact nodeOf_zero hget
  have HX0 := hid hx0
  clear hx0
  have HPUT := hid hput
  have HTR := hid htr
  have sx := str_size x
  rw [hx] at sx
  have HKM := hid hkm
  have HLB := hid hL
  have HLL := hid hL'
  have HSL := hid hs
  have HALL := hid hall
  have HK := hid hk20
  clear hput htr hM hget T0 ht
  unfold tileC at hcell
  have x1 := (cell_at hcell 1).trans (show _ = some (Value.int .i64 (s : Int)) from rfl)
  have hLi : ¬ (1048576 : Int) ≤ (s : Int) := by omega
  clear hkm hL hL' hs hall hk20
  go_enter Tryd.func38, Tryd.ntmps38
  go_wp2_with fail
  refine HPUT.out.mono ?_
  rintro e w1 ⟨rfl, hA⟩
  have hnb := heap_alloc_new w (.cells #[.int .i64 0, .int .i64 (s : Int)] 72)
  have hsz1 : (w.alloc (.cells #[.int .i64 0, .int .i64 (s : Int)] 72)).heap.size = w.heap.size + 1 := World.size_alloc _ _
  obtain ⟨S1, g1, k1, kk1, l1, n1, T1⟩ := acts_more (S := S) (T := fun _ => False) (nb := w.heap.size) (w := w) (fun q hq => .inl hq) (f0.mono (fun _ _ h => h.elim)) (hlv.keeps f0) (by omega) (fun hq => by have := hlv _ hq; omega) (by omega) hA
  have hnb1 := kk1.at_ hnb (fun hq => by have := hlv _ hq; omega)
  obtain ⟨mb1, hc1⟩ := T1.cell
  have y1 := (cell_at hc1 1).trans (show _ = some (Value.int .i64 (s : Int)) from rfl)
  clear x1
  have N1 := hN.keeps k1 (fun q hq => hq.elim (fun hq => (hlv q hq).1) (fun hq => hq.elim))
  clear y1 hnb hsz1 hA f0 hcell
  have hp1 := cell_at hc1 1
  unfold tileC at hp1
  simp at hp1
  go_wp2_with fail
  refine (HTR.out w1 N1.db).mono ?_
  rintro e w2 ⟨rfl, f2⟩
  have k2 := k1.trans (f2.mono (fun _ _ h => h.elim))
  have hnb2 := f2.at_ hnb1 (fun h => h)
  have T2 := T1.fresh f2
  have l2 := l1.keeps f2
  have N2 := N1.fresh f2
  have g2 : Grows S S1 w w2 := fun q hq => (g1 q hq).imp id (fun z => ⟨z.1, Nat.lt_of_lt_of_le z.2 f2.size⟩)
  generalize hnbn : w.heap.size = nb at hnb2 n1 ⊢
  have HNB := hid hnbn
  clear hnbn hnb1 hp1 hc1 T1 N1 k1 kk1 g1 l1 f2
  go_wp2_with fail
  go_loopw [1, 32] (fun lf i wr => ∃ (j : Nat) (Sj : Nat → Prop), i = .int .i64 (j : Int) ∧ j ≤ k ∧ lf = .string (str (nodeOf M j (s / 2 ^ j))) ∧ Grows S Sj w wr ∧ Keeps (fun q => S q ∨ False) w wr ∧ Lives Sj wr ∧ ¬ Sj nb ∧ TreeAt Sj wr tb h (s : Int) (64 * s + j + 1) (cAt s j) (nodeOf M) ∧ wr.heap[nb]? = some (.cells #[.int .i64 (j : Int), .int .i64 ((s / 2 ^ j : Nat) : Int)] 72 (0, 0)) ∧ Nums wr) (fun _ i _ => k - (intOf i).toNat)
  case atStart => exact ⟨0, S1, rfl, Nat.zero_le _, by rw [Nat.pow_zero, Nat.div_one, HX0.out], g2, k2, l2, n1, T2, by rw [Nat.pow_zero, Nat.div_one]; exact hnb2, N2⟩
  case round =>
    obtain ⟨j, Sj, rfl, hj, rfl, gj, kj, lj, nj, Tj, bj, Nj⟩ := hrel
    by_cases hlt : j < k
    · have hodd := count_odd HKM.out hlt
      have hup := (count_up HKM.out hj).1
      have hnx := nodeOf_next HLL.out HKM.out hlt
      have hA20 : s / 2 ^ j ≤ s := Nat.div_le_self _ _
      have hnode := fun W (q : TreeAt Sj W tb h (s : Int) (64 * s + j + 1) (cAt s j) (nodeOf M)) => tlnode_any Sj tb h j (s / 2 ^ j - 1) (64 * s + j + 1) s (cAt s j) (nodeOf M) W q (by have := HK.out; omega) (by have := HLB.out; omega) (by rw [cAt_here, hup]; omega)
      have hpair := fun W (q : Dig W) => pair_any (nodeOf M j (s / 2 ^ j - 1)) (nodeOf M j (s / 2 ^ j)) (nodeOf_len HALL.out _ _) (nodeOf_len HALL.out _ _) W q
      have hput := fun W (q : TreeAt Sj W tb h (s : Int) (64 * s + j + 1) (cAt s j) (nodeOf M)) => put_any Sj tb h (j + 1) (64 * s + j + 1) s (cAt s j) (nodeOf M) W q (by have := HK.out; omega) (by rw [cAt_above]; have := Nat.div_le_self s (2 ^ (j + 1)); have := HLB.out; omega) (by have := HK.out; have := HLB.out; omega)
      rw [cAt_above, ← hnx, cAt_next HKM.out hlt] at hput
      obtain ⟨A, hA⟩ : ∃ A, s / 2 ^ j = A := ⟨_, rfl⟩
      obtain ⟨B, hB⟩ : ∃ B, s / 2 ^ (j + 1) = B := ⟨_, rfl⟩
      rw [hA, hB] at hodd
      rw [hB] at hput
      simp only [hA] at hput
      simp only [hA] at hnode hpair bj hA20 hnx ⊢
      rw [hB] at hnx
      have hA1 : ((A - 1 : Nat) : Int) = (A : Int) - 1 := by omega
      have hB1 : (A : Int) / 2 = (B : Int) := by omega
      have hAs : (A : Int) ≤ 1048576 := by have := HLB.out; omega
      have hA0 : (1 : Int) ≤ (A : Int) := by omega
      rw [hA1] at hnode
      rw [show ((j + 1 : Nat) : Int) = (j : Int) + 1 from rfl] at hput
      obtain ⟨PV, hPV⟩ : ∃ PV, nodeOf M j (A - 1) = PV := ⟨_, rfl⟩
      obtain ⟨LV, hLV⟩ : ∃ LV, nodeOf M j A = LV := ⟨_, rfl⟩
      obtain ⟨HV, hHV⟩ : ∃ HV, nodeH PV LV = HV := ⟨_, rfl⟩
      rw [hPV] at hnode hpair hput hnx
      rw [hLV] at hpair hput hnx ⊢
      rw [hHV] at hpair hput hnx
      have HNODE := hid hnode
      have HPAIR := hid hpair
      have HPUT2 := hid hput
      have HNX := hid hnx
      have HJ := hid hj
      have HLT := hid hlt
      have HBE := hid hB
      have HB1 := hid hB1
      have TJ := hid Tj
      have hjk : (j : Int) < (k : Int) := by omega
      have hj40 : (j : Int) ≤ 64 := by have := HK.out; omega
      clear hnode hpair hput hnx hodd hup hA20 hA hB hA1 hPV hLV hHV hj hlt Tj hB1
      have c0 := (cell_at bj 0).trans (show _ = some (Value.int .i64 (j : Int)) from rfl)
      have c1 := (cell_at bj 1).trans (show _ = some (Value.int .i64 (A : Int)) from rfl)
      have BJ := hid bj
      clear bj hnb2
      go_wp2_with fail
      refine (HNODE.out wr TJ.out).mono ?_
      rintro e w3 ⟨rfl, f3⟩
      go_wp2_with fail
      refine (HPAIR.out w3 (Nj.fresh f3).dig).mono ?_
      rintro e w4 ⟨rfl, f4⟩
      have f34 := f3.trans f4
      have b4 := f34.at_ BJ.out (fun h => h)
      clear c0 c1
      have c0 := (cell_at b4 0).trans (show _ = some (Value.int .i64 (j : Int)) from rfl)
      have c1 := (cell_at b4 1).trans (show _ = some (Value.int .i64 (A : Int)) from rfl)
      have z0 := free_at b4 0
      have z1 := free_at b4 1
      have B4 := hid b4
      clear b4
      go_wp2_with fail
      have T4 := TJ.out.fresh f34
      have N4 := Nj.fresh f34
      have hnbl := lt_of_block B4.out
      rw [HB1.out]
      have kS : Keeps (fun q => q = nb) w4 ((w4.setCell ⟨nb, 0, none⟩ (.int .i64 ((j : Int) + 1))).setCell ⟨nb, 1, none⟩ (.int .i64 (B : Int))) := ((Keeps.refl (fun q => q = nb) w4).setCell (p := ⟨nb, 0, none⟩) (fun _ => rfl) _).setCell (p := ⟨nb, 1, none⟩) (fun _ => rfl) _
      have b5 := heap_setCell_at (heap_setCell_at B4.out 0 (.int .i64 ((j : Int) + 1))) 1 (.int .i64 (B : Int))
      generalize (w4.setCell ⟨nb, 0, none⟩ (.int .i64 ((j : Int) + 1))).setCell ⟨nb, 1, none⟩ (.int .i64 (B : Int)) = w5 at kS b5 ⊢
      have hS5 := kS.size
      have T5 := T4.keeps kS (fun q hq e => nj (e ▸ hq))
      have N5 := N4.keeps kS (fun q e => by have := HNB.out; omega)
      have k5 : Keeps (fun q => S q ∨ False) w w5 := (kj.trans (f34.mono (fun _ _ h => h.elim))).trans' kS (fun q hq e => by have := HNB.out; omega)
      have g5 : Grows S Sj w w5 := fun q hq => (gj q hq).imp id (fun z => ⟨z.1, by have := f34.size; omega⟩)
      have l5 := (lj.keeps f34).keeps kS
      clear TJ T4 N4 f34 f3 f4 c0 c1 z0 z1 kj gj lj Nj
      refine (HPUT2.out w5 T5).mono ?_
      rintro e w6 ⟨rfl, hA6⟩
      obtain ⟨S6, g6, k6, kk6, l6, n6, T6⟩ := acts_more (S := S) (T := fun _ => False) (nb := nb) g5 k5 l5 (by omega) nj (by have := k5.size; omega) hA6
      have b6 := kk6.at_ b5 nj
      have N6 := N5.keeps kk6 (fun q hq => (l5 q hq).1)
      clear hA6
      go_wp2_with fail
      go_roundw
      case rel => exact ⟨j + 1, S6, by simp, HLT.out, by rw [HNX.out, HBE.out], g6, k6, l6, n6, T6, by rw [HBE.out]; exact b6, N6⟩
      case measure => have := HLT.out; simp [intOf]; omega
    · have hjk : j = k := by omega
      have hjk' : ¬ (j : Int) < (k : Int) := by omega
      have TJ := hid Tj
      have HJE := hid hjk
      clear hlt hj hjk hnb2 bj Tj
      obtain ⟨mbj, hcj⟩ := TJ.out.cell
      unfold tileC at hcj
      have c1 := (cell_at hcj 1).trans (show _ = some (Value.int .i64 (s : Int)) from rfl)
      have z1 := free_at hcj 1
      have HCJ := hid hcj
      clear hcj
      have TF := ((TJ.out.sized ((s : Int) + 1)).mono (N' := 64 * (s + 1)) (by have := HK.out; have := HJE.out; omega))
      have hcl : cAt s j = fun l => (s + 1) / 2 ^ l := by rw [HJE.out]; exact cAt_last HKM.out
      rw [hcl, show (s : Int) + 1 = ((s + 1 : Nat) : Int) from rfl, ← HLL.out] at TF
      have hSt : Sj tb := TJ.out.tb_
      have kF : Keeps Sj wr (wr.setCell ⟨tb, 1, none⟩ (.int .i64 ((s : Int) + 1))) := (Keeps.refl Sj wr).setCell (p := ⟨tb, 1, none⟩) (fun _ => hSt) _
      have hend : Acts S w (wr.setCell ⟨tb, 1, none⟩ (.int .i64 ((s : Int) + 1))) fun S' => TileTree S' (wr.setCell ⟨tb, 1, none⟩ (.int .i64 ((s : Int) + 1))) tb h M := by
        have kj' : Keeps S w wr := kj.mono (fun _ _ h => h.elim id (fun h => h.elim))
        refine ⟨Sj, fun q hq => (gj q hq).imp id (fun z => ⟨z.1, by have := kF.size; omega⟩), kj'.trans' kF (fun q hq h1 => ?_), ⟨?_, HALL.out, by have := HLB.out; have := HLL.out; omega, lj.keeps kF⟩⟩
        · rcases gj q h1 with z | z
          · exact z
          · omega
        · have e : ((M.length : Nat) : Int) = (s : Int) + 1 := by have := HLL.out; omega
          rw [e] at TF
          rw [e]
          exact TF
      have HEND := hid hend
      clear hend TF hcl kF
      go_wp2_with fail
      go_ret
      exact ⟨rfl, HEND.out⟩
end Go.Proofs.YtgikabafaocemaaDoor
