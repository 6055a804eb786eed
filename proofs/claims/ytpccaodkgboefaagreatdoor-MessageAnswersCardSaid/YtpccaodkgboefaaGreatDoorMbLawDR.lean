/-
  MessageAnswers, walked.
-/
import Derived.Test.YtpccaodkgboefaaGreatDoorMMg
import Derived.Test.YtpccaodkgboefaaGreatDoorMMds
import Derived.Test.YtpccaodkgboefaaGreatDoorMsSame
import Derived.Test.YtpccaodkgboefaaGreatDoorMMsH
namespace Go.Proofs.YtpccaodkgboefaaGreatDoor
open Go.RowKit

theorem GBook.start {w : World} {b : Nat} (hg : 1 ≤ b) (h : w.heap[b]? = some (.cells #[.slice none 0 0, .slice none 0 0, .slice none 0 0, .slice none 0 0] 34 (0, 0))) (M : Nat) : GBook (fun q => q = b) w b 0 (fun _ => []) M :=
  ⟨fun _ => .slice none 0 0, ⟨hg, h, rfl, fun q hq => by subst hq; exact lt_of_block h, fun i => World.ownsRow_nil _ _ _ _, fun i g hg => (by cases hg), fun i j g _ hg => (by cases hg)⟩, ⟨fun i u hu => (by cases hu), fun i u g hu => (by cases hu), fun i j m n u v g hu => (by simp at hu)⟩, fun i => Nat.le_refl _⟩
theorem take_snoc {α : Type} {l : List α} {n : Nat} {x : α} (h : l[n]? = some x) : l.take (n + 1) = l.take n ++ [x] := by
  rw [List.take_add_one, h]
  rfl

set_option maxRecDepth 100000 in
set_option maxHeartbeats 8000000 in
theorem answers_any (K : Int) (s o : List UInt8) (w : World) (hl : Laid w) (hs : s.length ≤ 4611686018427387904) (ho : o.length ≤ 4611686018427387904) :
    Calls Tryz.prog 6 #[.int .i64 K, .string (str s), .string (str o)] w fun e w' => e = .returned (.bool true) ∧ Fresh w w' := by
  have hg := World.block_lt_of_cell? w _ hl
  simp only at hg
  obtain ⟨L, hL⟩ : ∃ L, [s, s, o, s] = L := ⟨_, rfl⟩
  have hL4 : L.length = 4 := by rw [← hL]; rfl
  have hLs : Hid (∀ t ∈ L, t.length ≤ 4611686018427387904) := fun t ht => by
    rw [← hL] at ht
    simp at ht
    rcases ht with rfl | rfl | rfl | rfl <;> assumption
  have harr : #[Value.string (str s), .string (str s), .string (str o), .string (str s)] = (texts L).toArray := by rw [← hL]; rfl
  obtain ⟨D, hD⟩ : ∃ D, L.map (fun t => (decRep K t).1) = D := ⟨_, rfl⟩
  have hD4 : D.length = 4 := by rw [← hD, List.length_map, hL4]
  have HDG : Hid (∀ (n : Nat) (t : List UInt8), L[n]? = some t → D[n]? = some (decRep K t).1) := fun n t ht => by rw [← hD, List.getElem?_map, ht]; rfl
  have hL4' := hid hL4
  have hD4' := hid hD4
  clear hL hD hL4 hD4
  go_enter Tryz.func6, Tryz.ntmps6
  go_wp2_with fail
  refine (mknown_any w hl).mono ?_
  rintro e w1 ⟨rfl, f1⟩
  have hga := heap_alloc_new w1 (.cells #[Value.string (str s), .string (str s), .string (str o), .string (str s)] 9)
  have fa : Fresh w1 (w1.alloc (.cells #[Value.string (str s), .string (str s), .string (str o), .string (str s)] 9)) := (Keeps.refl _ _).alloc _
  obtain ⟨w2, hw2⟩ : ∃ W, w1.alloc (.cells #[Value.string (str s), .string (str s), .string (str o), .string (str s)] 9) = W := ⟨_, rfl⟩
  obtain ⟨ga, hga2⟩ : ∃ g, w1.heap.size = g := ⟨_, rfl⟩
  rw [hw2, hga2, harr] at hga
  rw [hw2] at fa
  have fb : Fresh w2 (w2.alloc (.cells #[.slice none 0 0, .slice none 0 0, .slice none 0 0, .slice none 0 0] 34)) := (Keeps.refl _ _).alloc _
  have hs1 := f1.size
  have hs2 := fa.size
  have hbk := GBook.start (by omega) (heap_alloc_new w2 (.cells #[.slice none 0 0, .slice none 0 0, .slice none 0 0, .slice none 0 0] 34)) 1000000000
  obtain ⟨w3, hw3⟩ : ∃ W, w2.alloc (.cells #[.slice none 0 0, .slice none 0 0, .slice none 0 0, .slice none 0 0] 34) = W := ⟨_, rfl⟩
  obtain ⟨b, hb⟩ : ∃ b, w2.heap.size = b := ⟨_, rfl⟩
  have hbg : ga + 1 = b := by rw [← hb, ← hw2, ← hga2]; simp
  have hgaw := lt_of_block hga
  rw [hw3] at fb hbk
  rw [hb] at hbk hgaw
  have hga3 := fb.at_ hga (fun h => h)
  have HGA := hid hga3
  have HBK := hid hbk
  have HF3 := hid ((f1.trans fa).trans fb)
  have hsb : b < w3.heap.size := by rw [← hw3]; simp; omega
  have hgb : ga ≠ b := by omega
  have hwb : w.heap.size ≤ b := by omega
  have hHW := hid (And.intro hw2 (And.intro hga2 (And.intro hw3 hbg)))
  clear hga fa fb hbk hga3 f1 harr hw2 hga2 hw3 hb hs1 hs2 hbg
  go_wp2_with fail
  obtain ⟨e1, e2, e3, e4⟩ := hHW.out
  rw [e1, e2, e3, e4]
  clear e1 e2 e3 e4 hHW
  go_loopw [10, 11] (fun lv i wr => ∃ (n : Nat) (cs : List Value) (bE : List Nat), i = .int .i64 (n : Int) ∧ n ≤ 4 ∧ wr.ownsRow 0 48 8 lv n cs ∧ ReplsOwn wr (D.take n) cs bE ∧ (lv.ownBlock.toList ++ bE).Nodup ∧ (∀ q ∈ lv.ownBlock.toList ++ bE, w3.heap.size ≤ q ∧ q < wr.heap.size) ∧ Fresh w3 wr) (fun _ i _ => 4 - (intOf i).toNat)
  case atStart => exact ⟨0, [], [], rfl, by omega, World.ownsRow_nil _ _ _ _, by rw [List.take_zero, ReplsOwn]; exact ⟨rfl, rfl⟩, List.nodup_nil, (fun q hq => nomatch hq), Keeps.refl _ _⟩
  case round =>
    obtain ⟨n, cs, bE, rfl, hn, hrow, hel, hnd, hnew, fr⟩ := hrel
    obtain ⟨oo, oc, rfl⟩ := ownsRow_slice hrow
    have HROW := hid hrow
    have HEL := hid hel
    have HND := hid hnd
    have HNEW := hid hnew
    have FR := hid fr
    by_cases hlt : n < 4
    · obtain ⟨x, hx⟩ : ∃ x, L[n]? = some x := ⟨L[n]'(by have := hL4'.out; omega), List.getElem?_eq_getElem (by have := hL4'.out; omega)⟩
      have hcx : wr.cell? ⟨ga, n, none⟩ = some (.string (str x)) := by
        rw [cell_at (fr.at_ HGA.out (fun h => h))]
        simp [texts, hx]
      have hDn := HDG.out n x hx
      have hxs := hLs.out x (List.mem_of_getElem? hx)
      obtain ⟨q, hq⟩ : ∃ q, decRep K x = q := ⟨_, rfl⟩
      have hqs : TinyR (decRep K x).1 ∧ FineR (decRep K x).1 ∧ cntR (decRep K x).1 ≤ 800 := ⟨(decRep_tiny K x).1, TinyR.fine _ (decRep_tiny K x).1, (decRep_tiny K x).2⟩
      have hdd := fun W hW => ddecodeRep_any K x W hW hxs
      have hpd := fun W hW => decodeRep_any K x W hW (by omega)
      rw [hq] at hDn hqs hdd hpd
      obtain ⟨R, rs, ee⟩ := q
      simp only at hDn hqs
      have HDN := hid hDn
      have HQS := hid hqs
      have HDD := hid hdd
      have HPD := hid hpd
      have hn0 : (0 : Int) ≤ (n : Int) := by omega
      have hn1 : (n : Int) < 4 := by omega
      clear hdd hpd hDn hqs hq hx hxs hrow hel hnd hnew
      go_wp2_with fail
      refine (HDD.out wr (hl.fresh_ (HF3.out.trans fr))).mono ?_
      rintro e w4 ⟨v1, bl1, rfl, f4, ho1, hnd1, hbl1⟩
      obtain ⟨al1, cl1, ae1, ce1, aq1, cq1, rfl⟩ := ho1.shape
      simp only at ho1
      have fa4 : Fresh w4 (w4.alloc (.cells #[.int .i64 R.status, .int .i64 R.size, .int .i64 R.a, .int .i64 R.b, .string (str R.root), .slice al1 R.hashes.length cl1, .slice ae1 R.entries.length ce1, .slice aq1 R.replies.length cq1] 48)) := (Keeps.refl _ _).alloc _
      have hb5 := heap_alloc_new w4 (.cells #[.int .i64 R.status, .int .i64 R.size, .int .i64 R.a, .int .i64 R.b, .string (str R.root), .slice al1 R.hashes.length cl1, .slice ae1 R.entries.length ce1, .slice aq1 R.replies.length cq1] 48)
      obtain ⟨w5, hw5⟩ : ∃ W, w4.alloc (.cells #[.int .i64 R.status, .int .i64 R.size, .int .i64 R.a, .int .i64 R.b, .string (str R.root), .slice al1 R.hashes.length cl1, .slice ae1 R.entries.length ce1, .slice aq1 R.replies.length cq1] 48) = W := ⟨_, rfl⟩
      obtain ⟨p5, hp5⟩ : ∃ g, w4.heap.size = g := ⟨_, rfl⟩
      rw [hw5] at fa4 hb5
      rw [hp5] at hb5
      have f5 := (fr.trans f4).trans fa4
      have f05 := hid (f4.trans fa4)
      have ho15 := RepOwn.fresh fa4 ho1
      have HO1 := hid ho15
      have HB5 := hid hb5
      have F5 := hid f5
      have hw5' := hid (And.intro hw5 hp5)
      have hcx5 : w5.cell? ⟨ga, n, none⟩ = some (.string (str x)) := (f05.out.cell (p := ⟨ga, n, none⟩) (lt_of_block (fr.at_ HGA.out (fun h => h))) (fun h => h)).trans hcx
      clear hcx ho1 ho15 hb5 f4 fa4 hw5 hp5 f5
      go_upto_region 9 with fail
      obtain ⟨e1, e2⟩ := hw5'.out
      rw [e1, e2]
      clear e1 e2 hw5'
      go_wp2_with fail
      refine (HPD.out w5 (hl.fresh_ (HF3.out.trans F5.out))).mono ?_
      rintro e w6 ⟨v2, bl2, rfl, f6, ho2, hnd2, hbl2⟩
      obtain ⟨al2, cl2, ae2, ce2, aq2, cq2, rfl⟩ := ho2.shape
      simp only at ho2
      have fa6 : Fresh w6 (w6.alloc (.cells #[.int .i64 R.status, .int .i64 R.size, .int .i64 R.a, .int .i64 R.b, .string (str R.root), .slice al2 R.hashes.length cl2, .slice ae2 R.entries.length ce2, .slice aq2 R.replies.length cq2] 48)) := (Keeps.refl _ _).alloc _
      have hb7 := heap_alloc_new w6 (.cells #[.int .i64 R.status, .int .i64 R.size, .int .i64 R.a, .int .i64 R.b, .string (str R.root), .slice al2 R.hashes.length cl2, .slice ae2 R.entries.length ce2, .slice aq2 R.replies.length cq2] 48)
      obtain ⟨w7, hw7⟩ : ∃ W, w6.alloc (.cells #[.int .i64 R.status, .int .i64 R.size, .int .i64 R.a, .int .i64 R.b, .string (str R.root), .slice al2 R.hashes.length cl2, .slice ae2 R.entries.length ce2, .slice aq2 R.replies.length cq2] 48) = W := ⟨_, rfl⟩
      obtain ⟨p7, hp7⟩ : ∃ g, w6.heap.size = g := ⟨_, rfl⟩
      rw [hw7] at fa6 hb7
      rw [hp7] at hb7
      have f57 := f6.trans fa6
      have hb57 := f57.at_ HB5.out (fun h => h)
      have ho17 := RepOwn.fresh f57 HO1.out
      have ho27 := RepOwn.fresh fa6 ho2
      have HC := hid (sameReply_self _ R (Nat.le_refl _) (fun g => g ∈ bl2) (fun g => g ∈ bl1) _ _ w7 (RepOwn.at _ _ _ ho27 _ (fun _ h => h)) (RepOwn.at _ _ _ ho17 _ (fun _ h => h)) HQS.out.2.1)
      have HO2 := hid ho27
      have HB7 := hid hb7
      have F7 := hid (F5.out.trans f57)
      have F57 := hid f57
      have hw7' := hid (And.intro hw7 hp7)
      have hs57 := f6.size
      have x0 := cell_at hb7 0
      have x1 := cell_at hb7 1
      have x2 := cell_at hb7 2
      have x3 := cell_at hb7 3
      have x4 := cell_at hb7 4
      have x5 := cell_at hb7 5
      have x6 := cell_at hb7 6
      have x7 := cell_at hb7 7
      have y0 := cell_at hb57 0
      have y1 := cell_at hb57 1
      have y2 := cell_at hb57 2
      have y3 := cell_at hb57 3
      have y4 := cell_at hb57 4
      have y5 := cell_at hb57 5
      have y6 := cell_at hb57 6
      have y7 := cell_at hb57 7
      simp at x0 x1 x2 x3 x4 x5 x6 x7 y0 y1 y2 y3 y4 y5 y6 y7
      clear hcx5 ho2 ho17 ho27 hb7 hb57 f6 fa6 f57 hw7 hp7
      go_upto_region 10 with fail
      obtain ⟨e1, e2⟩ := hw7'.out
      rw [e1, e2]
      clear e1 e2 hw7'
      go_wp2_with fail
      refine HC.out.mono ?_
      rintro e w8 ⟨rfl, f8⟩
      have hb8 := f8.at_ HB7.out (fun h => h)
      have fw8 : Fresh wr w8 := (f05.out.trans F57.out).trans f8
      have F8 := hid fw8
      have HO8 := hid (RepOwn.fresh f8 HO2.out)
      have hr8 := ownsRow_keeps HROW.out fw8 (fun _ _ h => h)
      have HR8 := hid hr8
      have HE8 := hid (ReplsOwn.keeps fw8 _ _ _ HEL.out (fun _ _ h => h))
      clear x0 x1 x2 x3 x4 x5 x6 x7 y0 y1 y2 y3 y4 y5 y6 y7
      have x0 := cell_at hb8 0
      have x1 := cell_at hb8 1
      have x2 := cell_at hb8 2
      have x3 := cell_at hb8 3
      have x4 := cell_at hb8 4
      have x5 := cell_at hb8 5
      have x6 := cell_at hb8 6
      have x7 := cell_at hb8 7
      simp at x0 x1 x2 x3 x4 x5 x6 x7
      obtain ⟨i0, hi, hz0, hz1, hz2⟩ := info_parts Tryz.infoRep
      have hqr : ((str rs).toList != (str rs).toList) = false := by simp
      have hqe : (ee != ee) = false := by simp
      clear hb8 f8 hr8 fw8 HC
      go_wp2_with (at_builtin; (refine wpList_pushN rfl (.tmp 73) (.tmp 75) 46 rfl 48 i0 _ 8 120 Tryz.underlying46 hi hz0 hz1 hz2 rfl (by omega) w8 HR8.out _ (by rfl) (by rfl) (by rfl) (by simp [Value.oneCell']) (by omega) (by unfold maxLen; omega) ?_))
      intro v9 w9 ha
      have hrow9 := ha.row
      obtain ⟨o9, c9, rfl⟩ := ownsRow_slice hrow9
      have hS8 := F8.out.size
      have hel9 : ReplsOwn w9 (D.take n) cs bE := ReplsOwn.keeps ha.keeps _ _ _ HE8.out (fun q hq he => (List.nodup_append.1 HND.out).2.2 q (mem_ownBlock.2 he) q hq rfl)
      have hdis : ∀ q ∈ bl2, q ∉ (Value.slice oo n oc).ownBlock.toList ++ bE := fun q hq hq2 => by
        have h1 := hbl2 q hq
        have h2 := (HNEW.out q hq2).2
        have h3 := f05.out.size
        omega
      have ho9 := RepOwn.keeps ha.keeps _ _ _ HO8.out (fun q hq he => hdis q hq (by simp [mem_ownBlock.2 he]))
      have hsn := hel9.snoc ho9
      rw [← take_snoc HDN.out] at hsn
      have hb28 : ∀ q ∈ bl2, q < w8.heap.size := fun q hq => RepOwn.there _ _ _ HO8.out q hq
      have hnd9 : ((Value.slice o9 (n + 1) c9).ownBlock.toList ++ (bE ++ bl2)).Nodup := nodup_push (L := []) (E := []) (N := w8.heap.size) (A := (Value.slice oo n oc).ownBlock.toList) HND.out (fun q hq => Nat.lt_of_lt_of_le (HNEW.out q hq).2 hS8) (by cases (Value.slice o9 (n + 1) c9).ownBlock <;> simp) (fun q hq => (ha.own q (mem_ownBlock.1 hq)).imp mem_ownBlock.2 fun h => h.1) hnd2 (fun q hq => ⟨hb28 q hq, hdis q hq⟩)
      have hnew9 : ∀ q ∈ (Value.slice o9 (n + 1) c9).ownBlock.toList ++ (bE ++ bl2), w3.heap.size ≤ q ∧ q < w9.heap.size := fun q hq => by
        have h9 := ha.keeps.size
        have h0 := FR.out.size
        have h5 := f05.out.size
        simp only [List.mem_append] at hq
        rcases hq with hq | hq | hq
        · refine ⟨?_, (hrow9.lt q (mem_ownBlock.1 hq)).2⟩
          rcases ha.own q (mem_ownBlock.1 hq) with h | h
          · exact (HNEW.out q (by simp [mem_ownBlock.2 h])).1
          · omega
        · have := HNEW.out q (by simp [hq])
          omega
        · have := hbl2 q hq
          have := hb28 q hq
          omega
      have fr9 : Fresh w3 w9 := (FR.out.trans F8.out).trans' ha.keeps fun q hq he => by have := (HNEW.out q (by simp [mem_ownBlock.2 he])).1; omega
      have HREL := hid (And.intro hrow9 (And.intro hsn (And.intro hnd9 (And.intro hnew9 fr9))))
      clear ha hrow9 hel9 hdis ho9 hsn hb28 hnd9 hnew9 fr9 x0 x1 x2 x3 x4 x5 x6 x7
      go_wp2_with fail
      go_roundw
      case rel => exact ⟨n + 1, _, _, by go_num, by omega, HREL.out.1, HREL.out.2.1, HREL.out.2.2.1, HREL.out.2.2.2.1, HREL.out.2.2.2.2⟩
      case measure => simp [intOf]; omega
    · obtain rfl : n = 4 := by omega
      have htk : D.take 4 = D := List.take_of_length_le (by have := hD4'.out; omega)
      rw [htk] at hel
      rename World => w9
      have HE9 := hid hel
      have hbk9 := HBK.out.fresh fr
      have HG9 := hid (Gathered.start (B := fun g => g ∈ ([] : List Nat)) hbk9 (Keeps.refl (fun _ => False) w9))
      have hga9 := hid (fr.at_ HGA.out (fun h => h))
      have hszr := fr.size
      clear hrow hel hnd hnew hbk9
      go_wp2_with fail
      go_loopw [19] (fun i wr => ∃ (m : Nat) (p r : List Nat) (S5 : Nat → Prop) (X5 : Fin 4 → List Value), i = .int .i64 (m : Int) ∧ m ≤ 4 ∧ bE = p ++ r ∧ ReplsOwn w9 (D.drop m) (cs.drop (m * 8)) r ∧ Gathered (fun q => q = b) (fun g => g ∈ p) b (800 * m) (fun _ => []) 1000000000 w9 wr S5 X5) (fun i _ => 4 - (intOf i).toNat)
      case atStart => exact ⟨0, [], bE, fun q => q = b, fun _ => [], rfl, by omega, rfl, HE9.out, HG9.out⟩
      case round =>
        obtain ⟨m, p, r, S5, X5, rfl, hm, hp, hel, hG⟩ := hrel
        have HG := hid hG
        have HPP := hid hp
        by_cases hlt : m < 4
        · obtain ⟨x, hx⟩ : ∃ x, L[m]? = some x := ⟨L[m]'(by have := hL4'.out; omega), List.getElem?_eq_getElem (by have := hL4'.out; omega)⟩
          have hgam := hG.2.1.at_ hga9.out hgb
          have hcx : wr.cell? ⟨ga, m, none⟩ = some (.string (str x)) := by
            rw [cell_at hgam]
            simp [texts, hx]
          have hDn := HDG.out m x hx
          have hxs := hLs.out x (List.mem_of_getElem? hx)
          have hqs : TinyR (decRep K x).1 ∧ FineR (decRep K x).1 ∧ cntR (decRep K x).1 ≤ 800 := ⟨(decRep_tiny K x).1, TinyR.fine _ (decRep_tiny K x).1, (decRep_tiny K x).2⟩
          obtain ⟨q, hq⟩ : ∃ q, decRep K x = q := ⟨_, rfl⟩
          have hdd := fun W hW => ddecodeRep_any K x W hW hxs
          rw [hq] at hDn hqs hdd
          obtain ⟨R, rs, ee⟩ := q
          simp only at hDn hqs
          have hdr : D.drop m = R :: D.drop (m + 1) := by
            obtain ⟨hj, he⟩ := List.getElem?_eq_some_iff.1 hDn
            rw [← he]
            exact List.drop_eq_getElem_cons hj
          rw [hdr, ReplsOwn] at hel
          obtain ⟨c0, c1, c2, c3, c4, c5, c6, c7, cs', bu, b2, hcs, hou, hel', rfl⟩ := hel
          have hcs2 : cs.drop ((m + 1) * 8) = cs' := by
            have := congrArg (List.drop 8) hcs
            rwa [List.drop_drop, show m * 8 + 8 = (m + 1) * 8 by omega] at this
          have hget : ∀ j y, [c0, c1, c2, c3, c4, c5, c6, c7][j]? = some y → cs[m * 8 + j]? = some y := fun j y hy => by
            have h1 : (cs.drop (m * 8))[j]? = some y := by
              rw [hcs, show c0 :: c1 :: c2 :: c3 :: c4 :: c5 :: c6 :: c7 :: cs' = [c0, c1, c2, c3, c4, c5, c6, c7] ++ cs' from rfl, List.getElem?_append_left (List.getElem?_eq_some_iff.1 hy).1]
              exact hy
            rwa [List.getElem?_drop] at h1
          have hoff : ∀ g, (Value.slice oo 4 oc).ownBlock = some g → ¬ g = b := fun g hg e => by have := (HNEW.out g (by simp [mem_ownBlock.2 hg])).1; omega
          have hrowm := ownsRow_keeps HROW.out hG.2.1 hoff
          obtain ⟨gl, hgl, hcells6⟩ := rowCellsB hrowm (by omega)
          subst hgl
          have hglw : gl < wr.heap.size := (hrowm.lt gl rfl).2
          have z0 := (hcells6 _ _ (hget 0 c0 rfl)).2
          have z1 := (hcells6 _ _ (hget 1 c1 rfl)).2
          have z2 := (hcells6 _ _ (hget 2 c2 rfl)).2
          have z3 := (hcells6 _ _ (hget 3 c3 rfl)).2
          have z4 := (hcells6 _ _ (hget 4 c4 rfl)).2
          have z5 := (hcells6 _ _ (hget 5 c5 rfl)).2
          have z6 := (hcells6 _ _ (hget 6 c6 rfl)).2
          have z7 := (hcells6 _ _ (hget 7 c7 rfl)).2
          rw [Nat.add_zero] at z0
          have hZ := hid (And.intro z0 (And.intro z1 (And.intro z2 (And.intro z3 (And.intro z4 (And.intro z5 (And.intro z6 z7)))))))
          have hmemu : ∀ q ∈ bu, q ∈ bE := fun q hq => by rw [HPP.out]; simp [hq]
          have hdis : ∀ q ∈ bu, ¬ q ∈ p := fun q hq hq2 => by
            have h1 := (List.nodup_append.1 HND.out).2.1
            rw [HPP.out] at h1
            exact (List.nodup_append.1 h1).2.2 q hq2 q (by simp [hq]) rfl
          have hndu : bu.Nodup := by
            have h1 := (List.nodup_append.1 HND.out).2.1
            rw [HPP.out] at h1
            exact (List.nodup_append.1 (List.nodup_append.1 h1).2.1).1
          have hbb : ∀ q ∈ bu, ¬ q = b := fun q hq e => by have := (HNEW.out q (by simp [hmemu q hq])).1; omega
          have hlt9 : ∀ q ∈ bu, q < w9.heap.size := fun q hq => (HNEW.out q (by simp [hmemu q hq])).2
          have HOU := hid (RepOwn.keeps hG.2.1 _ _ _ hou hbb)
          have HGA2 : Hid (∀ W, Fresh wr W → Calls Tryz.prog 25 #[.pointer (some ⟨b, 0, none⟩), .agg #[c0, c1, c2, c3, c4, c5, c6, c7]] W fun e w' => Gath S5 bu b (800 * m + cntR R) X5 1000000000 W e w') := fun W hW => by
            have hGW := HG.out.next hW
            exact gatherReply_any _ R (Nat.le_refl _) hqs.1 S5 b _ X5 _ bu W hGW.2.2.1 (RepOwn.fresh hW HOU.out) hndu (fun q hq => hGW.off (hlt9 q hq) (hbb q hq)) (fun q hq => hGW.apart (fun i u hu => by cases hu) (hdis q hq)) (by have := hqs.2.2; omega)
          have HELB := hid (show ReplsOwn w9 (D.drop (m + 1)) (cs.drop ((m + 1) * 8)) b2 by rw [hcs2]; exact hel')
          have HQS := hid hqs
          have HDD := hid hdd
          have hl9 : Hid (∀ W, Fresh wr W → Laid W) := fun W hW => hl.fresh_ (((HF3.out.trans fr).trans' (hG.2.1.mono (S' := fun q => q = b) fun _ _ h => h) (fun q hq e => by omega)).trans hW)
          have hm0 : (0 : Int) ≤ (m : Int) := by omega
          have hm1 : (m : Int) < 4 := by omega
          clear hdd hDn hqs hq hx hxs hdr hcs hou hel' hget hrowm hcells6 hmemu hdis hndu hbb hlt9 hcs2 hgam hG hp z0 z1 z2 z3 z4 z5 z6 z7 hoff
          go_wp2_with fail
          refine (HDD.out wr (hl9.out wr (Keeps.refl _ _))).mono ?_
          rintro e w10 ⟨v1, bl1, rfl, f10, ho1, -, -⟩
          obtain ⟨al1, cl1, ae1, ce1, aq1, cq1, rfl⟩ := ho1.shape
          simp only at ho1
          have fa10 : Fresh w10 (w10.alloc (.cells #[.int .i64 R.status, .int .i64 R.size, .int .i64 R.a, .int .i64 R.b, .string (str R.root), .slice al1 R.hashes.length cl1, .slice ae1 R.entries.length ce1, .slice aq1 R.replies.length cq1] 48)) := (Keeps.refl _ _).alloc _
          have hb11 := heap_alloc_new w10 (.cells #[.int .i64 R.status, .int .i64 R.size, .int .i64 R.a, .int .i64 R.b, .string (str R.root), .slice al1 R.hashes.length cl1, .slice ae1 R.entries.length ce1, .slice aq1 R.replies.length cq1] 48)
          obtain ⟨w11, hw11⟩ : ∃ W, w10.alloc (.cells #[.int .i64 R.status, .int .i64 R.size, .int .i64 R.a, .int .i64 R.b, .string (str R.root), .slice al1 R.hashes.length cl1, .slice ae1 R.entries.length ce1, .slice aq1 R.replies.length cq1] 48) = W := ⟨_, rfl⟩
          obtain ⟨p11, hp11⟩ : ∃ g, w10.heap.size = g := ⟨_, rfl⟩
          rw [hw11] at fa10 hb11
          rw [hp11] at hb11
          have f11 := f10.trans fa10
          have HC : Hid (∀ W, Fresh w11 W → Calls Tryz.prog 21 #[.agg #[c0, c1, c2, c3, c4, c5, c6, c7], .agg #[.int .i64 R.status, .int .i64 R.size, .int .i64 R.a, .int .i64 R.b, .string (str R.root), .slice al1 R.hashes.length cl1, .slice ae1 R.entries.length ce1, .slice aq1 R.replies.length cq1]] W fun e w' => e = .returned (.bool true) ∧ Fresh W w') := fun W hW => sameReply_self _ R (Nat.le_refl _) (fun g => g ∈ bu) (fun g => g ∈ bl1) _ _ W (RepOwn.at _ _ _ (RepOwn.fresh (f11.trans hW) HOU.out) _ (fun _ h => h)) (RepOwn.at _ _ _ (RepOwn.fresh (fa10.trans hW) ho1) _ (fun _ h => h)) HQS.out.2.1
          have F11 := hid f11
          have HB11 := hid hb11
          have hw11' := hid (And.intro hw11 hp11)
          clear hcx ho1 hb11 f10 fa10 hw11 hp11 f11
          go_upto_region 18 with fail
          obtain ⟨e1, e2⟩ := hw11'.out
          rw [e1, e2]
          clear e1 e2 hw11'
          have x0 := cell_at HB11.out 0
          have x1 := cell_at HB11.out 1
          have x2 := cell_at HB11.out 2
          have x3 := cell_at HB11.out 3
          have x4 := cell_at HB11.out 4
          have x5 := cell_at HB11.out 5
          have x6 := cell_at HB11.out 6
          have x7 := cell_at HB11.out 7
          simp at x0 x1 x2 x3 x4 x5 x6 x7
          obtain ⟨z0, z1, z2, z3, z4, z5, z6, z7⟩ := hZ.out
          have q0 := (F11.out.cell (p := ⟨gl, m * 8, none⟩) hglw (fun h => h)).trans z0
          have q1 := (F11.out.cell (p := ⟨gl, m * 8 + 1, none⟩) hglw (fun h => h)).trans z1
          have q2 := (F11.out.cell (p := ⟨gl, m * 8 + 2, none⟩) hglw (fun h => h)).trans z2
          have q3 := (F11.out.cell (p := ⟨gl, m * 8 + 3, none⟩) hglw (fun h => h)).trans z3
          have q4 := (F11.out.cell (p := ⟨gl, m * 8 + 4, none⟩) hglw (fun h => h)).trans z4
          have q5 := (F11.out.cell (p := ⟨gl, m * 8 + 5, none⟩) hglw (fun h => h)).trans z5
          have q6 := (F11.out.cell (p := ⟨gl, m * 8 + 6, none⟩) hglw (fun h => h)).trans z6
          have q7 := (F11.out.cell (p := ⟨gl, m * 8 + 7, none⟩) hglw (fun h => h)).trans z7
          clear z0 z1 z2 z3 z4 z5 z6 z7
          go_still_tail 5, (by kernel_rfl)
          change wpList _ _ _ _ _ w11.drew
          have hdw : Fresh w11 w11.drew := (Keeps.refl _ _).drewN 1
          go_wp2_with fail
          refine (HC.out _ hdw).mono ?_
          rintro e w12 ⟨rfl, f12⟩
          have F12 := hid (F11.out.trans (hdw.trans f12))
          clear x0 x1 x2 x3 x4 x5 x6 x7 q0 q1 q2 q3 q4 q5 q6 q7 f12 hdw
          obtain ⟨z0, z1, z2, z3, z4, z5, z6, z7⟩ := hZ.out
          have q0 := (F12.out.cell (p := ⟨gl, m * 8, none⟩) hglw (fun h => h)).trans z0
          have q1 := (F12.out.cell (p := ⟨gl, m * 8 + 1, none⟩) hglw (fun h => h)).trans z1
          have q2 := (F12.out.cell (p := ⟨gl, m * 8 + 2, none⟩) hglw (fun h => h)).trans z2
          have q3 := (F12.out.cell (p := ⟨gl, m * 8 + 3, none⟩) hglw (fun h => h)).trans z3
          have q4 := (F12.out.cell (p := ⟨gl, m * 8 + 4, none⟩) hglw (fun h => h)).trans z4
          have q5 := (F12.out.cell (p := ⟨gl, m * 8 + 5, none⟩) hglw (fun h => h)).trans z5
          have q6 := (F12.out.cell (p := ⟨gl, m * 8 + 6, none⟩) hglw (fun h => h)).trans z6
          have q7 := (F12.out.cell (p := ⟨gl, m * 8 + 7, none⟩) hglw (fun h => h)).trans z7
          clear z0 z1 z2 z3 z4 z5 z6 z7
          have HCG := hid (HGA2.out w12 F12.out)
          go_wp2_with fail
          refine HCG.out.mono ?_
          rintro e w13 ⟨rfl, S6, X6, hG6⟩
          have HG7 := hid (((HG.out.next F12.out).trans hG6 (B := fun g => g ∈ p ++ bu) (fun g hg => List.mem_append_left _ hg) (fun g hg => List.mem_append_right _ hg)).mono (N' := 800 * (m + 1)) (fun _ h => h) (by have := HQS.out.2.2; omega))
          clear hG6 q0 q1 q2 q3 q4 q5 q6 q7
          go_wp2_with fail
          go_roundw
          case rel => (repeat apply Exists.intro); exact ⟨⟨m + 1, p ++ bu, b2, S6, X6, by go_num, by omega, by rw [HPP.out, List.append_assoc], HELB.out, HG7.out⟩, rfl⟩
          case measure => simp [intOf]; omega
        · obtain rfl : m = 4 := by omega
          have HOW := hid (owned_any S5 wr b (800 * 4) X5 hG.2.2.1 (by omega))
          clear hG hel hp
          go_wp2_with fail
          refine HOW.out.mono ?_
          rintro e w14 ⟨rfl, k14⟩
          go_wp2_with fail
          go_ret
          refine ⟨rfl, ?_⟩
          have k0 : Keeps (fun q => q = b ∨ ∃ j u, u ∈ X5 j ∧ u.ownBlock = some q) w9 w14 := (HG.out.2.1.mono fun q _ h => .inl h).trans (k14.mono fun q _ h => .inr h)
          refine (HF3.out.trans FR.out).trans' k0 fun q hq hk => ?_
          rcases hk with h | ⟨j, u, hu, he⟩
          · omega
          · rcases HG.out.2.2.2 j u hu with h | h
            · cases h
            · have h1 := (HNEW.out q (by rw [HPP.out]; simp [h q he])).1
              have := HF3.out.size
              omega
theorem messageAnswers_walk (K : Int) (s o : List UInt8) (w : World) (hl : Laid w) (_lo : -9223372036854775808 ≤ K) (_hi : K ≤ 9223372036854775807) (hs : s.length ≤ 4611686018427387904) (ho : o.length ≤ 4611686018427387904) :
    Calls Tryz.prog 6 #[.int .i64 K, .string (str s), .string (str o)] w fun e w' => e = .returned (.bool true) ∧ Fresh w w' := answers_any K s o w hl hs ho
end Go.Proofs.YtpccaodkgboefaaGreatDoor
