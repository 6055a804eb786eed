/-
  The document's digest of a text.
-/
import Derived.Test.YtmflbchiapdhbaaDoorShaBlock
import Derived.Test.YtmflbchiapdhbaaDoorShaText
import Derived.Deep.RegionLaw
namespace Go.Proofs.YtmflbchiapdhbaaDoor
open Go.RowKit

theorem i64s_words (l : List Nat) : i64s l = words .i64 l := rfl
/-- the first i of eight words, as bytes -/
def bytesOf (l : List Nat) (i : Nat) : List UInt8 := (l.take i).flatMap fun x => bigEnd x 4
theorem bytesOf_succ {l : List Nat} {i : Nat} (h : i < l.length) : bytesOf l i ++ bigEnd (l.getD i 0) 4 = bytesOf l (i + 1) := by
  rw [bytesOf, bytesOf, List.take_succ_eq_append_getElem h, List.flatMap_append]
  simp [List.getD, h]
theorem bytesOf_len (l : List Nat) (i : Nat) (h : i ≤ l.length) : (bytesOf l i).length = 4 * i := by
  induction i with
  | zero => simp [bytesOf]
  | succ i ih =>
    rw [← bytesOf_succ (by omega), List.length_append, ih (by omega), bigEnd_len]
    omega

theorem set8 {w : World} {g : Nat} {t : TypeId} {a0 a1 a2 a3 a4 a5 a6 a7 : Value} (h : w.heap[g]? = some (.cells #[a0, a1, a2, a3, a4, a5, a6, a7] t (0, 0))) (x0 x1 x2 x3 x4 x5 x6 x7 : Value) :
    ((((((((w.setCell ⟨g, 0, none⟩ x0).setCell ⟨g, 1, none⟩ x1).setCell ⟨g, 2, none⟩ x2).setCell ⟨g, 3, none⟩ x3).setCell ⟨g, 4, none⟩ x4).setCell ⟨g, 5, none⟩ x5).setCell ⟨g, 6, none⟩ x6).setCell ⟨g, 7, none⟩ x7).heap[g]? = some (.cells #[x0, x1, x2, x3, x4, x5, x6, x7] t (0, 0)) := by
  have k0 := heap_setCell_at h 0 x0
  simp only [List.setIfInBounds_toArray, List.set_cons_zero] at k0
  have h1 := heap_setCell_at k0 1 x1
  simp only [List.setIfInBounds_toArray, List.set_cons_zero, List.set_cons_succ] at h1
  have h2 := heap_setCell_at h1 2 x2
  simp only [List.setIfInBounds_toArray, List.set_cons_zero, List.set_cons_succ] at h2
  have h3 := heap_setCell_at h2 3 x3
  simp only [List.setIfInBounds_toArray, List.set_cons_zero, List.set_cons_succ] at h3
  have h4 := heap_setCell_at h3 4 x4
  simp only [List.setIfInBounds_toArray, List.set_cons_zero, List.set_cons_succ] at h4
  have h5 := heap_setCell_at h4 5 x5
  simp only [List.setIfInBounds_toArray, List.set_cons_zero, List.set_cons_succ] at h5
  have h6 := heap_setCell_at h5 6 x6
  simp only [List.setIfInBounds_toArray, List.set_cons_zero, List.set_cons_succ] at h6
  have h7 := heap_setCell_at h6 7 x7
  simp only [List.setIfInBounds_toArray, List.set_cons_zero, List.set_cons_succ] at h7
  exact h7
theorem set8_fresh {w0 w : World} {g : Nat} (h : Fresh w0 w) (hg : w0.heap.size ≤ g) (x0 x1 x2 x3 x4 x5 x6 x7 : Value) :
    Fresh w0 ((((((((w.setCell ⟨g, 0, none⟩ x0).setCell ⟨g, 1, none⟩ x1).setCell ⟨g, 2, none⟩ x2).setCell ⟨g, 3, none⟩ x3).setCell ⟨g, 4, none⟩ x4).setCell ⟨g, 5, none⟩ x5).setCell ⟨g, 6, none⟩ x6).setCell ⟨g, 7, none⟩ x7) := by
  have k : ∀ {w' : World} (_ : Fresh w0 w') (o : Nat) (x : Value), Fresh w0 (w'.setCell ⟨g, o, none⟩ x) := fun h o x => h.setCell (p := ⟨g, o, none⟩) (fun h => by simp only at h; omega) x
  exact k (k (k (k (k (k (k (k h 0 x0) 1 x1) 2 x2) 3 x3) 4 x4) 5 x5) 6 x6) 7 x7
theorem eight_size (k : IntKind) (v : Eight) : (words k v.list).size = 8 := rfl
theorem setRow_keeps {w : World} {g : Nat} (cs : Array Value) : Keeps (fun k => k = g) w (w.setRow g cs) := ⟨rfl, rfl, rfl, by simp, fun i _ hn => setRow_other _ _ _ _ (fun h => hn h)⟩

set_option maxRecDepth 100000 in
set_option maxHeartbeats 1000000 in
theorem refsum_any (s : List UInt8) (w : World) (hs : s.length ≤ 70368744177664) :
    Calls Tryd.prog 29 #[.string (str s)] w fun e w' => e = .returned (.string (str (sha s))) ∧ Fresh w w' := by
  have hfl := filledUp_len s
  have hfz : (filledUp s).length ≤ s.length + 128 := by
    simp only [filledUp, List.length_append, List.length_cons, List.length_replicate, bigEnd_len, noughts]
    omega
  have hsha : Hid (sha s = (shaBlocks eight0 (filledUp s)).list.flatMap (fun x => bigEnd x 4)) := rfl
  go_enter Tryd.func29, Tryd.ntmps29
  go_wp2_with fail
  refine (filled_any s w hs).mono ?_
  generalize filledUp s = F at hfl hfz hsha ⊢
  rintro e w1 ⟨rfl, f1⟩
  have hszF := str_size F
  go_wp2_with fail
  refine (begins_any w1).mono ?_
  rintro e w2 ⟨rfl, f2⟩
  rw [i64s_words]
  have f12 := f1.trans f2
  clear f1 f2
  go_wp2_with (first | (refine wpList_store_row rfl 89 (.tmp 4) (.tmp 10) rfl w2.heap.size (words .i64 eight0.list) rfl rfl 89 _ (heap_alloc_last w2 _) (by rw [Tryd.sizeEight]; rfl) (by rfl) (words_one _ _) ?_; rw [World.setRow_alloc_new]))
  go_loopw [5] (fun i wr => ∃ (t : Nat) (v : Eight), i = .int .i64 ((64 * t : Nat) : Int) ∧ 64 * t ≤ F.length ∧ v.ok ∧ Hid (shaBlocks eight0 F = shaBlocks v (F.drop (64 * t))) ∧ wr.heap[w2.heap.size]? = some (.cells (words .i64 v.list) 89 (0, 0)) ∧ Fresh w wr) (fun i _ => F.length - (intOf i).toNat)
  case atStart => exact ⟨0, eight0, rfl, by omega, eight0_ok, rfl, heap_alloc_new w2 _, f12.alloc _⟩
  case round =>
    obtain ⟨t, v, rfl, ht, hv, HB, hvb, hf⟩ := hrel
    by_cases hlt : 64 * t < F.length
    · have hge : 64 * t + 64 ≤ F.length := by omega
      have hbl : ((F.drop (64 * t)).take 64).length = 64 := by simp; omega
      have hext : (str F).extract (64 * t) (64 * t + 64) = str ((F.drop (64 * t)).take 64) := by
        rw [str_extract]; congr 1; rw [List.take_drop, Nat.add_comm]
      have HB2 : Hid (shaBlocks eight0 F = shaBlocks (shaBlock v ((F.drop (64 * t)).take 64)) (F.drop (64 * (t + 1)))) := by
        rw [Hid, HB.out, shaBlocks_more v (l := F.drop (64 * t)) (by simp; omega), List.drop_drop]
        rw [show 64 * t + 64 = 64 * (t + 1) by omega]
      generalize (F.drop (64 * t)).take 64 = blk at hbl hext HB2
      have hv2 : (shaBlock v blk).ok := Eight.add_ok _ _
      have hvbd : wr.drew.heap[w2.heap.size]? = some (.cells (words .i64 v.list) 89 (0, 0)) := hvb
      have hfd : Fresh w wr.drew := hf.drew
      have hzv : w2.heap.size < wr.drew.heap.size := lt_of_block hvb
      have hzw : w.heap.size ≤ w2.heap.size := f12.size
      obtain ⟨V, hV⟩ : ∃ V, V = v := ⟨_, rfl⟩
      rw [← hV] at hv HB2 hv2
      have HVV := hid hV
      clear hV
      obtain ⟨va, vb, vc, vd, ve, vf, vg, vh⟩ := v
      have hvb' : wr.drew.heap[w2.heap.size]? = some (.cells #[.int .i64 va, .int .i64 vb, .int .i64 vc, .int .i64 vd, .int .i64 ve, .int .i64 vf, .int .i64 vg, .int .i64 vh] 89 (0, 0)) := hvb
      have HL : Hid (#[Value.int .i64 va, .int .i64 vb, .int .i64 vc, .int .i64 vd, .int .i64 ve, .int .i64 vf, .int .i64 vg, .int .i64 vh] = words .i64 V.list) := by rw [HVV.out]; rfl
      have c0 := cell_at hvb' 0
      have c1 := cell_at hvb' 1
      have c2 := cell_at hvb' 2
      have c3 := cell_at hvb' 3
      have c4 := cell_at hvb' 4
      have c5 := cell_at hvb' 5
      have c6 := cell_at hvb' 6
      have c7 := cell_at hvb' 7
      simp at c0 c1 c2 c3 c4 c5 c6 c7
      have x0 : 0 ≤ 64 * (t : Int) := by omega
      have x1 : 64 * (t : Int) + 64 ≤ (F.length : Int) := by omega
      have x2 : 64 * (t : Int) ≤ 64 * (t : Int) + 64 := by omega
      have y0 : (64 * (t : Int)).toNat = 64 * t := by omega
      have y1 : (64 * (t : Int) + 64).toNat = 64 * t + 64 := by omega
      have hwr : IntKind.i64.wrap (64 * (t : Int) + 64) = 64 * (t : Int) + 64 := by rw [IntKind.wrap_i64]; omega
      obtain ⟨S, hS⟩ : ∃ S, S = shaBlock V blk := ⟨_, rfl⟩
      obtain ⟨sa, sb, sc, sd, se, sf, sg, sh⟩ := S
      have HS2 : Hid (words .i64 (shaBlock V blk).list = #[.int .i64 sa, .int .i64 sb, .int .i64 sc, .int .i64 sd, .int .i64 se, .int .i64 sf, .int .i64 sg, .int .i64 sh]) := by rw [Hid, ← hS]; rfl
      clear hvb HB hfl hfz hf hS hvbd
      go_wp2_with fail
      go_region_law (first | (go_simp; go_at_call 49; rw [HL.out]; refine (block_any V hv blk hbl _).mono ?_; rw [HS2.out]; rintro e w5 ⟨rfl, f5⟩; have hvb5 := f5.at_ hvb' (fun h => h); have f6 := hfd.trans f5; have d0 := cell_at hvb5 0; have d1 := cell_at hvb5 1; have d2 := cell_at hvb5 2; have d3 := cell_at hvb5 3; have d4 := cell_at hvb5 4; have d5 := cell_at hvb5 5; have d6 := cell_at hvb5 6; have d7 := cell_at hvb5 7; simp at d0 d1 d2 d3 d4 d5 d6 d7; have z0 := free_at hvb5 0; have z1 := free_at hvb5 1; have z2 := free_at hvb5 2; have z3 := free_at hvb5 3; have z4 := free_at hvb5 4; have z5 := free_at hvb5 5; have z6 := free_at hvb5 6; have z7 := free_at hvb5 7))
      all_goals
        go_wp2
        go_roundw
        case rel => exact ⟨t + 1, shaBlock V blk, by go_num, by omega, hv2, HB2, by rw [HS2.out]; exact set8 hvb5 _ _ _ _ _ _ _ _, set8_fresh f6 hzw _ _ _ _ _ _ _ _⟩
        case measure => simp [intOf]; omega
    · generalize h64 : 64 * t = z at *
      have hte : z = F.length := by omega
      have HB2 : Hid (sha s = bytesOf v.list 8) := by
        rw [Hid, hsha.out, HB.out, hte, List.drop_length, shaBlocks_few _ (by simp)]
        rfl
      have hv8 : v.list.length = 8 := rfl
      have hvlt := eight_lt hv
      clear hte HB hv
      generalize v.list = L at hvb hv8 hvlt HB2
      have hzv := lt_of_block hvb
      have hzw : w.heap.size ≤ w2.heap.size := f12.size
      clear ht hfl hfz hsha h64
      go_wp2
      go_loopw [6, 7] (fun o i w9 => ∃ (t : Nat), o = .string (str (bytesOf L t)) ∧ i = .int .i64 (t : Int) ∧ t ≤ 8 ∧ w9.heap[w2.heap.size]? = some (.cells (words .i64 L) 89 (0, 0)) ∧ Fresh w w9) (fun _ i _ => 8 - (intOf i).toNat)
      case atStart => exact ⟨0, rfl, rfl, by omega, hvb, hf⟩
      case round =>
        clear hvb hf hzv
        obtain ⟨t, rfl, rfl, ht, hvb, hf⟩ := hrel
        by_cases h8 : t < 8
        · have cx := words_cell hvb (j := t) (by omega)
          have hx32 := hvlt t
          have hnext := bytesOf_succ (l := L) (i := t) (by omega)
          have hbl := bytesOf_len L t (by omega)
          obtain ⟨x, hx⟩ : ∃ x, x = L.getD t 0 := ⟨_, rfl⟩
          rw [← hx] at cx hx32 hnext
          have hlow : low64 (x : Int) = x := by unfold low64; omega
          have HN := hid hnext
          generalize hpre : bytesOf L t = pre at hbl HN ⊢
          have hcat := str_cat
          have hszp := str_size pre
          have hszb := str_size (bigEnd x 4)
          have hbb := bigEnd_len x 4
          rw [hbb] at hszb
          clear hnext hx hbb hpre
          go_wp2_with fail
          refine (big_any (x : Int) 4 _ (by omega) (by omega) (by omega)).mono ?_
          rw [hlow]
          rintro e w5 ⟨rfl, f5⟩
          have hov : ¬ 9223372036854775807 < pre.length + 4 := by omega
          go_wp2
          go_roundw
          case rel => exact ⟨t + 1, by rw [HN.out], by go_num, by omega, f5.at_ hvb (fun h => h), hf.trans f5⟩
          case measure => simp [intOf]; omega
        · have h8' : t = 8 := by omega
          subst h8'
          go_wp2
          go_ret
          exact ⟨by rw [HB2.out]; rfl, hf⟩
end Go.Proofs.YtmflbchiapdhbaaDoor
