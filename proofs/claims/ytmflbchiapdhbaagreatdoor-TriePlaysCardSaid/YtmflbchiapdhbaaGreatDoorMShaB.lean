/-
  SHA-256 in parts: a state, what is left of the last block, and the text they stand for.
  The document's digest of a text.
  Bits of words, as the program's code has them: over whole numbers of 32 bits; how a Hasher lies in memory.
  'copy' of a text into an array in a block: as much as fits.
-/
import Derived.Test.YtmflbchiapdhbaaGreatDoorMShaA
import Derived.Test.YtmflbchiapdhbaaGreatDoorShaBlock
import Derived.Deep.RegionLaw
import Derived.Lib.BufferWrite
namespace Go.Proofs.YtmflbchiapdhbaaGreatDoor
open Go.RowKit

theorem shaBlocks_few (v : Eight) {l : List UInt8} (h : l.length < 64) : shaBlocks v l = v := by rw [shaBlocks, dif_pos h]
theorem shaBlocks_more (v : Eight) {l : List UInt8} (h : 64 ≤ l.length) : shaBlocks v l = shaBlocks (shaBlock v (l.take 64)) (l.drop 64) := by rw [shaBlocks, dif_neg (by omega)]
theorem shaBlocks_append : ∀ (n : Nat) (v : Eight) (l m : List UInt8), l.length = 64 * n → shaBlocks v (l ++ m) = shaBlocks (shaBlocks v l) m
  | 0, v, l, m, h => by
    have : l = [] := List.eq_nil_of_length_eq_zero (by omega)
    subst this
    rw [shaBlocks_few v (l := []) (by simp)]
    rfl
  | n + 1, v, l, m, h => by
    rw [shaBlocks_more v (l := l ++ m) (by simp; omega), shaBlocks_more v (l := l) (by omega), List.take_append_of_le_length (by omega), List.drop_append_of_le_length (by omega)]
    exact shaBlocks_append n _ _ m (by simp; omega)

/-- t, taken in parts: whole blocks q, of which v is the state, and r, with which what is kept begins -/
def Hashed (t : List UInt8) (v : Eight) (rest : List UInt8) : Prop :=
  ∃ q r, t = q ++ r ∧ q.length % 64 = 0 ∧ r.length < 64 ∧ v = shaBlocks eight0 q ∧ rest.length = 64 ∧ rest.take r.length = r
theorem Hashed.at_ {t : List UInt8} {v : Eight} {rest : List UInt8} (h : Hashed t v rest) : rest.length = 64 := by
  obtain ⟨q, r, _, _, _, _, h, _⟩ := h
  exact h
theorem Hashed.start (rest : List UInt8) (h : rest.length = 64) : Hashed [] eight0 rest := ⟨[], [], rfl, rfl, by simp, by rw [shaBlocks_few _ (by simp)], h, rfl⟩
/-- what is kept behind a part of n bytes -/
def keptOf (rest : List UInt8) (a : Nat) (p : List UInt8) : List UInt8 := rest.take a ++ p ++ rest.drop (a + p.length)
theorem keptOf_len {rest : List UInt8} {a : Nat} {p : List UInt8} (h : rest.length = 64) (ha : a + p.length ≤ 64) : (keptOf rest a p).length = 64 := by simp [keptOf]; omega
theorem Hashed.part {t : List UInt8} {v : Eight} {rest p : List UInt8} (h : Hashed t v rest) (hp : t.length % 64 + p.length < 64) : Hashed (t ++ p) v (keptOf rest (t.length % 64) p) := by
  obtain ⟨q, r, rfl, hq, hr, hv, hl, ht⟩ := h
  have e : (q ++ r).length % 64 = r.length := by simp; omega
  rw [e] at hp ⊢
  refine ⟨q, r ++ p, by simp, hq, by simp; omega, hv, keptOf_len hl (by omega), ?_⟩
  rw [keptOf, ht]
  exact List.take_left' (by simp)
theorem Hashed.full {t : List UInt8} {v : Eight} {rest p : List UInt8} (h : Hashed t v rest) (hp : t.length % 64 + p.length = 64) : Hashed (t ++ p) (shaBlock v (keptOf rest (t.length % 64) p)) (keptOf rest (t.length % 64) p) := by
  obtain ⟨q, r, rfl, hq, hr, rfl, hl, ht⟩ := h
  have e : (q ++ r).length % 64 = r.length := by simp; omega
  rw [e] at hp ⊢
  have hk : keptOf rest r.length p = r ++ p := by
    rw [keptOf, ht, List.drop_of_length_le (by omega), List.append_nil]
  rw [hk]
  refine ⟨q ++ (r ++ p), [], by simp, by simp; omega, by simp, ?_, by simp; omega, rfl⟩
  rw [shaBlocks_append (q.length / 64) _ q _ (by omega), shaBlocks_more _ (l := r ++ p) (by simp; omega), List.take_of_length_le (by simp; omega), List.drop_of_length_le (by simp; omega), shaBlocks_few (shaBlock _ (r ++ p)) (l := []) (by simp)]
/-- of a text that is filled up the state is all -/
theorem Hashed.whole {t : List UInt8} {v : Eight} {rest : List UInt8} (h : Hashed t v rest) (hl : t.length % 64 = 0) : v = shaBlocks eight0 t := by
  obtain ⟨q, r, rfl, hq, hr, rfl, _, _⟩ := h
  have : r = [] := List.eq_nil_of_length_eq_zero (by simp at hl; omega)
  subst this
  rw [List.append_nil]
end Go.Proofs.YtmflbchiapdhbaaGreatDoor

namespace Go.Proofs.YtmflbchiapdhbaaGreatDoor
open Go.RowKit

theorem i64s_words (l : List Nat) : i64s l = words .i64 l := rfl
/-- the first i of eight words, as bytes -/
def bytesOf (l : List Nat) (i : Nat) : List UInt8 := (l.take i).flatMap fun x => bigEnd x 4
theorem bytesOf_succ {l : List Nat} {i : Nat} (h : i < l.length) : bytesOf l i ++ bigEnd (l.getD i 0) 4 = bytesOf l (i + 1) := by
  rw [bytesOf, bytesOf, List.take_succ_eq_append_getElem h, List.flatMap_append]
  simp [List.getD, h]
theorem bytesOf_len (l : List Nat) (i : Nat) (h : i ≤ l.length) : (bytesOf l i).length = 4 * i := by
  induction i with
  | zero => simp [bytesOf]
  | succ i ih =>
    rw [← bytesOf_succ (by omega), List.length_append, ih (by omega), bigEnd_len]
    omega

theorem set8 {w : World} {g : Nat} {t : TypeId} {a0 a1 a2 a3 a4 a5 a6 a7 : Value} (h : w.heap[g]? = some (.cells #[a0, a1, a2, a3, a4, a5, a6, a7] t (0, 0))) (x0 x1 x2 x3 x4 x5 x6 x7 : Value) :
    ((((((((w.setCell ⟨g, 0, none⟩ x0).setCell ⟨g, 1, none⟩ x1).setCell ⟨g, 2, none⟩ x2).setCell ⟨g, 3, none⟩ x3).setCell ⟨g, 4, none⟩ x4).setCell ⟨g, 5, none⟩ x5).setCell ⟨g, 6, none⟩ x6).setCell ⟨g, 7, none⟩ x7).heap[g]? = some (.cells #[x0, x1, x2, x3, x4, x5, x6, x7] t (0, 0)) := by
  have k0 := heap_setCell_at h 0 x0
  simp only [List.setIfInBounds_toArray, List.set_cons_zero] at k0
  have h1 := heap_setCell_at k0 1 x1
  simp only [List.setIfInBounds_toArray, List.set_cons_zero, List.set_cons_succ] at h1
  have h2 := heap_setCell_at h1 2 x2
  simp only [List.setIfInBounds_toArray, List.set_cons_zero, List.set_cons_succ] at h2
  have h3 := heap_setCell_at h2 3 x3
  simp only [List.setIfInBounds_toArray, List.set_cons_zero, List.set_cons_succ] at h3
  have h4 := heap_setCell_at h3 4 x4
  simp only [List.setIfInBounds_toArray, List.set_cons_zero, List.set_cons_succ] at h4
  have h5 := heap_setCell_at h4 5 x5
  simp only [List.setIfInBounds_toArray, List.set_cons_zero, List.set_cons_succ] at h5
  have h6 := heap_setCell_at h5 6 x6
  simp only [List.setIfInBounds_toArray, List.set_cons_zero, List.set_cons_succ] at h6
  have h7 := heap_setCell_at h6 7 x7
  simp only [List.setIfInBounds_toArray, List.set_cons_zero, List.set_cons_succ] at h7
  exact h7
theorem set8_fresh {w0 w : World} {g : Nat} (h : Fresh w0 w) (hg : w0.heap.size ≤ g) (x0 x1 x2 x3 x4 x5 x6 x7 : Value) :
    Fresh w0 ((((((((w.setCell ⟨g, 0, none⟩ x0).setCell ⟨g, 1, none⟩ x1).setCell ⟨g, 2, none⟩ x2).setCell ⟨g, 3, none⟩ x3).setCell ⟨g, 4, none⟩ x4).setCell ⟨g, 5, none⟩ x5).setCell ⟨g, 6, none⟩ x6).setCell ⟨g, 7, none⟩ x7) := by
  have k : ∀ {w' : World} (_ : Fresh w0 w') (o : Nat) (x : Value), Fresh w0 (w'.setCell ⟨g, o, none⟩ x) := fun h o x => h.setCell (p := ⟨g, o, none⟩) (fun h => by simp only at h; omega) x
  exact k (k (k (k (k (k (k (k h 0 x0) 1 x1) 2 x2) 3 x3) 4 x4) 5 x5) 6 x6) 7 x7
theorem eight_size (k : IntKind) (v : Eight) : (words k v.list).size = 8 := rfl
theorem setRow_keeps {w : World} {g : Nat} (cs : Array Value) : Keeps (fun k => k = g) w (w.setRow g cs) := ⟨rfl, rfl, rfl, by simp, fun i _ hn => setRow_other _ _ _ _ (fun h => hn h)⟩

set_option maxRecDepth 100000 in
set_option maxHeartbeats 1000000 in
theorem refsum_any (s : List UInt8) (w : World) (hs : s.length ≤ 70368744177664) :
    Calls Tryz.prog 44 #[.string (str s)] w fun e w' => e = .returned (.string (str (sha s))) ∧ Fresh w w' := by
  have hfl := filledUp_len s
  have hfz : (filledUp s).length ≤ s.length + 128 := by
    simp only [filledUp, List.length_append, List.length_cons, List.length_replicate, bigEnd_len, noughts]
    omega
  have hsha : Hid (sha s = (shaBlocks eight0 (filledUp s)).list.flatMap (fun x => bigEnd x 4)) := rfl
  go_enter Tryz.func44, Tryz.ntmps44
  go_wp2_with fail
  refine (filled_any s w hs).mono ?_
  generalize filledUp s = F at hfl hfz hsha ⊢
  rintro e w1 ⟨rfl, f1⟩
  have hszF := str_size F
  go_wp2_with fail
  refine (begins_any w1).mono ?_
  rintro e w2 ⟨rfl, f2⟩
  rw [i64s_words]
  have f12 := f1.trans f2
  clear f1 f2
  go_wp2_with (first | (refine wpList_store_row rfl 115 (.tmp 4) (.tmp 10) rfl w2.heap.size (words .i64 eight0.list) rfl rfl 115 _ (heap_alloc_last w2 _) (by rw [Tryz.sizeEight]; rfl) (by rfl) (words_one _ _) ?_; rw [World.setRow_alloc_new]))
  go_loopw [5] (fun i wr => ∃ (t : Nat) (v : Eight), i = .int .i64 ((64 * t : Nat) : Int) ∧ 64 * t ≤ F.length ∧ v.ok ∧ Hid (shaBlocks eight0 F = shaBlocks v (F.drop (64 * t))) ∧ wr.heap[w2.heap.size]? = some (.cells (words .i64 v.list) 115 (0, 0)) ∧ Fresh w wr) (fun i _ => F.length - (intOf i).toNat)
  case atStart => exact ⟨0, eight0, rfl, by omega, eight0_ok, rfl, heap_alloc_new w2 _, f12.alloc _⟩
  case round =>
    obtain ⟨t, v, rfl, ht, hv, HB, hvb, hf⟩ := hrel
    by_cases hlt : 64 * t < F.length
    · have hge : 64 * t + 64 ≤ F.length := by omega
      have hbl : ((F.drop (64 * t)).take 64).length = 64 := by simp; omega
      have hext : (str F).extract (64 * t) (64 * t + 64) = str ((F.drop (64 * t)).take 64) := by
        rw [str_extract]; congr 1; rw [List.take_drop, Nat.add_comm]
      have HB2 : Hid (shaBlocks eight0 F = shaBlocks (shaBlock v ((F.drop (64 * t)).take 64)) (F.drop (64 * (t + 1)))) := by
        rw [Hid, HB.out, shaBlocks_more v (l := F.drop (64 * t)) (by simp; omega), List.drop_drop]
        rw [show 64 * t + 64 = 64 * (t + 1) by omega]
      generalize (F.drop (64 * t)).take 64 = blk at hbl hext HB2
      have hv2 : (shaBlock v blk).ok := Eight.add_ok _ _
      have hvbd : wr.drew.heap[w2.heap.size]? = some (.cells (words .i64 v.list) 115 (0, 0)) := hvb
      have hfd : Fresh w wr.drew := hf.drew
      have hzv : w2.heap.size < wr.drew.heap.size := lt_of_block hvb
      have hzw : w.heap.size ≤ w2.heap.size := f12.size
      obtain ⟨V, hV⟩ : ∃ V, V = v := ⟨_, rfl⟩
      rw [← hV] at hv HB2 hv2
      have HVV := hid hV
      clear hV
      obtain ⟨va, vb, vc, vd, ve, vf, vg, vh⟩ := v
      have hvb' : wr.drew.heap[w2.heap.size]? = some (.cells #[.int .i64 va, .int .i64 vb, .int .i64 vc, .int .i64 vd, .int .i64 ve, .int .i64 vf, .int .i64 vg, .int .i64 vh] 115 (0, 0)) := hvb
      have HL : Hid (#[Value.int .i64 va, .int .i64 vb, .int .i64 vc, .int .i64 vd, .int .i64 ve, .int .i64 vf, .int .i64 vg, .int .i64 vh] = words .i64 V.list) := by rw [HVV.out]; rfl
      have c0 := cell_at hvb' 0
      have c1 := cell_at hvb' 1
      have c2 := cell_at hvb' 2
      have c3 := cell_at hvb' 3
      have c4 := cell_at hvb' 4
      have c5 := cell_at hvb' 5
      have c6 := cell_at hvb' 6
      have c7 := cell_at hvb' 7
      simp at c0 c1 c2 c3 c4 c5 c6 c7
      have x0 : 0 ≤ 64 * (t : Int) := by omega
      have x1 : 64 * (t : Int) + 64 ≤ (F.length : Int) := by omega
      have x2 : 64 * (t : Int) ≤ 64 * (t : Int) + 64 := by omega
      have y0 : (64 * (t : Int)).toNat = 64 * t := by omega
      have y1 : (64 * (t : Int) + 64).toNat = 64 * t + 64 := by omega
      have hwr : IntKind.i64.wrap (64 * (t : Int) + 64) = 64 * (t : Int) + 64 := by rw [IntKind.wrap_i64]; omega
      obtain ⟨S, hS⟩ : ∃ S, S = shaBlock V blk := ⟨_, rfl⟩
      obtain ⟨sa, sb, sc, sd, se, sf, sg, sh⟩ := S
      have HS2 : Hid (words .i64 (shaBlock V blk).list = #[.int .i64 sa, .int .i64 sb, .int .i64 sc, .int .i64 sd, .int .i64 se, .int .i64 sf, .int .i64 sg, .int .i64 sh]) := by rw [Hid, ← hS]; rfl
      clear hvb HB hfl hfz hf hS hvbd
      go_wp2_with fail
      go_region_law (first | (go_simp; go_at_call 62; rw [HL.out]; refine (block_any V hv blk hbl _).mono ?_; rw [HS2.out]; rintro e w5 ⟨rfl, f5⟩; have hvb5 := f5.at_ hvb' (fun h => h); have f6 := hfd.trans f5; have d0 := cell_at hvb5 0; have d1 := cell_at hvb5 1; have d2 := cell_at hvb5 2; have d3 := cell_at hvb5 3; have d4 := cell_at hvb5 4; have d5 := cell_at hvb5 5; have d6 := cell_at hvb5 6; have d7 := cell_at hvb5 7; simp at d0 d1 d2 d3 d4 d5 d6 d7; have z0 := free_at hvb5 0; have z1 := free_at hvb5 1; have z2 := free_at hvb5 2; have z3 := free_at hvb5 3; have z4 := free_at hvb5 4; have z5 := free_at hvb5 5; have z6 := free_at hvb5 6; have z7 := free_at hvb5 7))
      all_goals
        go_wp2
        go_roundw
        case rel => exact ⟨t + 1, shaBlock V blk, by go_num, by omega, hv2, HB2, by rw [HS2.out]; exact set8 hvb5 _ _ _ _ _ _ _ _, set8_fresh f6 hzw _ _ _ _ _ _ _ _⟩
        case measure => simp [intOf]; omega
    · generalize h64 : 64 * t = z at *
      have hte : z = F.length := by omega
      have HB2 : Hid (sha s = bytesOf v.list 8) := by
        rw [Hid, hsha.out, HB.out, hte, List.drop_length, shaBlocks_few _ (by simp)]
        rfl
      have hv8 : v.list.length = 8 := rfl
      have hvlt := eight_lt hv
      clear hte HB hv
      generalize v.list = L at hvb hv8 hvlt HB2
      have hzv := lt_of_block hvb
      have hzw : w.heap.size ≤ w2.heap.size := f12.size
      clear ht hfl hfz hsha h64
      go_wp2
      go_loopw [6, 7] (fun o i w9 => ∃ (t : Nat), o = .string (str (bytesOf L t)) ∧ i = .int .i64 (t : Int) ∧ t ≤ 8 ∧ w9.heap[w2.heap.size]? = some (.cells (words .i64 L) 115 (0, 0)) ∧ Fresh w w9) (fun _ i _ => 8 - (intOf i).toNat)
      case atStart => exact ⟨0, rfl, rfl, by omega, hvb, hf⟩
      case round =>
        clear hvb hf hzv
        obtain ⟨t, rfl, rfl, ht, hvb, hf⟩ := hrel
        by_cases h8 : t < 8
        · have cx := words_cell hvb (j := t) (by omega)
          have hx32 := hvlt t
          have hnext := bytesOf_succ (l := L) (i := t) (by omega)
          have hbl := bytesOf_len L t (by omega)
          obtain ⟨x, hx⟩ : ∃ x, x = L.getD t 0 := ⟨_, rfl⟩
          rw [← hx] at cx hx32 hnext
          have hlow : low64 (x : Int) = x := by unfold low64; omega
          have HN := hid hnext
          generalize hpre : bytesOf L t = pre at hbl HN ⊢
          have hcat := str_cat
          have hszp := str_size pre
          have hszb := str_size (bigEnd x 4)
          have hbb := bigEnd_len x 4
          rw [hbb] at hszb
          clear hnext hx hbb hpre
          go_wp2_with fail
          refine (big_any (x : Int) 4 _ (by omega) (by omega) (by omega)).mono ?_
          rw [hlow]
          rintro e w5 ⟨rfl, f5⟩
          have hov : ¬ 9223372036854775807 < pre.length + 4 := by omega
          go_wp2
          go_roundw
          case rel => exact ⟨t + 1, by rw [HN.out], by go_num, by omega, f5.at_ hvb (fun h => h), hf.trans f5⟩
          case measure => simp [intOf]; omega
        · have h8' : t = 8 := by omega
          subst h8'
          go_wp2
          go_ret
          exact ⟨by rw [HB2.out]; rfl, hf⟩
end Go.Proofs.YtmflbchiapdhbaaGreatDoor

namespace Go.Proofs.YtmflbchiapdhbaaGreatDoor
open Go.RowKit

theorem uor_nat {a b : Nat} (ha : a < 4294967296) (hb : b < 4294967296) : bits BinOp.or IntKind.u32 (a : Int) (b : Int) = ((a ||| b : Nat) : Int) :=
  (bits_nat .u32 32 (by decide) u32_keeps a b (by omega) (by omega)).2
theorem uand_nat {a b : Nat} (ha : a < 4294967296) (hb : b < 4294967296) : bits BinOp.and IntKind.u32 (a : Int) (b : Int) = ((a &&& b : Nat) : Int) :=
  (bits_nat .u32 32 (by decide) u32_keeps a b (by omega) (by omega)).1
theorem uxor_nat {a b : Nat} (ha : a < 4294967296) (hb : b < 4294967296) : bits BinOp.xor IntKind.u32 (a : Int) (b : Int) = ((a ^^^ b : Nat) : Int) := by
  have h1 : (BitVec.ofInt 32 (a : Int)).toNat = a := by
    rw [BitVec.ofInt_natCast, BitVec.toNat_ofNat]; exact Nat.mod_eq_of_lt (by omega)
  have h2 : (BitVec.ofInt 32 (b : Int)).toNat = b := by
    rw [BitVec.ofInt_natCast, BitVec.toNat_ofNat]; exact Nat.mod_eq_of_lt (by omega)
  have h3 : a ^^^ b < 2 ^ 32 := Nat.xor_lt_two_pow (by omega) (by omega)
  show IntKind.u32.wrap ((BitVec.ofInt 32 (a : Int) ^^^ BitVec.ofInt 32 (b : Int)).toNat : Int) = _
  rw [BitVec.toNat_xor, h1, h2]
  exact u32_keeps _ (by omega) (by exact_mod_cast h3)

theorem ube_expr (c0 c1 c2 c3 : UInt8) : bits BinOp.or IntKind.u32 (bits BinOp.or IntKind.u32 (bits BinOp.or IntKind.u32 ((c0.toNat : Int) % 4294967296 * 16777216 % 4294967296) ((c1.toNat : Int) % 4294967296 * 65536 % 4294967296)) ((c2.toNat : Int) % 4294967296 * 256 % 4294967296)) ((c3.toNat : Int) % 4294967296) =
    ((c0.toNat * 16777216 + c1.toNat * 65536 + c2.toNat * 256 + c3.toNat : Nat) : Int) := by
  have h0 := c0.toNat_lt
  have h1 := c1.toNat_lt
  have h2 := c2.toNat_lt
  have h3 := c3.toNat_lt
  have e0 : (c0.toNat : Int) % 4294967296 * 16777216 % 4294967296 = ((c0.toNat * 16777216 : Nat) : Int) := by omega
  have e1 : (c1.toNat : Int) % 4294967296 * 65536 % 4294967296 = ((c1.toNat * 65536 : Nat) : Int) := by omega
  have e2 : (c2.toNat : Int) % 4294967296 * 256 % 4294967296 = ((c2.toNat * 256 : Nat) : Int) := by omega
  have e3 : (c3.toNat : Int) % 4294967296 = (c3.toNat : Int) := by omega
  have f1 : c0.toNat * 16777216 ||| c1.toNat * 65536 = c0.toNat * 16777216 + c1.toNat * 65536 := or_add (i := 24) (by omega)
  have f2 : (c0.toNat * 16777216 + c1.toNat * 65536) ||| c2.toNat * 256 = c0.toNat * 16777216 + c1.toNat * 65536 + c2.toNat * 256 := by
    have := or_add (a := c0.toNat * 256 + c1.toNat) (b := c2.toNat * 256) (i := 16) (by omega)
    rw [show (c0.toNat * 256 + c1.toNat) * 2 ^ 16 = c0.toNat * 16777216 + c1.toNat * 65536 by omega] at this
    exact this
  have f3 : (c0.toNat * 16777216 + c1.toNat * 65536 + c2.toNat * 256) ||| c3.toNat = c0.toNat * 16777216 + c1.toNat * 65536 + c2.toNat * 256 + c3.toNat := by
    have := or_add (a := c0.toNat * 65536 + c1.toNat * 256 + c2.toNat) (b := c3.toNat) (i := 8) (by omega)
    rw [show (c0.toNat * 65536 + c1.toNat * 256 + c2.toNat) * 2 ^ 8 = c0.toNat * 16777216 + c1.toNat * 65536 + c2.toNat * 256 by omega] at this
    exact this
  rw [e0, e1, e2, e3, uor_nat (by omega) (by omega), f1, uor_nat (by omega) (by omega), f2, uor_nat (by omega) (by omega), f3]
theorem usmall1_expr {x : Nat} (hx : x < 4294967296) : bits BinOp.xor IntKind.u32 (bits BinOp.xor IntKind.u32 (rot x 17 : Int) (rot x 19 : Int)) ((x : Int) / 1024) = (small1 x : Int) := by
  have h1 := rot_lt x 17
  have h2 := rot_lt x 19
  have h3 := shr_lt (n := 10) hx
  have h4 := xor32 h1 h2
  have e : (x : Int) / (1024 : Int) = ((x >>> 10 : Nat) : Int) := by rw [Nat.shiftRight_eq_div_pow]; omega
  rw [e, uxor_nat (by omega) (by omega), uxor_nat (by omega) (by omega)]
  rfl
theorem usmall0_expr {x : Nat} (hx : x < 4294967296) : bits BinOp.xor IntKind.u32 (bits BinOp.xor IntKind.u32 (rot x 7 : Int) (rot x 18 : Int)) ((x : Int) / 8) = (small0 x : Int) := by
  have h1 := rot_lt x 7
  have h2 := rot_lt x 18
  have h3 := shr_lt (n := 3) hx
  have h4 := xor32 h1 h2
  have e : (x : Int) / (8 : Int) = ((x >>> 3 : Nat) : Int) := by rw [Nat.shiftRight_eq_div_pow]; omega
  rw [e, uxor_nat (by omega) (by omega), uxor_nat (by omega) (by omega)]
  rfl
theorem ubig0_expr (x : Nat) : bits BinOp.xor IntKind.u32 (bits BinOp.xor IntKind.u32 (rot x 2 : Int) (rot x 13 : Int)) (rot x 22 : Int) = (big0 x : Int) := by
  have h1 := rot_lt x 2
  have h2 := rot_lt x 13
  have h3 := rot_lt x 22
  have h4 := xor32 h1 h2
  rw [uxor_nat (by omega) (by omega), uxor_nat (by omega) (by omega)]
  rfl
theorem ubig1_expr (x : Nat) : bits BinOp.xor IntKind.u32 (bits BinOp.xor IntKind.u32 (rot x 6 : Int) (rot x 11 : Int)) (rot x 25 : Int) = (big1 x : Int) := by
  have h1 := rot_lt x 6
  have h2 := rot_lt x 11
  have h3 := rot_lt x 25
  have h4 := xor32 h1 h2
  rw [uxor_nat (by omega) (by omega), uxor_nat (by omega) (by omega)]
  rfl
theorem umost_expr {a b c : Nat} (ha : a < 4294967296) (hb : b < 4294967296) (hc : c < 4294967296) : bits BinOp.xor IntKind.u32 (bits BinOp.xor IntKind.u32 (bits BinOp.and IntKind.u32 (a : Int) (b : Int)) (bits BinOp.and IntKind.u32 (a : Int) (c : Int))) (bits BinOp.and IntKind.u32 (b : Int) (c : Int)) = (most a b c : Int) := by
  have h1 := and32 (b := b) ha
  have h2 := and32 (b := c) ha
  have h3 := and32 (b := c) hb
  have h4 := xor32 h1 h2
  rw [uand_nat (by omega) (by omega), uand_nat (by omega) (by omega), uand_nat (by omega) (by omega), uxor_nat (by omega) (by omega), uxor_nat (by omega) (by omega)]
  rfl

theorem uchoose_expr {e f g : Nat} (he : e < 4294967296) (hf : f < 4294967296) (hg : g < 4294967296) : bits BinOp.xor IntKind.u32 (bits BinOp.and IntKind.u32 (e : Int) (f : Int)) (bits BinOp.and IntKind.u32 (bits BinOp.xor IntKind.u32 (if IntKind.u32.signed = true then -1 else IntKind.u32.max) (e : Int)) (g : Int)) = (choose e f g : Int) := by
  have h1 : (if IntKind.u32.signed = true then (-1 : Int) else IntKind.u32.max) = ((4294967295 : Nat) : Int) := by decide
  have h2 : (4294967295 : Nat) ^^^ e = 4294967295 - e := by
    have h := BitVec.toNat_not (x := BitVec.ofNat 32 e)
    rw [BitVec.not_def, BitVec.toNat_xor, BitVec.toNat_allOnes, BitVec.toNat_ofNat, Nat.mod_eq_of_lt (by omega)] at h
    simpa using h
  rw [h1, uxor_nat (by omega) (by omega), h2, uand_nat (by omega) (by omega), uand_nat (by omega) (by omega), uxor_nat (by have := and32 (b := f) he; omega) (by have := and32 (a := 4294967295 - e) (b := g) (by omega); omega)]
  rfl
theorem ux_expr {h B e f g k x : Nat} (he : e < 4294967296) (hf : f < 4294967296) (hg : g < 4294967296) :
    IntKind.u32.wrap (IntKind.u32.wrap (IntKind.u32.wrap (IntKind.u32.wrap ((h : Int) + (B : Int)) + bits BinOp.xor IntKind.u32 (bits BinOp.and IntKind.u32 (e : Int) (f : Int)) (bits BinOp.and IntKind.u32 (bits BinOp.xor IntKind.u32 (if IntKind.u32.signed = true then -1 else IntKind.u32.max) (e : Int)) (g : Int))) + (k : Int)) + (x : Int)) =
      (((h + B + choose e f g + k + x) % 4294967296 : Nat) : Int) := by
  rw [uchoose_expr he hf hg]
  simp only [IntKind.wrap_u32]
  omega
theorem uy_expr {B M : Nat} : IntKind.u32.wrap ((B : Int) + (M : Int)) = (((B + M) % 4294967296 : Nat) : Int) := by
  rw [IntKind.wrap_u32]
  omega

theorem Tryz.sizeState : (Tryz.prog.info? 109).map (·.size) = some 8 := by kernel_rfl
/-- a Hasher's cells: the state, what is kept, how many bytes so far -/
def hcells (v : Eight) (rest : List UInt8) (n : Int) : Array Value := (v.list.map (fun (x : Nat) => Value.int .u32 (x : Int)) ++ (u8s rest ++ [Value.int .i64 n])).toArray
theorem hcells_state {v : Eight} {rest : List UInt8} {n : Int} {j : Nat} (h : j < 8) : (hcells v rest n)[j]? = some (.int .u32 (v.list.getD j 0 : Int)) := by
  have hl : v.list.length = 8 := rfl
  simp only [hcells, List.getElem?_toArray]
  rw [List.getElem?_append_left (by simp [hl, h]), List.getElem?_map, List.getD, List.getElem?_eq_getElem (by omega)]
  rfl
theorem hcells_rest {v : Eight} {rest : List UInt8} {n : Int} {j : Nat} (h : j < rest.length) : (hcells v rest n)[8 + j]? = some (.int .u8 ((rest.getD j 0).toNat : Int)) := by
  have hl : (v.list.map (fun (x : Nat) => Value.int .u32 (x : Int))).length = 8 := rfl
  simp only [hcells, List.getElem?_toArray]
  rw [List.getElem?_append_right (by omega), hl, show 8 + j - 8 = j by omega, List.getElem?_append_left (by simp [u8s, h]), u8s, List.getElem?_map, List.getD, List.getElem?_eq_getElem h]
  rfl
theorem hcells_many {v : Eight} {rest : List UInt8} {n : Int} (h : rest.length = 64) : (hcells v rest n)[72]? = some (.int .i64 n) := by
  have hl : (v.list.map (fun (x : Nat) => Value.int .u32 (x : Int))).length = 8 := rfl
  simp only [hcells, List.getElem?_toArray]
  rw [List.getElem?_append_right (by omega), hl, List.getElem?_append_right (by simp [u8s, h]), u8s]
  simp [h]
theorem hcells_size {v : Eight} {rest : List UInt8} {n : Int} (h : rest.length = 64) : (hcells v rest n).size = 73 := by
  have hl : (v.list.map (fun (x : Nat) => Value.int .u32 (x : Int))).length = 8 := rfl
  simp [hcells, u8s, h, Eight.list]
def hcellsL (l : List Nat) (rest : List UInt8) (n : Int) : Array Value := (l.map (fun (x : Nat) => Value.int .u32 (x : Int)) ++ (u8s rest ++ [Value.int .i64 n])).toArray
theorem hcellsL_at {l : List Nat} {rest : List UInt8} {n : Int} {j : Nat} (h : j < l.length) : (hcellsL l rest n)[j]? = some (.int .u32 (l.getD j 0 : Int)) := by
  simp only [hcellsL, List.getElem?_toArray]
  rw [List.getElem?_append_left (by simpa using h), List.getElem?_map, List.getD, List.getElem?_eq_getElem h]
  rfl
theorem hcellsL_set {l : List Nat} {rest : List UInt8} {n : Int} {j : Nat} (h : j < l.length) (z : Nat) : (hcellsL l rest n).setIfInBounds j (.int .u32 (z : Int)) = hcellsL (l.set j z) rest n := by
  simp only [hcellsL, List.setIfInBounds_toArray]
  rw [List.set_append_left _ _ (by simpa using h)]
  simp
/-- the table of round numbers lies there -/
def TabLaid (w : World) : Prop := ∀ t, t < 64 → w.cell? ⟨1, t, none⟩ = some (.int .u32 (kAt t : Int))
theorem TabLaid.keeps {S : Nat → Prop} {w w' : World} (h : TabLaid w) (hk : Keeps S w w') (hn : ¬ S 1) : TabLaid w' := fun t ht =>
  (hk.cell (p := ⟨1, t, none⟩) (World.block_lt_of_cell? w _ (h t ht)) hn).trans (h t ht)
end Go.Proofs.YtmflbchiapdhbaaGreatDoor

namespace Go.Proofs.YtmflbchiapdhbaaGreatDoor
open Go.RowKit

theorem copy_part {P : Program} (w : World) (dT sT ty elem : TypeId) (g o dLen dCap : Nat) (s : List UInt8) (cur : Array Value) (t : TypeId) (m : Nat) (hm : Nat.min s.length dLen = m)
    (hu : P.underlying dT = some (.slice elem)) (hs : (P.info? elem).map (·.size) = some 1) (hg : w.heap[g]? = some (.cells cur t (0, 0))) (hfit : o + m ≤ cur.size) :
    (Builtin.copy_ #[dT, sT] ty #[.slice (some ⟨g, o, none⟩) dLen dCap, .string (str s)]).run P w =
      .ok (goInt m) (w.setRow g (cur.toList.take o ++ u8s (s.take m) ++ cur.toList.drop (o + m)).toArray) := by
  have hml : m ≤ s.length := by rw [← hm]; exact Nat.min_le_left _ _
  have hlen : (u8s (s.take m)).length = m := by simp [u8s]; omega
  have hst := run_storeCells_at P g o t (u8s (s.take m)) 0 cur w hg (by rw [hlen]; simpa using hfit) (fun v hv => by obtain ⟨b, _, rfl⟩ := List.mem_map.1 hv; rfl)
  have hsz := str_size s
  rw [hlen] at hst
  simp only [Nat.add_zero] at hst
  cases hq : P.info? elem with
  | none => simp [hq] at hs
  | some i =>
    simp [Builtin.copy_, run_underlying hu, Builtin.lenOf, Builtin.firstCells, sizeOf, typeInfo, hq, hm, hsz]
    rw [show List.take m (List.map (fun b : UInt8 => Value.int IntKind.u8 (b.toNat : Int)) (str s).data.toList) = u8s (s.take m) by rw [str_data, u8s, List.map_take], hst]
    simp [Result.andThen]
/-- what a Hasher's block is behind a copy into what is kept -/
theorem hcells_copy {v : Eight} {rest p : List UInt8} {n : Int} {a : Nat} (hr : rest.length = 64) (ha : a + p.length ≤ 64) :
    ((hcells v rest n).toList.take (8 + a) ++ u8s p ++ (hcells v rest n).toList.drop (8 + a + p.length)).toArray = hcells v (keptOf rest a p) n := by
  have hl : (v.list.map (fun (x : Nat) => Value.int .u32 (x : Int))).length = 8 := rfl
  simp only [hcells, keptOf]
  congr 1
  generalize v.list.map (fun (x : Nat) => Value.int .u32 (x : Int)) = L at hl
  have h1 : (L ++ (u8s rest ++ [Value.int .i64 n])).take (8 + a) = L ++ (u8s rest).take a := by
    rw [List.take_append, hl, show 8 + a - 8 = a by omega, List.take_of_length_le (by omega), List.take_append_of_le_length (by simp [u8s]; omega)]
  have h2 : (L ++ (u8s rest ++ [Value.int .i64 n])).drop (8 + a + p.length) = (u8s rest).drop (a + p.length) ++ [Value.int .i64 n] := by
    rw [List.drop_append, hl, show 8 + a + p.length - 8 = a + p.length by omega, List.drop_of_length_le (by omega), List.nil_append, List.drop_append_of_le_length (by simp [u8s]; omega)]
  rw [h1, h2]
  simp [u8s, List.map_take, List.map_drop]
theorem hcells_setn {v : Eight} {rest : List UInt8} {n k : Int} (hr : rest.length = 64) : (hcells v rest n).setIfInBounds 72 (.int .i64 k) = hcells v rest k := by
  have hl : (v.list.map (fun (x : Nat) => Value.int .u32 (x : Int))).length = 8 := rfl
  simp only [hcells, List.setIfInBounds_toArray]
  generalize v.list.map (fun (x : Nat) => Value.int .u32 (x : Int)) = L at hl
  have hu : (u8s rest).length = 64 := by simp [u8s, hr]
  rw [List.set_append_right _ _ (by omega), hl, List.set_append_right _ _ (by omega), hu]
  rfl
theorem wpList_copy_to {P : Program} (w : World) {ops : Array Oper} {rest : List Oper} {o : Oper} {a : Act} {Q : Exit → Act → World → Prop} (hgd : o.guard = none) (d s : Operand) (t t' : TypeId)
    (ho : o.op = .call { callee := .builtin .copy, args := #[d, s], argTypes := #[t, t'] }) (v u : Value) (hd : a.eval d = v) (hs : a.eval s = u) {v' : Value} {w' : World}
    (hr : (Builtin.copy_ #[t, t'] o.type #[v, u]).run P w = .ok v' w') (h : wpList P ops Q rest (a.put o.dst v') w') : wpList P ops Q (o :: rest) a w :=
  wpList_plain hgd fun _ hK => by
    unfold Oper.wp execOp
    simp only [ho, resolve, invoke, builtin, Sem.run_bind, Sem.run_pure, Result.andThen_ok, List.map_toArray, List.map_cons, List.map_nil, hd, hs, hr]
    exact hK _ _ h
theorem slice_rest (w : World) (g a : Nat) (ha : a < 64) : (Instr.sliceAt 110 (.pointer (some ⟨g, 8, none⟩)) (some (.int .i64 (a : Int))) none none).run Tryz.prog w = .ok (.slice (some ⟨g, 8 + a, none⟩) (64 - a) (64 - a)) w := by
  have hu : Tryz.prog.underlying 110 = some (.array 64 5) := by kernel_rfl
  have hal : Tryz.prog.arrayLen 110 = 64 := by kernel_rfl
  have hel : Tryz.prog.elem 110 = 5 := by kernel_rfl
  have h := run_sliceAt_array_l (P := Tryz.prog) (w := w) 110 ⟨g, 8, none⟩ (by rw [hal, hel]; exact hu) .i64 (a : Int) (by omega) (by rw [hal]; omega)
  have hsz : (sizeOf 5).run Tryz.prog w = .ok 1 w := by kernel_rfl
  have hadd : (⟨g, 8, none⟩ : Addr).add a = ⟨g, 8 + a, none⟩ := by unfold Addr.add; split <;> simp_all
  rw [hal, hel, hsz] at h
  rw [h]
  have hne : ¬ 64 = a := by omega
  simp [Result.andThen, slicedAt, hne, hadd]
theorem Tryz.sizeByte : (Tryz.prog.info? 5).map (·.size) = some 1 := by kernel_rfl
end Go.Proofs.YtmflbchiapdhbaaGreatDoor
