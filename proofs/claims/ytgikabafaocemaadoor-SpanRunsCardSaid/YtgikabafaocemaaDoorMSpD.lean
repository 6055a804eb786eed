/-
  The laws on spans: a choice, a leaf of a number, are two lists the same, a bent text.
  The laws on spans: what is lent, kept; a list turned round where it lies.
-/
import Derived.Test.YtgikabafaocemaaDoorRowT
import Derived.Test.YtgikabafaocemaaDoorMTlB
import Derived.BigQuiet
import Derived.BigRegion
import Derived.Test.YtgikabafaocemaaDoorMShaA
namespace Go.Proofs.YtgikabafaocemaaDoor
open Go.RowKit

def pickN (x : Int) (n : Int) : Int := (if x < 0 then -(x + 1) else x).tmod n
set_option maxRecDepth 100000 in
set_option maxHeartbeats 1000000 in
theorem pick_any (x n : Int) (w : World) (hn : 0 < n) (hn2 : n ≤ 9223372036854775807) (hx : -9223372036854775808 ≤ x) (hx2 : x ≤ 9223372036854775807) :
    Calls Tryd.prog 12 #[.int .i64 x, .int .i64 n] w fun e w' => e = .returned (.int .i64 (pickN x n)) ∧ w = w' := by
  have hn0 : ¬ n = 0 := by omega
  unfold pickN
  by_cases h : x < 0
  · rw [if_pos h]
    go_enter Tryd.func12, Tryd.ntmps12
    go_wp2_with fail
    go_ret
    exact ⟨by rw [Int.neg_tmod]; rfl, rfl⟩
  · rw [if_neg h]
    go_enter Tryd.func12, Tryd.ntmps12
    go_wp2_with fail
    go_ret
    exact ⟨by rw [Int.tmod_eq_emod_of_nonneg (by omega)]; rfl, rfl⟩
theorem pickN_in (x n : Int) (hn : 0 < n) : 0 ≤ pickN x n ∧ pickN x n < n := by
  unfold pickN
  have fin : ∀ y : Int, 0 ≤ y → 0 ≤ y.tmod n ∧ y.tmod n < n := fun y hy => ⟨Int.tmod_nonneg n hy, Int.tmod_lt_of_pos y hn⟩
  by_cases h : x < 0
  · rw [if_pos h]; exact fin _ (by omega)
  · rw [if_neg h]; exact fin _ (by omega)

/-- a leaf of a number -/
def leafL (c : Int) : List UInt8 := UInt8.ofNat (c % 256).toNat :: (List.replicate 30 0 ++ [UInt8.ofNat (c / 256 % 256).toNat])
theorem made_list (z : Value) (n : Nat) : (madeCells #[z] n).toList = List.replicate n z := by
  simp only [madeCells]
  apply List.ext_getElem?
  intro j
  simp only [Array.toList_map, Array.toList_range, List.getElem?_map, List.getElem?_replicate]
  by_cases hj : j < n
  · simp [hj, Nat.mod_one]
  · simp [hj]
theorem Tryd.infoByteL : (Tryd.prog.info? 5).map (fun i => (i.zero, i.size, i.bytes)) = some (some (.int .u8 0), 1, 1) := by kernel_rfl
theorem leafL_len (c : Int) : (leafL c).length = 32 := by simp [leafL]
set_option maxRecDepth 100000 in
set_option maxHeartbeats 1000000 in
theorem leaf_any (c : Int) (w : World) :
    Calls Tryd.prog 22 #[.int .i64 c] w fun e w' => e = .returned (.string (str (leafL c))) ∧ Fresh w w' := by
  obtain ⟨j0, hj0, hy0, hy1, hy2⟩ := info_parts Tryd.infoByteL
  obtain ⟨Z, hZ⟩ : ∃ Z, madeCells #[Value.int .u8 0] 32 = Z := ⟨_, rfl⟩
  have hZl : Z.toList = List.replicate 32 (.int .u8 0) := by rw [← hZ]; exact made_list _ _
  have hmk : ∀ W, (Instr.makeSlice 96 (.int .i64 32) (.int .i64 32)).run Tryd.prog W = .ok (.slice (some ⟨W.heap.size, 0, none⟩) 32 32) (W.alloc (.cells Z 5)) := fun W => by
    have := run_make W 96 5 j0 (.int .u8 0) Tryd.underlying96 hj0 hy0 .i64 .i64 32 32 (by omega) (by omega) (by rw [hy2]; omega) (by omega)
    rw [hy1] at this
    rw [← hZ]
    exact this
  have hge : ∀ j, j < 32 → Z[j]? = some (Value.int .u8 0) := fun j hj => by
    rw [← Array.getElem?_toList, hZl, List.getElem?_replicate, if_pos hj]
  have h0 := hge 0 (by omega)
  have h31 := hge 31 (by omega)
  have f1 : Fresh w (w.alloc (.cells ((Z.setIfInBounds 0 (.int .u8 (c % 256))).setIfInBounds 31 (.int .u8 (c / 256 % 256))) 5)) := (Keeps.refl _ _).alloc _
  have hcv : (convert 96 9 (.slice (some ⟨w.heap.size, 0, none⟩) 32 32)).run Tryd.prog (w.alloc (.cells ((Z.setIfInBounds 0 (.int .u8 (c % 256))).setIfInBounds 31 (.int .u8 (c / 256 % 256))) 5)) = .ok (.string (str (leafL c))) (w.alloc (.cells ((Z.setIfInBounds 0 (.int .u8 (c % 256))).setIfInBounds 31 (.int .u8 (c / 256 % 256))) 5)) := by
    have hb := heap_alloc_new w (.cells ((Z.setIfInBounds 0 (.int .u8 (c % 256))).setIfInBounds 31 (.int .u8 (c / 256 % 256))) 5)
    have hl : ((Z.setIfInBounds 0 (.int .u8 (c % 256))).setIfInBounds 31 (.int .u8 (c / 256 % 256))).toList = (leafL c).map fun b => Value.int .u8 (b.toNat : Int) := by
      rw [Array.toList_setIfInBounds, Array.toList_setIfInBounds, hZl]
      have e1 : ((UInt8.ofNat (c % 256).toNat).toNat : Int) = c % 256 := by simp; omega
      have e2 : ((UInt8.ofNat (c / 256 % 256).toNat).toNat : Int) = c / 256 % 256 := by simp; omega
      unfold leafL
      rw [List.map_cons, List.map_append, e1, List.map_cons, e2]
      rfl
    have := run_convert_bytes_back (w.alloc (.cells ((Z.setIfInBounds 0 (.int .u8 (c % 256))).setIfInBounds 31 (.int .u8 (c / 256 % 256))) 5)) 96 9 5 ⟨w.heap.size, 0, none⟩ 32 (leafL c) Tryd.underlying96 Tryd.underlying5 Tryd.underlying9 (fun j hj => by
      rw [addr_add0, cell_at hb, ← Array.getElem?_toList, hl, List.getElem?_map, List.getElem?_eq_getElem hj]
      rfl)
    rw [leafL_len] at this
    exact this
  clear hZ hZl hge
  go_enter Tryd.func22, Tryd.ntmps22
  go_wp2_with fail
  go_ret
  exact ⟨rfl, f1⟩
set_option maxRecDepth 100000 in
set_option maxHeartbeats 1000000 in
theorem same_any (v1 v2 : Value) (l1 l2 : List (List UInt8)) (w : World) (h1 : TextsAt w v1 l1) (h2 : TextsAt w v2 l2) (_hb1 : l1.length ≤ 9223372036854775807) (hb2 : l2.length ≤ 9223372036854775807) :
    Calls Tryd.prog 16 #[v1, v2] w fun e w' => e = .returned (.bool (decide (l1 = l2))) ∧ Fresh w w' := by
  obtain ⟨ao1, cap1, rfl, hc1⟩ := h1
  obtain ⟨ao2, cap2, rfl, hc2⟩ := h2
  have HC1 := hid hc1
  have HC2 := hid hc2
  clear hc1 hc2
  by_cases hlen : l1.length = l2.length
  · have HLEN := hid hlen
    rw [hlen]
    have hne : ((l2.length : Int) != (l2.length : Int)) = false := by simp
    clear hlen _hb1
    go_enter Tryd.func16, Tryd.ntmps16
    go_wp2_with fail
    clear hne
    go_loopw [5] (fun i wr => ∃ (n : Nat), i = .int .i64 (n : Int) ∧ n ≤ l2.length ∧ Hid (decide (l1 = l2) = decide (l1.drop n = l2.drop n)) ∧ Fresh w wr) (fun i _ => l2.length - (intOf i).toNat)
    case atStart => exact ⟨0, rfl, by omega, rfl, Keeps.refl _ _⟩
    case round =>
      obtain ⟨n, rfl, hn, HE, fr⟩ := hrel
      by_cases hlt : n < l2.length
      · obtain ⟨s1, hs1⟩ : ∃ s, l1[n]? = some s := ⟨l1[n]'(by rw [HLEN.out]; exact hlt), by simp⟩
        obtain ⟨s2, hs2⟩ : ∃ s, l2[n]? = some s := ⟨l2[n], by simp⟩
        obtain ⟨bb1, off1, hao1, hbb1, hcell1⟩ := HC1.out n s1 hs1
        obtain ⟨bb2, off2, hao2, hbb2, hcell2⟩ := HC2.out n s2 hs2
        have hcell1 := (fr.cell (p := ⟨bb1, off1 + n, none⟩) hbb1 (fun h => h)).trans hcell1
        have hcell2 := (fr.cell (p := ⟨bb2, off2 + n, none⟩) hbb2 (fun h => h)).trans hcell2
        have hE := HE.out
        rw [drop_cons hs1, drop_cons hs2] at hE
        subst hao1 hao2
        clear hs1 hs2 HE
        by_cases hss : s1 = s2
        · have hq : ((str s1).toList == (str s2).toList) = true := by rw [hss]; simp
          have hE2 : Hid (decide (l1 = l2) = decide (l1.drop (n + 1) = l2.drop (n + 1))) := by rw [Hid, hE, hss]; simp
          clear hE hss
          go_wp2_with fail
          go_quiet (fail)
          go_wp2_with fail
          go_roundw
          case rel => exact ⟨n + 1, by go_num, by omega, hE2, fr.drewN _⟩
          case measure => simp [intOf]; omega
        · have hq : ((str s1).toList == (str s2).toList) = false := by rw [str_toList, str_toList]; simp [hss]
          have hE2 : Hid (decide (l1 = l2) = false) := by rw [Hid, hE]; simp [hss]
          clear hE hss
          go_wp2_with fail
          go_quiet (fail)
          go_wp2_with fail
          go_ret
          exact ⟨by rw [hE2.out]; rfl, fr.drewN _⟩
      · have hE2 : Hid (decide (l1 = l2) = true) := by
          have e1 := HLEN.out
          have d1 : l1.drop n = [] := List.drop_eq_nil_of_le (by omega)
          have d2 : l2.drop n = [] := List.drop_eq_nil_of_le (by omega)
          rw [Hid, HE.out, d1, d2]; simp
        clear HE
        go_wp2
        go_ret
        exact ⟨by rw [hE2.out]; rfl, fr⟩
  · have hF : Hid (decide (l1 = l2) = false) := by rw [Hid, decide_eq_false_iff_not]; exact fun h => hlen (by rw [h])
    have hne : ((l1.length : Int) != (l2.length : Int)) = true := by rw [bne_iff_ne]; omega
    clear hlen
    go_enter Tryd.func16, Tryd.ntmps16
    go_wp2
    go_ret
    exact ⟨by rw [hF.out]; rfl, Keeps.refl _ _⟩

end Go.Proofs.YtgikabafaocemaaDoor

namespace Go.Proofs.YtgikabafaocemaaDoor
open Go.RowKit

def spareL : List UInt8 := [115, 112, 97, 114, 101]
/-- a block of texts, all of it told -/
def textsC (X : List (List UInt8)) : Obj := .cells (texts X).toArray 9
theorem textsC_set {w : World} {g : Nat} {X : List (List UInt8)} (h : w.heap[g]? = some (textsC X)) (k : Nat) (s : List UInt8) : (w.setCell ⟨g, k, none⟩ (.string (str s))).heap[g]? = some (textsC (X.set k s)) := by
  have := heap_setCell_at h k (.string (str s))
  rw [this]
  unfold textsC
  congr 2
  rw [List.setIfInBounds_toArray]
  congr 1
  unfold texts
  rw [List.map_set]
theorem textsC_cell {w : World} {g : Nat} {X : List (List UInt8)} (h : w.heap[g]? = some (textsC X)) {k : Nat} {s : List UInt8} (hs : X[k]? = some s) : w.cell? ⟨g, k, none⟩ = some (.string (str s)) := by
  rw [cell_at h]
  simp [texts, hs]
theorem textsC_free {w : World} {g : Nat} {X : List (List UInt8)} (h : w.heap[g]? = some (textsC X)) (k : Nat) : w.frozen? ⟨g, k, none⟩ = false := free_at h k
/-- the first ones of a block are a list -/
theorem textsC_at {w : World} {g cap : Nat} {X l : List (List UInt8)} (h : w.heap[g]? = some (textsC X)) (hl : X.take l.length = l) : TextsAt w (.slice (some ⟨g, 0, none⟩) l.length cap) l := by
  refine ⟨_, cap, rfl, fun k s hs => ⟨g, 0, rfl, lt_of_block h, ?_⟩⟩
  rw [Nat.zero_add]
  apply textsC_cell h
  have hk := (List.getElem?_eq_some_iff.1 hs).1
  rw [← hl, List.getElem?_take] at hs
  rw [if_pos hk] at hs
  exact hs
/-- so many spare ones are written -/
def lentTo (l : List (List UInt8)) (j : Nat) : List (List UInt8) := l ++ (List.replicate j spareL ++ List.replicate (8 - j) [])
theorem lentTo_set (l : List (List UInt8)) (j : Nat) (hj : j < 8) : (lentTo l j).set (l.length + j) spareL = lentTo l (j + 1) := by
  unfold lentTo
  rw [List.set_append_right _ _ (by omega), Nat.add_sub_cancel_left, List.set_append_right _ _ (by simp), List.length_replicate, Nat.sub_self]
  congr 1
  rw [show 8 - j = (8 - (j + 1)) + 1 by omega, List.replicate_succ, List.set_cons_zero, List.replicate_succ', List.append_assoc]
  rfl
def lentL (l : List (List UInt8)) : List (List UInt8) := l ++ List.replicate 8 spareL
theorem lentTo_all (l : List (List UInt8)) : lentTo l 8 = lentL l := by simp [lentTo, lentL]
theorem lentTo_len (l : List (List UInt8)) (j : Nat) (hj : j ≤ 8) : (lentTo l j).length = l.length + 8 := by simp [lentTo]; omega
theorem lentL_len (l : List (List UInt8)) : (lentL l).length = l.length + 8 := by simp [lentL]
theorem lentL_take (l : List (List UInt8)) : (lentL l).take l.length = l := by simp [lentL]

theorem set_parts {α : Type} (c : List α) (o : Nat) (r : List α) (v : α) (ho : o < c.length) : (c.set o v).take (o + 1) ++ r ++ (c.set o v).drop (o + 1 + r.length) = c.take o ++ v :: r ++ c.drop (o + (r.length + 1)) := by
  have h1 : (c.set o v).take (o + 1) = c.take o ++ [v] := by
    rw [List.take_add_one, List.take_set_of_le (by omega), List.getElem?_set_self (by omega)]
    rfl
  have h2 : (c.set o v).drop (o + 1 + r.length) = c.drop (o + (r.length + 1)) := by
    rw [List.drop_set_of_lt (by omega)]
    congr 1
    omega
  rw [h1, h2, List.append_assoc, List.append_assoc, List.append_assoc]
  rfl
set_option maxRecDepth 100000 in
/-- the copy of a list into a new block -/
theorem copy_new (w : World) (g : Nat) (v : Value) (l : List (List UInt8)) (hg : w.heap[g]? = some (textsC (List.replicate (l.length + 8) []))) (hl : TextsAt w v l) :
    ∃ u w', (Builtin.copy_ #[26, 26] 3 #[.slice (some ⟨g, 0, none⟩) (l.length + 8) (l.length + 8), v]).run Tryd.prog w = .ok u w' ∧ Keeps (fun q => q = g) w w' ∧ w'.heap[g]? = some (textsC (lentTo l 0)) := by
  have hsz : (Tryd.prog.info? 9).map (·.size) = some 1 := by kernel_rfl
  obtain ⟨ao, cap, rfl, hcc⟩ := hl
  by_cases h0 : l.length = 0
  · have hr0 : l = [] := List.eq_nil_of_length_eq_zero h0
    subst hr0
    exact ⟨_, w, run_copy_none w 26 26 3 9 _ _ _ _ _ _ Tryd.underlying26 hsz (by simp), Keeps.refl _ _, hg⟩
  · have hlen : (texts l).length = l.length := by simp [texts]
    obtain ⟨x, hx⟩ : ∃ x, l[0]? = some x := ⟨l[0]'(by omega), by simp⟩
    obtain ⟨bb, off, rfl, hbb, _⟩ := hcc 0 x hx
    unfold textsC at hg
    have hrun := run_copy_cells (P := Tryd.prog) w 26 26 3 9 g 0 (l.length + 8) (l.length + 8) ⟨bb, off, none⟩ l.length cap (texts l) Tryd.underlying26 hsz (by rw [hlen]; simp)
      (fun j v hj => by
        simp only [texts, List.getElem?_map, Option.map_eq_some_iff] at hj
        obtain ⟨s, hs, rfl⟩ := hj
        obtain ⟨b2, o2, e1, _, e3⟩ := hcc j s hs
        simp only [Option.some.injEq, Addr.mk.injEq, and_true] at e1
        rw [e1.1, e1.2]
        show w.cell? (Addr.add ⟨b2, o2, none⟩ j) = _
        rw [show Addr.add ⟨b2, o2, none⟩ j = ⟨b2, o2 + j, none⟩ from by unfold Addr.add; split <;> simp_all]
        exact e3)
      (fun j hj => by rw [Nat.zero_add, cell_at hg]; simp [texts]; omega) (fun j _ => by rw [Nat.zero_add]; exact free_at hg j) (fun u hu => by obtain ⟨x, _, rfl⟩ := List.mem_map.1 hu; rfl)
    have hk : Keeps (fun q => q = g) w (w.setCells g 0 (texts l)) := ⟨(setCells_os g _ _ _).1, (setCells_os g _ _ _).2.1, (setCells_os g _ _ _).2.2, by rw [setCells_size]; exact Nat.le_refl _, fun k hk hn => setCells_other g k hn _ _ _⟩
    refine ⟨_, _, hrun, hk, ?_⟩
    have hgen : ∀ (vs : List Value) (o : Nat) (w : World) (cur : Array Value), w.heap[g]? = some (.cells cur 9 (0, 0)) → o + vs.length ≤ cur.size → (w.setCells g o vs).heap[g]? = some (.cells (cur.toList.take o ++ vs ++ cur.toList.drop (o + vs.length)).toArray 9 (0, 0)) := by
      intro vs
      induction vs with
      | nil => intro o w cur h _; simp [World.setCells, h]
      | cons v r ih =>
        intro o w cur h hle
        simp at hle
        rw [World.setCells, ih (o + 1) _ _ (heap_setCell_at h o v) (by simp; omega)]
        rw [Array.toList_setIfInBounds, set_parts cur.toList o r v (by simp; omega)]
        rfl
    have := hgen (texts l) 0 w _ hg (by simp [texts])
    rw [this]
    unfold textsC lentTo
    congr 2
    simp [texts]

set_option maxRecDepth 100000 in
set_option maxHeartbeats 2000000 in
theorem lent_any (v : Value) (l : List (List UInt8)) (w : World) (hl : TextsAt w v l) (hn : l.length ≤ 8796093022200) :
    Calls Tryd.prog 48 #[v] w fun e w' => ∃ g, e = .returned (.slice (some ⟨g, 0, none⟩) (l.length + 8) (l.length + 8)) ∧ w'.heap[g]? = some (textsC (lentL l)) ∧ w.heap.size ≤ g ∧ Fresh w w' := by
  obtain ⟨j0, hj0, hy0, hy1, hy2⟩ := info_parts Tryd.infoText
  have hmk : (Instr.makeSlice 26 (.int .i64 ((l.length : Int) + 8)) (.int .i64 ((l.length : Int) + 8))).run Tryd.prog w = .ok (.slice (some ⟨w.heap.size, 0, none⟩) (l.length + 8) (l.length + 8)) (w.alloc (textsC (List.replicate (l.length + 8) []))) := by
    have := run_make w 26 9 j0 (.string ⟨#[]⟩) Tryd.underlying26 hj0 hy0 .i64 .i64 ((l.length : Int) + 8) ((l.length : Int) + 8) (by omega) (by omega) (by rw [hy2]; omega) (by omega)
    rw [hy1, Nat.mul_one, show ((l.length : Int) + 8).toNat = l.length + 8 by omega] at this
    rw [this]
    congr 2
    unfold textsC
    congr 1
    apply Array.ext'
    rw [show (Value.string ⟨#[]⟩ : Value).cells = #[Value.string ⟨#[]⟩] from rfl, made_list]
    simp [texts, str]
  have f0 : Fresh w (w.alloc (textsC (List.replicate (l.length + 8) []))) := (Keeps.refl _ _).alloc _
  have hg0 := heap_alloc_new w (textsC (List.replicate (l.length + 8) []))
  obtain ⟨u, w2, hcopy, k2, hg2⟩ := copy_new _ _ v l hg0 (hl.fresh f0)
  obtain ⟨ao, cap, rfl, -⟩ := hl
  have hgl := lt_of_block hg2
  have hsz2 := k2.size
  have f2 : Fresh w w2 := f0.trans' k2 (fun q hq e => by omega)
  have HG2 := hid hg2
  have hni : (l.length : Int) ≤ 8796093022200 := by omega
  clear hg0 hg2 hj0 hy0 hy1 hy2 hn
  go_enter Tryd.func48, Tryd.ntmps48
  go_wp2_with (at_builtin; refine wpList_copy_to (w.alloc (textsC (List.replicate (l.length + 8) []))) rfl (.tmp 9) (.tmp 10) 26 26 rfl _ _ (by rfl) (by rfl) hcopy ?_)
  go_wp2_with fail
  generalize hgn : w.heap.size = g at HG2 k2 hgl ⊢
  have HGN := hid hgn
  have hnl : (l.length : Int) + 8 ≤ 9000000000000 := by omega
  clear hgn hcopy hmk
  go_loopw [4] (fun i wr => ∃ j : Nat, i = .int .i64 ((l.length + j : Nat) : Int) ∧ j ≤ 8 ∧ wr.heap[g]? = some (textsC (lentTo l j)) ∧ Keeps (fun q => q = g) w2 wr) (fun i _ => l.length + 8 - (intOf i).toNat)
  case atStart => exact ⟨0, rfl, by omega, HG2.out, Keeps.refl _ _⟩
  case round =>
    obtain ⟨j, rfl, hj, hg, kr⟩ := hrel
    by_cases hlt : j < 8
    · have hget : (lentTo l j)[l.length + j]? = some [] := by
        unfold lentTo
        rw [List.getElem?_append_right (by omega), Nat.add_sub_cancel_left, List.getElem?_append_right (by simp), List.length_replicate, Nat.sub_self, List.getElem?_replicate, if_pos (by omega)]
      have c0 := textsC_cell hg hget
      have z0 := textsC_free hg (l.length + j)
      have hset := textsC_set hg (l.length + j) spareL
      rw [lentTo_set l j hlt] at hset
      have kS : Keeps (fun q => q = g) wr (wr.setCell ⟨g, l.length + j, none⟩ (.string (str spareL))) := (Keeps.refl (fun q => q = g) wr).setCell (p := ⟨g, l.length + j, none⟩) (fun _ => rfl) _
      have HSET := hid hset
      have HLT := hid hlt
      have k3 := kr.trans kS
      have hli : ((l.length + j : Nat) : Int) < (l.length : Int) + 8 := by omega
      have hl2 : ((l.length + j : Nat) : Int) ≤ 9000000000000 := by omega
      obtain ⟨P, hP⟩ : ∃ P, l.length + j = P := ⟨_, rfl⟩
      rw [hP] at c0 z0 hli hl2 HSET k3 ⊢
      have HP := hid hP
      clear hset hget hP hg hlt hj kS
      go_wp2_with fail
      go_roundw
      case rel => exact ⟨j + 1, by simp; have := HP.out; omega, HLT.out, HSET.out, k3⟩
      case measure => have := HLT.out; have := HP.out; simp [intOf]; omega
    · have hj8 : j = 8 := by omega
      subst hj8
      rw [lentTo_all] at hg
      have HG := hid hg
      have hnl : ¬ ((l.length + 8 : Nat) : Int) < (l.length : Int) + 8 := by omega
      clear hg hlt hj
      go_wp2_with fail
      go_ret
      exact ⟨g, rfl, HG.out, by have := HGN.out; omega, f2.trans' kr (fun q hq e => by have := HGN.out; omega)⟩

set_option maxRecDepth 100000 in
set_option maxHeartbeats 2000000 in
theorem kept_any (g : Nat) (v : Value) (l : List (List UInt8)) (w : World) (hg : w.heap[g]? = some (textsC (lentL l))) (hl : TextsAt w v l) (hn : l.length ≤ 8796093022200) :
    Calls Tryd.prog 50 #[.slice (some ⟨g, 0, none⟩) (l.length + 8) (l.length + 8), v] w fun e w' => e = .returned (.bool true) ∧ Fresh w w' := by
  have hown := textsC_at (cap := l.length + 8) hg (lentL_take l)
  have hsame := fun W (f : Fresh w W) => same_any (.slice (some ⟨g, 0, none⟩) l.length (l.length + 8)) v l l W (hown.fresh f) (hl.fresh f) (by omega) (by omega)
  rw [decide_eq_true rfl] at hsame
  obtain ⟨ao, cap, rfl, -⟩ := hl
  have HS := hid hsame
  have HG := hid hg
  have hni : (l.length : Int) + 8 ≤ 9000000000000 := by omega
  clear hsame hg hown hn
  go_enter Tryd.func50, Tryd.ntmps50
  go_wp2_with fail
  go_loopw [5] (fun i wr => ∃ j : Nat, i = .int .i64 ((l.length + j : Nat) : Int) ∧ j ≤ 8 ∧ Fresh w wr) (fun i _ => l.length + 8 - (intOf i).toNat)
  case atStart => exact ⟨0, rfl, by omega, Keeps.refl _ _⟩
  case round =>
    obtain ⟨j, rfl, hj, fr⟩ := hrel
    by_cases hlt : j < 8
    · have hget : (lentL l)[l.length + j]? = some spareL := by
        unfold lentL
        rw [List.getElem?_append_right (by omega), Nat.add_sub_cancel_left, List.getElem?_replicate, if_pos (by omega)]
      have c0 := textsC_cell (fr.at_ HG.out (fun h => h)) hget
      have HLT := hid hlt
      have hli : ((l.length + j : Nat) : Int) < (l.length : Int) + 8 := by omega
      have hl2 : ((l.length + j : Nat) : Int) ≤ 9000000000000 := by omega
      have c0 : wr.cell? ⟨g, l.length + j, none⟩ = some (.string ⟨#[115, 112, 97, 114, 101]⟩) := c0
      obtain ⟨P, hP⟩ : ∃ P, l.length + j = P := ⟨_, rfl⟩
      rw [hP] at c0 hli hl2 ⊢
      have HP := hid hP
      clear hget hP hlt hj
      go_wp2_with fail
      go_roundw
      case rel => exact ⟨j + 1, by simp; have := HP.out; omega, HLT.out, fr⟩
      case measure => have := HLT.out; have := HP.out; simp [intOf]; omega
    · have hj8 : j = 8 := by omega
      subst hj8
      have hnl : ¬ ((l.length + 8 : Nat) : Int) < (l.length : Int) + 8 := by omega
      clear hlt hj
      go_wp2_with fail
      refine (HS.out wr fr).mono ?_
      rintro x w2 ⟨rfl, f2⟩
      go_wp2_with fail
      go_ret
      exact ⟨rfl, fr.trans f2⟩

/-- a text whose last byte is another one -/
def bentL (s : List UInt8) : List UInt8 := s.set (s.length - 1) (UInt8.ofNat (bits BinOp.xor IntKind.u8 ((s.getD (s.length - 1) 0).toNat : Int) 1).toNat)
theorem bits_u8 (x : Int) : 0 ≤ bits BinOp.xor IntKind.u8 x 1 ∧ bits BinOp.xor IntKind.u8 x 1 < 256 := by
  show 0 ≤ IntKind.u8.wrap _ ∧ IntKind.u8.wrap _ < 256
  rw [IntKind.wrap_u8]
  omega
theorem bentL_nil : bentL [] = [] := rfl
theorem u8s_set (l : List UInt8) (k : Nat) (x : UInt8) : (u8s l).set k (.int .u8 (x.toNat : Int)) = u8s (l.set k x) := by
  unfold u8s
  rw [List.map_set]
theorem RowM.set {w : World} {e : TypeId} {g n cap k : Nat} {xs : List Value} (h : RowM w e (.slice (some ⟨g, 0, none⟩) n cap) xs) (hk : k < xs.length) (u : Value) : RowM (w.setCell ⟨g, k, none⟩ u) e (.slice (some ⟨g, 0, none⟩) n cap) (xs.set k u) ∧ w.frozen? ⟨g, k, none⟩ = false := by
  obtain ⟨g', cur, fr, e1, hb, hfr, hle, hm, ht⟩ := h
  simp only [Value.slice.injEq, Option.some.injEq, Addr.mk.injEq, and_true] at e1
  obtain ⟨rfl, rfl, rfl⟩ := e1
  refine ⟨⟨g, cur.setIfInBounds k u, fr, by simp, heap_setCell_at hb k u, by simpa using hfr, by simpa using hle, by simpa using hm, ?_⟩, free_mark hb hfr k (by omega)⟩
  rw [Array.toList_setIfInBounds, List.length_set]
  rw [← ht]
  rw [List.take_set]
  simp only [List.length_take, Array.length_toList]
  rw [Nat.min_eq_left hle]

set_option maxRecDepth 100000 in
set_option maxHeartbeats 2000000 in
theorem bent_any (s : List UInt8) (w : World) (hs : s.length ≤ 140737488355328) :
    Calls Tryd.prog 51 #[.string (str s)] w fun e w' => e = .returned (.string (str (bentL s))) ∧ Fresh w w' := by
  obtain ⟨C, w2, hcv, hrow, f2⟩ := bytes_of w s hs
  have hsi : (s.length : Int) ≤ 140737488355328 := by omega
  by_cases h0 : s.length = 0
  · have hnil : s = [] := List.eq_nil_of_length_eq_zero h0
    subst hnil
    have htx := text_ofM w2 _ _ _ [] hrow
    rw [bentL_nil]
    simp only [List.length_nil] at hcv htx
    clear hrow hs h0
    go_enter Tryd.func51, Tryd.ntmps51
    go_wp2_with fail
    go_ret
    exact ⟨rfl, f2⟩
  · have hlast : s.getD (s.length - 1) 0 = s.getD (s.length - 1) 0 := rfl
    obtain ⟨x, hx⟩ : ∃ x, s[s.length - 1]? = some x := ⟨s[s.length - 1]'(by omega), by simp⟩
    have hxd : s.getD (s.length - 1) 0 = x := by rw [List.getD, hx]; rfl
    have hy := bits_u8 (x.toNat : Int)
    have hb : bentL s = s.set (s.length - 1) (UInt8.ofNat (bits BinOp.xor IntKind.u8 (x.toNat : Int) 1).toNat) := by unfold bentL; rw [hxd]
    obtain ⟨y, hyE⟩ : ∃ y, bits BinOp.xor IntKind.u8 (x.toNat : Int) 1 = y := ⟨_, rfl⟩
    rw [hyE] at hy hb
    have hyN : ((UInt8.ofNat y.toNat).toNat : Int) = y := by simp; omega
    have hcell := hrow.cells (s.length - 1) (.int .u8 (x.toNat : Int)) (by simp [u8s, hx])
    rw [addr_add0] at hcell
    obtain ⟨hrow2, hfz⟩ := hrow.set (k := s.length - 1) (by rw [u8s_len]; omega) (.int .u8 y)
    rw [← hyN, u8s_set, ← hb, hyN] at hrow2
    have htx := text_ofM _ _ _ _ (bentL s) hrow2
    have k3 : Keeps (fun q => q = w.heap.size) w2 (w2.setCell ⟨w.heap.size, s.length - 1, none⟩ (.int .u8 y)) := (Keeps.refl (fun q => q = w.heap.size) w2).setCell (p := ⟨w.heap.size, s.length - 1, none⟩) (fun _ => rfl) _
    have f3 : Fresh w (w2.setCell ⟨w.heap.size, s.length - 1, none⟩ (.int .u8 y)) := f2.trans' k3 (fun q hq e => by omega)
    obtain ⟨K, hK⟩ : ∃ K, s.length - 1 = K := ⟨_, rfl⟩
    obtain ⟨B, hB⟩ : ∃ B, bentL s = B := ⟨_, rfl⟩
    rw [hB] at htx ⊢
    rw [hK] at hcell hfz htx f3
    have hKi : (s.length : Int) - 1 = (K : Int) := by omega
    have hpos : (0 : Int) < (s.length : Int) := by omega
    have hKp : (K : Int) < (s.length : Int) := by omega
    obtain ⟨N, hN⟩ : ∃ N, s.length = N := ⟨_, rfl⟩
    rw [hN] at hcv htx hKi hpos hKp hsi
    clear hrow hrow2 hs h0 hlast hx hxd hy hb hyN hB hK k3 hN
    go_enter Tryd.func51, Tryd.ntmps51
    go_wp2_with fail
    go_ret
    exact ⟨rfl, f3⟩
end Go.Proofs.YtgikabafaocemaaDoor
