/-
  The program's shape: Fold.
-/
import Derived.Test.YtgikabafaocemaaDoorRnFold
import Derived.Test.YtgikabafaocemaaDoorRnInside
import Derived.Test.YtgikabafaocemaaDoorRnComp
namespace Go.Proofs.YtgikabafaocemaaDoor
open Go.RowKit
attribute [local go_sem] run_store_func

set_option maxRecDepth 100000 in
set_option maxHeartbeats 1000000 in
theorem fohash_no (s : List UInt8) (w : World) (hs : s.length = 32) :
    Calls Tryd.prog 74 #[.string (str s)] w fun x w' => x = .returned (.bool false) ∧ w = w' := by
  have hz := str_size s
  rw [hs] at hz
  go_enter Tryd.func74, Tryd.ntmps74
  go_wp2_with fail
  go_ret
  exact ⟨by simp, rfl⟩
set_option maxRecDepth 100000 in
set_option maxHeartbeats 2000000 in
theorem foindex_no (v : Value) (l : List (List UInt8)) (w : World) (hl : TextsAt w v l) (hn : l.length ≤ 9223372036854775807) (hs : ∀ s ∈ l, s.length = 32) :
    Calls Tryd.prog 105 #[v, .func (.func 74) #[] #[]] w fun x w' => x = .returned (.int .i64 (-1)) ∧ Fresh w w' := by
  obtain ⟨ao, cap, rfl, hc⟩ := hl
  have HC := hid hc
  clear hc
  go_enter Tryd.func105, Tryd.ntmps105
  go_wp2_with fail
  go_loopw [8] (fun i wr => ∃ k : Nat, i = .int .i64 (k : Int) ∧ k ≤ l.length ∧ Fresh w wr) (fun i _ => l.length - (intOf i).toNat)
  case atStart => exact ⟨0, rfl, Nat.zero_le _, Keeps.refl _ _⟩
  case round =>
    obtain ⟨k, rfl, hk, fr⟩ := hrel
    by_cases hlt : k < l.length
    · obtain ⟨s, hs1⟩ : ∃ s, l[k]? = some s := ⟨l[k], by simp [hlt]⟩
      obtain ⟨bb, off, rfl, hbb, hcw⟩ := HC.out k s hs1
      have hcell := (fr.cell (p := ⟨bb, off + k, none⟩) hbb (fun h => h)).trans hcw
      have HCL := hid (fohash_no s wr (hs s (List.mem_of_getElem? hs1)))
      clear hcw hs1
      go_wp2_with fail
      refine HCL.out.mono ?_
      rintro x w1 ⟨rfl, rfl⟩
      go_wp2_with fail
      go_roundw
      case rel => exact ⟨k + 1, by simp, by omega, fr⟩
      case measure => simp [intOf]; omega
    · have hke : k = l.length := by omega
      clear hke
      go_wp2_with fail
      go_ret
      exact ⟨rfl, fr⟩
set_option maxRecDepth 100000 in
set_option maxHeartbeats 1000000 in
theorem focontains_no (v : Value) (l : List (List UInt8)) (w : World) (hl : TextsAt w v l) (hn : l.length ≤ 9223372036854775807) (hs : ∀ s ∈ l, s.length = 32) :
    Calls Tryd.prog 69 #[v, .func (.func 74) #[] #[]] w fun x w' => x = .returned (.bool false) ∧ Fresh w w' := by
  have HI := hid (foindex_no v l w hl hn hs)
  obtain ⟨ao, cap, rfl, -⟩ := hl
  go_enter Tryd.func69, Tryd.ntmps69
  go_wp2_with fail
  refine HI.out.mono ?_
  rintro x w1 ⟨rfl, f1⟩
  go_wp2_with fail
  go_ret
  exact ⟨rfl, f1⟩

theorem push_wp {P : Program} {o : Oper} {a : Act} {K : Act → World → Prop} {Q : Exit → Act → World → Prop} (hgd : o.guard = none) (s x : Operand) (t : TypeId)
    (ho : o.op = .call { callee := .builtin .append, args := #[s, x], argTypes := #[t, t] })
    (e : TypeId) (i : TypeInfo) (z : Value) (size bytes : Nat) (ht : P.underlying t = some (.slice e)) (hi : P.info? e = some i) (hz : i.zero = some z) (hsize : i.size = size) (hby : i.bytes = bytes) (hzs : z.cells.size = size) (hsz : 0 < size)
    {v : Value} {n : Nat} {xs : List Value} (w : World) (hown : w.ownsRow 0 e size v n xs) (g : Nat) (us : List Value) (hul : us.length = size) (hg : w.heap[g]? = some (.cells us.toArray e (0, 0))) (hone : ∀ u ∈ us, u.oneCell' = true)
    (hs : a.eval s = v) (hx : a.eval x = .slice (some ⟨g, 0, none⟩) 1 1)
    (hb : (n + 1) * bytes ≤ 140737488355328) (hn : n + 1 ≤ maxLen)
    (h : ∀ v' w', Appended e size w w' v v' (n + 1) (xs ++ us) → K (a.put o.dst v') w') : Oper.wp P o a w K Q := by
  have := step_push_at (ops := #[]) (F := True) hgd s x t ho e i z size bytes ht hi hz hsize hby hzs hsz w hown g us hul hg hone hs hx hb hn (K := K) (Q := Q) h
  rwa [if_pos (by simp [Region.wanted, hgd])] at this

set_option maxRecDepth 100000 in
set_option maxHeartbeats 8000000 in
theorem bigFold_any (V : Nat × Nat → List UInt8) (p rb n : Nat) (hrb : rb < p) (h32 : ∀ x, (V x).length = 32)
    (hV : ∀ s t, s < t → 2 ≤ t - s → s < p → ¬ (t ≤ p ∧ powB (t - s) = true) → OkN rb s t → V (s, t) = nodeH (V (s, s + splitN (t - s))) (V (s + splitN (t - s), t)))
    (hn1 : 1 ≤ n) (hn2 : n ≤ 1099511627776) (hok : OkN rb 0 n) (X : List (Nat × Nat)) (hX : dF 40 p 0 n = X) (hXl : X.length ≤ 4096) (vs vh : Value) (w : World) (hs : SpansAt w vs X) (hh : TextsAt w vh (X.map V)) (hd : Dig w) :
    Calls Tryd.prog 30 #[.int .i64 (n : Int), vs, vh, spanV (0, n)] w fun e w' => e = .returned (.tuple #[.string (str (V (0, n))), .int .i64 0]) ∧ Fresh w w' := by
  obtain ⟨i0, hi, hz0, hz1, hz2⟩ := info_parts Tryd.infoKnown
  have hXm := dF_mem 40 p 0 n (by omega) (by omega)
  have hfold := fun v W h1 h2 => fold_any V p rb hrb h32 hV 40 0 n v W (by omega) (by omega) (by omega) hok (by rw [hX]; omega) h1 h2
  rw [hX] at hXm hfold
  have f0 : Fresh w (w.alloc (spanC 0 n)) := (Keeps.refl _ _).alloc _
  have hb := heap_alloc_new w (spanC 0 n)
  have hco := hid (fun W (f : Fresh w W) => focontains_no vh (X.map V) W (hh.fresh f) (by rw [List.length_map]; omega) (fun s hs => by obtain ⟨x, -, rfl⟩ := List.mem_map.1 hs; exact h32 x))
  have hin := hid (fun W => inside_any n hn1 hn2 W)
  have hsz := fun W => size_any (n : Int) W
  simp only [show decide (1 ≤ (n : Int) ∧ (n : Int) ≤ 1099511627776) = true by simp; omega] at hsz
  have HSZ := hid hsz
  have HS := hid hs
  have HH := hid hh
  obtain ⟨as_, cs, rfl, -, -⟩ := hs
  obtain ⟨ah, ch, eh, -⟩ := hh
  rw [List.length_map] at eh
  subst eh
  have hXi : (X.length : Int) ≤ 4096 := by omega
  have hXn : ¬ 4096 < X.length := by omega
  have HXM := hid hXm
  have HF := hid hfold
  have HD := hid hd
  have HXL := hid hXl
  obtain ⟨pw, hpw⟩ : ∃ pw, w.heap.size = pw := ⟨_, rfl⟩
  rw [hpw] at hb
  have HB := hid hb
  unfold spanC at *
  unfold spanV at *
  clear hXm hfold hd hb hX hXl hn2 hrb h32 hV hok hsz
  go_enter Tryd.func30, Tryd.ntmps30
  go_wp2_with (first
    | (go_at_call 62; refine (HSZ.out _).mono ?_; rintro e w1 ⟨rfl, rfl⟩)
    | fail)
  refine (hco.out _ f0).mono ?_
  rintro e w1 ⟨rfl, fa⟩
  have hb1 := fa.at_ HB.out (fun h => h)
  have c0 := cell_at hb1 0
  have c1 := cell_at hb1 1
  simp at c0 c1
  have f1 := f0.trans fa
  have HB1 := hid hb1
  clear fa hb1
  go_wp2_with fail
  refine (hin.out _).mono ?_
  rintro e w2 ⟨rfl, fa⟩
  have f2 := f1.trans fa
  have hb2 := fa.at_ HB1.out (fun h => h)
  clear c0 c1
  have HB2 := hid hb2
  have HPW := hid (show pw < w2.heap.size from lt_of_block hb2)
  clear hb2 fa HB HB1
  go_wp2_with fail
  go_loopw [10, 40] (fun u i wr => ∃ (k : Nat) (A : List (Nat × Nat)), i = .int .i64 (k : Int) ∧ k ≤ X.length ∧ A = X.take k ∧ KnownAt V wr u A ∧ (∀ g, u.ownBlock = some g → w2.heap.size ≤ g) ∧ Fresh w2 wr) (fun _ i _ => X.length - (intOf i).toNat)
  case atStart => exact ⟨0, [], rfl, Nat.zero_le _, rfl, ⟨rfl, .inl ⟨rfl, rfl⟩⟩, (fun g hg => by simp [Value.ownBlock] at hg), Keeps.refl _ _⟩
  case round =>
    obtain ⟨k, A, rfl, hk, hA, hrow, hown, f⟩ := hrel
    have f3 := f2.trans f
    have HA := hid hA
    have HO := hid hown
    have hd2 := f.at_ HB2.out (fun h => h)
    obtain ⟨aou, cpu, rfl⟩ := ownsRow_slice hrow
    have HROW := hid hrow
    have HBD := hid (show (A.length + 1) * 32 ≤ 140737488355328 ∧ A.length + 1 ≤ 4097 by
      have e1 : A.length ≤ X.length := by rw [hA, List.length_take]; omega
      have := HXL.out
      omega)
    by_cases hlt : k < X.length
    · obtain ⟨y, hy⟩ : ∃ y, X[k]? = some y := ⟨X[k], by simp⟩
      have hm := HXM.out _ (List.mem_of_getElem? hy)
      obtain ⟨y1, y2⟩ := y
      simp only at hm
      obtain ⟨as', cs', es, -, hsp⟩ := HS.out.fresh f3
      simp only [Value.slice.injEq] at es
      obtain ⟨rfl, -, rfl⟩ := es
      obtain ⟨bb, off, rfl, hbb, x0, x1⟩ := hsp k _ hy
      (try simp only at x0 x1)
      obtain ⟨bh, oh, rfl, hbh, hcell0⟩ := HH.out.get (k := k) (s := V (y1, y2)) (by rw [List.getElem?_map, hy]; rfl)
      have hhc := (f3.cell (p := ⟨bh, oh + k, none⟩) hbh (fun h => h)).trans hcell0
      have hbh3 : bh < wr.heap.size := Nat.lt_of_lt_of_le hbh f3.size
      have hki : (k : Int) < (X.length : Int) := by omega
      have hk0 : (0 : Int) ≤ (k : Int) := by omega
      have n2 : y2 ≤ n := hm.2.2
      have n3 : y1 < y2 := hm.2.1
      have fb := (Keeps.refl (fun _ => False) wr).alloc (.cells #[.int .i64 (y1 : Int), .int .i64 (y2 : Int)] 24)
      have hbx := heap_alloc_new wr (.cells #[.int .i64 (y1 : Int), .int .i64 (y2 : Int)] 24)
      obtain ⟨bx, hbxe⟩ : ∃ bx, wr.heap.size = bx := ⟨_, rfl⟩
      obtain ⟨wb, hwb⟩ : ∃ wb, wr.alloc (.cells #[.int .i64 (y1 : Int), .int .i64 (y2 : Int)] 24) = wb := ⟨_, rfl⟩
      have hrlt := fun g hg => (hrow.lt g hg).2
      rw [hbxe, hwb] at hbx
      rw [hwb] at fb
      have b0 := cell_at hbx 0
      have b1 := cell_at hbx 1
      have l0 := cell_at (fb.at_ hd2 (fun h => h)) 0
      have l1 := cell_at (fb.at_ hd2 (fun h => h)) 1
      simp at b0 b1 l0 l1
      have hrow2 := HROW.out.fresh fb
      have xl := lt_of_block hbx
      have hl0 : bh < wb.heap.size := Nat.lt_of_lt_of_le hbh3 fb.size
      have hcell := (fb.cell (p := ⟨bh, oh + k, none⟩) hbh3 (fun h => h)).trans hhc
      have hof0 : ¬ (Value.slice aou A.length cpu).ownBlock = some bx := fun e => by have := hrlt bx e; omega
      have hof1 : ¬ (Value.slice aou A.length cpu).ownBlock = some bh := fun e => by have := HO.out bh e; have := f2.size; omega
      have HFB := hid fb
      have HY := hid hy
      have HLT := hid hlt
      clear hm hy hsp hbh hcell0 hhc hbh3 fb hbx hrlt hlt hk hA hrow hown hd2
      go_wp2_with fail
      refine wp_region_keep 10 (fun w' => Keeps (fun q => (Value.slice aou A.length cpu).ownBlock = some q) wb w') (fun _ => True) (fun _ => true) (by kernel_rfl) (by kernel_rfl) ?_
      (try (change wpKeep _ _ _ _ _ _ _ _ _ _ (World.drew _)))
      refine wpKeep_takeT (i := 0) (oi := ⟨some 64, _, _, _, _, _⟩) (v := ?_) rfl (by kernel_rfl) (by kernel_rfl) (by kernel_rfl) (by kernel_rfl) (fun _ _ _ h => h) (Or.inl ⟨by rfl, ?_⟩) (Keeps.refl _ _).drew (fun _ => trivial) ?_
      rotate_left
      · intro w' hT
        have z0 := (hT.cell (p := ⟨bx, 0, none⟩) xl hof0).trans b0
        have z1 := (hT.cell (p := ⟨bx, 1, none⟩) xl hof0).trans b1
        have z2 := (hT.cell (p := ⟨bh, oh + k, none⟩) hl0 hof1).trans hcell
        go_simp
        (try rw [if_pos (by omega)])
        (try with_reducible rfl)
      rotate_left
      (try simp only [Act.put, List.setIfInBounds_toArray, List.set_cons_zero, List.set_cons_succ])
      refine wpKeep_takeT (i := 1) (oi := ⟨some 65, _, _, _, _, _⟩) (v := ?_) rfl (by kernel_rfl) (by kernel_rfl) (by kernel_rfl) (by kernel_rfl) (fun _ _ _ h => h) (Or.inl ⟨by rfl, ?_⟩) (Keeps.refl _ _).drew (fun _ => trivial) ?_
      rotate_left
      · intro w' hT
        have z0 := (hT.cell (p := ⟨bx, 0, none⟩) xl hof0).trans b0
        have z1 := (hT.cell (p := ⟨bx, 1, none⟩) xl hof0).trans b1
        have z2 := (hT.cell (p := ⟨bh, oh + k, none⟩) hl0 hof1).trans hcell
        go_simp
        (try rw [if_pos (by omega)])
        (try with_reducible rfl)
      rotate_left
      (try simp only [Act.put, List.setIfInBounds_toArray, List.set_cons_zero, List.set_cons_succ])
      refine wpKeep_takeT (i := 2) (oi := ⟨some 66, _, _, _, _, _⟩) (v := ?_) rfl (by kernel_rfl) (by kernel_rfl) (by kernel_rfl) (by kernel_rfl) (fun _ _ _ h => h) (Or.inl ⟨by rfl, ?_⟩) (Keeps.refl _ _).drew (fun _ => trivial) ?_
      rotate_left
      · intro w' hT
        have z0 := (hT.cell (p := ⟨bx, 0, none⟩) xl hof0).trans b0
        have z1 := (hT.cell (p := ⟨bx, 1, none⟩) xl hof0).trans b1
        have z2 := (hT.cell (p := ⟨bh, oh + k, none⟩) hl0 hof1).trans hcell
        go_simp
        (try rw [if_pos (by omega)])
        (try with_reducible rfl)
      rotate_left
      (try simp only [Act.put, List.setIfInBounds_toArray, List.set_cons_zero, List.set_cons_succ])
      refine wpKeep_takeT (i := 3) (oi := ⟨some 67, _, _, _, _, _⟩) (v := ?_) rfl (by kernel_rfl) (by kernel_rfl) (by kernel_rfl) (by kernel_rfl) (fun _ _ _ h => h) (Or.inl ⟨by rfl, ?_⟩) (Keeps.refl _ _).drew (fun _ => trivial) ?_
      rotate_left
      · intro w' hT
        have z0 := (hT.cell (p := ⟨bx, 0, none⟩) xl hof0).trans b0
        have z1 := (hT.cell (p := ⟨bx, 1, none⟩) xl hof0).trans b1
        have z2 := (hT.cell (p := ⟨bh, oh + k, none⟩) hl0 hof1).trans hcell
        go_simp
        (try rw [if_pos (by omega)])
        (try with_reducible rfl)
      rotate_left
      (try simp only [Act.put, List.setIfInBounds_toArray, List.set_cons_zero, List.set_cons_succ])
      refine wpKeep_takeT (i := 4) (oi := ⟨some 68, _, _, _, _, _⟩) (v := ?_) rfl (by kernel_rfl) (by kernel_rfl) (by kernel_rfl) (by kernel_rfl) (fun _ _ _ h => h) (Or.inl ⟨by rfl, ?_⟩) (Keeps.refl _ _).drew (fun _ => trivial) ?_
      rotate_left
      · intro w' hT
        have z0 := (hT.cell (p := ⟨bx, 0, none⟩) xl hof0).trans b0
        have z1 := (hT.cell (p := ⟨bx, 1, none⟩) xl hof0).trans b1
        have z2 := (hT.cell (p := ⟨bh, oh + k, none⟩) hl0 hof1).trans hcell
        go_simp
        (try rw [if_pos (by omega)])
        (try with_reducible rfl)
      rotate_left
      (try simp only [Act.put, List.setIfInBounds_toArray, List.set_cons_zero, List.set_cons_succ])
      refine wpKeep_takeT (i := 5) (oi := ⟨some 69, _, _, _, _, _⟩) (v := ?_) rfl (by kernel_rfl) (by kernel_rfl) (by kernel_rfl) (by kernel_rfl) (fun _ _ _ h => h) (Or.inl ⟨by rfl, ?_⟩) (Keeps.refl _ _).drew (fun _ => trivial) ?_
      rotate_left
      · intro w' hT
        have z0 := (hT.cell (p := ⟨bx, 0, none⟩) xl hof0).trans b0
        have z1 := (hT.cell (p := ⟨bx, 1, none⟩) xl hof0).trans b1
        have z2 := (hT.cell (p := ⟨bh, oh + k, none⟩) hl0 hof1).trans hcell
        go_simp
        (try rw [if_pos (by omega)])
        (try with_reducible rfl)
      rotate_left
      (try simp only [Act.put, List.setIfInBounds_toArray, List.set_cons_zero, List.set_cons_succ])
      refine wpKeep_takeT (i := 6) (oi := ⟨some 70, _, _, _, _, _⟩) (v := ?_) rfl (by kernel_rfl) (by kernel_rfl) (by kernel_rfl) (by kernel_rfl) (fun _ _ _ h => h) (Or.inl ⟨by rfl, ?_⟩) (Keeps.refl _ _).drew (fun _ => trivial) ?_
      rotate_left
      · intro w' hT
        have z0 := (hT.cell (p := ⟨bx, 0, none⟩) xl hof0).trans b0
        have z1 := (hT.cell (p := ⟨bx, 1, none⟩) xl hof0).trans b1
        have z2 := (hT.cell (p := ⟨bh, oh + k, none⟩) hl0 hof1).trans hcell
        go_simp
        (try rw [if_pos (by omega)])
        (try with_reducible rfl)
      rotate_left
      (try simp only [Act.put, List.setIfInBounds_toArray, List.set_cons_zero, List.set_cons_succ])
      refine wpKeep_ready (rs := [7]) (by kernel_rfl) (by simp) ?_
      refine AllKeep.cons (o := ⟨some 71, _, _, _, _, _⟩) rfl (fun K hK => ?_) AllKeep.nil
      go_simp
      refine hK.out _ _ ((Keeps.refl _ wb).alloc _).drew (fun _ => trivial) ?_
      clear hK K
      (try simp only [Act.put, List.setIfInBounds_toArray, List.set_cons_zero, List.set_cons_succ])
      refine wpKeep_ready (rs := [8]) (by kernel_rfl) (by simp) ?_
      refine AllKeep.cons (o := ⟨some 72, _, _, _, _, _⟩) rfl (fun K hK => ?_) AllKeep.nil
      have hdr := ((Keeps.refl (fun _ => False) wb).alloc (.cells #[.int .i64 (y1 : Int), .int .i64 (y2 : Int), .string (str (V (y1, y2)))] 132)).drew
      refine push_wp rfl (.tmp 64) (.tmp 71) 130 rfl 132 i0 (.agg #[.int .i64 0, .int .i64 0, .string ⟨#[]⟩]) 3 32 Tryd.underlying130 hi hz0 hz1 hz2 rfl (by decide) _ (ownsRow_keeps hrow2 hdr (fun _ _ h => h)) wb.heap.size [.int .i64 (y1 : Int), .int .i64 (y2 : Int), .string (str (V (y1, y2)))] rfl (heap_alloc_new wb _) (by simp [Value.oneCell']) rfl rfl (by have := HBD.out; omega) (by have := HBD.out; unfold maxLen; omega) ?_
      intro v5 w5 ha
      have k5 : Keeps (fun q => (Value.slice aou A.length cpu).ownBlock = some q) wb w5 := (hdr.mono (fun _ _ h => h.elim)).trans ha.keeps
      have hrow5 := ha.row
      have hown5 : ∀ z, v5.ownBlock = some z → (Value.slice aou A.length cpu).ownBlock = some z ∨ wb.heap.size ≤ z := fun z hz => by
        rcases ha.own z hz with q | q
        · exact .inl q
        · exact .inr (by have := hdr.size; omega)
      obtain ⟨ao5, cp5, rfl⟩ := ownsRow_slice ha.row
      clear ha hdr
      refine hK.out _ _ k5 (fun _ => trivial) ?_
      clear hK K
      (try simp only [Act.put, List.setIfInBounds_toArray, List.set_cons_zero, List.set_cons_succ])
      refine wpKeep_takeT (i := 9) (oi := ⟨some 10, _, _, _, _, _⟩) (v := ?_) rfl (by kernel_rfl) (by kernel_rfl) (by kernel_rfl) (by kernel_rfl) (fun _ _ _ h => h) (Or.inl ⟨by rfl, ?_⟩) k5 (fun _ => trivial) ?_
      rotate_left
      · intro w' hT
        go_simp
        (try rw [if_pos (by omega)])
        (try with_reducible rfl)
      rotate_left
      (try simp only [Act.put, List.setIfInBounds_toArray, List.set_cons_zero, List.set_cons_succ])
      refine wpKeep_done (by kernel_rfl) ?_ _
      have hcl : pcells V A ++ [Value.int .i64 (y1 : Int), .int .i64 (y2 : Int), .string (str (V (y1, y2)))] = pcells V (A ++ [(y1, y2)]) := by rw [pcells_append]; rfl
      rw [hcl] at hrow5
      have hT : A ++ [(y1, y2)] = X.take (k + 1) := by rw [HA.out, List.take_add_one, HY.out]; rfl
      have hKA : KnownAt V w5 (.slice ao5 (A.length + 1) cp5) (A ++ [(y1, y2)]) := by unfold KnownAt; rw [List.length_append]; exact hrow5
      have hws := f.size
      have ho5 : ∀ z, (Value.slice ao5 (A.length + 1) cp5).ownBlock = some z → w2.heap.size ≤ z := fun z hz => by
        rcases hown5 z hz with q | q
        · exact HO.out z q
        · have := HFB.out.size; omega
      have f5 : Fresh w2 w5 := (f.trans HFB.out).trans' k5 (fun z hz e => by have := HO.out z e; omega)
      have H1 := hid hKA
      have H3 := hid ho5
      have H5 := hid f5
      have HT := hid hT
      clear hKA ho5 f5 hT hrow5 hcl hown5 k5
      go_wp2_with fail
      go_roundw
      case rel => exact ⟨k + 1, _, by go_num, HLT.out, HT.out, H1.out, H3.out, H5.out⟩
      case measure => have := HLT.out; simp [intOf]; omega
    · obtain rfl : k = X.length := by omega
      obtain rfl : A = X := by rw [hA, List.take_length]
      have l0 := cell_at hd2 0
      have l1 := cell_at hd2 1
      simp at l0 l1
      have p2l := lt_of_block hd2
      clear hk hA hrow hown hd2
      go_wp2_with fail
      refine (HF.out _ _ HROW.out (HD.out.fresh f3)).mono ?_
      rintro e w5 ⟨rfl, f5⟩
      go_wp2_with fail
      go_ret2
      exact ⟨rfl, f3.trans f5⟩
end Go.Proofs.YtgikabafaocemaaDoor
