/-
  The tree of tiles: put.
-/
import Derived.Test.YtgikabafaocemaaDoorMTlA
import Derived.Test.YtgikabafaocemaaDoorMMsF
namespace Go.Proofs.YtgikabafaocemaaDoor
open Go.RowKit Go.Maps

theorem made_nil (h : Nat) (j : Nat) (hj : j < h) : (madeCells #[Value.slice none 0 0] h)[j]? = some (Value.slice none 0 0) := by
  unfold madeCells
  simp [hj, Nat.mod_one]
theorem Tryd.infoRow : (Tryd.prog.info? 26).map (fun i => (i.zero, i.size, i.bytes)) = some (some (.slice none 0 0), 1, 24) := by kernel_rfl

/-- what stands behind put, in its first part: a tile is there -/
def PutReady (S : Nat → Prop) (w0 w : World) (tb h l N : Nat) (sz : Int) (c : Nat → Nat) (H : Nat → Nat → List UInt8) : Prop :=
  ∃ S' own F mb g cur, Tiles own F w mb h N c H ∧ w.heap[tb]? = some (tileC h sz mb) ∧ S' mb ∧ mb ≠ tb ∧ own tb = none ∧ (∀ q x, own q = some x → S' q) ∧ S' tb ∧ Grows S S' w0 w ∧ Keeps S w0 w ∧
    F (l / h) (c l / 2 ^ (h - l % h)) = some (.slice (some ⟨g, 0, none⟩) h h) ∧ w.heap[g]? = some (.cells cur 26 (0, 0)) ∧ cur.size = h

set_option maxRecDepth 100000 in
set_option maxHeartbeats 2000000 in
theorem put_any (S : Nat → Prop) (tb h l N : Nat) (sz : Int) (c : Nat → Nat) (H : Nat → Nat → List UInt8) (w : World) (ht : TreeAt S w tb h sz N c H) (hl : l ≤ 64) (hc : c l ≤ 1099511627776) (hN : N ≤ 900000000) :
    Calls Tryd.prog 84 #[.pointer (some ⟨tb, 0, none⟩), .agg #[.int .i64 (l : Int), .int .i64 ((c l : Nat) : Int)], .string (str (H l (c l)))] w fun x w' => x = .returned (.tuple #[]) ∧ Acts S w w' fun S' => TreeAt S' w' tb h sz (N + 1) (oneMore c l) H := by
  obtain ⟨own, F, mb, h1, h2, hSm, hmt, hot, hoS⟩ := ht.ex
  have hlo := ht.lo
  have hhi := ht.hi
  have htb := lt_of_block h2
  obtain ⟨n, D, hn, hmap, hsee⟩ := h1.map
  have hA : l / h ≤ 64 := Nat.le_trans (Nat.div_le_self l h) hl
  have hB : c l / 2 ^ (h - l % h) ≤ 1099511627776 := Nat.le_trans (Nat.div_le_self _ _) hc
  have hJ := Nat.mod_lt l (show h > 0 by omega)
  have hat := fun W (f : Fresh w W) => at_any tb h l (c l) W (Nat.lt_of_lt_of_le htb f.size) (cell_at (f.at_ h2 (fun h => h)) 0) hlo hhi hl hc
  have hlook := fun W (f : Fresh w W) => look_place (ownsMap_keeps hmap f (fun h => h)) hsee (l / h) (c l / 2 ^ (h - l % h)) (by omega) (by omega)
  have hpush := fun (w2 w' : World) own' F' mb' N' (q : Tiles own' F' w2 mb' h N' c H) g' cur' rv' rv2 a1 a2 a3 a4 => Tiles.push (w' := w') q l hlo (g := g') (cur := cur') (rv := rv') (rv' := rv2) a1 a2 a3 a4
  obtain ⟨A, hAe⟩ : ∃ A, l / h = A := ⟨_, rfl⟩
  obtain ⟨J, hJe⟩ : ∃ J, l % h = J := ⟨_, rfl⟩
  rw [hAe] at hA hat hlook
  rw [hJe] at hB hJ hat hlook
  rw [hAe, hJe] at hpush
  obtain ⟨B, hBe⟩ : ∃ B, c l / 2 ^ (h - J) = B := ⟨_, rfl⟩
  obtain ⟨I, hIe⟩ : ∃ I, c l % 2 ^ (h - J) = I := ⟨_, rfl⟩
  rw [hBe] at hB hlook hat hpush
  rw [hIe] at hat
  obtain ⟨CL, hCL⟩ : ∃ CL, c l = CL := ⟨_, rfl⟩
  rw [hCL] at hat hpush ⊢
  obtain ⟨HL, hHL⟩ : ∃ HL, H l CL = HL := ⟨_, rfl⟩
  rw [hHL] at hpush ⊢
  clear hAe hJe hBe hIe hCL hHL hc
  have HPU := hid hpush
  have HAT := hid hat
  have HLOOK := hid hlook
  have HT := hid ht
  have e0 : ∀ W, (binOp .eql 37 (.slice none 0 0) (.slice none 0 0)).run Tryd.prog W = .ok (.bool true) W := fun W => by kernel_rfl
  have e1 : ∀ g W, (binOp .eql 37 (.slice (some ⟨g, 0, none⟩) h h) (.slice none 0 0)).run Tryd.prog W = .ok (.bool false) W := fun g W => by kernel_rfl
  clear hpush
  have H1 := hid h1
  clear hat hlook ht h1
  have f0 : Fresh w (w.alloc (.cells #[.int .i64 (l : Int), .int .i64 (CL : Int)] 72)) := (Keeps.refl _ _).alloc _
  unfold placeV at HAT HLOOK
  go_enter Tryd.func84, Tryd.ntmps84
  go_wp2_with fail
  refine (HAT.out _ f0).mono ?_
  rintro x w1 ⟨rfl, fa⟩
  have f1 := f0.trans fa
  go_wp2_with fail
  have f2 := f1.alloc (.cells #[.int .i64 (A : Int), .int .i64 (B : Int)] 165)
  have t2 := cell_at (f2.at_ h2 (fun h => h)) 2
  have hlk := HLOOK.out _ f2
  have hlk' := HLOOK.out _ f2.drew
  have hNn := heap_alloc_new w1 (.cells #[.int .i64 (A : Int), .int .i64 (B : Int)] 165)
  have p0 := cell_at hNn 0
  have p1 := cell_at hNn 1
  simp at t2 p0 p1
  cases hF : F A B
  case' none =>
    rw [hF] at hlk hlk'
    simp at hlk hlk'
    go_region
    have f2 := f2.drew
    have hNn : (w1.alloc (.cells #[.int .i64 (A : Int), .int .i64 (B : Int)] 165)).drew.heap[w1.heap.size]? = _ := hNn
    generalize (w1.alloc (.cells #[.int .i64 (A : Int), .int .i64 (B : Int)] 165)).drew = w2 at f2 hNn ⊢
    have hpb : w.heap.size ≤ w1.heap.size := f1.size
    generalize w1.heap.size = pb at hNn hpb ⊢
    clear hlk hlk' t2 p0 p1 f1 fa f0
    have f3 := f2.drew
    have t0 := cell_at (f2.at_ h2 (fun h => h)) 0
    have t2 := cell_at (f2.at_ h2 (fun h => h)) 2
    have p0 := cell_at hNn 0
    have p1 := cell_at hNn 1
    simp at t0 t2 p0 p1
    obtain ⟨j0, hj0, hy0, hy1, hy2⟩ := info_parts Tryd.infoRow
    have hmk : ∀ W, (Instr.makeSlice 37 (.int .i64 (h : Int)) (.int .i64 (h : Int))).run Tryd.prog W = .ok (.slice (some ⟨W.heap.size, 0, none⟩) h h) (W.alloc (.cells (madeCells #[.slice none 0 0] h) 26)) := fun W => by
      have := run_make W 37 26 j0 (.slice none 0 0) Tryd.underlying37 hj0 hy0 .i64 .i64 (h : Int) (h : Int) (by omega) (by omega) (by rw [hy2]; omega) (by omega)
      rw [hy1] at this
      simpa [Value.cells] using this
    have hpl := lt_of_block hNn
    have htl := Nat.lt_of_lt_of_le htb f2.size
    have f4 := (f2.alloc (.cells (madeCells #[.slice none 0 0] h) 26)).drew
    obtain ⟨w4, hrun, hmap4, hgr4⟩ := put_place (ownsMap_keeps hmap f4 (fun h => h)) hsee A B (by omega) (by omega) (.slice (some ⟨w2.heap.size, 0, none⟩) h h) (by omega)
    have hgn : (w2.alloc (.cells (madeCells #[.slice none 0 0] h) 26)).drew.heap[w2.heap.size]? = _ := heap_alloc_new w2 (.cells (madeCells #[.slice none 0 0] h) 26)
    have hmake := H1.out.make f4 hgn f2.size (by simp [madeCells]) (fun j hj => made_nil h j hj) hn hF hmap4 hgr4
    have hNn4 : (w2.alloc (.cells (madeCells #[.slice none 0 0] h) 26)).drew.heap[pb]? = _ := ((Keeps.refl (fun _ => False) w2).alloc _).at_ hNn (fun h => h)
    have a0 := (cell_at hNn4 0).trans (show _ = some (Value.int .i64 (A : Int)) from rfl)
    have a1 := (cell_at hNn4 1).trans (show _ = some (Value.int .i64 (B : Int)) from rfl)
    have a2 := (cell_at (f4.at_ h2 (fun h => h)) 2).trans (show _ = some (Value.map (some mb)) from rfl)
    have a3 := (cell_at (f4.at_ h2 (fun h => h)) 0).trans (show _ = some (Value.int .i64 (h : Int)) from rfl)
    unfold placeV at hrun
    go_wp2_with fail
    go_region
    obtain ⟨T1, K1⟩ := hmake
    have k4 : Keeps (fun k => k = mb) (w2.alloc (.cells (madeCells #[.slice none 0 0] h) 26)).drew w4 := (Keeps.refl _ _).grown hgr4 (fun k hk _ => by cases hk; rfl)
    have htm : tb ≠ mb := fun e => hmt e.symm
    have hmlt := H1.out.mb_lt
    have hpm : pb ≠ mb := by omega
    have B1 := k4.at_ (f4.at_ h2 (fun h => h)) htm
    have P1 := k4.at_ hNn4 hpm
    have Kx : Keeps S w w4 := K1.mono (fun q _ e => by rw [e]; exact hSm)
    have Fg : (fun x y => if x = A ∧ y = B then some (Value.slice (some ⟨w2.heap.size, 0, none⟩) h h) else F x y) A B = some (.slice (some ⟨w2.heap.size, 0, none⟩) h h) := by simp
    have ow1 : (fun k => if k = w2.heap.size then some (A, B, none) else own k) tb = none := by
      show (if tb = w2.heap.size then _ else _) = _
      rw [if_neg (by omega)]; exact hot
    have ow2 : (fun k => if k = w2.heap.size then some (A, B, none) else own k) pb = none := by
      show (if pb = w2.heap.size then _ else _) = _
      rw [if_neg (by omega)]
      cases hz : own pb with
      | none => rfl
      | some z => have := H1.out.lt pb z hz; omega
    have O1 : ∀ q x, (fun k => if k = w2.heap.size then some (A, B, none) else own k) q = some x → S q ∨ (w.heap.size ≤ q ∧ q < w4.heap.size) := fun q x hq => by
      have hlt := T1.lt q x hq
      replace hq : (if q = w2.heap.size then some (A, B, none) else own q) = some x := hq
      by_cases e : q = w2.heap.size
      · exact .inr ⟨by have := f2.size; omega, hlt⟩
      · rw [if_neg e] at hq
        exact .inl (hoS q x hq)
    generalize (fun k => if k = w2.heap.size then some (A, B, none) else own k) = own1 at T1 ow1 ow2 O1
    generalize (fun x y => if x = A ∧ y = B then some (Value.slice (some ⟨w2.heap.size, 0, none⟩) h h) else F x y) = F1 at T1 Fg
    generalize w2.heap.size = g at Fg
    clear hgr4 hgn hmap4 hrun f4 f3 f2 t0 t2 p0 p1 a0 a1 a2 a3 hNn hNn4 k4 K1 hpl htl hmk
  case' some v =>
    obtain ⟨g, cur, rfl, ho, hg, hcs, hrows⟩ := H1.out.some_ _ _ v hF
    rw [hF] at hlk hlk'
    simp at hlk hlk'
    go_region
    have f2 := f2.drew
    have P1 : (w1.alloc (.cells #[.int .i64 (A : Int), .int .i64 (B : Int)] 165)).drew.heap[w1.heap.size]? = some (.cells #[.int .i64 (A : Int), .int .i64 (B : Int)] 165) := hNn
    generalize (w1.alloc (.cells #[.int .i64 (A : Int), .int .i64 (B : Int)] 165)).drew = w4 at f2 P1 ⊢
    have hpb : w.heap.size ≤ w1.heap.size := f1.size
    generalize w1.heap.size = pb at P1 hpb ⊢
    clear hlk hlk' t2 p0 p1 f1 fa f0
    have T1 := (H1.out.mono (Nat.le_succ N)).keeps f2 (fun h => h) (fun _ _ _ h => h)
    have htm : tb ≠ mb := fun e => hmt e.symm
    have hmlt := H1.out.mb_lt
    have hpm : pb ≠ mb := by omega
    have B1 := f2.at_ h2 (fun h => h)
    have Kx : Keeps S w w4 := f2.mono (fun _ _ h => h.elim)
    have Fg := hF
    have ow1 := hot
    have ow2 : own pb = none := by
      cases hz : own pb with
      | none => rfl
      | some z => have := H1.out.lt pb z hz; omega
    have O1 : ∀ q x, own q = some x → S q ∨ (w.heap.size ≤ q ∧ q < w4.heap.size) := fun q x hq => .inl (hoS q x hq)
    obtain ⟨own1, hown1⟩ : ∃ own1, own = own1 := ⟨_, rfl⟩
    rw [hown1] at T1 ow1 ow2 O1
    obtain ⟨F1, hF1⟩ : ∃ F1, F = F1 := ⟨_, rfl⟩
    rw [hF1] at T1 Fg
    clear hF1 hown1
    clear f2 hg hcs hrows ho
    replace T1 : Tiles own1 F1 w4 mb h (N + 1) c H := T1
  all_goals
    obtain ⟨g0, cur1, eg, ho1, hg1, hcs1, hrows1⟩ := T1.some_ A B _ Fg
    simp only [Value.slice.injEq, Option.some.injEq, Addr.mk.injEq, and_true] at eg
    subst eg
    obtain ⟨rv, hrv, hrow, hown⟩ := hrows1 J hJ
    replace hrow : w4.ownsRow 0 9 1 rv (rowOf c H h A B J).length (texts (rowOf c H h A B J)) := hrow
    have hRL : (rowOf c H h A B J).length ≤ 256 := by
      rw [rowOf_len]
      have := pow_le_8 (k := h - J) (by omega)
      omega
    obtain ⟨n1, D1, -, m1, s1⟩ := T1.map
    have hlkA : ∀ (U : Nat → Prop) W, Keeps U w4 W → ¬ U mb → (Instr.lookup 91 (.map (some mb)) (placeV A B) false).run Tryd.prog W = .ok (.slice (some ⟨g, 0, none⟩) h h) W := fun U W f hU => by
      have := look_place (ownsMap_keeps m1 f hU) s1 A B (by omega) (by omega)
      rw [Fg] at this
      exact this
    unfold placeV at hlkA
    obtain ⟨i0, hi, hz0, hz1, hz2⟩ := info_parts Tryd.infoText
    have b0 := (cell_at B1 2).trans (show _ = some (Value.map (some mb)) from rfl)
    have q0 := (cell_at P1 0).trans (show _ = some (Value.int .i64 (A : Int)) from rfl)
    have q1 := (cell_at P1 1).trans (show _ = some (Value.int .i64 (B : Int)) from rfl)
    have r0 := (cell_at hg1 J).trans hrv
    have r1 := free_at hg1 J
    have n0 := lt_of_block B1
    have n2 := lt_of_block P1
    have n3 := lt_of_block hg1
    have hJi : (J : Int) < (h : Int) := by omega
    have hkb : ∀ q, own1 q = none → rv.ownBlock ≠ some q := fun q hq e => by have := hown q e; rw [hq] at this; cases this
    have hne : ∀ q, own1 q = none → ¬ (q = g ∨ rv.ownBlock = some q) := fun q hq e => e.elim (fun e => by rw [e, ho1] at hq; cases hq) (hkb q hq)
    have hgmb := hne mb T1.mine
    have htbk := hne tb ow1
    have hpbk := hne pb ow2
    have hkg : rv.ownBlock ≠ some g := fun e => by
      have := hown g e
      rw [ho1] at this
      cases this
    go_wp2_with fail
    refine wp_region_keep 21 (fun w' => Keeps (fun k => k = g ∨ rv.ownBlock = some k) w4 w') (fun w' => w'.cell? ⟨g, J, none⟩ = some rv ∧ w'.frozen? ⟨g, J, none⟩ = false) (fun j => !(j == 20)) (by kernel_rfl) (by kernel_rfl) ?_
    (try (change wpKeep _ _ _ _ _ _ _ _ _ _ (World.drew _)))
    refine wpKeep_takeT (i := 0) (oi := ⟨some 33, _, _, _, _, _⟩) (v := ?_) rfl (by kernel_rfl) (by kernel_rfl) (by kernel_rfl) (by kernel_rfl) (fun _ _ _ h => h) (Or.inl ⟨by rfl, ?_⟩) (Keeps.refl _ _).drew (fun _ => ⟨r0, r1⟩) ?_
    rotate_left
    · intro w hT
      have l0 := hlkA _ w hT hgmb
      have b0 := (hT.cell (p := ⟨tb, 2, none⟩) n0 htbk).trans b0
      have q0 := (hT.cell (p := ⟨pb, 0, none⟩) n2 hpbk).trans q0
      have q1 := (hT.cell (p := ⟨pb, 1, none⟩) n2 hpbk).trans q1
      go_simp
      (try with_reducible rfl)
    rotate_left
    (try simp only [Act.put, List.setIfInBounds_toArray, List.set_cons_zero, List.set_cons_succ])
    refine wpKeep_takeT (i := 1) (oi := ⟨some 34, _, _, _, _, _⟩) (v := ?_) rfl (by kernel_rfl) (by kernel_rfl) (by kernel_rfl) (by kernel_rfl) (fun _ _ _ h => h) (Or.inl ⟨by rfl, ?_⟩) (Keeps.refl _ _).drew (fun _ => ⟨r0, r1⟩) ?_
    rotate_left
    · intro w hT
      have l0 := hlkA _ w hT hgmb
      have b0 := (hT.cell (p := ⟨tb, 2, none⟩) n0 htbk).trans b0
      have q0 := (hT.cell (p := ⟨pb, 0, none⟩) n2 hpbk).trans q0
      have q1 := (hT.cell (p := ⟨pb, 1, none⟩) n2 hpbk).trans q1
      go_simp
      (try with_reducible rfl)
    rotate_left
    (try simp only [Act.put, List.setIfInBounds_toArray, List.set_cons_zero, List.set_cons_succ])
    refine wpKeep_takeT (i := 2) (oi := ⟨some 35, _, _, _, _, _⟩) (v := ?_) rfl (by kernel_rfl) (by kernel_rfl) (by kernel_rfl) (by kernel_rfl) (fun _ _ _ h => h) (Or.inl ⟨by rfl, ?_⟩) (Keeps.refl _ _).drew (fun _ => ⟨r0, r1⟩) ?_
    rotate_left
    · intro w hT
      have l0 := hlkA _ w hT hgmb
      have b0 := (hT.cell (p := ⟨tb, 2, none⟩) n0 htbk).trans b0
      have q0 := (hT.cell (p := ⟨pb, 0, none⟩) n2 hpbk).trans q0
      have q1 := (hT.cell (p := ⟨pb, 1, none⟩) n2 hpbk).trans q1
      go_simp
      (try with_reducible rfl)
    rotate_left
    (try simp only [Act.put, List.setIfInBounds_toArray, List.set_cons_zero, List.set_cons_succ])
    refine wpKeep_takeT (i := 3) (oi := ⟨some 36, _, _, _, _, _⟩) (v := ?_) rfl (by kernel_rfl) (by kernel_rfl) (by kernel_rfl) (by kernel_rfl) (fun _ _ _ h => h) (Or.inl ⟨by rfl, ?_⟩) (Keeps.refl _ _).drew (fun _ => ⟨r0, r1⟩) ?_
    rotate_left
    · intro w hT
      have l0 := hlkA _ w hT hgmb
      have b0 := (hT.cell (p := ⟨tb, 2, none⟩) n0 htbk).trans b0
      have q0 := (hT.cell (p := ⟨pb, 0, none⟩) n2 hpbk).trans q0
      have q1 := (hT.cell (p := ⟨pb, 1, none⟩) n2 hpbk).trans q1
      go_simp
      (try with_reducible rfl)
    rotate_left
    (try simp only [Act.put, List.setIfInBounds_toArray, List.set_cons_zero, List.set_cons_succ])
    refine wpKeep_takeT (i := 4) (oi := ⟨some 37, _, _, _, _, _⟩) (v := ?_) rfl (by kernel_rfl) (by kernel_rfl) (by kernel_rfl) (by kernel_rfl) (fun _ _ _ h => h) (Or.inl ⟨by rfl, ?_⟩) (Keeps.refl _ _).drew (fun _ => ⟨r0, r1⟩) ?_
    rotate_left
    · intro w hT
      have l0 := hlkA _ w hT hgmb
      have b0 := (hT.cell (p := ⟨tb, 2, none⟩) n0 htbk).trans b0
      have q0 := (hT.cell (p := ⟨pb, 0, none⟩) n2 hpbk).trans q0
      have q1 := (hT.cell (p := ⟨pb, 1, none⟩) n2 hpbk).trans q1
      go_simp
      (try with_reducible rfl)
    rotate_left
    (try simp only [Act.put, List.setIfInBounds_toArray, List.set_cons_zero, List.set_cons_succ])
    refine wpKeep_takeT (i := 5) (oi := ⟨some 38, _, _, _, _, _⟩) (v := ?_) rfl (by kernel_rfl) (by kernel_rfl) (by kernel_rfl) (by kernel_rfl) (fun _ _ _ h => h) (Or.inl ⟨by rfl, ?_⟩) (Keeps.refl _ _).drew (fun _ => ⟨r0, r1⟩) ?_
    rotate_left
    · intro w hT
      have l0 := hlkA _ w hT hgmb
      have b0 := (hT.cell (p := ⟨tb, 2, none⟩) n0 htbk).trans b0
      have q0 := (hT.cell (p := ⟨pb, 0, none⟩) n2 hpbk).trans q0
      have q1 := (hT.cell (p := ⟨pb, 1, none⟩) n2 hpbk).trans q1
      go_simp
      (try with_reducible rfl)
    rotate_left
    (try simp only [Act.put, List.setIfInBounds_toArray, List.set_cons_zero, List.set_cons_succ])
    refine wpKeep_takeT (i := 6) (oi := ⟨some 39, _, _, _, _, _⟩) (v := ?_) rfl (by kernel_rfl) (by kernel_rfl) (by kernel_rfl) (by kernel_rfl) (fun _ _ _ h => h) (Or.inl ⟨by rfl, ?_⟩) (Keeps.refl _ _).drew (fun _ => ⟨r0, r1⟩) ?_
    rotate_left
    · intro w hT
      have l0 := hlkA _ w hT hgmb
      have b0 := (hT.cell (p := ⟨tb, 2, none⟩) n0 htbk).trans b0
      have q0 := (hT.cell (p := ⟨pb, 0, none⟩) n2 hpbk).trans q0
      have q1 := (hT.cell (p := ⟨pb, 1, none⟩) n2 hpbk).trans q1
      go_simp
      (try with_reducible rfl)
    rotate_left
    (try simp only [Act.put, List.setIfInBounds_toArray, List.set_cons_zero, List.set_cons_succ])
    refine wpKeep_takeT (i := 7) (oi := ⟨some 40, _, _, _, _, _⟩) (v := ?_) rfl (by kernel_rfl) (by kernel_rfl) (by kernel_rfl) (by kernel_rfl) (fun _ _ _ h => h) (Or.inl ⟨by rfl, ?_⟩) (Keeps.refl _ _).drew (fun _ => ⟨r0, r1⟩) ?_
    rotate_left
    · intro w hT
      have l0 := hlkA _ w hT hgmb
      have b0 := (hT.cell (p := ⟨tb, 2, none⟩) n0 htbk).trans b0
      have q0 := (hT.cell (p := ⟨pb, 0, none⟩) n2 hpbk).trans q0
      have q1 := (hT.cell (p := ⟨pb, 1, none⟩) n2 hpbk).trans q1
      go_simp
      (try with_reducible rfl)
    rotate_left
    (try simp only [Act.put, List.setIfInBounds_toArray, List.set_cons_zero, List.set_cons_succ])
    refine wpKeep_takeT (i := 8) (oi := ⟨some 41, _, _, _, _, _⟩) (v := ?_) rfl (by kernel_rfl) (by kernel_rfl) (by kernel_rfl) (by kernel_rfl) (fun _ _ _ h => h) (Or.inl ⟨by rfl, ?_⟩) (Keeps.refl _ _).drew (fun _ => ⟨r0, r1⟩) ?_
    rotate_left
    · intro w hT
      have l0 := hlkA _ w hT hgmb
      have b0 := (hT.cell (p := ⟨tb, 2, none⟩) n0 htbk).trans b0
      have q0 := (hT.cell (p := ⟨pb, 0, none⟩) n2 hpbk).trans q0
      have q1 := (hT.cell (p := ⟨pb, 1, none⟩) n2 hpbk).trans q1
      go_simp
      (try with_reducible rfl)
    rotate_left
    (try simp only [Act.put, List.setIfInBounds_toArray, List.set_cons_zero, List.set_cons_succ])
    refine wpKeep_takeT (i := 9) (oi := ⟨some 42, _, _, _, _, _⟩) (v := ?_) rfl (by kernel_rfl) (by kernel_rfl) (by kernel_rfl) (by kernel_rfl) (fun _ _ _ h => h) (Or.inl ⟨by rfl, ?_⟩) (Keeps.refl _ _).drew (fun _ => ⟨r0, r1⟩) ?_
    rotate_left
    · intro w hT
      have l0 := hlkA _ w hT hgmb
      have b0 := (hT.cell (p := ⟨tb, 2, none⟩) n0 htbk).trans b0
      have q0 := (hT.cell (p := ⟨pb, 0, none⟩) n2 hpbk).trans q0
      have q1 := (hT.cell (p := ⟨pb, 1, none⟩) n2 hpbk).trans q1
      go_simp
      (try with_reducible rfl)
    rotate_left
    (try simp only [Act.put, List.setIfInBounds_toArray, List.set_cons_zero, List.set_cons_succ])
    refine wpKeep_takeT (i := 10) (oi := ⟨some 43, _, _, _, _, _⟩) (v := ?_) rfl (by kernel_rfl) (by kernel_rfl) (by kernel_rfl) (by kernel_rfl) (fun _ _ _ h => h) (Or.inl ⟨by rfl, ?_⟩) (Keeps.refl _ _).drew (fun _ => ⟨r0, r1⟩) ?_
    rotate_left
    · intro w hT
      have l0 := hlkA _ w hT hgmb
      have b0 := (hT.cell (p := ⟨tb, 2, none⟩) n0 htbk).trans b0
      have q0 := (hT.cell (p := ⟨pb, 0, none⟩) n2 hpbk).trans q0
      have q1 := (hT.cell (p := ⟨pb, 1, none⟩) n2 hpbk).trans q1
      go_simp
      (try with_reducible rfl)
    rotate_left
    (try simp only [Act.put, List.setIfInBounds_toArray, List.set_cons_zero, List.set_cons_succ])
    refine wpKeep_takeT (i := 11) (oi := ⟨some 44, _, _, _, _, _⟩) (v := ?_) rfl (by kernel_rfl) (by kernel_rfl) (by kernel_rfl) (by kernel_rfl) (fun _ _ _ h => h) (Or.inl ⟨by rfl, ?_⟩) (Keeps.refl _ _).drew (fun _ => ⟨r0, r1⟩) ?_
    rotate_left
    · intro w hT
      have l0 := hlkA _ w hT hgmb
      have b0 := (hT.cell (p := ⟨tb, 2, none⟩) n0 htbk).trans b0
      have q0 := (hT.cell (p := ⟨pb, 0, none⟩) n2 hpbk).trans q0
      have q1 := (hT.cell (p := ⟨pb, 1, none⟩) n2 hpbk).trans q1
      go_simp
      (try with_reducible rfl)
    rotate_left
    (try simp only [Act.put, List.setIfInBounds_toArray, List.set_cons_zero, List.set_cons_succ])
    refine wpKeep_takeT (i := 12) (oi := ⟨some 45, _, _, _, _, _⟩) (v := ?_) rfl (by kernel_rfl) (by kernel_rfl) (by kernel_rfl) (by kernel_rfl) (fun _ _ _ h => h) (Or.inl ⟨by rfl, ?_⟩) (Keeps.refl _ _).drew (fun _ => ⟨r0, r1⟩) ?_
    rotate_left
    · intro w hT
      have l0 := hlkA _ w hT hgmb
      have b0 := (hT.cell (p := ⟨tb, 2, none⟩) n0 htbk).trans b0
      have q0 := (hT.cell (p := ⟨pb, 0, none⟩) n2 hpbk).trans q0
      have q1 := (hT.cell (p := ⟨pb, 1, none⟩) n2 hpbk).trans q1
      go_simp
      (try with_reducible rfl)
    rotate_left
    (try simp only [Act.put, List.setIfInBounds_toArray, List.set_cons_zero, List.set_cons_succ])
    refine wpKeep_takeT (i := 13) (oi := ⟨some 46, _, _, _, _, _⟩) (v := ?_) rfl (by kernel_rfl) (by kernel_rfl) (by kernel_rfl) (by kernel_rfl) (fun _ _ _ h => h) (Or.inl ⟨by rfl, ?_⟩) (Keeps.refl _ _).drew (fun _ => ⟨r0, r1⟩) ?_
    rotate_left
    · intro w hT
      have l0 := hlkA _ w hT hgmb
      have b0 := (hT.cell (p := ⟨tb, 2, none⟩) n0 htbk).trans b0
      have q0 := (hT.cell (p := ⟨pb, 0, none⟩) n2 hpbk).trans q0
      have q1 := (hT.cell (p := ⟨pb, 1, none⟩) n2 hpbk).trans q1
      go_simp
      (try with_reducible rfl)
    rotate_left
    (try simp only [Act.put, List.setIfInBounds_toArray, List.set_cons_zero, List.set_cons_succ])
    refine wpKeep_takeT (i := 14) (oi := ⟨some 47, _, _, _, _, _⟩) (v := ?_) rfl (by kernel_rfl) (by kernel_rfl) (by kernel_rfl) (by kernel_rfl) (fun _ _ _ h => h) (Or.inl ⟨by rfl, ?_⟩) (Keeps.refl _ _).drew (fun _ => ⟨r0, r1⟩) ?_
    rotate_left
    · intro w hT
      have l0 := hlkA _ w hT hgmb
      have b0 := (hT.cell (p := ⟨tb, 2, none⟩) n0 htbk).trans b0
      have q0 := (hT.cell (p := ⟨pb, 0, none⟩) n2 hpbk).trans q0
      have q1 := (hT.cell (p := ⟨pb, 1, none⟩) n2 hpbk).trans q1
      go_simp
      (try with_reducible rfl)
    rotate_left
    (try simp only [Act.put, List.setIfInBounds_toArray, List.set_cons_zero, List.set_cons_succ])
    refine wpKeep_take (i := 15) (oi := ⟨some 48, _, _, _, _, _⟩) (v := ?_) rfl (by kernel_rfl) (by kernel_rfl) (by kernel_rfl) (by kernel_rfl) (fun _ _ _ h => h) (Or.inl ⟨by rfl, ?_⟩) ⟨(Keeps.refl _ _).drew, ⟨r0, r1⟩⟩ ?_
    rotate_left
    · intro w hT
      have hS0 := hT.2.1
      replace hT := hT.1
      have l0 := hlkA _ w hT hgmb
      have b0 := (hT.cell (p := ⟨tb, 2, none⟩) n0 htbk).trans b0
      have q0 := (hT.cell (p := ⟨pb, 0, none⟩) n2 hpbk).trans q0
      have q1 := (hT.cell (p := ⟨pb, 1, none⟩) n2 hpbk).trans q1
      go_simp
      (try with_reducible rfl)
    rotate_left
    (try simp only [Act.put, List.setIfInBounds_toArray, List.set_cons_zero, List.set_cons_succ])
    refine wpKeep_takeT (i := 16) (oi := ⟨some 49, _, _, _, _, _⟩) (v := ?_) rfl (by kernel_rfl) (by kernel_rfl) (by kernel_rfl) (by kernel_rfl) (fun _ _ _ h => h) (Or.inl ⟨by rfl, ?_⟩) (Keeps.refl _ _).drew (fun _ => ⟨r0, r1⟩) ?_
    rotate_left
    · intro w hT
      have l0 := hlkA _ w hT hgmb
      have b0 := (hT.cell (p := ⟨tb, 2, none⟩) n0 htbk).trans b0
      have q0 := (hT.cell (p := ⟨pb, 0, none⟩) n2 hpbk).trans q0
      have q1 := (hT.cell (p := ⟨pb, 1, none⟩) n2 hpbk).trans q1
      go_simp
      (try with_reducible rfl)
    rotate_left
    (try simp only [Act.put, List.setIfInBounds_toArray, List.set_cons_zero, List.set_cons_succ])
    refine wpKeep_ready (rs := [17]) (by kernel_rfl) (by simp) ?_
    refine AllKeep.cons (o := ⟨some 50, _, _, _, _, _⟩) rfl (fun K hK => ?_) AllKeep.nil
    go_simp
    refine hK.out _ _ ((Keeps.refl _ w4).alloc _).drew (fun _ => ⟨((((Keeps.refl (fun _ => False) w4).alloc _).drew).cell (p := ⟨g, J, none⟩) n3 (fun h => h)).trans r0, ((((Keeps.refl (fun _ => False) w4).alloc _).drew).frozen (p := ⟨g, J, none⟩) n3 (fun h => h)).trans r1⟩) ?_
    clear hK K
    (try simp only [Act.put, List.setIfInBounds_toArray, List.set_cons_zero, List.set_cons_succ])
    refine wpKeep_ready (rs := [18]) (by kernel_rfl) (by simp) ?_
    refine AllKeep.cons (o := ⟨some 51, _, _, _, _, _⟩) rfl (fun K hK => ?_) AllKeep.nil
    obtain ⟨aor, cpr, erv⟩ := ownsRow_slice hrow
    refine step_push rfl (.tmp 48) (.tmp 50) 26 rfl 9 i0 (.string ⟨#[]⟩) 16 Tryd.underlying26 hi hz0 hz1 hz2 rfl w4.drew (show World.ownsRow w4.drew 0 9 1 rv _ _ from hrow) (.string (str HL)) (by rfl) (by rfl) rfl (by omega) (by unfold maxLen; omega) ?_
    intro rv2 w6 ha
    have kA : Keeps (fun k => rv.ownBlock = some k) w4 w6 := ⟨ha.keeps.os, ha.keeps.tape, ha.keeps.output, ha.keeps.size, ha.keeps.block⟩
    have r60 := (kA.cell (p := ⟨g, J, none⟩) n3 hkg).trans r0
    have r61 := (kA.frozen (p := ⟨g, J, none⟩) n3 hkg).trans r1
    have kA2 : Keeps (fun k => k = g ∨ rv.ownBlock = some k) w4 w6 := kA.mono (fun _ _ h => .inr h)
    refine hK.out _ _ kA2 (fun _ => ⟨r60, r61⟩) ?_
    clear hK K
    (try simp only [Act.put, List.setIfInBounds_toArray, List.set_cons_zero, List.set_cons_succ])
    refine wpKeep_takeT (i := 19) (oi := ⟨some 52, _, _, _, _, _⟩) (v := ?_) rfl (by kernel_rfl) (by kernel_rfl) (by kernel_rfl) (by kernel_rfl) (fun _ _ _ h => h) (Or.inl ⟨by rfl, ?_⟩) kA2 (fun _ => ⟨r60, r61⟩) ?_
    rotate_left
    · intro w hT
      have l0 := hlkA _ w hT hgmb
      have b0 := (hT.cell (p := ⟨tb, 2, none⟩) n0 htbk).trans b0
      have q0 := (hT.cell (p := ⟨pb, 0, none⟩) n2 hpbk).trans q0
      have q1 := (hT.cell (p := ⟨pb, 1, none⟩) n2 hpbk).trans q1
      go_simp
      (try with_reducible rfl)
    rotate_left
    (try simp only [Act.put, List.setIfInBounds_toArray, List.set_cons_zero, List.set_cons_succ])
    refine wpKeep_ready (rs := [20]) (by kernel_rfl) (by simp) ?_
    refine AllKeep.cons (o := ⟨none, _, _, _, _, _⟩) rfl (fun K hK => ?_) AllKeep.nil
    obtain ⟨ao6, cp6, e6⟩ := ownsRow_slice ha.row
    subst e6
    go_simp
    refine hK.out _ _ (kA2.setCell (p := ⟨g, J, none⟩) (fun _ => .inl rfl) _) (not_early (by kernel_rfl)) ?_
    clear hK K
    (try simp only [Act.put, List.setIfInBounds_toArray, List.set_cons_zero, List.set_cons_succ])
    refine wpKeep_done (by kernel_rfl) ?_ _
    have hA2 : Appended 9 1 w4 w6 rv (.slice ao6 ((rowOf c H h A B J).length + 1) cp6) ((rowOf c H h A B J).length + 1) (texts (rowOf c H h A B J) ++ [.string (str HL)]) := ⟨ha.row, kA, ha.own⟩
    obtain ⟨T2, K2⟩ := HPU.out w4 w6 own1 F1 mb (N + 1) T1 g cur1 rv _ Fg hg1 hrv hA2
    have hvo := hA2.own
    generalize Value.slice ao6 ((rowOf c H h A B J).length + 1) cp6 = rv2 at T2 K2 hvo ⊢
    have h46 := kA.size
    generalize w6.setCell ⟨g, J, none⟩ rv2 = wF at T2 K2 ⊢
    have hin : ∀ q, (q = g ∨ rv.ownBlock = some q) → ∃ x, own1 q = some x := fun q e => e.elim (fun e => ⟨(A, B, none), by rw [e]; exact ho1⟩) (fun e => ⟨_, hown q e⟩)
    have hFS := K2.size
    have hKF : Keeps S w wF := Kx.trans' K2 (fun q hq e => by
      obtain ⟨x, hx⟩ := hin q e
      rcases O1 q x hx with z | z
      · exact z
      · omega)
    have hend : Acts S w wF fun S' => TreeAt S' wF tb h sz (N + 1) (oneMore c l) H := by
      refine ⟨fun k => S k ∨ ∃ x, (if rv2.ownBlock = some k then some (A, B, some J) else own1 k) = some x, ?_, hKF, ⟨_, F1, mb, T2, K2.at_ B1 htbk, .inl hSm, hmt, ?_, fun q x hq => .inr ⟨x, hq⟩⟩, .inl HT.out.tb_, hlo, hhi⟩
      · intro k hk
        rcases hk with hk | ⟨x, hk⟩
        · exact .inl hk
        · split at hk
          · rename_i e
            rcases hvo k e with z | z
            · rcases O1 k _ (hown k z) with y | y
              · exact .inl y
              · exact .inr ⟨y.1, by omega⟩
            · have := Kx.size
              have := T2.lt k (A, B, some J) (by show (if rv2.ownBlock = some k then _ else _) = _; rw [if_pos e])
              exact .inr ⟨by omega, this⟩
          · rcases O1 k x hk with y | y
            · exact .inl y
            · exact .inr ⟨y.1, by omega⟩
      · show (if rv2.ownBlock = some tb then _ else _) = _
        rw [if_neg]
        · exact ow1
        · intro e
          rcases hvo tb e with z | z
          · exact hkb tb ow1 z
          · omega
    go_wp2
    first | go_end0 | refine bodyPost_ret (results_none rfl _ _ _) rfl ?_
    exact ⟨rfl, hend⟩
end Go.Proofs.YtgikabafaocemaaDoor
