/-
  The law's Book: still.
-/
import Derived.Test.YtgikabafaocemaaDoorSpBookA
namespace Go.Proofs.YtgikabafaocemaaDoor
open Go.RowKit

theorem choose_list {F : List Value} {P : Nat → Value → Value → Prop} (h : ∀ (j : Nat) (v : Value), F[j]? = some v → ∃ y, P j v y) : ∃ Y : List Value, Y.length = F.length ∧ ∀ (j : Nat) (v y : Value), F[j]? = some v → Y[j]? = some y → P j v y := by
  induction F generalizing P with
  | nil => exact ⟨[], rfl, fun j v y hv => by simp at hv⟩
  | cons a F ih =>
    obtain ⟨y0, h0⟩ := h 0 a rfl
    obtain ⟨Y, hl, hY⟩ := ih (P := fun j => P (j + 1)) (fun j v hv => h (j + 1) v hv)
    refine ⟨y0 :: Y, by simp [hl], fun j v y hv hy => ?_⟩
    cases j with
    | zero => simp at hv hy; subst hv; subst hy; exact h0
    | succ j => exact hY j v y hv hy
theorem Src.ofRow {P : Program} {w : World} {tx e : TypeId} {v : Value} {n : Nat} {xs : List Value} (hk : P.underlying tx = some (.slice e)) (h : w.ownsRow 0 e 1 v n xs) (h1 : ∀ u ∈ xs, u.oneCell' = true) : Src P 1 tx v n xs w := by
  obtain ⟨ao, cap, rfl⟩ := ownsRow_slice h
  have hl := h.1
  by_cases h0 : 0 < n
  · obtain ⟨g, rfl, hc⟩ := rowCellsB h h0
    exact Src.ofSlice _ hk _ n cap xs (by omega) (fun j y hj => by rw [addr_add0]; exact (hc j y hj).2) h1
  · obtain rfl : xs = [] := List.eq_nil_of_length_eq_zero (by omega)
    obtain rfl : n = 0 := by omega
    cases ao with
    | none => exact Src.ofNil _ hk cap
    | some a => exact Src.ofSlice _ hk a 0 cap [] (by simp) (fun j y hj => by simp at hj) h1
def U14 (j : Nat) : List Value := [.string (str (markL j))]
theorem Tryd.infoIntB : (Tryd.prog.info? 3).map (fun i => (i.zero, i.size, i.bytes)) = some (some (.int .i64 0), 1, 8) := by kernel_rfl

set_option maxRecDepth 100000 in
set_option maxHeartbeats 16000000 in
theorem still_any (B : Nat) (c : Nat → Nat) (ob : Nat) (F : List Value) (C : List (List (List UInt8))) (fv wv : Value) (Wv : List Value) (w : World) (h : Noted B c w ob F C fv wv Wv) (hB : B ≤ w.heap.size) (hF : F.length ≤ 1000) (hC : ∀ l ∈ C, l.length ≤ 1000) :
    Calls Tryd.prog 18 #[.pointer (some ⟨ob, 0, none⟩)] w fun x w' => x = .returned (.bool true) ∧ Keeps (fun q => B ≤ q) w w' := by
  obtain ⟨i0, hi, hz0, hz1, hz2⟩ := info_parts Tryd.infoText
  obtain ⟨i1, hi', hz0', hz1', hz2'⟩ := info_parts Tryd.infoListT
  obtain ⟨i9, hi9, hy0, hy1, hy2⟩ := info_parts Tryd.infoIntB
  have h1000 : ∀ (j : Nat) (l : List (List UInt8)), C[j]? = some l → l.length ≤ 1000 := fun j l hl => hC l (List.mem_of_getElem? hl)
  obtain ⟨aof, cpf, rfl⟩ := ownsRow_slice h.frow
  obtain ⟨aow, cpw, rfl⟩ := ownsRow_slice h.wrow
  have H := hid h
  have HB := hid hB
  have HF := hid hF
  have HC := hid h1000
  have bl := lt_of_block h.box
  have c0 := (cell_at h.box 0).trans (show _ = some (Value.slice aof F.length cpf) from rfl)
  obtain ⟨NF, hNF⟩ : ∃ NF, F.length = NF := ⟨_, rfl⟩
  have hNW : Wv.length = NF := by rw [h.lenW]; exact hNF
  have HNF := hid hNF
  have HNW := hid hNW
  rw [hNF] at c0
  have hNb : (NF : Int) ≤ 1000 := by omega
  clear h hF hC h1000 hB hNF hNW
  go_enter Tryd.func18, Tryd.ntmps18
  go_wp2_with fail
  clear c0
  go_loopw [3] (fun i wr => ∃ n : Nat, i = .int .i64 (n : Int) ∧ n ≤ NF ∧ Fresh w wr) (fun i _ => NF - (intOf i).toNat)
  case atStart => exact ⟨0, rfl, Nat.zero_le _, Keeps.refl _ _⟩
  case round =>
    obtain ⟨n, rfl, hn, f⟩ := hrel
    have hbx := f.at_ H.out.box (fun h => h)
    have c0 := (cell_at hbx 0).trans (show _ = some (Value.slice aof F.length cpf) from rfl)
    have c1 := (cell_at hbx 1).trans (show _ = some (Value.slice aow Wv.length cpw) from rfl)
    rw [HNF.out] at c0
    rw [HNW.out] at c1
    have blr := lt_of_block hbx
    by_cases hlt : n < NF
    · obtain ⟨v, hv⟩ : ∃ v, F[n]? = some v := ⟨F[n]'(by rw [HNF.out]; exact hlt), by simp⟩
      obtain ⟨u, hu⟩ : ∃ u, Wv[n]? = some u := ⟨Wv[n]'(by rw [HNW.out]; exact hlt), by simp⟩
      obtain ⟨l, hl⟩ : ∃ l, C[n]? = some l := ⟨C[n]'(by rw [H.out.lenC, HNF.out]; exact hlt), by simp⟩
      obtain ⟨gf, rfl, hcf⟩ := rowCellsB H.out.frow (by rw [HNF.out]; omega)
      obtain ⟨gw, rfl, hcw⟩ := rowCellsB H.out.wrow (by rw [HNW.out]; omega)
      obtain ⟨bf, cf⟩ := hcf n v hv
      obtain ⟨bw, cw⟩ := hcw n u hu
      have bf2 : gf < wr.heap.size := Nat.lt_of_lt_of_le bf f.size
      have bw2 : gw < wr.heap.size := Nat.lt_of_lt_of_le bw f.size
      have cf2 := (f.cell (p := ⟨gf, n, none⟩) bf (fun h => h)).trans cf
      have cw2 := (f.cell (p := ⟨gw, n, none⟩) bw (fun h => h)).trans cw
      obtain ⟨y, hcl, hy, -⟩ := H.out.lists n v l hv hl
      obtain ⟨hu2, -⟩ := H.out.was n u l hu hl
      have a1 : TextsAt w v l := by
        obtain ⟨ao, n', cap, cap', rfl, rfl, -⟩ := hcl
        obtain ⟨ao4, cap4, e4, hk4⟩ := OwnTexts_at hy
        simp only [Value.slice.injEq] at e4
        obtain ⟨rfl, rfl, rfl⟩ := e4
        exact ⟨_, cap, rfl, hk4⟩
      have a2 : TextsAt w u l := OwnTexts_at hu2
      have hsm := fun W (f : Fresh w W) => same_any v u l l W (a1.fresh f) (a2.fresh f) (by have := HC.out n l hl; omega) (by have := HC.out n l hl; omega)
      rw [decide_eq_true rfl] at hsm
      obtain ⟨x1, x2, x3, x4⟩ : ∃ ao n cap, v = .slice ao n cap := by
        obtain ⟨ao, n', cap, cap', -, e, -⟩ := hcl
        exact ⟨ao, n', cap, e⟩
      obtain ⟨z1, z2, z3⟩ := ownsRow_slice hu2
      subst x4
      subst z3
      have HSM := hid hsm
      have hni : (n : Int) < (NF : Int) := by omega
      have hn0 : (0 : Int) ≤ (n : Int) := by omega
      clear hcf hcw bf bw cf cw hv hu hl hcl hy hu2 a1 a2 hsm hbx
      go_wp2_with fail
      refine wp_region_keep 16 (fun w' => Fresh wr w') (fun _ => True) (fun _ => true) (by kernel_rfl) (by kernel_rfl) ?_
      (try (change wpKeep _ _ _ _ _ _ _ _ _ _ (World.drew _)))
      refine wpKeep_takeT (i := 0) (oi := ⟨some 24, _, _, _, _, _⟩) (v := ?_) rfl (by kernel_rfl) (by kernel_rfl) (by kernel_rfl) (by kernel_rfl) (fun _ _ _ h => h) (Or.inl ⟨by rfl, ?_⟩) (Keeps.refl _ _).drew (fun _ => trivial) ?_
      rotate_left
      · intro w' hT
        have yb0 := (hT.cell (p := ⟨ob, 0, none⟩) blr (fun h => h)).trans c0
        have yb1 := (hT.cell (p := ⟨ob, 1, none⟩) blr (fun h => h)).trans c1
        have yf := (hT.cell (p := ⟨gf, n, none⟩) bf2 (fun h => h)).trans cf2
        have yw := (hT.cell (p := ⟨gw, n, none⟩) bw2 (fun h => h)).trans cw2
        go_simp
        (try rw [if_pos (by omega)])
        (try with_reducible rfl)
      rotate_left
      (try simp only [Act.put, List.setIfInBounds_toArray, List.set_cons_zero, List.set_cons_succ])
      refine wpKeep_takeT (i := 1) (oi := ⟨some 25, _, _, _, _, _⟩) (v := ?_) rfl (by kernel_rfl) (by kernel_rfl) (by kernel_rfl) (by kernel_rfl) (fun _ _ _ h => h) (Or.inl ⟨by rfl, ?_⟩) (Keeps.refl _ _).drew (fun _ => trivial) ?_
      rotate_left
      · intro w' hT
        have yb0 := (hT.cell (p := ⟨ob, 0, none⟩) blr (fun h => h)).trans c0
        have yb1 := (hT.cell (p := ⟨ob, 1, none⟩) blr (fun h => h)).trans c1
        have yf := (hT.cell (p := ⟨gf, n, none⟩) bf2 (fun h => h)).trans cf2
        have yw := (hT.cell (p := ⟨gw, n, none⟩) bw2 (fun h => h)).trans cw2
        go_simp
        (try rw [if_pos (by omega)])
        (try with_reducible rfl)
      rotate_left
      (try simp only [Act.put, List.setIfInBounds_toArray, List.set_cons_zero, List.set_cons_succ])
      refine wpKeep_takeT (i := 2) (oi := ⟨some 26, _, _, _, _, _⟩) (v := ?_) rfl (by kernel_rfl) (by kernel_rfl) (by kernel_rfl) (by kernel_rfl) (fun _ _ _ h => h) (Or.inl ⟨by rfl, ?_⟩) (Keeps.refl _ _).drew (fun _ => trivial) ?_
      rotate_left
      · intro w' hT
        have yb0 := (hT.cell (p := ⟨ob, 0, none⟩) blr (fun h => h)).trans c0
        have yb1 := (hT.cell (p := ⟨ob, 1, none⟩) blr (fun h => h)).trans c1
        have yf := (hT.cell (p := ⟨gf, n, none⟩) bf2 (fun h => h)).trans cf2
        have yw := (hT.cell (p := ⟨gw, n, none⟩) bw2 (fun h => h)).trans cw2
        go_simp
        (try rw [if_pos (by omega)])
        (try with_reducible rfl)
      rotate_left
      (try simp only [Act.put, List.setIfInBounds_toArray, List.set_cons_zero, List.set_cons_succ])
      refine wpKeep_takeT (i := 3) (oi := ⟨some 27, _, _, _, _, _⟩) (v := ?_) rfl (by kernel_rfl) (by kernel_rfl) (by kernel_rfl) (by kernel_rfl) (fun _ _ _ h => h) (Or.inl ⟨by rfl, ?_⟩) (Keeps.refl _ _).drew (fun _ => trivial) ?_
      rotate_left
      · intro w' hT
        have yb0 := (hT.cell (p := ⟨ob, 0, none⟩) blr (fun h => h)).trans c0
        have yb1 := (hT.cell (p := ⟨ob, 1, none⟩) blr (fun h => h)).trans c1
        have yf := (hT.cell (p := ⟨gf, n, none⟩) bf2 (fun h => h)).trans cf2
        have yw := (hT.cell (p := ⟨gw, n, none⟩) bw2 (fun h => h)).trans cw2
        go_simp
        (try rw [if_pos (by omega)])
        (try with_reducible rfl)
      rotate_left
      (try simp only [Act.put, List.setIfInBounds_toArray, List.set_cons_zero, List.set_cons_succ])
      refine wpKeep_takeT (i := 4) (oi := ⟨some 28, _, _, _, _, _⟩) (v := ?_) rfl (by kernel_rfl) (by kernel_rfl) (by kernel_rfl) (by kernel_rfl) (fun _ _ _ h => h) (Or.inl ⟨by rfl, ?_⟩) (Keeps.refl _ _).drew (fun _ => trivial) ?_
      rotate_left
      · intro w' hT
        have yb0 := (hT.cell (p := ⟨ob, 0, none⟩) blr (fun h => h)).trans c0
        have yb1 := (hT.cell (p := ⟨ob, 1, none⟩) blr (fun h => h)).trans c1
        have yf := (hT.cell (p := ⟨gf, n, none⟩) bf2 (fun h => h)).trans cf2
        have yw := (hT.cell (p := ⟨gw, n, none⟩) bw2 (fun h => h)).trans cw2
        go_simp
        (try rw [if_pos (by omega)])
        (try with_reducible rfl)
      rotate_left
      (try simp only [Act.put, List.setIfInBounds_toArray, List.set_cons_zero, List.set_cons_succ])
      refine wpKeep_takeT (i := 5) (oi := ⟨some 29, _, _, _, _, _⟩) (v := ?_) rfl (by kernel_rfl) (by kernel_rfl) (by kernel_rfl) (by kernel_rfl) (fun _ _ _ h => h) (Or.inl ⟨by rfl, ?_⟩) (Keeps.refl _ _).drew (fun _ => trivial) ?_
      rotate_left
      · intro w' hT
        have yb0 := (hT.cell (p := ⟨ob, 0, none⟩) blr (fun h => h)).trans c0
        have yb1 := (hT.cell (p := ⟨ob, 1, none⟩) blr (fun h => h)).trans c1
        have yf := (hT.cell (p := ⟨gf, n, none⟩) bf2 (fun h => h)).trans cf2
        have yw := (hT.cell (p := ⟨gw, n, none⟩) bw2 (fun h => h)).trans cw2
        go_simp
        (try rw [if_pos (by omega)])
        (try with_reducible rfl)
      rotate_left
      (try simp only [Act.put, List.setIfInBounds_toArray, List.set_cons_zero, List.set_cons_succ])
      refine wpKeep_takeT (i := 6) (oi := ⟨some 30, _, _, _, _, _⟩) (v := ?_) rfl (by kernel_rfl) (by kernel_rfl) (by kernel_rfl) (by kernel_rfl) (fun _ _ _ h => h) (Or.inl ⟨by rfl, ?_⟩) (Keeps.refl _ _).drew (fun _ => trivial) ?_
      rotate_left
      · intro w' hT
        have yb0 := (hT.cell (p := ⟨ob, 0, none⟩) blr (fun h => h)).trans c0
        have yb1 := (hT.cell (p := ⟨ob, 1, none⟩) blr (fun h => h)).trans c1
        have yf := (hT.cell (p := ⟨gf, n, none⟩) bf2 (fun h => h)).trans cf2
        have yw := (hT.cell (p := ⟨gw, n, none⟩) bw2 (fun h => h)).trans cw2
        go_simp
        (try rw [if_pos (by omega)])
        (try with_reducible rfl)
      rotate_left
      (try simp only [Act.put, List.setIfInBounds_toArray, List.set_cons_zero, List.set_cons_succ])
      refine wpKeep_takeT (i := 7) (oi := ⟨some 31, _, _, _, _, _⟩) (v := ?_) rfl (by kernel_rfl) (by kernel_rfl) (by kernel_rfl) (by kernel_rfl) (fun _ _ _ h => h) (Or.inl ⟨by rfl, ?_⟩) (Keeps.refl _ _).drew (fun _ => trivial) ?_
      rotate_left
      · intro w' hT
        have yb0 := (hT.cell (p := ⟨ob, 0, none⟩) blr (fun h => h)).trans c0
        have yb1 := (hT.cell (p := ⟨ob, 1, none⟩) blr (fun h => h)).trans c1
        have yf := (hT.cell (p := ⟨gf, n, none⟩) bf2 (fun h => h)).trans cf2
        have yw := (hT.cell (p := ⟨gw, n, none⟩) bw2 (fun h => h)).trans cw2
        go_simp
        (try rw [if_pos (by omega)])
        (try with_reducible rfl)
      rotate_left
      (try simp only [Act.put, List.setIfInBounds_toArray, List.set_cons_zero, List.set_cons_succ])
      refine wpKeep_takeT (i := 8) (oi := ⟨some 32, _, _, _, _, _⟩) (v := ?_) rfl (by kernel_rfl) (by kernel_rfl) (by kernel_rfl) (by kernel_rfl) (fun _ _ _ h => h) (Or.inl ⟨by rfl, ?_⟩) (Keeps.refl _ _).drew (fun _ => trivial) ?_
      rotate_left
      · intro w' hT
        have yb0 := (hT.cell (p := ⟨ob, 0, none⟩) blr (fun h => h)).trans c0
        have yb1 := (hT.cell (p := ⟨ob, 1, none⟩) blr (fun h => h)).trans c1
        have yf := (hT.cell (p := ⟨gf, n, none⟩) bf2 (fun h => h)).trans cf2
        have yw := (hT.cell (p := ⟨gw, n, none⟩) bw2 (fun h => h)).trans cw2
        go_simp
        (try rw [if_pos (by omega)])
        (try with_reducible rfl)
      rotate_left
      (try simp only [Act.put, List.setIfInBounds_toArray, List.set_cons_zero, List.set_cons_succ])
      refine wpKeep_takeT (i := 9) (oi := ⟨some 33, _, _, _, _, _⟩) (v := ?_) rfl (by kernel_rfl) (by kernel_rfl) (by kernel_rfl) (by kernel_rfl) (fun _ _ _ h => h) (Or.inl ⟨by rfl, ?_⟩) (Keeps.refl _ _).drew (fun _ => trivial) ?_
      rotate_left
      · intro w' hT
        have yb0 := (hT.cell (p := ⟨ob, 0, none⟩) blr (fun h => h)).trans c0
        have yb1 := (hT.cell (p := ⟨ob, 1, none⟩) blr (fun h => h)).trans c1
        have yf := (hT.cell (p := ⟨gf, n, none⟩) bf2 (fun h => h)).trans cf2
        have yw := (hT.cell (p := ⟨gw, n, none⟩) bw2 (fun h => h)).trans cw2
        go_simp
        (try rw [if_pos (by omega)])
        (try with_reducible rfl)
      rotate_left
      (try simp only [Act.put, List.setIfInBounds_toArray, List.set_cons_zero, List.set_cons_succ])
      refine wpKeep_takeT (i := 10) (oi := ⟨some 34, _, _, _, _, _⟩) (v := ?_) rfl (by kernel_rfl) (by kernel_rfl) (by kernel_rfl) (by kernel_rfl) (fun _ _ _ h => h) (Or.inl ⟨by rfl, ?_⟩) (Keeps.refl _ _).drew (fun _ => trivial) ?_
      rotate_left
      · intro w' hT
        have yb0 := (hT.cell (p := ⟨ob, 0, none⟩) blr (fun h => h)).trans c0
        have yb1 := (hT.cell (p := ⟨ob, 1, none⟩) blr (fun h => h)).trans c1
        have yf := (hT.cell (p := ⟨gf, n, none⟩) bf2 (fun h => h)).trans cf2
        have yw := (hT.cell (p := ⟨gw, n, none⟩) bw2 (fun h => h)).trans cw2
        go_simp
        (try rw [if_pos (by omega)])
        (try with_reducible rfl)
      rotate_left
      (try simp only [Act.put, List.setIfInBounds_toArray, List.set_cons_zero, List.set_cons_succ])
      refine wpKeep_takeT (i := 11) (oi := ⟨some 35, _, _, _, _, _⟩) (v := ?_) rfl (by kernel_rfl) (by kernel_rfl) (by kernel_rfl) (by kernel_rfl) (fun _ _ _ h => h) (Or.inl ⟨by rfl, ?_⟩) (Keeps.refl _ _).drew (fun _ => trivial) ?_
      rotate_left
      · intro w' hT
        have yb0 := (hT.cell (p := ⟨ob, 0, none⟩) blr (fun h => h)).trans c0
        have yb1 := (hT.cell (p := ⟨ob, 1, none⟩) blr (fun h => h)).trans c1
        have yf := (hT.cell (p := ⟨gf, n, none⟩) bf2 (fun h => h)).trans cf2
        have yw := (hT.cell (p := ⟨gw, n, none⟩) bw2 (fun h => h)).trans cw2
        go_simp
        (try rw [if_pos (by omega)])
        (try with_reducible rfl)
      rotate_left
      (try simp only [Act.put, List.setIfInBounds_toArray, List.set_cons_zero, List.set_cons_succ])
      refine wpKeep_takeT (i := 12) (oi := ⟨some 36, _, _, _, _, _⟩) (v := ?_) rfl (by kernel_rfl) (by kernel_rfl) (by kernel_rfl) (by kernel_rfl) (fun _ _ _ h => h) (Or.inl ⟨by rfl, ?_⟩) (Keeps.refl _ _).drew (fun _ => trivial) ?_
      rotate_left
      · intro w' hT
        have yb0 := (hT.cell (p := ⟨ob, 0, none⟩) blr (fun h => h)).trans c0
        have yb1 := (hT.cell (p := ⟨ob, 1, none⟩) blr (fun h => h)).trans c1
        have yf := (hT.cell (p := ⟨gf, n, none⟩) bf2 (fun h => h)).trans cf2
        have yw := (hT.cell (p := ⟨gw, n, none⟩) bw2 (fun h => h)).trans cw2
        go_simp
        (try rw [if_pos (by omega)])
        (try with_reducible rfl)
      rotate_left
      (try simp only [Act.put, List.setIfInBounds_toArray, List.set_cons_zero, List.set_cons_succ])
      refine wpKeep_takeT (i := 13) (oi := ⟨some 37, _, _, _, _, _⟩) (v := ?_) rfl (by kernel_rfl) (by kernel_rfl) (by kernel_rfl) (by kernel_rfl) (fun _ _ _ h => h) (Or.inl ⟨by rfl, ?_⟩) (Keeps.refl _ _).drew (fun _ => trivial) ?_
      rotate_left
      · intro w' hT
        have yb0 := (hT.cell (p := ⟨ob, 0, none⟩) blr (fun h => h)).trans c0
        have yb1 := (hT.cell (p := ⟨ob, 1, none⟩) blr (fun h => h)).trans c1
        have yf := (hT.cell (p := ⟨gf, n, none⟩) bf2 (fun h => h)).trans cf2
        have yw := (hT.cell (p := ⟨gw, n, none⟩) bw2 (fun h => h)).trans cw2
        go_simp
        (try rw [if_pos (by omega)])
        (try with_reducible rfl)
      rotate_left
      (try simp only [Act.put, List.setIfInBounds_toArray, List.set_cons_zero, List.set_cons_succ])
      refine wpKeep_ready (rs := [14]) (by kernel_rfl) (by simp) ?_
      refine AllKeep.cons (o := ⟨some 38, _, _, _, _, _⟩) rfl (fun K hK => ?_) AllKeep.nil
      go_simp
      go_at_call 16
      with_reducible refine (HSM.out _ (f.trans (Keeps.refl (fun _ => False) wr).drew)).mono ?_
      rintro x w2 ⟨rfl, f2⟩
      have f2 : Fresh wr w2 := (Keeps.refl (fun _ => False) wr).drew.trans f2
      dsimp only
      refine hK.out _ _ f2 (fun _ => trivial) ?_
      clear hK K
      (try simp only [Act.put, List.setIfInBounds_toArray, List.set_cons_zero, List.set_cons_succ])
      refine wpKeep_takeT (i := 15) (oi := ⟨some 4, _, _, _, _, _⟩) (v := ?_) rfl (by kernel_rfl) (by kernel_rfl) (by kernel_rfl) (by kernel_rfl) (fun _ _ _ h => h) (Or.inl ⟨by rfl, ?_⟩) f2 (fun _ => trivial) ?_
      rotate_left
      · intro w' hT
        go_simp
        (try rw [if_pos (by omega)])
        (try with_reducible rfl)
      rotate_left
      (try simp only [Act.put, List.setIfInBounds_toArray, List.set_cons_zero, List.set_cons_succ])
      refine wpKeep_done (by kernel_rfl) ?_ _
      go_wp2_with fail
      go_roundw
      case rel => exact ⟨n + 1, by go_num, by omega, f.trans f2⟩
      case measure => simp [intOf]; omega
    · obtain rfl : n = NF := by omega
      have c2 := (cell_at hbx 2).trans (show _ = some (Value.slice none 0 0) from rfl)
      have d2 := free_at hbx 2
      have HBX := hid hbx
      have hfr := ownsRow_keeps H.out.frow f (fun _ _ h => h)
      rw [HNF.out] at hfr
      have hone : ∀ u ∈ F, u.oneCell' = true := fun u hu => by
        obtain ⟨j, hj⟩ := List.getElem?_of_mem hu
        have hjl := (List.getElem?_eq_some_iff.1 hj).1
        obtain ⟨y, ⟨ao, n', cap, cap', -, e, -⟩, -⟩ := H.out.lists j u _ hj (List.getElem?_eq_getElem (by rw [H.out.lenC]; exact hjl))
        rw [e]
        rfl
      have hsrc : ∀ W, Fresh wr W → Src Tryd.prog 1 37 (.slice aof n cpf) n F W := fun W g => Src.ofRow Tryd.underlying37 (ownsRow_keeps hfr g (fun _ _ h => h)) hone
      have HS := hid hsrc
      clear hbx hfr hone hsrc hlt c1
      go_wp2_with fail
      refine wp_region_keep 13 (fun w' => Keeps (fun q => q = ob) wr w') (fun w' => w'.cell? ⟨ob, 2, none⟩ = some (.slice none 0 0) ∧ w'.frozen? ⟨ob, 2, none⟩ = false ∧ w'.cell? ⟨ob, 0, none⟩ = some (.slice aof n cpf)) (fun j => !(j == 12)) (by kernel_rfl) (by kernel_rfl) ?_
      (try (change wpKeep _ _ _ _ _ _ _ _ _ _ (World.drew _)))
      refine wpKeep_takeT (i := 0) (oi := ⟨some 46, _, _, _, _, _⟩) (v := ?_) rfl (by kernel_rfl) (by kernel_rfl) (by kernel_rfl) (by kernel_rfl) (fun _ _ _ h => h) (Or.inl ⟨by rfl, ?_⟩) (Keeps.refl _ _).drew (fun _ => ⟨c2, d2, c0⟩) ?_
      rotate_left
      · intro w' hT
        go_simp
        (try rw [if_pos (by omega)])
        (try with_reducible rfl)
      rotate_left
      (try simp only [Act.put, List.setIfInBounds_toArray, List.set_cons_zero, List.set_cons_succ])
      refine wpKeep_takeT (i := 1) (oi := ⟨some 47, _, _, _, _, _⟩) (v := ?_) rfl (by kernel_rfl) (by kernel_rfl) (by kernel_rfl) (by kernel_rfl) (fun _ _ _ h => h) (Or.inl ⟨by rfl, ?_⟩) (Keeps.refl _ _).drew (fun _ => ⟨c2, d2, c0⟩) ?_
      rotate_left
      · intro w' hT
        go_simp
        (try rw [if_pos (by omega)])
        (try with_reducible rfl)
      rotate_left
      (try simp only [Act.put, List.setIfInBounds_toArray, List.set_cons_zero, List.set_cons_succ])
      refine wpKeep_takeT (i := 2) (oi := ⟨some 48, _, _, _, _, _⟩) (v := ?_) rfl (by kernel_rfl) (by kernel_rfl) (by kernel_rfl) (by kernel_rfl) (fun _ _ _ h => h) (Or.inl ⟨by rfl, ?_⟩) (Keeps.refl _ _).drew (fun _ => ⟨c2, d2, c0⟩) ?_
      rotate_left
      · intro w' hT
        go_simp
        (try rw [if_pos (by omega)])
        (try with_reducible rfl)
      rotate_left
      (try simp only [Act.put, List.setIfInBounds_toArray, List.set_cons_zero, List.set_cons_succ])
      refine wpKeep_takeT (i := 3) (oi := ⟨some 49, _, _, _, _, _⟩) (v := ?_) rfl (by kernel_rfl) (by kernel_rfl) (by kernel_rfl) (by kernel_rfl) (fun _ _ _ h => h) (Or.inl ⟨by rfl, ?_⟩) (Keeps.refl _ _).drew (fun _ => ⟨c2, d2, c0⟩) ?_
      rotate_left
      · intro w' hT
        go_simp
        (try rw [if_pos (by omega)])
        (try with_reducible rfl)
      rotate_left
      (try simp only [Act.put, List.setIfInBounds_toArray, List.set_cons_zero, List.set_cons_succ])
      refine wpKeep_take (i := 4) (oi := ⟨some 50, _, _, _, _, _⟩) (v := ?_) rfl (by kernel_rfl) (by kernel_rfl) (by kernel_rfl) (by kernel_rfl) (fun _ _ _ h => h) (Or.inl ⟨by rfl, ?_⟩) ⟨(Keeps.refl _ _).drew, ⟨c2, d2, c0⟩⟩ ?_
      rotate_left
      · intro w' hT
        have hS0 := hT.2
        replace hT := hT.1
        go_simp
        (try rw [if_pos (by omega)])
        (try with_reducible rfl)
      rotate_left
      (try simp only [Act.put, List.setIfInBounds_toArray, List.set_cons_zero, List.set_cons_succ])
      refine wpKeep_takeT (i := 5) (oi := ⟨some 51, _, _, _, _, _⟩) (v := ?_) rfl (by kernel_rfl) (by kernel_rfl) (by kernel_rfl) (by kernel_rfl) (fun _ _ _ h => h) (Or.inl ⟨by rfl, ?_⟩) (Keeps.refl _ _).drew (fun _ => ⟨c2, d2, c0⟩) ?_
      rotate_left
      · intro w' hT
        go_simp
        (try rw [if_pos (by omega)])
        (try with_reducible rfl)
      rotate_left
      (try simp only [Act.put, List.setIfInBounds_toArray, List.set_cons_zero, List.set_cons_succ])
      refine wpKeep_takeT (i := 6) (oi := ⟨some 52, _, _, _, _, _⟩) (v := ?_) rfl (by kernel_rfl) (by kernel_rfl) (by kernel_rfl) (by kernel_rfl) (fun _ _ _ h => h) (Or.inl ⟨by rfl, ?_⟩) (Keeps.refl _ _).drew (fun _ => ⟨c2, d2, c0⟩) ?_
      rotate_left
      · intro w' hT
        go_simp
        (try rw [if_pos (by omega)])
        (try with_reducible rfl)
      rotate_left
      (try simp only [Act.put, List.setIfInBounds_toArray, List.set_cons_zero, List.set_cons_succ])
      refine wpKeep_takeT (i := 7) (oi := ⟨some 53, _, _, _, _, _⟩) (v := ?_) rfl (by kernel_rfl) (by kernel_rfl) (by kernel_rfl) (by kernel_rfl) (fun _ _ _ h => h) (Or.inl ⟨by rfl, ?_⟩) (Keeps.refl _ _).drew (fun _ => ⟨c2, d2, c0⟩) ?_
      rotate_left
      · intro w' hT
        go_simp
        (try rw [if_pos (by omega)])
        (try with_reducible rfl)
      rotate_left
      (try simp only [Act.put, List.setIfInBounds_toArray, List.set_cons_zero, List.set_cons_succ])
      refine wpKeep_take (i := 8) (oi := ⟨some 54, _, _, _, _, _⟩) (v := ?_) rfl (by kernel_rfl) (by kernel_rfl) (by kernel_rfl) (by kernel_rfl) (fun _ _ _ h => h) (Or.inl ⟨by rfl, ?_⟩) ⟨(Keeps.refl _ _).drew, ⟨c2, d2, c0⟩⟩ ?_
      rotate_left
      · intro w' hT
        have hS0 := hT.2
        replace hT := hT.1
        go_simp
        (try rw [if_pos (by omega)])
        (try with_reducible rfl)
      rotate_left
      (try simp only [Act.put, List.setIfInBounds_toArray, List.set_cons_zero, List.set_cons_succ])
      refine wpKeep_ready (rs := [9]) (by kernel_rfl) (by simp) ?_
      refine AllKeep.cons (o := ⟨some 55, _, _, _, _, _⟩) rfl (fun K hK => ?_) AllKeep.nil
      refine step_append rfl (.tmp 50) (.tmp 54) 37 rfl 26 i1 (.slice none 0 0) 24 Tryd.underlying37 hi' hz0' hz1' hz2' rfl (World.ownsRow_nil _ _ _ _) (.slice aof n cpf) n F (by rfl) (by rfl) (HS.out _ (Keeps.refl (fun _ => False) wr).drew) (by unfold maxLen; omega) (by omega) ?_
      intro lv w2 hm
      replace hm : Appended 26 1 wr w2 (.slice none 0 0) lv n F := by
        have := hm.undrew
        rwa [Nat.zero_add, List.nil_append] at this
      have f2 : Fresh wr w2 := hm.keeps.mono (fun q _ e => by simp [Value.ownBlock] at e)
      have s20 := (f2.cell (p := ⟨ob, 2, none⟩) blr (fun h => h)).trans c2
      have s21 := (f2.frozen (p := ⟨ob, 2, none⟩) blr (fun h => h)).trans d2
      have s22 := (f2.cell (p := ⟨ob, 0, none⟩) blr (fun h => h)).trans c0
      have T2 : Keeps (fun q => q = ob) wr w2 := f2.mono (fun _ _ h => h.elim)
      refine hK.out _ _ T2 (fun _ => ⟨s20, s21, s22⟩) ?_
      clear hK K
      (try simp only [Act.put, List.setIfInBounds_toArray, List.set_cons_zero, List.set_cons_succ])
      refine wpKeep_takeT (i := 10) (oi := ⟨some 56, _, _, _, _, _⟩) (v := ?_) rfl (by kernel_rfl) (by kernel_rfl) (by kernel_rfl) (by kernel_rfl) (fun _ _ _ h => h) (Or.inl ⟨by rfl, ?_⟩) T2 (fun _ => ⟨s20, s21, s22⟩) ?_
      rotate_left
      · intro w' hT
        go_simp
        (try rw [if_pos (by omega)])
        (try with_reducible rfl)
      rotate_left
      (try simp only [Act.put, List.setIfInBounds_toArray, List.set_cons_zero, List.set_cons_succ])
      refine wpKeep_takeT (i := 11) (oi := ⟨some 57, _, _, _, _, _⟩) (v := ?_) rfl (by kernel_rfl) (by kernel_rfl) (by kernel_rfl) (by kernel_rfl) (fun _ _ _ h => h) (Or.inl ⟨by rfl, ?_⟩) T2 (fun _ => ⟨s20, s21, s22⟩) ?_
      rotate_left
      · intro w' hT
        go_simp
        (try rw [if_pos (by omega)])
        (try with_reducible rfl)
      rotate_left
      (try simp only [Act.put, List.setIfInBounds_toArray, List.set_cons_zero, List.set_cons_succ])
      refine wpKeep_ready (rs := [12]) (by kernel_rfl) (by simp) ?_
      refine AllKeep.cons (o := ⟨none, _, _, _, _, _⟩) rfl (fun K hK => ?_) AllKeep.nil
      obtain ⟨aol, cpl, el⟩ := ownsRow_slice hm.row
      subst el
      have n22 : ob < w2.heap.size := Nat.lt_of_lt_of_le blr f2.size
      go_simp
      refine hK.out _ _ (T2.setCell (p := ⟨ob, 2, none⟩) (fun _ => rfl) _) (not_early (by kernel_rfl)) ?_
      clear hK K
      (try simp only [Act.put, List.setIfInBounds_toArray, List.set_cons_zero, List.set_cons_succ])
      refine wpKeep_done (by kernel_rfl) ?_ _
      have b2 := heap_setCell_at (f2.at_ HBX.out (fun h => h)) 2 (.slice aol n cpl)
      have k2 : Keeps (fun q => q = ob) wr (w2.setCell ⟨ob, 2, none⟩ (.slice aol n cpl)) := T2.setCell (p := ⟨ob, 2, none⟩) (fun _ => rfl) _
      have hle : ∀ g, (Value.slice aol n cpl).ownBlock = some g → wr.heap.size ≤ g := fun g hg => by
        rcases hm.own g hg with q | q
        · simp [Value.ownBlock] at q
        · exact q.1
      have hne : (Value.slice aol n cpl).ownBlock ≠ some ob := fun e => by have := hle ob e; omega
      have hlr : (w2.setCell ⟨ob, 2, none⟩ (.slice aol n cpl)).ownsRow 0 26 1 (.slice aol n cpl) n F := ownsRow_setCell_ne hm.row hne _
      generalize w2.setCell ⟨ob, 2, none⟩ (.slice aol n cpl) = W2 at b2 k2 hlr ⊢
      have e0 := free_at b2 0
      have e1 := free_at b2 1
      have y0 := (cell_at b2 0).trans (show _ = some (Value.slice aof F.length cpf) from rfl)
      have y1 := (cell_at b2 1).trans (show _ = some (Value.slice aow Wv.length cpw) from rfl)
      have bl2 := lt_of_block b2
      clear c0 c2 d2 s20 s21 s22 T2 hm f2 n22
      go_wp2_with fail
      have b3 := heap_setCell_at (heap_setCell_at b2 0 (.slice none 0 0)) 1 (.slice none 0 0)
      have k3 := (k2.setCell (p := ⟨ob, 0, none⟩) (fun _ => rfl) (.slice none 0 0)).setCell (p := ⟨ob, 1, none⟩) (fun _ => rfl) (.slice none 0 0)
      have hlr3 := ownsRow_setCell_ne (ownsRow_setCell_ne hlr (a := ⟨ob, 0, none⟩) hne (.slice none 0 0)) (a := ⟨ob, 1, none⟩) hne (.slice none 0 0)
      generalize (W2.setCell ⟨ob, 0, none⟩ (.slice none 0 0)).setCell ⟨ob, 1, none⟩ (.slice none 0 0) = W3 at b3 k3 hlr3 ⊢
      replace b3 : W3.heap[ob]? = some (.cells #[.slice none 0 0, .slice none 0 0, .slice aol n cpl, .slice none 0 0, .slice none 0 0] 39 (0, 0)) := b3
      clear b2 k2 hlr e0 e1 y0 y1
      have kw3 : Keeps (fun q => q = ob) w W3 := (f.mono (fun _ _ h => h.elim)).trans k3
      have hlists : ∀ (j : Nat) (v : Value), F[j]? = some v → ∃ y, Clip v y ∧ (∃ k xs, k ≤ 1000 ∧ W3.ownsRow 0 9 1 y k xs) ∧ ∀ g, y.ownBlock = some g → c g = 5 + j := fun j v hj => by
        have hjl := (List.getElem?_eq_some_iff.1 hj).1
        obtain ⟨l, hl⟩ : ∃ l, C[j]? = some l := ⟨C[j]'(by rw [H.out.lenC]; exact hjl), by simp⟩
        obtain ⟨y, h1, h2, h3⟩ := H.out.lists j v l hj hl
        exact ⟨y, h1, ⟨l.length, texts l, HC.out j l hl, ownsRow_keeps h2 kw3 (fun g hg e => by have := h3 g hg; have := H.out.cbox; subst e; omega)⟩, h3⟩
      obtain ⟨Y, hYl, hY⟩ := choose_list hlists
      have hY2 : ∀ (j : Nat) (y : Value), Y[j]? = some y → ∃ v, F[j]? = some v ∧ Clip v y ∧ (∃ k xs, k ≤ 1000 ∧ W3.ownsRow 0 9 1 y k xs) ∧ ∀ g, y.ownBlock = some g → c g = 5 + j := fun j y hj => by
        have hjl := (List.getElem?_eq_some_iff.1 hj).1
        exact ⟨F[j]'(by omega), by simp, hY j _ y (by simp) hj⟩
      obtain ⟨c2, hfl, hc2⟩ := Flock.start (w := W3) (e := 9) (size := 1) (U := U14) (X := Y) (M := 1000) (fun j y hj => by
        obtain ⟨v, -, -, ⟨k, xs, h1, h2⟩, -⟩ := hY2 j y hj
        exact ⟨k, xs, h1, h2⟩) (fun i j u v g hu hv h1 h2 => by
        obtain ⟨-, -, -, -, q1⟩ := hY2 i u hu
        obtain ⟨-, -, -, -, q2⟩ := hY2 j v hv
        have := q1 g h1
        have := q2 g h2
        omega)
      have hcol : ∀ g, c2 g < Y.length → 5 ≤ c g ∧ g < w.heap.size := fun g hg => by
        obtain ⟨y, hy, hyg⟩ := hc2 g hg
        obtain ⟨j, hj⟩ := List.getElem?_of_mem hy
        obtain ⟨v, hv, hcl, -, q1⟩ := hY2 j y hj
        have hvl := (List.getElem?_eq_some_iff.1 hv).1
        obtain ⟨y', hcl', h2, -⟩ := H.out.lists j v _ hv (List.getElem?_eq_getElem (by rw [H.out.lenC]; exact hvl))
        exact ⟨by have := q1 g hyg; omega, (h2.lt g (by rw [← hcl'.own, hcl.own]; exact hyg)).2⟩
      have hYn : Y.length = n := by rw [hYl]; exact HNF.out
      have hcob : ¬ c2 ob < Y.length := fun q => by have := (hcol ob q).1; have := H.out.cbox; omega
      have hclv : ∀ g, (Value.slice aol n cpl).ownBlock = some g → ¬ c2 g < Y.length := fun g hg q => by have := (hcol g q).2; have := hle g hg; have := f.size; omega
      have hlow : ∀ g, g < B → ¬ c2 g < Y.length := fun g hg q => by have := (hcol g q).1; have := H.out.low g hg; omega
      have hobB : B ≤ ob := by
        apply Classical.byContradiction
        intro q
        have := H.out.low ob (by omega)
        have := H.out.cbox
        omega
      have hlvB : ∀ g, (Value.slice aol n cpl).ownBlock = some g → B ≤ g := fun g hg => by have := hle g hg; have := f.size; have := HB.out; omega
      have hDESK : ∀ wx, Flock c2 W3 9 1 U14 Y.length Y 1000 wx → ∃ c3, Core c3 wx 9 1 U14 0 Y [] [] 1000 1020 ∧ Desk B c3 wx 39 26 3 ob Y.length (.slice aol n cpl) (.slice none 0 0) (.slice none 0 0) F [] [] := fun wx fl => fl.desk b3 (by rw [HNF.out]; exact hlr3) hcob hclv hlow hobB hlvB hne 3 1020
      have hK : ∀ wx, Keeps (fun g => c2 g < Y.length) W3 wx → wx.cell? ⟨ob, 2, none⟩ = some (.slice aol n cpl) ∧ wx.ownsRow 0 26 1 (.slice aol n cpl) n F ∧ ob < wx.heap.size := fun wx k => ⟨(cell_at (k.at_ b3 hcob) 2).trans rfl, ownsRow_keeps hlr3 k hclv, lt_of_block (k.at_ b3 hcob)⟩
      have hKB : ∀ wx, Keeps (fun g => c2 g < Y.length) W3 wx → Keeps (fun q => B ≤ q) w wx := fun wx k => (kw3.mono (fun q _ e => by subst e; exact hobB)).trans (k.mono (fun q _ hq => by
        apply Classical.byContradiction
        intro q2
        exact hlow q (by omega) hq))
      have DESK := hid hDESK
      have KK := hid hK
      have KB := hid hKB
      have FL := hid hfl
      have HY2 := hid hY2
      have HYN := hid hYn
      have HWB := hid (show B ≤ wr.heap.size by have := f.size; have := HB.out; omega)
      clear hDESK hK hKB hfl hY2 hYn hlists hYl hY hc2 hcol hcob hclv hlow hobB hlvB kw3 k3 hlr3 b3 hle hne
      go_wp2_with fail
      go_loopw [6] (fun i wr => ∃ m : Nat, i = .int .i64 (m : Int) ∧ m ≤ n ∧ Flock c2 W3 9 1 U14 m Y 1000 wr) (fun i _ => n - (intOf i).toNat)
      case atStart => exact ⟨0, rfl, Nat.zero_le _, FL.out⟩
      case round =>
        rename World => wm
        obtain ⟨m, rfl, hm, fl⟩ := hrel
        obtain ⟨c0, hrow, blm⟩ := KK.out wm fl.keeps
        have FL2 := hid fl
        by_cases hlt : m < n
        · obtain ⟨y, hy⟩ : ∃ y, Y[m]? = some y := ⟨Y[m]'(by have := HYN.out; omega), by simp⟩
          obtain ⟨v, hv, hcl, -, -⟩ := HY2.out m y hy
          obtain ⟨k, hk, hh⟩ := fl.begin hy
          obtain ⟨ax, kx, cx, cx', rfl, rfl, -⟩ := hcl
          obtain rfl : kx = k := by
            obtain ⟨ys, q, -⟩ := hh
            obtain ⟨ao, cap, e⟩ := ownsRow_slice q
            simp only [Value.slice.injEq] at e
            exact e.2.1
          obtain ⟨gl, rfl, hcells⟩ := rowCellsB hrow (by omega)
          obtain ⟨gll, hcx⟩ := hcells m _ hv
          have hm1 : (m : Int) < (n : Int) := by omega
          have hm0 : (0 : Int) ≤ (m : Int) := by omega
          have HX := hid hy
          have HV := hid hv
          have HH := hid hh
          have hkb : (kx : Int) ≤ 1000 := by omega
          clear fl hrow hy hv hh hcells
          go_wp2_with fail
          clear c0 hcx gll blm
          go_loopw [7] (fun i wr => ∃ j : Nat, i = .int .i64 (j : Int) ∧ j ≤ kx ∧ Flock c2 W3 9 1 U14 m Y 1000 wr ∧ Half wr 9 1 (U14 m) (.slice ax kx cx') kx j) (fun i _ => kx - (intOf i).toNat)
          case atStart => exact ⟨0, rfl, Nat.zero_le _, FL2.out, HH.out⟩
          case round =>
            obtain ⟨j, rfl, hj, fl, hh⟩ := hrel
            obtain ⟨c0, hrow, hbl⟩ := KK.out wr fl.keeps
            obtain ⟨gr, hgr0, hcells⟩ := rowCellsB hrow (by omega)
            simp only [Option.some.injEq, Addr.mk.injEq, and_true] at hgr0
            subst hgr0
            obtain ⟨hgr, hcx⟩ := hcells m _ HV.out
            obtain ⟨ys, hrx, -⟩ := id hh
            have FL3 := hid fl
            have HH2 := hid hh
            by_cases hjk : j < kx
            · obtain ⟨g, rfl, hgc⟩ := rowCellsB hrx (by omega)
              have hj0 : (0 : Int) ≤ (j : Int) := by omega
              have hj1 : (j : Int) < (kx : Int) := by omega
              obtain ⟨y, hcell⟩ : ∃ y, wr.cell? ⟨g, j, none⟩ = some y := by
                obtain ⟨y, hy⟩ : ∃ y, (reps j (U14 m) ++ ys)[j]? = some y := by
                  have hl := hrx.1
                  exact ⟨_, List.getElem?_eq_getElem (by omega)⟩
                exact ⟨y, (hgc j y hy).2⟩
              have hfr : wr.frozen? ⟨g, j, none⟩ = false := hrx.frozenAt j
              have hgl : g < wr.heap.size := (hrx.lt g rfl).2
              have hmk := fun W => mark_any m W
              have HMK := hid hmk
              clear fl hh hrow hcells hrx hgc hmk
              go_wp2_with fail
              refine wp_region_keep 12 (fun w' => Keeps (fun q => q = g) wr w') (fun w' => w'.cell? ⟨ob, 2, none⟩ = some (.slice (some ⟨gl, 0, none⟩) n cpl) ∧ w'.cell? ⟨gl, m, none⟩ = some (.slice (some ⟨g, 0, none⟩) kx cx) ∧ w'.cell? ⟨g, j, none⟩ = some y ∧ w'.frozen? ⟨g, j, none⟩ = false) (fun j => !(j == 11)) (by kernel_rfl) (by kernel_rfl) ?_
              (try (change wpKeep _ _ _ _ _ _ _ _ _ _ (World.drew _)))
              refine wpKeep_takeT (i := 0) (oi := ⟨some 86, _, _, _, _, _⟩) (v := ?_) rfl (by kernel_rfl) (by kernel_rfl) (by kernel_rfl) (by kernel_rfl) (fun _ _ _ h => h) (Or.inl ⟨by rfl, ?_⟩) (Keeps.refl _ _).drew (fun _ => ⟨c0, hcx, hcell, hfr⟩) ?_
              rotate_left
              · intro w' hT
                go_simp
                (try rw [if_pos (by omega)])
                (try with_reducible rfl)
              rotate_left
              (try simp only [Act.put, List.setIfInBounds_toArray, List.set_cons_zero, List.set_cons_succ])
              refine wpKeep_takeT (i := 1) (oi := ⟨some 87, _, _, _, _, _⟩) (v := ?_) rfl (by kernel_rfl) (by kernel_rfl) (by kernel_rfl) (by kernel_rfl) (fun _ _ _ h => h) (Or.inl ⟨by rfl, ?_⟩) (Keeps.refl _ _).drew (fun _ => ⟨c0, hcx, hcell, hfr⟩) ?_
              rotate_left
              · intro w' hT
                go_simp
                (try rw [if_pos (by omega)])
                (try with_reducible rfl)
              rotate_left
              (try simp only [Act.put, List.setIfInBounds_toArray, List.set_cons_zero, List.set_cons_succ])
              refine wpKeep_takeT (i := 2) (oi := ⟨some 88, _, _, _, _, _⟩) (v := ?_) rfl (by kernel_rfl) (by kernel_rfl) (by kernel_rfl) (by kernel_rfl) (fun _ _ _ h => h) (Or.inl ⟨by rfl, ?_⟩) (Keeps.refl _ _).drew (fun _ => ⟨c0, hcx, hcell, hfr⟩) ?_
              rotate_left
              · intro w' hT
                go_simp
                (try rw [if_pos (by omega)])
                (try with_reducible rfl)
              rotate_left
              (try simp only [Act.put, List.setIfInBounds_toArray, List.set_cons_zero, List.set_cons_succ])
              refine wpKeep_take (i := 3) (oi := ⟨some 89, _, _, _, _, _⟩) (v := ?_) rfl (by kernel_rfl) (by kernel_rfl) (by kernel_rfl) (by kernel_rfl) (fun _ _ _ h => h) (Or.inl ⟨by rfl, ?_⟩) ⟨(Keeps.refl _ _).drew, ⟨c0, hcx, hcell, hfr⟩⟩ ?_
              rotate_left
              · intro w' hT
                have hS0 := hT.2
                replace hT := hT.1
                go_simp
                (try rw [if_pos (by omega)])
                (try with_reducible rfl)
              rotate_left
              (try simp only [Act.put, List.setIfInBounds_toArray, List.set_cons_zero, List.set_cons_succ])
              refine wpKeep_takeT (i := 4) (oi := ⟨some 90, _, _, _, _, _⟩) (v := ?_) rfl (by kernel_rfl) (by kernel_rfl) (by kernel_rfl) (by kernel_rfl) (fun _ _ _ h => h) (Or.inl ⟨by rfl, ?_⟩) (Keeps.refl _ _).drew (fun _ => ⟨c0, hcx, hcell, hfr⟩) ?_
              rotate_left
              · intro w' hT
                go_simp
                (try rw [if_pos (by omega)])
                (try with_reducible rfl)
              rotate_left
              (try simp only [Act.put, List.setIfInBounds_toArray, List.set_cons_zero, List.set_cons_succ])
              refine wpKeep_takeT (i := 5) (oi := ⟨some 91, _, _, _, _, _⟩) (v := ?_) rfl (by kernel_rfl) (by kernel_rfl) (by kernel_rfl) (by kernel_rfl) (fun _ _ _ h => h) (Or.inl ⟨by rfl, ?_⟩) (Keeps.refl _ _).drew (fun _ => ⟨c0, hcx, hcell, hfr⟩) ?_
              rotate_left
              · intro w' hT
                go_simp
                (try rw [if_pos (by omega)])
                (try with_reducible rfl)
              rotate_left
              (try simp only [Act.put, List.setIfInBounds_toArray, List.set_cons_zero, List.set_cons_succ])
              refine wpKeep_take (i := 6) (oi := ⟨some 92, _, _, _, _, _⟩) (v := ?_) rfl (by kernel_rfl) (by kernel_rfl) (by kernel_rfl) (by kernel_rfl) (fun _ _ _ h => h) (Or.inl ⟨by rfl, ?_⟩) ⟨(Keeps.refl _ _).drew, ⟨c0, hcx, hcell, hfr⟩⟩ ?_
              rotate_left
              · intro w' hT
                have hS0 := hT.2
                replace hT := hT.1
                go_simp
                (try rw [if_pos (by omega)])
                (try with_reducible rfl)
              rotate_left
              (try simp only [Act.put, List.setIfInBounds_toArray, List.set_cons_zero, List.set_cons_succ])
              refine wpKeep_takeT (i := 7) (oi := ⟨some 93, _, _, _, _, _⟩) (v := ?_) rfl (by kernel_rfl) (by kernel_rfl) (by kernel_rfl) (by kernel_rfl) (fun _ _ _ h => h) (Or.inl ⟨by rfl, ?_⟩) (Keeps.refl _ _).drew (fun _ => ⟨c0, hcx, hcell, hfr⟩) ?_
              rotate_left
              · intro w' hT
                go_simp
                (try rw [if_pos (by omega)])
                (try with_reducible rfl)
              rotate_left
              (try simp only [Act.put, List.setIfInBounds_toArray, List.set_cons_zero, List.set_cons_succ])
              refine wpKeep_takeT (i := 8) (oi := ⟨some 94, _, _, _, _, _⟩) (v := ?_) rfl (by kernel_rfl) (by kernel_rfl) (by kernel_rfl) (by kernel_rfl) (fun _ _ _ h => h) (Or.inl ⟨by rfl, ?_⟩) (Keeps.refl _ _).drew (fun _ => ⟨c0, hcx, hcell, hfr⟩) ?_
              rotate_left
              · intro w' hT
                go_simp
                (try rw [if_pos (by omega)])
                (try with_reducible rfl)
              rotate_left
              (try simp only [Act.put, List.setIfInBounds_toArray, List.set_cons_zero, List.set_cons_succ])
              refine wpKeep_ready (rs := [9]) (by kernel_rfl) (by simp) ?_
              refine AllKeep.cons (o := ⟨some 95, _, _, _, _, _⟩) rfl (fun K hK => ?_) AllKeep.nil
              go_simp
              go_at_call 46
              with_reducible refine (HMK.out _).mono ?_
              rintro x w3 ⟨rfl, f3⟩
              have f3 : Fresh wr w3 := (Keeps.refl (fun _ => False) wr).drew.trans f3
              have s30 := (f3.cell (p := ⟨ob, 2, none⟩) hbl (fun h => h)).trans c0
              have s31 := (f3.cell (p := ⟨gl, m, none⟩) hgr (fun h => h)).trans hcx
              have s32 := (f3.cell (p := ⟨g, j, none⟩) hgl (fun h => h)).trans hcell
              have s33 := (f3.frozen (p := ⟨g, j, none⟩) hgl (fun h => h)).trans hfr
              have T3 : Keeps (fun q => q = g) wr w3 := f3.mono (fun _ _ h => h.elim)
              have n33 : g < w3.heap.size := Nat.lt_of_lt_of_le hgl f3.size
              dsimp only
              refine hK.out _ _ T3 (fun _ => ⟨s30, s31, s32, s33⟩) ?_
              clear hK K
              (try simp only [Act.put, List.setIfInBounds_toArray, List.set_cons_zero, List.set_cons_succ])
              refine wpKeep_takeT (i := 10) (oi := ⟨some 96, _, _, _, _, _⟩) (v := ?_) rfl (by kernel_rfl) (by kernel_rfl) (by kernel_rfl) (by kernel_rfl) (fun _ _ _ h => h) (Or.inl ⟨by rfl, ?_⟩) T3 (fun _ => ⟨s30, s31, s32, s33⟩) ?_
              rotate_left
              · intro w' hT
                go_simp
                (try rw [if_pos (by omega)])
                (try with_reducible rfl)
              rotate_left
              (try simp only [Act.put, List.setIfInBounds_toArray, List.set_cons_zero, List.set_cons_succ])
              refine wpKeep_ready (rs := [11]) (by kernel_rfl) (by simp) ?_
              refine AllKeep.cons (o := ⟨none, _, _, _, _, _⟩) rfl (fun K hK => ?_) AllKeep.nil
              go_simp
              refine hK.out _ _ (T3.setCell (p := ⟨g, j, none⟩) (fun _ => rfl) _) (not_early (by kernel_rfl)) ?_
              clear hK K
              (try simp only [Act.put, List.setIfInBounds_toArray, List.set_cons_zero, List.set_cons_succ])
              refine wpKeep_done (by kernel_rfl) ?_ _
              have hh2 := (HH2.out.fresh f3).put1 hjk
              have HP := hid ((FL3.out.fresh f3).turn HX.out (Keeps.setCell (S := fun q => (Value.slice (some ⟨g, 0, none⟩) kx cx').ownBlock = some q) (p := ⟨g, j, none⟩) (Keeps.refl _ w3) (fun _ => rfl) (.string (str (markL m)))) hh2 hk)
              have HH3 := hid hh2
              clear hh2
              go_wp2_with fail
              go_roundw
              case rel => exact ⟨j + 1, by go_num, by omega, HP.out, HH3.out⟩
              case measure => simp [intOf]; omega
            · obtain rfl : j = kx := by omega
              clear fl hh hrow hcells hrx
              go_wp2_with fail
              go_roundw
              case rel => exact ⟨m + 1, by go_num, by omega, FL3.out.next HX.out HH2.out hk rfl⟩
              case measure => simp [intOf]; omega
        · obtain rfl : m = n := by omega
          have hk1 := KB.out wm FL2.out.keeps
          obtain ⟨c3, hco, hde⟩ := DESK.out wm (by rw [HYN.out]; exact FL2.out)
          rw [HYN.out] at hde
          have HCO := hid hco
          have HDE := hid hde
          have HK1 := hid hk1
          clear fl hk1 hco hde hrow
          go_wp2_with fail
          clear c0 blm
          go_loopw [8] (fun i wr => ∃ (n : Nat) (c' : Nat → Nat) (A : List Value) (W : List Nat) (av hv : Value), i = .int .i64 (n : Int) ∧ n ≤ m ∧ Core c' wr 9 1 U14 n Y A W 1000 1020 ∧ Desk B c' wr 39 26 3 ob m (.slice aol m cpl) av hv F A W ∧ A.length = 20 * n ∧ W.length = A.length ∧ Keeps (fun q => B ≤ q) w wr) (fun i _ => m - (intOf i).toNat)
          case atStart => exact ⟨0, c3, [], [], _, _, rfl, Nat.zero_le _, HCO.out, HDE.out, rfl, rfl, HK1.out⟩
          case round =>
            obtain ⟨n, c', A, W, av, hv, rfl, hn, hco, hde, hA, hW, hkw⟩ := hrel
            have c0 := (cell_at hde.box 2).trans (show _ = some (Value.slice aol m cpl) from rfl)
            have blr2 := lt_of_block hde.box
            have HCO2 := hid hco
            have HDE2 := hid hde
            have HA := hid hA
            have HW := hid hW
            have HKW := hid hkw
            by_cases hlt2 : n < m
            · obtain ⟨y, hy⟩ : ∃ y, Y[n]? = some y := ⟨Y[n]'(by have := HYN.out; omega), by simp⟩
              obtain ⟨v, hv2, hcl, -, -⟩ := HY2.out n y hy
              obtain ⟨L, hL, hup⟩ := hco.begin hy
              have hlr := hde.lrow
              rw [HNF.out] at hlr
              obtain ⟨gl, rfl, hcells⟩ := rowCellsB hlr (by omega)
              obtain ⟨gll, hcx⟩ := hcells n _ hv2
              have hn1 : (n : Int) < (m : Int) := by omega
              have hn0 : (0 : Int) ≤ (n : Int) := by omega
              have hvs : ∃ ax cx, v = .slice ax L cx := by
                obtain ⟨ao, nn, cap, cap', e1, e2, -⟩ := hcl
                obtain ⟨ao2, cap2, e3⟩ := ownsRow_slice hup.x.1
                rw [e3] at e1
                simp only [Value.slice.injEq] at e1
                exact ⟨ao, cap, by rw [e2, e1.2.1]⟩
              obtain ⟨ax, cx, rfl⟩ := hvs
              have HUP := hid hup
              have HCL := hid hcl
              have hLb : (L : Int) ≤ 1000 := by omega
              clear hco hde hA hW hkw hy hv2 hcl hup hlr hcells
              go_wp2_with fail
              clear c0 hcx gll blr2
              go_loopw [9, 10] (fun xv i wr => ∃ (j : Nat) (c' : Nat → Nat) (A : List Value) (W : List Nat) (av hv yv xu : Value) (L : Nat), i = .int .i64 (j : Int) ∧ j ≤ 20 ∧ xu = xv ∧ Clip xu yv ∧ Up c' wr 9 1 U14 n Y A W yv L 1000 1020 ∧ Desk B c' wr 39 26 3 ob m (.slice (some ⟨gl, 0, none⟩) m cpl) av hv F A W ∧ A.length = 20 * n + j ∧ W.length = A.length ∧ L ≤ 1000 + j ∧ Keeps (fun q => B ≤ q) w wr) (fun _ i _ => 20 - (intOf i).toNat)
              case atStart => exact ⟨0, c', A, W, av, hv, y, _, L, rfl, by omega, rfl, HCL.out, HUP.out, HDE2.out, HA.out, HW.out, hL, HKW.out⟩
              case round =>
                obtain ⟨j, c2', A2, W2', av2, hv2, yv, xv, L2, rfl, hj, rfl, hcl2, hup, hde, hA2, hW2, hL2, hkw⟩ := hrel
                have HUP2 := hid hup
                have HDE3 := hid hde
                have HA2 := hid hA2
                have HW2 := hid hW2
                have HKW2 := hid hkw
                by_cases hj20 : j < 20
                · have hj1 : (j : Int) < 20 := by omega
                  obtain ⟨ax2, cx2, rfl⟩ : ∃ ax cx, xv = .slice ax L2 cx := by
                    obtain ⟨ao, nn, cap, cap', e1, e2, -⟩ := id hcl2
                    obtain ⟨ao2, cap2, e3⟩ := ownsRow_slice hup.x.1
                    rw [e3] at e1
                    simp only [Value.slice.injEq] at e1
                    exact ⟨ao, cap, by rw [e2, e1.2.1]⟩
                  have HCL2 := hid hcl2
                  have hmk := fun W => mark_any n W
                  have HMK := hid hmk
                  have HNM := hid hlt2
                  clear hcl2 hup hde hA2 hW2 hkw hmk
                  go_wp2_with fail
                  refine (HMK.out _).mono ?_
                  rintro x w4 ⟨rfl, f4⟩
                  have HU4 := hid (HUP2.out.fresh f4)
                  have HD4 := hid (HDE3.out.fresh f4)
                  have HK4 := hid (HKW2.out.trans (f4.mono (fun _ _ h => h.elim)))
                  have HS4 := hid (show B ≤ w4.heap.size by have := HK4.out.size; have := HB.out; omega)
                  clear f4
                  go_wp2_with (at_builtin; refine wpList_growC rfl (.tmp 118) (.tmp 121) 26 rfl 9 i0 (.string ⟨#[]⟩) 1 16 Tryd.underlying26 hi hz0 hz1 hz2 rfl (by decide) HCL2.out w4 HU4.out.x.1 #[.string (str (markL n))] rfl (by rfl) (by rfl) (by simp [Value.oneCell']) (by omega) (by unfold maxLen; omega) ?_)
                  intro v5 w5 hgr
                  have HU5 := hid (HU4.out.grow hgr)
                  have hlowx : ∀ g, yv.ownBlock = some g → B ≤ g := fun g hg => by
                    apply Classical.byContradiction
                    intro q
                    have := HD4.out.low g (by omega)
                    have := HU4.out.x.2 g hg
                    have := HNM.out
                    omega
                  have HD5 := hid (HD4.out.off hgr.app.keeps (fun g hg _ => .inl (by have := HU4.out.x.2 g hg; have := HNM.out; omega)) HS4.out n)
                  have HK5 := hid (HK4.out.trans (hgr.app.keeps.mono (fun q _ hq => hlowx q hq)))
                  have HS5 := hid (show B ≤ w5.heap.size by have := HK5.out.size; have := HB.out; omega)
                  obtain ⟨ax5, cx5, rfl⟩ := ownsRow_slice hgr.app.row
                  have c3' := (cell_at HD5.out.box 3).trans (show _ = some av2 from rfl)
                  obtain ⟨aoa, cpa, ea⟩ := ownsRow_slice HD5.out.arow
                  have HEA := hid ea
                  subst ea
                  have b5 := lt_of_block HD5.out.box
                  clear hgr hlowx
                  go_wp2_with (at_builtin; refine wpList_push rfl (.tmp 127) (.tmp 129) 37 rfl 26 i1 (.slice none 0 0) 24 Tryd.underlying37 hi' hz0' hz1' hz2' rfl w5 HD5.out.arow _ (by rfl) (by rfl) rfl (by have := HA2.out; omega) (by have := HA2.out; unfold maxLen; omega) ?_)
                  intro v6 w6 ha6
                  obtain ⟨bx6, hd6, k6⟩ := HD5.out.pushA HS5.out ha6
                  have e3 := (cell_at bx6 3).trans (show _ = some (Value.slice aoa A2.length cpa) from rfl)
                  have e3f := free_at bx6 3
                  have b6 := lt_of_block bx6
                  obtain ⟨ao6, cp6, rfl⟩ := ownsRow_slice ha6.row
                  have hu6 := HU5.out.step (N := m) k6 (fun g hg _ => by
                    rcases hg with rfl | hg
                    · have := HD5.out.cbox; omega
                    · have := HD5.out.ca g hg; omega) HNM.out (by have := HYN.out; omega) m
                  have hk6 := HK5.out.trans (k6.mono (fun q _ hq => by
                    apply Classical.byContradiction
                    intro z
                    have := HD5.out.low q (by omega)
                    rcases hq with rfl | hq
                    · have := HD5.out.cbox; omega
                    · have := HD5.out.ca q hq; omega))
                  obtain ⟨aoh, cph, eh⟩ := ownsRow_slice hd6.hrow
                  have e4' := (cell_at bx6 4).trans (show _ = some hv2 from rfl)
                  subst eh
                  have HD6 := hid hd6
                  have HU6 := hid hu6
                  have HK6 := hid hk6
                  have HS6 := hid (show B ≤ (w6.setCell ⟨ob, 3, none⟩ (.slice ao6 (A2.length + 1) cp6)).heap.size by have := HK6.out.size; have := HB.out; omega)
                  clear c3' b5 ha6 bx6 k6 hd6 hu6 hk6
                  go_wp2_with (at_builtin; refine wpList_push rfl (.tmp 137) (.tmp 139) 22 rfl 3 i9 (.int .i64 0) 8 Tryd.underlying22 hi9 hy0 hy1 hy2 rfl (w6.setCell ⟨ob, 3, none⟩ (.slice ao6 (A2.length + 1) cp6)) HD6.out.hrow (.int .i64 (n : Int)) (by rfl) (by rw [World.size_setCell]; rfl) rfl (by have := HA2.out; have := HW2.out; omega) (by have := HA2.out; have := HW2.out; unfold maxLen; omega) ?_)
                  intro v7 w7 ha7
                  obtain ⟨bx7, hd7, k7⟩ := HD6.out.pushW HS6.out (o := n) ha7
                  have e4 := (cell_at bx7 4).trans (show _ = some (Value.slice aoh W2'.length cph) from rfl)
                  have e4f := free_at bx7 4
                  have b7 := lt_of_block bx7
                  obtain ⟨ao7, cp7, rfl⟩ := ownsRow_slice ha7.row
                  have hu7 := (HU6.out.step (N := m) k7 (fun g hg _ => by
                    rcases hg with rfl | hg
                    · have := HD6.out.cbox; omega
                    · have := HD6.out.ch g hg; omega) HNM.out (by have := HYN.out; omega) (m + 1)).note HW2.out (by omega)
                  have hk7 := HK6.out.trans (k7.mono (fun q _ hq => by
                    apply Classical.byContradiction
                    intro z
                    have := HD6.out.low q (by omega)
                    rcases hq with rfl | hq
                    · have := HD6.out.cbox; omega
                    · have := HD6.out.ch q hq; omega))
                  clear e3 e3f b6 e4' ha7 bx7 k7
                  go_wp2_with fail
                  generalize w7.setCell ⟨ob, 4, none⟩ (.slice ao7 (W2'.length + 1) cp7) = W7 at hd7 hu7 hk7 ⊢
                  have HD7 := hid hd7
                  have HU7 := hid hu7
                  have HK7 := hid hk7
                  clear hd7 hu7 hk7 e4 e4f b7
                  go_roundw
                  case rel => exact ⟨j + 1, _, A2 ++ [.slice ax5 (L2 + 1) cx5], W2' ++ [n], _, _, _, _, L2 + 1, by go_num, by omega, rfl, Clip.same, HU7.out, HD7.out, by rw [List.length_append, HA2.out]; rfl, by rw [List.length_append, List.length_append, HW2.out]; rfl, by omega, HK7.out⟩
                  case measure => simp [intOf]; omega
                · obtain rfl : j = 20 := by omega
                  clear hcl2 hup hde hA2 hW2 hkw
                  go_wp2_with fail
                  go_roundw
                  case rel => exact ⟨n + 1, c2', A2, W2', av2, hv2, by go_num, by omega, HUP2.out.fin, HDE3.out, by have := HA2.out; omega, HW2.out, HKW2.out⟩
                  case measure => simp [intOf]; omega
            · obtain rfl : n = m := by omega
              rename World => w5
              obtain ⟨gl', egl⟩ : ∃ x, aol = x := ⟨_, rfl⟩
              clear hco hde hA hW hkw
              go_wp2_with fail
              clear c0 blr2
              go_loopw [11] (fun i wr => ∃ q : Nat, i = .int .i64 (q : Int) ∧ q ≤ n ∧ Fresh w5 wr) (fun i _ => n - (intOf i).toNat)
              case atStart => exact ⟨0, rfl, Nat.zero_le _, Keeps.refl _ _⟩
              case round =>
                obtain ⟨q, rfl, hq, fq⟩ := hrel
                have hde := HDE2.out.fresh fq
                have hco := HCO2.out.fresh fq
                have c0 := (cell_at hde.box 2).trans (show _ = some (Value.slice aol n cpl) from rfl)
                have blr3 := lt_of_block hde.box
                by_cases hq2 : q < n
                · obtain ⟨y, hy⟩ : ∃ y, Y[q]? = some y := ⟨Y[q]'(by have := HYN.out; omega), by simp⟩
                  obtain ⟨v, hv2, hcl, -, -⟩ := HY2.out q y hy
                  obtain ⟨k, hk, hrw⟩ := hco.olds q y hy
                  have hlr := hde.lrow
                  rw [HNF.out] at hlr
                  obtain ⟨gl, rfl, hcells⟩ := rowCellsB hlr (by omega)
                  obtain ⟨gll, hcx⟩ := hcells q _ hv2
                  have hq1 : (q : Int) < (n : Int) := by omega
                  have hq0 : (0 : Int) ≤ (q : Int) := by omega
                  have hmk := fun W => mark_any q W
                  have hrd := fun W (f : Fresh wr W) => reads_any v k (markL q) W ⟨y, reps k (U14 q), hcl, ownsRow_keeps hrw.1 f (fun _ _ h => h), rfl⟩ (by omega)
                  obtain ⟨vx, vn, vc, rfl⟩ : ∃ ax n cx, v = .slice ax n cx := by
                    obtain ⟨ao, nn, cap, cap', e1, e2, -⟩ := id hcl
                    exact ⟨ao, nn, cap, e2⟩
                  have HMK := hid hmk
                  have HRD := hid hrd
                  clear hde hco hy hv2 hcl hrw hlr hcells hmk hrd egl
                  go_wp2_with fail
                  refine wp_region_keep 11 (fun w' => Fresh wr w') (fun _ => True) (fun _ => true) (by kernel_rfl) (by kernel_rfl) ?_
                  (try (change wpKeep _ _ _ _ _ _ _ _ _ _ (World.drew _)))
                  refine wpKeep_takeT (i := 0) (oi := ⟨some 152, _, _, _, _, _⟩) (v := ?_) rfl (by kernel_rfl) (by kernel_rfl) (by kernel_rfl) (by kernel_rfl) (fun _ _ _ h => h) (Or.inl ⟨by rfl, ?_⟩) (Keeps.refl _ _).drew (fun _ => trivial) ?_
                  rotate_left
                  · intro w' hT
                    have yb := (hT.cell (p := ⟨ob, 2, none⟩) blr3 (fun h => h)).trans c0
                    have yl := (hT.cell (p := ⟨gl, q, none⟩) gll (fun h => h)).trans hcx
                    go_simp
                    (try rw [if_pos (by omega)])
                    (try with_reducible rfl)
                  rotate_left
                  (try simp only [Act.put, List.setIfInBounds_toArray, List.set_cons_zero, List.set_cons_succ])
                  refine wpKeep_takeT (i := 1) (oi := ⟨some 153, _, _, _, _, _⟩) (v := ?_) rfl (by kernel_rfl) (by kernel_rfl) (by kernel_rfl) (by kernel_rfl) (fun _ _ _ h => h) (Or.inl ⟨by rfl, ?_⟩) (Keeps.refl _ _).drew (fun _ => trivial) ?_
                  rotate_left
                  · intro w' hT
                    have yb := (hT.cell (p := ⟨ob, 2, none⟩) blr3 (fun h => h)).trans c0
                    have yl := (hT.cell (p := ⟨gl, q, none⟩) gll (fun h => h)).trans hcx
                    go_simp
                    (try rw [if_pos (by omega)])
                    (try with_reducible rfl)
                  rotate_left
                  (try simp only [Act.put, List.setIfInBounds_toArray, List.set_cons_zero, List.set_cons_succ])
                  refine wpKeep_takeT (i := 2) (oi := ⟨some 154, _, _, _, _, _⟩) (v := ?_) rfl (by kernel_rfl) (by kernel_rfl) (by kernel_rfl) (by kernel_rfl) (fun _ _ _ h => h) (Or.inl ⟨by rfl, ?_⟩) (Keeps.refl _ _).drew (fun _ => trivial) ?_
                  rotate_left
                  · intro w' hT
                    have yb := (hT.cell (p := ⟨ob, 2, none⟩) blr3 (fun h => h)).trans c0
                    have yl := (hT.cell (p := ⟨gl, q, none⟩) gll (fun h => h)).trans hcx
                    go_simp
                    (try rw [if_pos (by omega)])
                    (try with_reducible rfl)
                  rotate_left
                  (try simp only [Act.put, List.setIfInBounds_toArray, List.set_cons_zero, List.set_cons_succ])
                  refine wpKeep_takeT (i := 3) (oi := ⟨some 155, _, _, _, _, _⟩) (v := ?_) rfl (by kernel_rfl) (by kernel_rfl) (by kernel_rfl) (by kernel_rfl) (fun _ _ _ h => h) (Or.inl ⟨by rfl, ?_⟩) (Keeps.refl _ _).drew (fun _ => trivial) ?_
                  rotate_left
                  · intro w' hT
                    have yb := (hT.cell (p := ⟨ob, 2, none⟩) blr3 (fun h => h)).trans c0
                    have yl := (hT.cell (p := ⟨gl, q, none⟩) gll (fun h => h)).trans hcx
                    go_simp
                    (try rw [if_pos (by omega)])
                    (try with_reducible rfl)
                  rotate_left
                  (try simp only [Act.put, List.setIfInBounds_toArray, List.set_cons_zero, List.set_cons_succ])
                  refine wpKeep_takeT (i := 4) (oi := ⟨some 156, _, _, _, _, _⟩) (v := ?_) rfl (by kernel_rfl) (by kernel_rfl) (by kernel_rfl) (by kernel_rfl) (fun _ _ _ h => h) (Or.inl ⟨by rfl, ?_⟩) (Keeps.refl _ _).drew (fun _ => trivial) ?_
                  rotate_left
                  · intro w' hT
                    have yb := (hT.cell (p := ⟨ob, 2, none⟩) blr3 (fun h => h)).trans c0
                    have yl := (hT.cell (p := ⟨gl, q, none⟩) gll (fun h => h)).trans hcx
                    go_simp
                    (try rw [if_pos (by omega)])
                    (try with_reducible rfl)
                  rotate_left
                  (try simp only [Act.put, List.setIfInBounds_toArray, List.set_cons_zero, List.set_cons_succ])
                  refine wpKeep_takeT (i := 5) (oi := ⟨some 157, _, _, _, _, _⟩) (v := ?_) rfl (by kernel_rfl) (by kernel_rfl) (by kernel_rfl) (by kernel_rfl) (fun _ _ _ h => h) (Or.inl ⟨by rfl, ?_⟩) (Keeps.refl _ _).drew (fun _ => trivial) ?_
                  rotate_left
                  · intro w' hT
                    have yb := (hT.cell (p := ⟨ob, 2, none⟩) blr3 (fun h => h)).trans c0
                    have yl := (hT.cell (p := ⟨gl, q, none⟩) gll (fun h => h)).trans hcx
                    go_simp
                    (try rw [if_pos (by omega)])
                    (try with_reducible rfl)
                  rotate_left
                  (try simp only [Act.put, List.setIfInBounds_toArray, List.set_cons_zero, List.set_cons_succ])
                  refine wpKeep_takeT (i := 6) (oi := ⟨some 158, _, _, _, _, _⟩) (v := ?_) rfl (by kernel_rfl) (by kernel_rfl) (by kernel_rfl) (by kernel_rfl) (fun _ _ _ h => h) (Or.inl ⟨by rfl, ?_⟩) (Keeps.refl _ _).drew (fun _ => trivial) ?_
                  rotate_left
                  · intro w' hT
                    have yb := (hT.cell (p := ⟨ob, 2, none⟩) blr3 (fun h => h)).trans c0
                    have yl := (hT.cell (p := ⟨gl, q, none⟩) gll (fun h => h)).trans hcx
                    go_simp
                    (try rw [if_pos (by omega)])
                    (try with_reducible rfl)
                  rotate_left
                  (try simp only [Act.put, List.setIfInBounds_toArray, List.set_cons_zero, List.set_cons_succ])
                  refine wpKeep_takeT (i := 7) (oi := ⟨some 159, _, _, _, _, _⟩) (v := ?_) rfl (by kernel_rfl) (by kernel_rfl) (by kernel_rfl) (by kernel_rfl) (fun _ _ _ h => h) (Or.inl ⟨by rfl, ?_⟩) (Keeps.refl _ _).drew (fun _ => trivial) ?_
                  rotate_left
                  · intro w' hT
                    have yb := (hT.cell (p := ⟨ob, 2, none⟩) blr3 (fun h => h)).trans c0
                    have yl := (hT.cell (p := ⟨gl, q, none⟩) gll (fun h => h)).trans hcx
                    go_simp
                    (try rw [if_pos (by omega)])
                    (try with_reducible rfl)
                  rotate_left
                  (try simp only [Act.put, List.setIfInBounds_toArray, List.set_cons_zero, List.set_cons_succ])
                  refine wpKeep_ready (rs := [8]) (by kernel_rfl) (by simp) ?_
                  refine AllKeep.cons (o := ⟨some 160, _, _, _, _, _⟩) rfl (fun K hK => ?_) AllKeep.nil
                  go_simp
                  go_at_call 46
                  with_reducible refine (HMK.out _).mono ?_
                  rintro x w3 ⟨rfl, f3⟩
                  have f3 : Fresh wr w3 := (Keeps.refl (fun _ => False) wr).drew.trans f3
                  dsimp only
                  refine hK.out _ _ f3 (fun _ => trivial) ?_
                  clear hK K
                  (try simp only [Act.put, List.setIfInBounds_toArray, List.set_cons_zero, List.set_cons_succ])
                  refine wpKeep_ready (rs := [9]) (by kernel_rfl) (by simp) ?_
                  refine AllKeep.cons (o := ⟨some 161, _, _, _, _, _⟩) rfl (fun K hK => ?_) AllKeep.nil
                  go_simp
                  go_at_call 47
                  with_reducible refine (HRD.out _ f3).mono ?_
                  rintro x w4 ⟨rfl, f4⟩
                  have f4 : Fresh wr w4 := f3.trans f4
                  dsimp only
                  refine hK.out _ _ f4 (fun _ => trivial) ?_
                  clear hK K
                  (try simp only [Act.put, List.setIfInBounds_toArray, List.set_cons_zero, List.set_cons_succ])
                  refine wpKeep_takeT (i := 10) (oi := ⟨some 12, _, _, _, _, _⟩) (v := ?_) rfl (by kernel_rfl) (by kernel_rfl) (by kernel_rfl) (by kernel_rfl) (fun _ _ _ h => h) (Or.inl ⟨by rfl, ?_⟩) f4 (fun _ => trivial) ?_
                  rotate_left
                  · intro w' hT
                    go_simp
                    (try rw [if_pos (by omega)])
                    (try with_reducible rfl)
                  rotate_left
                  (try simp only [Act.put, List.setIfInBounds_toArray, List.set_cons_zero, List.set_cons_succ])
                  refine wpKeep_done (by kernel_rfl) ?_ _
                  go_wp2_with fail
                  go_roundw
                  case rel => exact ⟨q + 1, by go_num, by omega, fq.trans f4⟩
                  case measure => simp [intOf]; omega
                · obtain rfl : q = n := by omega
                  obtain ⟨aoa, cpa, ea⟩ := ownsRow_slice hde.arow
                  obtain ⟨aoh, cph, eh⟩ := ownsRow_slice hde.hrow
                  subst ea
                  subst eh
                  clear hde hco
                  go_wp2_with fail
                  clear c0 blr3
                  go_loopw [13] (fun i wr => ∃ q : Nat, i = .int .i64 (q : Int) ∧ q ≤ A.length ∧ Fresh w5 wr) (fun i _ => A.length - (intOf i).toNat)
                  case atStart => exact ⟨0, rfl, Nat.zero_le _, fq⟩
                  case round =>
                    obtain ⟨p, rfl, hp, fp⟩ := hrel
                    have hde := HDE2.out.fresh fp
                    have hco := HCO2.out.fresh fp
                    have c0 := (cell_at hde.box 3).trans (show _ = some (Value.slice aoa A.length cpa) from rfl)
                    have c1 := (cell_at hde.box 4).trans (show _ = some (Value.slice aoh W.length cph) from rfl)
                    have blr3 := lt_of_block hde.box
                    by_cases hp2 : p < A.length
                    · obtain ⟨v, hv2⟩ : ∃ v, A[p]? = some v := ⟨A[p], by simp⟩
                      obtain ⟨k, o, hwo, ho, hk, hrw⟩ := hco.grown p v hv2
                      obtain ⟨ga, rfl, hca⟩ := rowCellsB hde.arow (by omega)
                      obtain ⟨gh, rfl, hch⟩ := rowCellsB hde.hrow (by have := HW.out; omega)
                      obtain ⟨gal, hcx⟩ := hca p _ hv2
                      obtain ⟨ghl, hcy⟩ := hch p (.int .i64 (o : Int)) (by rw [List.getElem?_map, hwo]; rfl)
                      have hp1 : (p : Int) < (A.length : Int) := by omega
                      have hp1' : (p : Int) < (W.length : Int) := by have := HW.out; omega
                      have hp0 : (0 : Int) ≤ (p : Int) := by omega
                      have hAb : (A.length : Int) ≤ 20000 := by have := HA.out; omega
                      have hmk := fun W => mark_any o W
                      obtain ⟨vx, vc, rfl⟩ := ownsRow_slice hrw.1
                      have hrd := fun W (f : Fresh wr W) => reads_any (.slice vx k vc) k (markL o) W ⟨_, reps k (U14 o), Clip.same, ownsRow_keeps hrw.1 f (fun _ _ h => h), rfl⟩ (by omega)
                      have HMK := hid hmk
                      have HRD := hid hrd
                      clear hde hco hv2 hwo hrw hca hch hmk hrd egl
                      go_wp2_with fail
                      refine wp_region_keep 17 (fun w' => Fresh wr w') (fun _ => True) (fun _ => true) (by kernel_rfl) (by kernel_rfl) ?_
                      (try (change wpKeep _ _ _ _ _ _ _ _ _ _ (World.drew _)))
                      refine wpKeep_takeT (i := 0) (oi := ⟨some 173, _, _, _, _, _⟩) (v := ?_) rfl (by kernel_rfl) (by kernel_rfl) (by kernel_rfl) (by kernel_rfl) (fun _ _ _ h => h) (Or.inl ⟨by rfl, ?_⟩) (Keeps.refl _ _).drew (fun _ => trivial) ?_
                      rotate_left
                      · intro w' hT
                        have yb := (hT.cell (p := ⟨ob, 3, none⟩) blr3 (fun h => h)).trans c0
                        have yc := (hT.cell (p := ⟨ob, 4, none⟩) blr3 (fun h => h)).trans c1
                        have yl := (hT.cell (p := ⟨ga, p, none⟩) gal (fun h => h)).trans hcx
                        have ym := (hT.cell (p := ⟨gh, p, none⟩) ghl (fun h => h)).trans hcy
                        go_simp
                        (try rw [if_pos (by omega)])
                        (try with_reducible rfl)
                      rotate_left
                      (try simp only [Act.put, List.setIfInBounds_toArray, List.set_cons_zero, List.set_cons_succ])
                      refine wpKeep_takeT (i := 1) (oi := ⟨some 174, _, _, _, _, _⟩) (v := ?_) rfl (by kernel_rfl) (by kernel_rfl) (by kernel_rfl) (by kernel_rfl) (fun _ _ _ h => h) (Or.inl ⟨by rfl, ?_⟩) (Keeps.refl _ _).drew (fun _ => trivial) ?_
                      rotate_left
                      · intro w' hT
                        have yb := (hT.cell (p := ⟨ob, 3, none⟩) blr3 (fun h => h)).trans c0
                        have yc := (hT.cell (p := ⟨ob, 4, none⟩) blr3 (fun h => h)).trans c1
                        have yl := (hT.cell (p := ⟨ga, p, none⟩) gal (fun h => h)).trans hcx
                        have ym := (hT.cell (p := ⟨gh, p, none⟩) ghl (fun h => h)).trans hcy
                        go_simp
                        (try rw [if_pos (by omega)])
                        (try with_reducible rfl)
                      rotate_left
                      (try simp only [Act.put, List.setIfInBounds_toArray, List.set_cons_zero, List.set_cons_succ])
                      refine wpKeep_takeT (i := 2) (oi := ⟨some 175, _, _, _, _, _⟩) (v := ?_) rfl (by kernel_rfl) (by kernel_rfl) (by kernel_rfl) (by kernel_rfl) (fun _ _ _ h => h) (Or.inl ⟨by rfl, ?_⟩) (Keeps.refl _ _).drew (fun _ => trivial) ?_
                      rotate_left
                      · intro w' hT
                        have yb := (hT.cell (p := ⟨ob, 3, none⟩) blr3 (fun h => h)).trans c0
                        have yc := (hT.cell (p := ⟨ob, 4, none⟩) blr3 (fun h => h)).trans c1
                        have yl := (hT.cell (p := ⟨ga, p, none⟩) gal (fun h => h)).trans hcx
                        have ym := (hT.cell (p := ⟨gh, p, none⟩) ghl (fun h => h)).trans hcy
                        go_simp
                        (try rw [if_pos (by omega)])
                        (try with_reducible rfl)
                      rotate_left
                      (try simp only [Act.put, List.setIfInBounds_toArray, List.set_cons_zero, List.set_cons_succ])
                      refine wpKeep_takeT (i := 3) (oi := ⟨some 176, _, _, _, _, _⟩) (v := ?_) rfl (by kernel_rfl) (by kernel_rfl) (by kernel_rfl) (by kernel_rfl) (fun _ _ _ h => h) (Or.inl ⟨by rfl, ?_⟩) (Keeps.refl _ _).drew (fun _ => trivial) ?_
                      rotate_left
                      · intro w' hT
                        have yb := (hT.cell (p := ⟨ob, 3, none⟩) blr3 (fun h => h)).trans c0
                        have yc := (hT.cell (p := ⟨ob, 4, none⟩) blr3 (fun h => h)).trans c1
                        have yl := (hT.cell (p := ⟨ga, p, none⟩) gal (fun h => h)).trans hcx
                        have ym := (hT.cell (p := ⟨gh, p, none⟩) ghl (fun h => h)).trans hcy
                        go_simp
                        (try rw [if_pos (by omega)])
                        (try with_reducible rfl)
                      rotate_left
                      (try simp only [Act.put, List.setIfInBounds_toArray, List.set_cons_zero, List.set_cons_succ])
                      refine wpKeep_takeT (i := 4) (oi := ⟨some 177, _, _, _, _, _⟩) (v := ?_) rfl (by kernel_rfl) (by kernel_rfl) (by kernel_rfl) (by kernel_rfl) (fun _ _ _ h => h) (Or.inl ⟨by rfl, ?_⟩) (Keeps.refl _ _).drew (fun _ => trivial) ?_
                      rotate_left
                      · intro w' hT
                        have yb := (hT.cell (p := ⟨ob, 3, none⟩) blr3 (fun h => h)).trans c0
                        have yc := (hT.cell (p := ⟨ob, 4, none⟩) blr3 (fun h => h)).trans c1
                        have yl := (hT.cell (p := ⟨ga, p, none⟩) gal (fun h => h)).trans hcx
                        have ym := (hT.cell (p := ⟨gh, p, none⟩) ghl (fun h => h)).trans hcy
                        go_simp
                        (try rw [if_pos (by omega)])
                        (try with_reducible rfl)
                      rotate_left
                      (try simp only [Act.put, List.setIfInBounds_toArray, List.set_cons_zero, List.set_cons_succ])
                      refine wpKeep_takeT (i := 5) (oi := ⟨some 178, _, _, _, _, _⟩) (v := ?_) rfl (by kernel_rfl) (by kernel_rfl) (by kernel_rfl) (by kernel_rfl) (fun _ _ _ h => h) (Or.inl ⟨by rfl, ?_⟩) (Keeps.refl _ _).drew (fun _ => trivial) ?_
                      rotate_left
                      · intro w' hT
                        have yb := (hT.cell (p := ⟨ob, 3, none⟩) blr3 (fun h => h)).trans c0
                        have yc := (hT.cell (p := ⟨ob, 4, none⟩) blr3 (fun h => h)).trans c1
                        have yl := (hT.cell (p := ⟨ga, p, none⟩) gal (fun h => h)).trans hcx
                        have ym := (hT.cell (p := ⟨gh, p, none⟩) ghl (fun h => h)).trans hcy
                        go_simp
                        (try rw [if_pos (by omega)])
                        (try with_reducible rfl)
                      rotate_left
                      (try simp only [Act.put, List.setIfInBounds_toArray, List.set_cons_zero, List.set_cons_succ])
                      refine wpKeep_takeT (i := 6) (oi := ⟨some 179, _, _, _, _, _⟩) (v := ?_) rfl (by kernel_rfl) (by kernel_rfl) (by kernel_rfl) (by kernel_rfl) (fun _ _ _ h => h) (Or.inl ⟨by rfl, ?_⟩) (Keeps.refl _ _).drew (fun _ => trivial) ?_
                      rotate_left
                      · intro w' hT
                        have yb := (hT.cell (p := ⟨ob, 3, none⟩) blr3 (fun h => h)).trans c0
                        have yc := (hT.cell (p := ⟨ob, 4, none⟩) blr3 (fun h => h)).trans c1
                        have yl := (hT.cell (p := ⟨ga, p, none⟩) gal (fun h => h)).trans hcx
                        have ym := (hT.cell (p := ⟨gh, p, none⟩) ghl (fun h => h)).trans hcy
                        go_simp
                        (try rw [if_pos (by omega)])
                        (try with_reducible rfl)
                      rotate_left
                      (try simp only [Act.put, List.setIfInBounds_toArray, List.set_cons_zero, List.set_cons_succ])
                      refine wpKeep_takeT (i := 7) (oi := ⟨some 180, _, _, _, _, _⟩) (v := ?_) rfl (by kernel_rfl) (by kernel_rfl) (by kernel_rfl) (by kernel_rfl) (fun _ _ _ h => h) (Or.inl ⟨by rfl, ?_⟩) (Keeps.refl _ _).drew (fun _ => trivial) ?_
                      rotate_left
                      · intro w' hT
                        have yb := (hT.cell (p := ⟨ob, 3, none⟩) blr3 (fun h => h)).trans c0
                        have yc := (hT.cell (p := ⟨ob, 4, none⟩) blr3 (fun h => h)).trans c1
                        have yl := (hT.cell (p := ⟨ga, p, none⟩) gal (fun h => h)).trans hcx
                        have ym := (hT.cell (p := ⟨gh, p, none⟩) ghl (fun h => h)).trans hcy
                        go_simp
                        (try rw [if_pos (by omega)])
                        (try with_reducible rfl)
                      rotate_left
                      (try simp only [Act.put, List.setIfInBounds_toArray, List.set_cons_zero, List.set_cons_succ])
                      refine wpKeep_takeT (i := 8) (oi := ⟨some 181, _, _, _, _, _⟩) (v := ?_) rfl (by kernel_rfl) (by kernel_rfl) (by kernel_rfl) (by kernel_rfl) (fun _ _ _ h => h) (Or.inl ⟨by rfl, ?_⟩) (Keeps.refl _ _).drew (fun _ => trivial) ?_
                      rotate_left
                      · intro w' hT
                        have yb := (hT.cell (p := ⟨ob, 3, none⟩) blr3 (fun h => h)).trans c0
                        have yc := (hT.cell (p := ⟨ob, 4, none⟩) blr3 (fun h => h)).trans c1
                        have yl := (hT.cell (p := ⟨ga, p, none⟩) gal (fun h => h)).trans hcx
                        have ym := (hT.cell (p := ⟨gh, p, none⟩) ghl (fun h => h)).trans hcy
                        go_simp
                        (try rw [if_pos (by omega)])
                        (try with_reducible rfl)
                      rotate_left
                      (try simp only [Act.put, List.setIfInBounds_toArray, List.set_cons_zero, List.set_cons_succ])
                      refine wpKeep_takeT (i := 9) (oi := ⟨some 182, _, _, _, _, _⟩) (v := ?_) rfl (by kernel_rfl) (by kernel_rfl) (by kernel_rfl) (by kernel_rfl) (fun _ _ _ h => h) (Or.inl ⟨by rfl, ?_⟩) (Keeps.refl _ _).drew (fun _ => trivial) ?_
                      rotate_left
                      · intro w' hT
                        have yb := (hT.cell (p := ⟨ob, 3, none⟩) blr3 (fun h => h)).trans c0
                        have yc := (hT.cell (p := ⟨ob, 4, none⟩) blr3 (fun h => h)).trans c1
                        have yl := (hT.cell (p := ⟨ga, p, none⟩) gal (fun h => h)).trans hcx
                        have ym := (hT.cell (p := ⟨gh, p, none⟩) ghl (fun h => h)).trans hcy
                        go_simp
                        (try rw [if_pos (by omega)])
                        (try with_reducible rfl)
                      rotate_left
                      (try simp only [Act.put, List.setIfInBounds_toArray, List.set_cons_zero, List.set_cons_succ])
                      refine wpKeep_takeT (i := 10) (oi := ⟨some 183, _, _, _, _, _⟩) (v := ?_) rfl (by kernel_rfl) (by kernel_rfl) (by kernel_rfl) (by kernel_rfl) (fun _ _ _ h => h) (Or.inl ⟨by rfl, ?_⟩) (Keeps.refl _ _).drew (fun _ => trivial) ?_
                      rotate_left
                      · intro w' hT
                        have yb := (hT.cell (p := ⟨ob, 3, none⟩) blr3 (fun h => h)).trans c0
                        have yc := (hT.cell (p := ⟨ob, 4, none⟩) blr3 (fun h => h)).trans c1
                        have yl := (hT.cell (p := ⟨ga, p, none⟩) gal (fun h => h)).trans hcx
                        have ym := (hT.cell (p := ⟨gh, p, none⟩) ghl (fun h => h)).trans hcy
                        go_simp
                        (try rw [if_pos (by omega)])
                        (try with_reducible rfl)
                      rotate_left
                      (try simp only [Act.put, List.setIfInBounds_toArray, List.set_cons_zero, List.set_cons_succ])
                      refine wpKeep_takeT (i := 11) (oi := ⟨some 184, _, _, _, _, _⟩) (v := ?_) rfl (by kernel_rfl) (by kernel_rfl) (by kernel_rfl) (by kernel_rfl) (fun _ _ _ h => h) (Or.inl ⟨by rfl, ?_⟩) (Keeps.refl _ _).drew (fun _ => trivial) ?_
                      rotate_left
                      · intro w' hT
                        have yb := (hT.cell (p := ⟨ob, 3, none⟩) blr3 (fun h => h)).trans c0
                        have yc := (hT.cell (p := ⟨ob, 4, none⟩) blr3 (fun h => h)).trans c1
                        have yl := (hT.cell (p := ⟨ga, p, none⟩) gal (fun h => h)).trans hcx
                        have ym := (hT.cell (p := ⟨gh, p, none⟩) ghl (fun h => h)).trans hcy
                        go_simp
                        (try rw [if_pos (by omega)])
                        (try with_reducible rfl)
                      rotate_left
                      (try simp only [Act.put, List.setIfInBounds_toArray, List.set_cons_zero, List.set_cons_succ])
                      refine wpKeep_takeT (i := 12) (oi := ⟨some 185, _, _, _, _, _⟩) (v := ?_) rfl (by kernel_rfl) (by kernel_rfl) (by kernel_rfl) (by kernel_rfl) (fun _ _ _ h => h) (Or.inl ⟨by rfl, ?_⟩) (Keeps.refl _ _).drew (fun _ => trivial) ?_
                      rotate_left
                      · intro w' hT
                        have yb := (hT.cell (p := ⟨ob, 3, none⟩) blr3 (fun h => h)).trans c0
                        have yc := (hT.cell (p := ⟨ob, 4, none⟩) blr3 (fun h => h)).trans c1
                        have yl := (hT.cell (p := ⟨ga, p, none⟩) gal (fun h => h)).trans hcx
                        have ym := (hT.cell (p := ⟨gh, p, none⟩) ghl (fun h => h)).trans hcy
                        go_simp
                        (try rw [if_pos (by omega)])
                        (try with_reducible rfl)
                      rotate_left
                      (try simp only [Act.put, List.setIfInBounds_toArray, List.set_cons_zero, List.set_cons_succ])
                      refine wpKeep_takeT (i := 13) (oi := ⟨some 186, _, _, _, _, _⟩) (v := ?_) rfl (by kernel_rfl) (by kernel_rfl) (by kernel_rfl) (by kernel_rfl) (fun _ _ _ h => h) (Or.inl ⟨by rfl, ?_⟩) (Keeps.refl _ _).drew (fun _ => trivial) ?_
                      rotate_left
                      · intro w' hT
                        have yb := (hT.cell (p := ⟨ob, 3, none⟩) blr3 (fun h => h)).trans c0
                        have yc := (hT.cell (p := ⟨ob, 4, none⟩) blr3 (fun h => h)).trans c1
                        have yl := (hT.cell (p := ⟨ga, p, none⟩) gal (fun h => h)).trans hcx
                        have ym := (hT.cell (p := ⟨gh, p, none⟩) ghl (fun h => h)).trans hcy
                        go_simp
                        (try rw [if_pos (by omega)])
                        (try with_reducible rfl)
                      rotate_left
                      (try simp only [Act.put, List.setIfInBounds_toArray, List.set_cons_zero, List.set_cons_succ])
                      refine wpKeep_ready (rs := [14]) (by kernel_rfl) (by simp) ?_
                      refine AllKeep.cons (o := ⟨some 187, _, _, _, _, _⟩) rfl (fun K hK => ?_) AllKeep.nil
                      go_simp
                      go_at_call 46
                      with_reducible refine (HMK.out _).mono ?_
                      rintro x w3 ⟨rfl, f3⟩
                      have f3 : Fresh wr w3 := (Keeps.refl (fun _ => False) wr).drew.trans f3
                      dsimp only
                      refine hK.out _ _ f3 (fun _ => trivial) ?_
                      clear hK K
                      (try simp only [Act.put, List.setIfInBounds_toArray, List.set_cons_zero, List.set_cons_succ])
                      refine wpKeep_ready (rs := [15]) (by kernel_rfl) (by simp) ?_
                      refine AllKeep.cons (o := ⟨some 188, _, _, _, _, _⟩) rfl (fun K hK => ?_) AllKeep.nil
                      go_simp
                      go_at_call 47
                      with_reducible refine (HRD.out _ f3).mono ?_
                      rintro x w4 ⟨rfl, f4⟩
                      have f4 : Fresh wr w4 := f3.trans f4
                      dsimp only
                      refine hK.out _ _ f4 (fun _ => trivial) ?_
                      clear hK K
                      (try simp only [Act.put, List.setIfInBounds_toArray, List.set_cons_zero, List.set_cons_succ])
                      refine wpKeep_takeT (i := 16) (oi := ⟨some 14, _, _, _, _, _⟩) (v := ?_) rfl (by kernel_rfl) (by kernel_rfl) (by kernel_rfl) (by kernel_rfl) (fun _ _ _ h => h) (Or.inl ⟨by rfl, ?_⟩) f4 (fun _ => trivial) ?_
                      rotate_left
                      · intro w' hT
                        go_simp
                        (try rw [if_pos (by omega)])
                        (try with_reducible rfl)
                      rotate_left
                      (try simp only [Act.put, List.setIfInBounds_toArray, List.set_cons_zero, List.set_cons_succ])
                      refine wpKeep_done (by kernel_rfl) ?_ _
                      go_wp2_with fail
                      go_roundw
                      case rel => exact ⟨p + 1, by go_num, by omega, fp.trans f4⟩
                      case measure => simp [intOf]; omega
                    · obtain rfl : p = A.length := by omega
                      clear hde hco c1
                      go_wp2_with fail
                      go_ret
                      exact ⟨rfl, HKW.out.trans (fp.mono (fun _ _ h => h.elim))⟩
end Go.Proofs.YtgikabafaocemaaDoor
