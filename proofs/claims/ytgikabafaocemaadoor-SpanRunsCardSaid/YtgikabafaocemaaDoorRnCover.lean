/-
  Package shape: Cover, of a span that begins at 0.
-/
import Derived.Test.YtgikabafaocemaaDoorRnFill
import Derived.Test.YtgikabafaocemaaDoorMSpA
namespace Go.Proofs.YtgikabafaocemaaDoor
open Go.RowKit

theorem Tryd.infoNode : (Tryd.prog.info? 72).map (fun i => (i.zero, i.size, i.bytes)) = some (some (.agg #[.int .i64 0, .int .i64 0]), 2, 16) := by kernel_rfl
/-- the cells of nodes: levels, indices -/
def ncells (l : List (Nat × Nat)) : List Value := l.flatMap fun x => [.int .i64 (x.2 : Int), .int .i64 ((x.1 / 2 ^ x.2 : Nat) : Int)]
theorem ncells_append (l m : List (Nat × Nat)) : ncells (l ++ m) = ncells l ++ ncells m := by simp [ncells]
theorem ncells_cell (l : List (Nat × Nat)) : ∀ u ∈ ncells l, u.oneCell' = true := by
  intro u hu
  obtain ⟨x, -, hx⟩ := List.mem_flatMap.1 hu
  simp only [List.mem_cons, List.not_mem_nil, or_false] at hx
  rcases hx with rfl | rfl <;> rfl

set_option maxRecDepth 100000 in
set_option maxHeartbeats 1000000 in
theorem clipNodes_any (ao : Option Addr) (n cap : Nat) (w : World) (hc : n ≤ cap) :
    Calls Tryd.prog 67 #[.slice ao n cap] w fun x w' => x = .returned (.slice ao n n) ∧ Fresh w w' := by
  go_enter Tryd.func67, Tryd.ntmps67
  go_wp2_with fail
  go_ret
  exact ⟨rfl, Keeps.refl _ _⟩
set_option maxRecDepth 100000 in
set_option maxHeartbeats 4000000 in
theorem cover_any (x : Nat) (w : World) (hx : x ≤ 1099511627776) :
    Calls Tryd.prog 27 #[.agg #[.int .i64 0, .int .i64 (x : Int)]] w fun e w' => ∃ ao l, e = .returned (.tuple #[.slice ao l.length l.length, .int .i64 0]) ∧ Cut 0 x l ∧ (∃ cap, w'.ownsRow 0 72 2 (.slice ao l.length cap) l.length (ncells l)) ∧ Fresh w w' := by
  obtain ⟨i0, hi, hz0, hz1, hz2⟩ := info_parts Tryd.infoNode
  have f0 : Fresh w (w.alloc (.cells #[.int .i64 0, .int .i64 (x : Int)] 24)) := (Keeps.refl _ _).alloc _
  have hb0 := heap_alloc_new w (.cells #[.int .i64 0, .int .i64 (x : Int)] 24)
  obtain ⟨W0, hW0⟩ : ∃ W0, w.alloc (.cells #[.int .i64 0, .int .i64 (x : Int)] 24) = W0 := ⟨_, rfl⟩
  obtain ⟨pb, hpb⟩ : ∃ pb, w.heap.size = pb := ⟨_, rfl⟩
  rw [hW0, hpb] at hb0
  rw [hW0] at f0
  have HW0 := hid hW0
  have HPB := hid hpb
  have HB0 := hid hb0
  have c0 := (cell_at hb0 0).trans (show _ = some (Value.int .i64 0) from rfl)
  have c1 := (cell_at hb0 1).trans (show _ = some (Value.int .i64 (x : Int)) from rfl)
  have cl := lt_of_block hb0
  have hxi : (x : Int) ≤ 1099511627776 := by omega
  have hx0 : (0 : Int) ≤ (x : Int) := by omega
  clear hW0 hpb hb0
  go_enter Tryd.func27, Tryd.ntmps27
  go_wp2_with fail
  rw [HW0.out, HPB.out]
  clear c0 c1 cl
  go_loopw [4, 5] (fun u a wr => ∃ (at_ : Nat) (out : List (Nat × Nat)), a = .int .i64 (at_ : Int) ∧ at_ ≤ x ∧ CutTo 0 at_ x out ∧ out.length ≤ at_ ∧ wr.ownsRow 0 72 2 u out.length (ncells out) ∧ (∀ g, u.ownBlock = some g → W0.heap.size ≤ g) ∧ Fresh W0 wr) (fun _ a _ => x - (intOf a).toNat)
  case atStart => exact ⟨0, [], rfl, Nat.zero_le _, CutTo.start 0 x, by simp, ⟨rfl, .inl ⟨rfl, rfl⟩⟩, (fun g hg => by simp [Value.ownBlock] at hg), Keeps.refl _ _⟩
  case round =>
    obtain ⟨at_, out, rfl, hax, hct, hol, hrow, hown, f⟩ := hrel
    have HCT := hid hct
    have HOL := hid hol
    have HO := hid hown
    obtain ⟨aou, cpu, rfl⟩ := ownsRow_slice hrow
    have HROW := hid hrow
    have hbr := f.at_ HB0.out (fun h => h)
    have c1 := (cell_at hbr 1).trans (show _ = some (Value.int .i64 (x : Int)) from rfl)
    have cl := lt_of_block hbr
    have hab : (at_ : Int) ≤ 1099511627776 := by omega
    by_cases hlt : at_ < x
    · have hlti : (at_ : Int) < (x : Int) := by omega
      have HLT := hid hlt
      clear hct hol hrow hown hbr hlt hax
      go_wp2_with fail
      clear hlti
      have HC1 := hid c1
      have HCL := hid cl
      clear c1 cl
      go_loopw [6] (fun i wx => ∃ k : Nat, i = .int .i64 (k : Int) ∧ at_ % 2 ^ k = 0 ∧ at_ + 2 ^ k ≤ x ∧ Fresh wr wx) (fun i _ => 64 - (intOf i).toNat)
      case atStart => exact ⟨0, rfl, by simp [Nat.mod_one], by have := HLT.out; simp; omega, Keeps.refl _ _⟩
      case round =>
        rename World => wx
        obtain ⟨k, rfl, hk1, hk2, fx⟩ := hrel
        have c1 := (fx.cell (p := ⟨pb, 1, none⟩) HCL.out (fun h => h)).trans HC1.out
        have cl : pb < wx.heap.size := Nat.lt_of_lt_of_le HCL.out fx.size
        have hp0 := pow_pos2 k
        have hk40 : k ≤ 40 := pow_le_of40 (by omega)
        have hki : (k : Int) ≤ 40 := by omega
        obtain ⟨P, hP⟩ : ∃ P, 2 ^ k = P := ⟨_, rfl⟩
        have hPi : (2 : Int) ^ k = (P : Int) := by rw [← hP]; simp
        have hQi : (at_ : Int) / 2 ^ k = ((at_ / 2 ^ k : Nat) : Int) := by simp
        have hand := and_nat (a := at_ / 2 ^ k) (b := 1) (by have := Nat.div_le_self at_ (2 ^ k); omega) (by omega)
        rw [Nat.and_one_is_mod, show ((1 : Nat) : Int) = 1 from rfl] at hand
        have hQle := Nat.div_le_self at_ (2 ^ k)
        obtain ⟨Q, hQ⟩ : ∃ Q, at_ / 2 ^ k = Q := ⟨_, rfl⟩
        rw [hQ] at hQi hand hQle
        rw [hPi] at hQi
        have hPb : (P : Int) ≤ 1099511627776 := by omega
        have hPb0 : (0 : Int) ≤ (P : Int) := by omega
        have hQb : (Q : Int) ≤ 1099511627776 := by omega
        have HK1 := hid hk1
        have HK2 := hid hk2
        have HQ := hid hQ
        have HP := hid hP
        have HK40 := hid hk40
        clear hQle hk1 hk2 hQ hP hp0 hk40
        obtain ⟨P2, hP2⟩ : ∃ P2, 2 * P = P2 := ⟨_, rfl⟩
        obtain ⟨S, hS⟩ : ∃ S, at_ + P2 = S := ⟨_, rfl⟩
        obtain ⟨NA, hNA⟩ : ∃ NA, at_ + P = NA := ⟨_, rfl⟩
        have w1 : IntKind.i64.wrap (2 * (P : Int)) = (P2 : Int) := by rw [IntWalk.i64_in _ (by omega)]; omega
        have w2 : IntKind.i64.wrap ((at_ : Int) + (P2 : Int)) = (S : Int) := by rw [IntWalk.i64_in _ (by omega)]; omega
        have hna : (at_ : Int) + (P : Int) = (NA : Int) := by omega
        have HP2 := hid hP2
        have HS := hid hS
        have HNA := hid hNA
        have hlev : ¬ (Q % 2 = 0 ∧ S ≤ x) → Lev at_ x k := fun h => ⟨HK1.out, HK2.out, fun z => h ⟨by rw [← HQ.out]; exact div_even z.1, by have := z.2; rw [pow_succ2, HP.out] at this; omega⟩⟩
        have HLEVF := hid hlev
        clear hP2 hS hNA hlev
        by_cases hbt : Q % 2 = 0
        · have HBT := hid hbt
          rw [hbt, show ((0 : Nat) : Int) = 0 from rfl] at hand
          by_cases hfit : S ≤ x
          · have hfi : (S : Int) ≤ (x : Int) := by omega
            have HFIT := hid hfit
            clear hbt hfit
            go_wp2_with fail
            refine wp_region_keep 14 (fun w' => Fresh wx w') (fun _ => True) (fun _ => true) (by kernel_rfl) (by kernel_rfl) ?_
            (try (change wpKeep _ _ _ _ _ _ _ _ _ _ (World.drew _)))
            refine wpKeep_takeT (i := 0) (oi := ⟨some 28, _, _, _, _, _⟩) (v := ?_) rfl (by kernel_rfl) (by kernel_rfl) (by kernel_rfl) (by kernel_rfl) (fun _ _ _ h => h) (Or.inl ⟨by rfl, ?_⟩) (Keeps.refl _ _).drew (fun _ => trivial) ?_
            rotate_left
            · intro w' hT
              have y1 := (hT.cell (p := ⟨pb, 1, none⟩) cl (fun h => h)).trans c1
              go_simp
              (try rw [if_pos (by omega)])
              (try with_reducible rfl)
            rotate_left
            (try simp only [Act.put, List.setIfInBounds_toArray, List.set_cons_zero, List.set_cons_succ])
            refine wpKeep_takeT (i := 1) (oi := ⟨some 29, _, _, _, _, _⟩) (v := ?_) rfl (by kernel_rfl) (by kernel_rfl) (by kernel_rfl) (by kernel_rfl) (fun _ _ _ h => h) (Or.inl ⟨by rfl, ?_⟩) (Keeps.refl _ _).drew (fun _ => trivial) ?_
            rotate_left
            · intro w' hT
              have y1 := (hT.cell (p := ⟨pb, 1, none⟩) cl (fun h => h)).trans c1
              go_simp
              (try rw [if_pos (by omega)])
              (try with_reducible rfl)
            rotate_left
            (try simp only [Act.put, List.setIfInBounds_toArray, List.set_cons_zero, List.set_cons_succ])
            refine wpKeep_takeT (i := 2) (oi := ⟨some 30, _, _, _, _, _⟩) (v := ?_) rfl (by kernel_rfl) (by kernel_rfl) (by kernel_rfl) (by kernel_rfl) (fun _ _ _ h => h) (Or.inl ⟨by rfl, ?_⟩) (Keeps.refl _ _).drew (fun _ => trivial) ?_
            rotate_left
            · intro w' hT
              have y1 := (hT.cell (p := ⟨pb, 1, none⟩) cl (fun h => h)).trans c1
              go_simp
              (try rw [if_pos (by omega)])
              (try with_reducible rfl)
            rotate_left
            (try simp only [Act.put, List.setIfInBounds_toArray, List.set_cons_zero, List.set_cons_succ])
            refine wpKeep_takeT (i := 3) (oi := ⟨some 31, _, _, _, _, _⟩) (v := ?_) rfl (by kernel_rfl) (by kernel_rfl) (by kernel_rfl) (by kernel_rfl) (fun _ _ _ h => h) (Or.inl ⟨by rfl, ?_⟩) (Keeps.refl _ _).drew (fun _ => trivial) ?_
            rotate_left
            · intro w' hT
              have y1 := (hT.cell (p := ⟨pb, 1, none⟩) cl (fun h => h)).trans c1
              go_simp
              (try rw [if_pos (by omega)])
              (try with_reducible rfl)
            rotate_left
            (try simp only [Act.put, List.setIfInBounds_toArray, List.set_cons_zero, List.set_cons_succ])
            refine wpKeep_takeT (i := 4) (oi := ⟨some 32, _, _, _, _, _⟩) (v := ?_) rfl (by kernel_rfl) (by kernel_rfl) (by kernel_rfl) (by kernel_rfl) (fun _ _ _ h => h) (Or.inl ⟨by rfl, ?_⟩) (Keeps.refl _ _).drew (fun _ => trivial) ?_
            rotate_left
            · intro w' hT
              have y1 := (hT.cell (p := ⟨pb, 1, none⟩) cl (fun h => h)).trans c1
              go_simp
              (try rw [if_pos (by omega)])
              (try with_reducible rfl)
            rotate_left
            (try simp only [Act.put, List.setIfInBounds_toArray, List.set_cons_zero, List.set_cons_succ])
            refine wpKeep_takeT (i := 5) (oi := ⟨some 33, _, _, _, _, _⟩) (v := ?_) rfl (by kernel_rfl) (by kernel_rfl) (by kernel_rfl) (by kernel_rfl) (fun _ _ _ h => h) (Or.inl ⟨by rfl, ?_⟩) (Keeps.refl _ _).drew (fun _ => trivial) ?_
            rotate_left
            · intro w' hT
              have y1 := (hT.cell (p := ⟨pb, 1, none⟩) cl (fun h => h)).trans c1
              go_simp
              (try rw [if_pos (by omega)])
              (try with_reducible rfl)
            rotate_left
            (try simp only [Act.put, List.setIfInBounds_toArray, List.set_cons_zero, List.set_cons_succ])
            refine wpKeep_takeT (i := 6) (oi := ⟨some 34, _, _, _, _, _⟩) (v := ?_) rfl (by kernel_rfl) (by kernel_rfl) (by kernel_rfl) (by kernel_rfl) (fun _ _ _ h => h) (Or.inl ⟨by rfl, ?_⟩) (Keeps.refl _ _).drew (fun _ => trivial) ?_
            rotate_left
            · intro w' hT
              have y1 := (hT.cell (p := ⟨pb, 1, none⟩) cl (fun h => h)).trans c1
              go_simp
              (try rw [if_pos (by omega)])
              (try with_reducible rfl)
            rotate_left
            (try simp only [Act.put, List.setIfInBounds_toArray, List.set_cons_zero, List.set_cons_succ])
            refine wpKeep_takeT (i := 7) (oi := ⟨some 35, _, _, _, _, _⟩) (v := ?_) rfl (by kernel_rfl) (by kernel_rfl) (by kernel_rfl) (by kernel_rfl) (fun _ _ _ h => h) (Or.inl ⟨by rfl, ?_⟩) (Keeps.refl _ _).drew (fun _ => trivial) ?_
            rotate_left
            · intro w' hT
              have y1 := (hT.cell (p := ⟨pb, 1, none⟩) cl (fun h => h)).trans c1
              go_simp
              (try rw [if_pos (by omega)])
              (try with_reducible rfl)
            rotate_left
            (try simp only [Act.put, List.setIfInBounds_toArray, List.set_cons_zero, List.set_cons_succ])
            refine wpKeep_takeT (i := 8) (oi := ⟨some 36, _, _, _, _, _⟩) (v := ?_) rfl (by kernel_rfl) (by kernel_rfl) (by kernel_rfl) (by kernel_rfl) (fun _ _ _ h => h) (Or.inl ⟨by rfl, ?_⟩) (Keeps.refl _ _).drew (fun _ => trivial) ?_
            rotate_left
            · intro w' hT
              have y1 := (hT.cell (p := ⟨pb, 1, none⟩) cl (fun h => h)).trans c1
              go_simp
              (try rw [if_pos (by omega)])
              (try with_reducible rfl)
            rotate_left
            (try simp only [Act.put, List.setIfInBounds_toArray, List.set_cons_zero, List.set_cons_succ])
            refine wpKeep_takeT (i := 9) (oi := ⟨some 37, _, _, _, _, _⟩) (v := ?_) rfl (by kernel_rfl) (by kernel_rfl) (by kernel_rfl) (by kernel_rfl) (fun _ _ _ h => h) (Or.inl ⟨by rfl, ?_⟩) (Keeps.refl _ _).drew (fun _ => trivial) ?_
            rotate_left
            · intro w' hT
              have y1 := (hT.cell (p := ⟨pb, 1, none⟩) cl (fun h => h)).trans c1
              go_simp
              (try rw [if_pos (by omega)])
              (try with_reducible rfl)
            rotate_left
            (try simp only [Act.put, List.setIfInBounds_toArray, List.set_cons_zero, List.set_cons_succ])
            refine wpKeep_takeT (i := 10) (oi := ⟨some 38, _, _, _, _, _⟩) (v := ?_) rfl (by kernel_rfl) (by kernel_rfl) (by kernel_rfl) (by kernel_rfl) (fun _ _ _ h => h) (Or.inl ⟨by rfl, ?_⟩) (Keeps.refl _ _).drew (fun _ => trivial) ?_
            rotate_left
            · intro w' hT
              have y1 := (hT.cell (p := ⟨pb, 1, none⟩) cl (fun h => h)).trans c1
              go_simp
              (try rw [if_pos (by omega)])
              (try with_reducible rfl)
            rotate_left
            (try simp only [Act.put, List.setIfInBounds_toArray, List.set_cons_zero, List.set_cons_succ])
            refine wpKeep_takeT (i := 11) (oi := ⟨some 39, _, _, _, _, _⟩) (v := ?_) rfl (by kernel_rfl) (by kernel_rfl) (by kernel_rfl) (by kernel_rfl) (fun _ _ _ h => h) (Or.inl ⟨by rfl, ?_⟩) (Keeps.refl _ _).drew (fun _ => trivial) ?_
            rotate_left
            · intro w' hT
              have y1 := (hT.cell (p := ⟨pb, 1, none⟩) cl (fun h => h)).trans c1
              go_simp
              (try rw [if_pos (by omega)])
              (try with_reducible rfl)
            rotate_left
            (try simp only [Act.put, List.setIfInBounds_toArray, List.set_cons_zero, List.set_cons_succ])
            refine wpKeep_takeT (i := 12) (oi := ⟨some 40, _, _, _, _, _⟩) (v := ?_) rfl (by kernel_rfl) (by kernel_rfl) (by kernel_rfl) (by kernel_rfl) (fun _ _ _ h => h) (Or.inl ⟨by rfl, ?_⟩) (Keeps.refl _ _).drew (fun _ => trivial) ?_
            rotate_left
            · intro w' hT
              have y1 := (hT.cell (p := ⟨pb, 1, none⟩) cl (fun h => h)).trans c1
              go_simp
              (try rw [if_pos (by omega)])
              (try with_reducible rfl)
            rotate_left
            (try simp only [Act.put, List.setIfInBounds_toArray, List.set_cons_zero, List.set_cons_succ])
            refine wpKeep_takeT (i := 13) (oi := ⟨some 41, _, _, _, _, _⟩) (v := ?_) rfl (by kernel_rfl) (by kernel_rfl) (by kernel_rfl) (by kernel_rfl) (fun _ _ _ h => h) (Or.inl ⟨by rfl, ?_⟩) (Keeps.refl _ _).drew (fun _ => trivial) ?_
            rotate_left
            · intro w' hT
              have y1 := (hT.cell (p := ⟨pb, 1, none⟩) cl (fun h => h)).trans c1
              go_simp
              (try rw [if_pos (by omega)])
              (try with_reducible rfl)
            rotate_left
            (try simp only [Act.put, List.setIfInBounds_toArray, List.set_cons_zero, List.set_cons_succ])
            refine wpKeep_done (by kernel_rfl) ?_ _
            clear w1 w2 c1 hna
            go_wp2_with fail
            go_roundw
            case rel => exact ⟨k + 1, by go_num, even_mod HK1.out (by rw [HQ.out]; exact HBT.out), by rw [pow_succ2, HP.out]; have := HFIT.out; have := HS.out; have := HP2.out; omega, fx.drew⟩
            case measure => have := HK40.out; simp [intOf]; omega
          · have hfi : ¬ S ≤ x := hfit
            have HLEV := hid (HLEVF.out (fun z => hfit z.2))
            clear hbt hfit
            go_wp2_with fail
            refine wp_region_keep 14 (fun w' => Fresh wx w') (fun _ => True) (fun _ => true) (by kernel_rfl) (by kernel_rfl) ?_
            (try (change wpKeep _ _ _ _ _ _ _ _ _ _ (World.drew _)))
            refine wpKeep_takeT (i := 0) (oi := ⟨some 28, _, _, _, _, _⟩) (v := ?_) rfl (by kernel_rfl) (by kernel_rfl) (by kernel_rfl) (by kernel_rfl) (fun _ _ _ h => h) (Or.inl ⟨by rfl, ?_⟩) (Keeps.refl _ _).drew (fun _ => trivial) ?_
            rotate_left
            · intro w' hT
              have y1 := (hT.cell (p := ⟨pb, 1, none⟩) cl (fun h => h)).trans c1
              go_simp
              (try rw [if_pos (by omega)])
              (try with_reducible rfl)
            rotate_left
            (try simp only [Act.put, List.setIfInBounds_toArray, List.set_cons_zero, List.set_cons_succ])
            refine wpKeep_takeT (i := 1) (oi := ⟨some 29, _, _, _, _, _⟩) (v := ?_) rfl (by kernel_rfl) (by kernel_rfl) (by kernel_rfl) (by kernel_rfl) (fun _ _ _ h => h) (Or.inl ⟨by rfl, ?_⟩) (Keeps.refl _ _).drew (fun _ => trivial) ?_
            rotate_left
            · intro w' hT
              have y1 := (hT.cell (p := ⟨pb, 1, none⟩) cl (fun h => h)).trans c1
              go_simp
              (try rw [if_pos (by omega)])
              (try with_reducible rfl)
            rotate_left
            (try simp only [Act.put, List.setIfInBounds_toArray, List.set_cons_zero, List.set_cons_succ])
            refine wpKeep_takeT (i := 2) (oi := ⟨some 30, _, _, _, _, _⟩) (v := ?_) rfl (by kernel_rfl) (by kernel_rfl) (by kernel_rfl) (by kernel_rfl) (fun _ _ _ h => h) (Or.inl ⟨by rfl, ?_⟩) (Keeps.refl _ _).drew (fun _ => trivial) ?_
            rotate_left
            · intro w' hT
              have y1 := (hT.cell (p := ⟨pb, 1, none⟩) cl (fun h => h)).trans c1
              go_simp
              (try rw [if_pos (by omega)])
              (try with_reducible rfl)
            rotate_left
            (try simp only [Act.put, List.setIfInBounds_toArray, List.set_cons_zero, List.set_cons_succ])
            refine wpKeep_takeT (i := 3) (oi := ⟨some 31, _, _, _, _, _⟩) (v := ?_) rfl (by kernel_rfl) (by kernel_rfl) (by kernel_rfl) (by kernel_rfl) (fun _ _ _ h => h) (Or.inl ⟨by rfl, ?_⟩) (Keeps.refl _ _).drew (fun _ => trivial) ?_
            rotate_left
            · intro w' hT
              have y1 := (hT.cell (p := ⟨pb, 1, none⟩) cl (fun h => h)).trans c1
              go_simp
              (try rw [if_pos (by omega)])
              (try with_reducible rfl)
            rotate_left
            (try simp only [Act.put, List.setIfInBounds_toArray, List.set_cons_zero, List.set_cons_succ])
            refine wpKeep_takeT (i := 4) (oi := ⟨some 32, _, _, _, _, _⟩) (v := ?_) rfl (by kernel_rfl) (by kernel_rfl) (by kernel_rfl) (by kernel_rfl) (fun _ _ _ h => h) (Or.inl ⟨by rfl, ?_⟩) (Keeps.refl _ _).drew (fun _ => trivial) ?_
            rotate_left
            · intro w' hT
              have y1 := (hT.cell (p := ⟨pb, 1, none⟩) cl (fun h => h)).trans c1
              go_simp
              (try rw [if_pos (by omega)])
              (try with_reducible rfl)
            rotate_left
            (try simp only [Act.put, List.setIfInBounds_toArray, List.set_cons_zero, List.set_cons_succ])
            refine wpKeep_takeT (i := 5) (oi := ⟨some 33, _, _, _, _, _⟩) (v := ?_) rfl (by kernel_rfl) (by kernel_rfl) (by kernel_rfl) (by kernel_rfl) (fun _ _ _ h => h) (Or.inl ⟨by rfl, ?_⟩) (Keeps.refl _ _).drew (fun _ => trivial) ?_
            rotate_left
            · intro w' hT
              have y1 := (hT.cell (p := ⟨pb, 1, none⟩) cl (fun h => h)).trans c1
              go_simp
              (try rw [if_pos (by omega)])
              (try with_reducible rfl)
            rotate_left
            (try simp only [Act.put, List.setIfInBounds_toArray, List.set_cons_zero, List.set_cons_succ])
            refine wpKeep_takeT (i := 6) (oi := ⟨some 34, _, _, _, _, _⟩) (v := ?_) rfl (by kernel_rfl) (by kernel_rfl) (by kernel_rfl) (by kernel_rfl) (fun _ _ _ h => h) (Or.inl ⟨by rfl, ?_⟩) (Keeps.refl _ _).drew (fun _ => trivial) ?_
            rotate_left
            · intro w' hT
              have y1 := (hT.cell (p := ⟨pb, 1, none⟩) cl (fun h => h)).trans c1
              go_simp
              (try rw [if_pos (by omega)])
              (try with_reducible rfl)
            rotate_left
            (try simp only [Act.put, List.setIfInBounds_toArray, List.set_cons_zero, List.set_cons_succ])
            refine wpKeep_takeT (i := 7) (oi := ⟨some 35, _, _, _, _, _⟩) (v := ?_) rfl (by kernel_rfl) (by kernel_rfl) (by kernel_rfl) (by kernel_rfl) (fun _ _ _ h => h) (Or.inl ⟨by rfl, ?_⟩) (Keeps.refl _ _).drew (fun _ => trivial) ?_
            rotate_left
            · intro w' hT
              have y1 := (hT.cell (p := ⟨pb, 1, none⟩) cl (fun h => h)).trans c1
              go_simp
              (try rw [if_pos (by omega)])
              (try with_reducible rfl)
            rotate_left
            (try simp only [Act.put, List.setIfInBounds_toArray, List.set_cons_zero, List.set_cons_succ])
            refine wpKeep_takeT (i := 8) (oi := ⟨some 36, _, _, _, _, _⟩) (v := ?_) rfl (by kernel_rfl) (by kernel_rfl) (by kernel_rfl) (by kernel_rfl) (fun _ _ _ h => h) (Or.inl ⟨by rfl, ?_⟩) (Keeps.refl _ _).drew (fun _ => trivial) ?_
            rotate_left
            · intro w' hT
              have y1 := (hT.cell (p := ⟨pb, 1, none⟩) cl (fun h => h)).trans c1
              go_simp
              (try rw [if_pos (by omega)])
              (try with_reducible rfl)
            rotate_left
            (try simp only [Act.put, List.setIfInBounds_toArray, List.set_cons_zero, List.set_cons_succ])
            refine wpKeep_takeT (i := 9) (oi := ⟨some 37, _, _, _, _, _⟩) (v := ?_) rfl (by kernel_rfl) (by kernel_rfl) (by kernel_rfl) (by kernel_rfl) (fun _ _ _ h => h) (Or.inl ⟨by rfl, ?_⟩) (Keeps.refl _ _).drew (fun _ => trivial) ?_
            rotate_left
            · intro w' hT
              have y1 := (hT.cell (p := ⟨pb, 1, none⟩) cl (fun h => h)).trans c1
              go_simp
              (try rw [if_pos (by omega)])
              (try with_reducible rfl)
            rotate_left
            (try simp only [Act.put, List.setIfInBounds_toArray, List.set_cons_zero, List.set_cons_succ])
            refine wpKeep_takeT (i := 10) (oi := ⟨some 38, _, _, _, _, _⟩) (v := ?_) rfl (by kernel_rfl) (by kernel_rfl) (by kernel_rfl) (by kernel_rfl) (fun _ _ _ h => h) (Or.inl ⟨by rfl, ?_⟩) (Keeps.refl _ _).drew (fun _ => trivial) ?_
            rotate_left
            · intro w' hT
              have y1 := (hT.cell (p := ⟨pb, 1, none⟩) cl (fun h => h)).trans c1
              go_simp
              (try rw [if_pos (by omega)])
              (try with_reducible rfl)
            rotate_left
            (try simp only [Act.put, List.setIfInBounds_toArray, List.set_cons_zero, List.set_cons_succ])
            refine wpKeep_takeT (i := 11) (oi := ⟨some 39, _, _, _, _, _⟩) (v := ?_) rfl (by kernel_rfl) (by kernel_rfl) (by kernel_rfl) (by kernel_rfl) (fun _ _ _ h => h) (Or.inl ⟨by rfl, ?_⟩) (Keeps.refl _ _).drew (fun _ => trivial) ?_
            rotate_left
            · intro w' hT
              have y1 := (hT.cell (p := ⟨pb, 1, none⟩) cl (fun h => h)).trans c1
              go_simp
              (try rw [if_pos (by omega)])
              (try with_reducible rfl)
            rotate_left
            (try simp only [Act.put, List.setIfInBounds_toArray, List.set_cons_zero, List.set_cons_succ])
            refine wpKeep_takeT (i := 12) (oi := ⟨some 40, _, _, _, _, _⟩) (v := ?_) rfl (by kernel_rfl) (by kernel_rfl) (by kernel_rfl) (by kernel_rfl) (fun _ _ _ h => h) (Or.inl ⟨by rfl, ?_⟩) (Keeps.refl _ _).drew (fun _ => trivial) ?_
            rotate_left
            · intro w' hT
              have y1 := (hT.cell (p := ⟨pb, 1, none⟩) cl (fun h => h)).trans c1
              go_simp
              (try rw [if_pos (by omega)])
              (try with_reducible rfl)
            rotate_left
            (try simp only [Act.put, List.setIfInBounds_toArray, List.set_cons_zero, List.set_cons_succ])
            refine wpKeep_takeT (i := 13) (oi := ⟨some 41, _, _, _, _, _⟩) (v := ?_) rfl (by kernel_rfl) (by kernel_rfl) (by kernel_rfl) (by kernel_rfl) (fun _ _ _ h => h) (Or.inl ⟨by rfl, ?_⟩) (Keeps.refl _ _).drew (fun _ => trivial) ?_
            rotate_left
            · intro w' hT
              have y1 := (hT.cell (p := ⟨pb, 1, none⟩) cl (fun h => h)).trans c1
              go_simp
              (try rw [if_pos (by omega)])
              (try with_reducible rfl)
            rotate_left
            (try simp only [Act.put, List.setIfInBounds_toArray, List.set_cons_zero, List.set_cons_succ])
            refine wpKeep_done (by kernel_rfl) ?_ _
            clear w1 w2 c1 hfi
            have frx : Fresh W0 (wx.drew) := (f.trans fx).drew
            have hrW := ownsRow_keeps HROW.out (fx.drew) (fun _ _ h => h)
            go_wp2_with (at_builtin; refine wpList_pushN rfl (.tmp 44) (.tmp 50) 63 rfl 72 i0 (.agg #[.int .i64 0, .int .i64 0]) 2 16 Tryd.underlying63 hi hz0 hz1 hz2 rfl (by decide) wx.drew hrW #[.int .i64 (k : Int), .int .i64 (Q : Int)] rfl (by rfl) (by rfl) (by simp [Value.oneCell']) (by have := HOL.out; omega) (by have := HOL.out; unfold maxLen; omega) ?_)
            intro v5 w5 ha
            have hrow5 := ha.row
            have hnc : ([Value.int .i64 (k : Int), .int .i64 (Q : Int)] : List Value) = ncells [(at_, k)] := by rw [← HQ.out]; rfl
            rw [hnc, ← ncells_append] at hrow5
            have f5 : Fresh W0 w5 := frx.trans' ha.keeps (fun q hq e => by have := HO.out q e; omega)
            have o5 : ∀ g, v5.ownBlock = some g → W0.heap.size ≤ g := fun g hg => by
              rcases ha.own g hg with z | z
              · exact HO.out g z
              · have := z.1; have := frx.size; omega
            obtain ⟨ao5, cp5, rfl⟩ := ownsRow_slice ha.row
            have hstep := HCT.out.step HLEV.out
            rw [HP.out, HNA.out] at hstep
            have HSTEP := hid hstep
            have HR5 := hid hrow5
            have hnax := HLEV.out.2.1
            rw [HP.out, HNA.out] at hnax
            clear ha hrow5 hnc hstep frx hrW
            go_wp2_with fail
            go_roundw
            case rel => exact ⟨NA, out ++ [(at_, k)], rfl, hnax, HSTEP.out, by rw [List.length_append]; have := HOL.out; have := HNA.out; have := HP.out; have := pow_pos2 k; simp only [List.length_singleton]; omega, by rw [List.length_append]; exact HR5.out, o5, f5⟩
            case measure => have := HNA.out; have := HP.out; have := pow_pos2 k; simp [intOf]; omega
        · have HLEV := hid (HLEVF.out (fun z => hbt z.1))
          have hb1 : Q % 2 = 1 := by omega
          rw [hb1, show ((1 : Nat) : Int) = 1 from rfl] at hand
          clear hbt hb1
          go_wp2_with fail
          refine wp_region_keep 14 (fun w' => Fresh wx w') (fun _ => True) (fun _ => true) (by kernel_rfl) (by kernel_rfl) ?_
          (try (change wpKeep _ _ _ _ _ _ _ _ _ _ (World.drew _)))
          refine wpKeep_takeT (i := 0) (oi := ⟨some 28, _, _, _, _, _⟩) (v := ?_) rfl (by kernel_rfl) (by kernel_rfl) (by kernel_rfl) (by kernel_rfl) (fun _ _ _ h => h) (Or.inl ⟨by rfl, ?_⟩) (Keeps.refl _ _).drew (fun _ => trivial) ?_
          rotate_left
          · intro w' hT
            have y1 := (hT.cell (p := ⟨pb, 1, none⟩) cl (fun h => h)).trans c1
            go_simp
            (try rw [if_pos (by omega)])
            (try with_reducible rfl)
          rotate_left
          (try simp only [Act.put, List.setIfInBounds_toArray, List.set_cons_zero, List.set_cons_succ])
          refine wpKeep_takeT (i := 1) (oi := ⟨some 29, _, _, _, _, _⟩) (v := ?_) rfl (by kernel_rfl) (by kernel_rfl) (by kernel_rfl) (by kernel_rfl) (fun _ _ _ h => h) (Or.inl ⟨by rfl, ?_⟩) (Keeps.refl _ _).drew (fun _ => trivial) ?_
          rotate_left
          · intro w' hT
            have y1 := (hT.cell (p := ⟨pb, 1, none⟩) cl (fun h => h)).trans c1
            go_simp
            (try rw [if_pos (by omega)])
            (try with_reducible rfl)
          rotate_left
          (try simp only [Act.put, List.setIfInBounds_toArray, List.set_cons_zero, List.set_cons_succ])
          refine wpKeep_takeT (i := 2) (oi := ⟨some 30, _, _, _, _, _⟩) (v := ?_) rfl (by kernel_rfl) (by kernel_rfl) (by kernel_rfl) (by kernel_rfl) (fun _ _ _ h => h) (Or.inl ⟨by rfl, ?_⟩) (Keeps.refl _ _).drew (fun _ => trivial) ?_
          rotate_left
          · intro w' hT
            have y1 := (hT.cell (p := ⟨pb, 1, none⟩) cl (fun h => h)).trans c1
            go_simp
            (try rw [if_pos (by omega)])
            (try with_reducible rfl)
          rotate_left
          (try simp only [Act.put, List.setIfInBounds_toArray, List.set_cons_zero, List.set_cons_succ])
          refine wpKeep_takeT (i := 3) (oi := ⟨some 31, _, _, _, _, _⟩) (v := ?_) rfl (by kernel_rfl) (by kernel_rfl) (by kernel_rfl) (by kernel_rfl) (fun _ _ _ h => h) (Or.inl ⟨by rfl, ?_⟩) (Keeps.refl _ _).drew (fun _ => trivial) ?_
          rotate_left
          · intro w' hT
            have y1 := (hT.cell (p := ⟨pb, 1, none⟩) cl (fun h => h)).trans c1
            go_simp
            (try rw [if_pos (by omega)])
            (try with_reducible rfl)
          rotate_left
          (try simp only [Act.put, List.setIfInBounds_toArray, List.set_cons_zero, List.set_cons_succ])
          refine wpKeep_takeT (i := 4) (oi := ⟨some 32, _, _, _, _, _⟩) (v := ?_) rfl (by kernel_rfl) (by kernel_rfl) (by kernel_rfl) (by kernel_rfl) (fun _ _ _ h => h) (Or.inl ⟨by rfl, ?_⟩) (Keeps.refl _ _).drew (fun _ => trivial) ?_
          rotate_left
          · intro w' hT
            have y1 := (hT.cell (p := ⟨pb, 1, none⟩) cl (fun h => h)).trans c1
            go_simp
            (try rw [if_pos (by omega)])
            (try with_reducible rfl)
          rotate_left
          (try simp only [Act.put, List.setIfInBounds_toArray, List.set_cons_zero, List.set_cons_succ])
          refine wpKeep_takeT (i := 5) (oi := ⟨some 33, _, _, _, _, _⟩) (v := ?_) rfl (by kernel_rfl) (by kernel_rfl) (by kernel_rfl) (by kernel_rfl) (fun _ _ _ h => h) (Or.inl ⟨by rfl, ?_⟩) (Keeps.refl _ _).drew (fun _ => trivial) ?_
          rotate_left
          · intro w' hT
            have y1 := (hT.cell (p := ⟨pb, 1, none⟩) cl (fun h => h)).trans c1
            go_simp
            (try rw [if_pos (by omega)])
            (try with_reducible rfl)
          rotate_left
          (try simp only [Act.put, List.setIfInBounds_toArray, List.set_cons_zero, List.set_cons_succ])
          refine wpKeep_takeT (i := 6) (oi := ⟨some 34, _, _, _, _, _⟩) (v := undef) rfl (by kernel_rfl) (by kernel_rfl) (by kernel_rfl) (by kernel_rfl) (fun _ _ _ h => h) (Or.inr ⟨by rfl, rfl⟩) (Keeps.refl _ _).drew (fun _ => trivial) ?_
          (try simp only [Act.put, List.setIfInBounds_toArray, List.set_cons_zero, List.set_cons_succ])
          refine wpKeep_takeT (i := 7) (oi := ⟨some 35, _, _, _, _, _⟩) (v := undef) rfl (by kernel_rfl) (by kernel_rfl) (by kernel_rfl) (by kernel_rfl) (fun _ _ _ h => h) (Or.inr ⟨by rfl, rfl⟩) (Keeps.refl _ _).drew (fun _ => trivial) ?_
          (try simp only [Act.put, List.setIfInBounds_toArray, List.set_cons_zero, List.set_cons_succ])
          refine wpKeep_takeT (i := 8) (oi := ⟨some 36, _, _, _, _, _⟩) (v := undef) rfl (by kernel_rfl) (by kernel_rfl) (by kernel_rfl) (by kernel_rfl) (fun _ _ _ h => h) (Or.inr ⟨by rfl, rfl⟩) (Keeps.refl _ _).drew (fun _ => trivial) ?_
          (try simp only [Act.put, List.setIfInBounds_toArray, List.set_cons_zero, List.set_cons_succ])
          refine wpKeep_takeT (i := 9) (oi := ⟨some 37, _, _, _, _, _⟩) (v := undef) rfl (by kernel_rfl) (by kernel_rfl) (by kernel_rfl) (by kernel_rfl) (fun _ _ _ h => h) (Or.inr ⟨by rfl, rfl⟩) (Keeps.refl _ _).drew (fun _ => trivial) ?_
          (try simp only [Act.put, List.setIfInBounds_toArray, List.set_cons_zero, List.set_cons_succ])
          refine wpKeep_takeT (i := 10) (oi := ⟨some 38, _, _, _, _, _⟩) (v := undef) rfl (by kernel_rfl) (by kernel_rfl) (by kernel_rfl) (by kernel_rfl) (fun _ _ _ h => h) (Or.inr ⟨by rfl, rfl⟩) (Keeps.refl _ _).drew (fun _ => trivial) ?_
          (try simp only [Act.put, List.setIfInBounds_toArray, List.set_cons_zero, List.set_cons_succ])
          refine wpKeep_takeT (i := 11) (oi := ⟨some 39, _, _, _, _, _⟩) (v := undef) rfl (by kernel_rfl) (by kernel_rfl) (by kernel_rfl) (by kernel_rfl) (fun _ _ _ h => h) (Or.inr ⟨by rfl, rfl⟩) (Keeps.refl _ _).drew (fun _ => trivial) ?_
          (try simp only [Act.put, List.setIfInBounds_toArray, List.set_cons_zero, List.set_cons_succ])
          refine wpKeep_takeT (i := 12) (oi := ⟨some 40, _, _, _, _, _⟩) (v := undef) rfl (by kernel_rfl) (by kernel_rfl) (by kernel_rfl) (by kernel_rfl) (fun _ _ _ h => h) (Or.inr ⟨by rfl, rfl⟩) (Keeps.refl _ _).drew (fun _ => trivial) ?_
          (try simp only [Act.put, List.setIfInBounds_toArray, List.set_cons_zero, List.set_cons_succ])
          refine wpKeep_takeT (i := 13) (oi := ⟨some 41, _, _, _, _, _⟩) (v := ?_) rfl (by kernel_rfl) (by kernel_rfl) (by kernel_rfl) (by kernel_rfl) (fun _ _ _ h => h) (Or.inl ⟨by rfl, ?_⟩) (Keeps.refl _ _).drew (fun _ => trivial) ?_
          rotate_left
          · intro w' hT
            have y1 := (hT.cell (p := ⟨pb, 1, none⟩) cl (fun h => h)).trans c1
            go_simp
            (try rw [if_pos (by omega)])
            (try with_reducible rfl)
          rotate_left
          (try simp only [Act.put, List.setIfInBounds_toArray, List.set_cons_zero, List.set_cons_succ])
          refine wpKeep_done (by kernel_rfl) ?_ _
          clear w1 w2 c1
          have frx : Fresh W0 (wx.drew) := (f.trans fx).drew
          have hrW := ownsRow_keeps HROW.out (fx.drew) (fun _ _ h => h)
          go_wp2_with (at_builtin; refine wpList_pushN rfl (.tmp 44) (.tmp 50) 63 rfl 72 i0 (.agg #[.int .i64 0, .int .i64 0]) 2 16 Tryd.underlying63 hi hz0 hz1 hz2 rfl (by decide) wx.drew hrW #[.int .i64 (k : Int), .int .i64 (Q : Int)] rfl (by rfl) (by rfl) (by simp [Value.oneCell']) (by have := HOL.out; omega) (by have := HOL.out; unfold maxLen; omega) ?_)
          intro v5 w5 ha
          have hrow5 := ha.row
          have hnc : ([Value.int .i64 (k : Int), .int .i64 (Q : Int)] : List Value) = ncells [(at_, k)] := by rw [← HQ.out]; rfl
          rw [hnc, ← ncells_append] at hrow5
          have f5 : Fresh W0 w5 := frx.trans' ha.keeps (fun q hq e => by have := HO.out q e; omega)
          have o5 : ∀ g, v5.ownBlock = some g → W0.heap.size ≤ g := fun g hg => by
            rcases ha.own g hg with z | z
            · exact HO.out g z
            · have := z.1; have := frx.size; omega
          obtain ⟨ao5, cp5, rfl⟩ := ownsRow_slice ha.row
          have hstep := HCT.out.step HLEV.out
          rw [HP.out, HNA.out] at hstep
          have HSTEP := hid hstep
          have HR5 := hid hrow5
          have hnax := HLEV.out.2.1
          rw [HP.out, HNA.out] at hnax
          clear ha hrow5 hnc hstep frx hrW
          go_wp2_with fail
          go_roundw
          case rel => exact ⟨NA, out ++ [(at_, k)], rfl, hnax, HSTEP.out, by rw [List.length_append]; have := HOL.out; have := HNA.out; have := HP.out; have := pow_pos2 k; simp only [List.length_singleton]; omega, by rw [List.length_append]; exact HR5.out, o5, f5⟩
          case measure => have := HNA.out; have := HP.out; have := pow_pos2 k; simp [intOf]; omega
    · obtain rfl : at_ = x := by omega
      have HC := hid hct.done
      have hcl := hid (fun W => clipNodes_any aou out.length cpu W (by
        obtain ⟨_, ⟨e, h0⟩ | ⟨g, cap', cur, e, _, _, hn, _⟩⟩ := HROW.out
        · simp only [Value.slice.injEq] at e; omega
        · simp only [Value.slice.injEq] at e; omega))
      clear hct hol hrow hown hbr hlt hax
      go_wp2_with fail
      refine (hcl.out _).mono ?_
      rintro e w9 ⟨rfl, f9⟩
      go_wp2_with fail
      go_ret2
      exact ⟨aou, out, rfl, HC.out, ⟨cpu, ownsRow_keeps HROW.out f9 (fun _ _ h => h)⟩, (f0.trans f).trans f9⟩
end Go.Proofs.YtgikabafaocemaaDoor
