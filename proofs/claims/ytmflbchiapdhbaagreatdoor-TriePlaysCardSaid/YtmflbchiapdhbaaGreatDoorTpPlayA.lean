/-
  The law's step: Root, Get.
-/
import Derived.Test.YtmflbchiapdhbaaGreatDoorTpPlay
import Derived.Test.YtmflbchiapdhbaaGreatDoorMMsF
import Derived.Test.YtmflbchiapdhbaaGreatDoorTpAll
import Derived.BigQuiet
import Derived.Deep.RegionLaw
namespace Go.Proofs.YtmflbchiapdhbaaGreatDoor
open Go.RowKit

theorem After.of {B ob N M : Nat} {c : Nat → Nat} {w : World} {kp : Bool} {m y n : Nat → Nat} {t : Nat → Tr} {dv : Nat → Value} {L : Nat → List Ent} {lv fv wv : Value} {A F Wv : List Value} {C : List Texts} (h : TW B c w ob kp m y t n dv L lv fv wv A F Wv C N) (hh : ∀ k, k < 2 → Has (t k) (L k)) (hn : ∀ k, k < 2 → n k ≤ M) : After B w ob N M :=
  ⟨⟨c, kp, m, y, t, n, dv, L, lv, fv, wv, A, F, Wv, C, h, hh, hn⟩⟩
theorem TW.most {B ob N N' : Nat} {c : Nat → Nat} {w : World} {kp : Bool} {m y n : Nat → Nat} {t : Nat → Tr} {dv : Nat → Value} {L : Nat → List Ent} {lv fv wv : Value} {A F Wv : List Value} {C : List Texts} (h : TW B c w ob kp m y t n dv L lv fv wv A F Wv C N) (hN : N ≤ N') : TW B c w ob kp m y t n dv L lv fv wv A F Wv C N' :=
  ⟨h.box, h.cbox, h.map, h.cmap, h.gmap, h.doc, h.cdoc, h.pack, h.free, h.low, h.size, by
    obtain ⟨G, h1, h2⟩ := h.lists
    exact ⟨G, h1, by omega⟩, h.small⟩

set_option maxRecDepth 100000 in
set_option maxHeartbeats 8000000 in
theorem play_root (B ob N M : Nat) (c : Nat → Nat) (w : World) (kp : Bool) (m y n : Nat → Nat) (t : Nat → Tr) (dv : Nat → Value) (L : Nat → List Ent) (lv fv wv : Value) (A F Wv : List Value) (C : List Texts) (h : TW B c w ob kp m y t n dv L lv fv wv A F Wv C N) (hh : ∀ k, k < 2 → Has (t k) (L k)) (hn : ∀ k, k < 2 → n k ≤ M) (hM : M ≤ 900) (hN : N ≤ 900) (hd : Dig w) (hgB : 3 ≤ B)
    (oo kb : Bool) (key val : List UInt8) (hkey : key.length ≤ 9223372036854775807) (hval : val.length ≤ 9223372036854775807) :
    Calls Tryz.prog 7 #[.pointer (some ⟨ob, 0, none⟩), .agg #[.bool oo, .bool kb, .int .i64 5, .string (str key), .string (str val)]] w fun e w' => e = .returned (.bool true) ∧ After B w' ob (N + 2) (M + 1) ∧ Keeps (fun q => B ≤ q) w w' := by
  have H := hid h
  have HH := hid hh
  have HN := hid hn
  have HD := hid fun W (k : Keeps (fun q => B ≤ q) w W) => hd.keepsOut (k.mono fun q _ e => .inr e) hgB hgB
  have hu := And.intro hM (And.intro hN (And.intro hkey hval))
  clear hu
  have hbl := lt_of_block h.box
  have c7 := ((Keeps.refl (fun _ => False) w).alloc (opObj oo kb (5) key val)).at_ h.box (fun h => h)
  have d7 := free_at c7 7
  replace c7 := (cell_at c7 7).trans (show _ = some (Value.bool kp) from rfl)
  unfold opObj at c7 d7
  clear h hh hn hd
  cases oo with
  | true =>
    go_enter Tryz.func7, Tryz.ntmps7
    go_wp2_with fail
    obtain ⟨W1, hW1⟩ : ∃ W1, (w.setCell ⟨ob, 7, none⟩ (.bool kb)).alloc (opObj true kb (5) key val) = W1 := ⟨_, rfl⟩
    obtain ⟨h1, hop, k1, hBob⟩ := H.out.open_ true kb (5) key val hW1
    unfold opObj at hW1 hop
    rw [hW1]
    have hB1 : Keeps (fun q => B ≤ q) w W1 := k1.mono (fun q _ e => by rw [e]; exact hBob)
    obtain ⟨xb, hxb⟩ : ∃ xb, w.heap.size = xb := ⟨_, rfl⟩
    rw [hxb] at hop ⊢
    have x3 := (cell_at hop 3).trans (show _ = some (Value.string (str key)) from rfl)
    have x4 := (cell_at hop 4).trans (show _ = some (Value.string (str val)) from rfl)
    have cm := (cell_at h1.box 1).trans (show _ = some (Value.pointer (some ⟨m 1, 0, none⟩)) from rfl)
    have cy := (cell_at h1.box 3).trans (show _ = some (Value.pointer (some ⟨y 1, 0, none⟩)) from rfl)
    have hob1 := lt_of_block h1.box
    have hxb1 := lt_of_block hop
    have hD1 := HD.out W1 hB1
    have hMap := h1.map 1 (by omega)
    have hDoc := h1.doc 1 (by omega)
    have hHas := HH.out 1 (by omega)
    have hnk := HN.out 1 (by omega)
    have hgood := hMap.good
    have hlen : (L 1).length = n 1 := (hHas.len hgood).trans hMap.count
    have hxm : ¬ xb = m 1 := fun e => by have := (H.out.map 1 (by omega)).lt; omega
    have H1 := hid h1
    have HB1 := hid hB1
    have HOP := hid hop
    clear h1 hB1 hop k1 hBob hW1 hxb c7 d7
    have HR := hid fun W (f : Fresh W1 W) => root_any (m 1) (t 1) (n 1) W (hMap.fresh f).at_
    have HDR := hid fun W (f : Fresh W1 W) => droot_any (y 1) (dv 1) (L 1) (t 1) W (hDoc.fresh f) (by omega) hgood hHas
    clear hMap hDoc hHas hgood
    generalize (t 1).hash = hs at HR HDR
    have hq : ((str hs).toList == (str hs).toList) = true := by simp
    go_region_law (first
      | (go_simp; go_at_call 10; refine (HR.out _ (by first | exact Keeps.refl _ _ | exact (Keeps.refl _ _).drew)).mono ?_; rintro e w3 ⟨rfl, f0⟩; have f : Fresh W1 w3 := (by first | exact f0 | exact ((Keeps.refl (fun _ => False) W1).drew).trans f0); clear f0; have cy' := (f.cell (p := ⟨ob, 3, none⟩) hob1 (fun h => h)).trans cy)
      | (go_simp; go_at_call 11; refine (HDR.out _ f).mono ?_; rintro e w4 ⟨rfl, f4⟩))
    all_goals
      clear cm cy cy' x3 x4
      go_wp2_with fail
      go_ret
      have ff := f.trans f4
      exact ⟨by first | rfl | simp, After.of ((H1.out.fresh ff).most (by omega)) HH.out ( fun k hk => by have := HN.out k hk; omega), HB1.out.trans (ff.mono fun _ _ h => h.elim)⟩
  | false =>
    go_enter Tryz.func7, Tryz.ntmps7
    go_wp2_with fail
    obtain ⟨W1, hW1⟩ : ∃ W1, (w.setCell ⟨ob, 7, none⟩ (.bool kb)).alloc (opObj false kb (5) key val) = W1 := ⟨_, rfl⟩
    obtain ⟨h1, hop, k1, hBob⟩ := H.out.open_ false kb (5) key val hW1
    unfold opObj at hW1 hop
    rw [hW1]
    have hB1 : Keeps (fun q => B ≤ q) w W1 := k1.mono (fun q _ e => by rw [e]; exact hBob)
    obtain ⟨xb, hxb⟩ : ∃ xb, w.heap.size = xb := ⟨_, rfl⟩
    rw [hxb] at hop ⊢
    have x3 := (cell_at hop 3).trans (show _ = some (Value.string (str key)) from rfl)
    have x4 := (cell_at hop 4).trans (show _ = some (Value.string (str val)) from rfl)
    have cm := (cell_at h1.box 0).trans (show _ = some (Value.pointer (some ⟨m 0, 0, none⟩)) from rfl)
    have cy := (cell_at h1.box 2).trans (show _ = some (Value.pointer (some ⟨y 0, 0, none⟩)) from rfl)
    have hob1 := lt_of_block h1.box
    have hxb1 := lt_of_block hop
    have hD1 := HD.out W1 hB1
    have hMap := h1.map 0 (by omega)
    have hDoc := h1.doc 0 (by omega)
    have hHas := HH.out 0 (by omega)
    have hnk := HN.out 0 (by omega)
    have hgood := hMap.good
    have hlen : (L 0).length = n 0 := (hHas.len hgood).trans hMap.count
    have hxm : ¬ xb = m 0 := fun e => by have := (H.out.map 0 (by omega)).lt; omega
    have H1 := hid h1
    have HB1 := hid hB1
    have HOP := hid hop
    clear h1 hB1 hop k1 hBob hW1 hxb c7 d7
    have HR := hid fun W (f : Fresh W1 W) => root_any (m 0) (t 0) (n 0) W (hMap.fresh f).at_
    have HDR := hid fun W (f : Fresh W1 W) => droot_any (y 0) (dv 0) (L 0) (t 0) W (hDoc.fresh f) (by omega) hgood hHas
    clear hMap hDoc hHas hgood
    generalize (t 0).hash = hs at HR HDR
    have hq : ((str hs).toList == (str hs).toList) = true := by simp
    go_region_law (first
      | (go_simp; go_at_call 10; refine (HR.out _ (by first | exact Keeps.refl _ _ | exact (Keeps.refl _ _).drew)).mono ?_; rintro e w3 ⟨rfl, f0⟩; have f : Fresh W1 w3 := (by first | exact f0 | exact ((Keeps.refl (fun _ => False) W1).drew).trans f0); clear f0; have cy' := (f.cell (p := ⟨ob, 2, none⟩) hob1 (fun h => h)).trans cy)
      | (go_simp; go_at_call 11; refine (HDR.out _ f).mono ?_; rintro e w4 ⟨rfl, f4⟩))
    all_goals
      clear cm cy cy' x3 x4
      go_wp2_with fail
      go_ret
      have ff := f.trans f4
      exact ⟨by first | rfl | simp, After.of ((H1.out.fresh ff).most (by omega)) HH.out ( fun k hk => by have := HN.out k hk; omega), HB1.out.trans (ff.mono fun _ _ h => h.elim)⟩

set_option maxRecDepth 100000 in
set_option maxHeartbeats 8000000 in
theorem play_get (B ob N M : Nat) (c : Nat → Nat) (w : World) (kp : Bool) (m y n : Nat → Nat) (t : Nat → Tr) (dv : Nat → Value) (L : Nat → List Ent) (lv fv wv : Value) (A F Wv : List Value) (C : List Texts) (h : TW B c w ob kp m y t n dv L lv fv wv A F Wv C N) (hh : ∀ k, k < 2 → Has (t k) (L k)) (hn : ∀ k, k < 2 → n k ≤ M) (hM : M ≤ 900) (hN : N ≤ 900) (hd : Dig w) (hgB : 3 ≤ B)
    (oo kb : Bool) (key val : List UInt8) (hkey : key.length ≤ 9223372036854775807) (hval : val.length ≤ 9223372036854775807) :
    Calls Tryz.prog 7 #[.pointer (some ⟨ob, 0, none⟩), .agg #[.bool oo, .bool kb, .int .i64 3, .string (str key), .string (str val)]] w fun e w' => e = .returned (.bool true) ∧ After B w' ob (N + 2) (M + 1) ∧ Keeps (fun q => B ≤ q) w w' := by
  have H := hid h
  have HH := hid hh
  have HN := hid hn
  have HD := hid fun W (k : Keeps (fun q => B ≤ q) w W) => hd.keepsOut (k.mono fun q _ e => .inr e) hgB hgB
  have hu := And.intro hM (And.intro hN (And.intro hkey hval))
  clear hu
  have hbl := lt_of_block h.box
  have c7 := ((Keeps.refl (fun _ => False) w).alloc (opObj oo kb (3) key val)).at_ h.box (fun h => h)
  have d7 := free_at c7 7
  replace c7 := (cell_at c7 7).trans (show _ = some (Value.bool kp) from rfl)
  unfold opObj at c7 d7
  clear h hh hn hd
  cases oo with
  | true =>
    go_enter Tryz.func7, Tryz.ntmps7
    go_wp2_with fail
    obtain ⟨W1, hW1⟩ : ∃ W1, (w.setCell ⟨ob, 7, none⟩ (.bool kb)).alloc (opObj true kb (3) key val) = W1 := ⟨_, rfl⟩
    obtain ⟨h1, hop, k1, hBob⟩ := H.out.open_ true kb (3) key val hW1
    unfold opObj at hW1 hop
    rw [hW1]
    have hB1 : Keeps (fun q => B ≤ q) w W1 := k1.mono (fun q _ e => by rw [e]; exact hBob)
    obtain ⟨xb, hxb⟩ : ∃ xb, w.heap.size = xb := ⟨_, rfl⟩
    rw [hxb] at hop ⊢
    have x3 := (cell_at hop 3).trans (show _ = some (Value.string (str key)) from rfl)
    have x4 := (cell_at hop 4).trans (show _ = some (Value.string (str val)) from rfl)
    have cm := (cell_at h1.box 1).trans (show _ = some (Value.pointer (some ⟨m 1, 0, none⟩)) from rfl)
    have cy := (cell_at h1.box 3).trans (show _ = some (Value.pointer (some ⟨y 1, 0, none⟩)) from rfl)
    have hob1 := lt_of_block h1.box
    have hxb1 := lt_of_block hop
    have hD1 := HD.out W1 hB1
    have hMap := h1.map 1 (by omega)
    have hDoc := h1.doc 1 (by omega)
    have hHas := HH.out 1 (by omega)
    have hnk := HN.out 1 (by omega)
    have hgood := hMap.good
    have hlen : (L 1).length = n 1 := (hHas.len hgood).trans hMap.count
    have hxm : ¬ xb = m 1 := fun e => by have := (H.out.map 1 (by omega)).lt; omega
    have H1 := hid h1
    have HB1 := hid hB1
    have HOP := hid hop
    clear h1 hB1 hop k1 hBob hW1 hxb c7 d7
    have HG := hid fun W (f : Fresh W1 W) => get_map (m 1) (n 1) (t 1) key W (hMap.fresh f) (hD1.fresh f) hkey
    have HDG := hid fun W (f : Fresh W1 W) => dget_all (y 1) (dv 1) (L 1) (t 1) key W (hDoc.fresh f) (by omega) hgood hHas hkey
    clear hMap hDoc hHas hgood hD1
    generalize (t 1).tells key = tl at HG HDG
    obtain ⟨gv, hv⟩ := tl
    simp only at HG HDG
    have hq : ((str gv).toList == (str gv).toList) = true := by simp
    have hq2 : (hv == hv) = true := by simp
    refine wp_region_keep 14 (fun w' => w'.cell? ⟨ob, 1, none⟩ = some (.pointer (some ⟨m 1, 0, none⟩)) ∧ w'.cell? ⟨xb, 3, none⟩ = some (.string (str key)) ∧ w'.cell? ⟨xb, 4, none⟩ = some (.string (str val))) (fun _ => True) (fun _ => true) (by kernel_rfl) (by kernel_rfl) ?_
    (try (change wpKeep _ _ _ _ _ _ _ _ _ _ (World.drew _)))
    refine wpKeep_takeT (i := 0) (oi := ⟨some 99, _, _, _, _, _⟩) (v := ?_) rfl (by kernel_rfl) (by kernel_rfl) (by kernel_rfl) (by kernel_rfl) (fun _ _ _ h => h) (Or.inl ⟨by rfl, ?_⟩) ⟨cm, x3, x4⟩ (fun _ => trivial) ?_
    rotate_left
    · intro w' hT
      obtain ⟨t1, t2, t3⟩ := hT
      go_simp
      (try rw [if_pos (by omega)])
      (try with_reducible rfl)
    rotate_left
    (try simp only [Act.put, List.setIfInBounds_toArray, List.set_cons_zero, List.set_cons_succ])
    refine wpKeep_takeT (i := 1) (oi := ⟨some 100, _, _, _, _, _⟩) (v := ?_) rfl (by kernel_rfl) (by kernel_rfl) (by kernel_rfl) (by kernel_rfl) (fun _ _ _ h => h) (Or.inl ⟨by rfl, ?_⟩) ⟨cm, x3, x4⟩ (fun _ => trivial) ?_
    rotate_left
    · intro w' hT
      obtain ⟨t1, t2, t3⟩ := hT
      go_simp
      (try rw [if_pos (by omega)])
      (try with_reducible rfl)
    rotate_left
    (try simp only [Act.put, List.setIfInBounds_toArray, List.set_cons_zero, List.set_cons_succ])
    refine wpKeep_takeT (i := 2) (oi := ⟨some 101, _, _, _, _, _⟩) (v := ?_) rfl (by kernel_rfl) (by kernel_rfl) (by kernel_rfl) (by kernel_rfl) (fun _ _ _ h => h) (Or.inl ⟨by rfl, ?_⟩) ⟨cm, x3, x4⟩ (fun _ => trivial) ?_
    rotate_left
    · intro w' hT
      obtain ⟨t1, t2, t3⟩ := hT
      go_simp
      (try rw [if_pos (by omega)])
      (try with_reducible rfl)
    rotate_left
    (try simp only [Act.put, List.setIfInBounds_toArray, List.set_cons_zero, List.set_cons_succ])
    refine wpKeep_takeT (i := 3) (oi := ⟨some 102, _, _, _, _, _⟩) (v := ?_) rfl (by kernel_rfl) (by kernel_rfl) (by kernel_rfl) (by kernel_rfl) (fun _ _ _ h => h) (Or.inl ⟨by rfl, ?_⟩) ⟨cm, x3, x4⟩ (fun _ => trivial) ?_
    rotate_left
    · intro w' hT
      obtain ⟨t1, t2, t3⟩ := hT
      go_simp
      (try rw [if_pos (by omega)])
      (try with_reducible rfl)
    rotate_left
    (try simp only [Act.put, List.setIfInBounds_toArray, List.set_cons_zero, List.set_cons_succ])
    refine wpKeep_takeT (i := 4) (oi := ⟨some 103, _, _, _, _, _⟩) (v := ?_) rfl (by kernel_rfl) (by kernel_rfl) (by kernel_rfl) (by kernel_rfl) (fun _ _ _ h => h) (Or.inl ⟨by rfl, ?_⟩) ⟨cm, x3, x4⟩ (fun _ => trivial) ?_
    rotate_left
    · intro w' hT
      obtain ⟨t1, t2, t3⟩ := hT
      go_simp
      (try rw [if_pos (by omega)])
      (try with_reducible rfl)
    rotate_left
    (try simp only [Act.put, List.setIfInBounds_toArray, List.set_cons_zero, List.set_cons_succ])
    refine wpKeep_takeT (i := 5) (oi := ⟨some 104, _, _, _, _, _⟩) (v := ?_) rfl (by kernel_rfl) (by kernel_rfl) (by kernel_rfl) (by kernel_rfl) (fun _ _ _ h => h) (Or.inl ⟨by rfl, ?_⟩) ⟨cm, x3, x4⟩ (fun _ => trivial) ?_
    rotate_left
    · intro w' hT
      obtain ⟨t1, t2, t3⟩ := hT
      go_simp
      (try rw [if_pos (by omega)])
      (try with_reducible rfl)
    rotate_left
    (try simp only [Act.put, List.setIfInBounds_toArray, List.set_cons_zero, List.set_cons_succ])
    refine wpKeep_takeT (i := 6) (oi := ⟨some 105, _, _, _, _, _⟩) (v := ?_) rfl (by kernel_rfl) (by kernel_rfl) (by kernel_rfl) (by kernel_rfl) (fun _ _ _ h => h) (Or.inl ⟨by rfl, ?_⟩) ⟨cm, x3, x4⟩ (fun _ => trivial) ?_
    rotate_left
    · intro w' hT
      obtain ⟨t1, t2, t3⟩ := hT
      go_simp
      (try rw [if_pos (by omega)])
      (try with_reducible rfl)
    rotate_left
    (try simp only [Act.put, List.setIfInBounds_toArray, List.set_cons_zero, List.set_cons_succ])
    refine wpKeep_takeT (i := 7) (oi := ⟨some 106, _, _, _, _, _⟩) (v := ?_) rfl (by kernel_rfl) (by kernel_rfl) (by kernel_rfl) (by kernel_rfl) (fun _ _ _ h => h) (Or.inl ⟨by rfl, ?_⟩) ⟨cm, x3, x4⟩ (fun _ => trivial) ?_
    rotate_left
    · intro w' hT
      obtain ⟨t1, t2, t3⟩ := hT
      go_simp
      (try rw [if_pos (by omega)])
      (try with_reducible rfl)
    rotate_left
    (try simp only [Act.put, List.setIfInBounds_toArray, List.set_cons_zero, List.set_cons_succ])
    refine wpKeep_ready (rs := [8]) (by kernel_rfl) (by simp) ?_
    refine AllKeep.cons (o := ⟨some 107, _, _, _, _, _⟩) rfl (fun Kq hK => ?_) AllKeep.nil
    go_simp
    go_at_call 19
    refine (HG.out _ (Keeps.refl (fun _ => False) W1).drew).mono ?_
    rintro e w3 ⟨rfl, f0⟩
    have f : Fresh W1 w3 := (Keeps.refl (fun _ => False) W1).drew.trans f0
    have cm2 := (f.cell (p := ⟨ob, 1, none⟩) hob1 (fun h => h)).trans cm
    have cy2 := (f.cell (p := ⟨ob, 3, none⟩) hob1 (fun h => h)).trans cy
    have x32 := (f.cell (p := ⟨xb, 3, none⟩) hxb1 (fun h => h)).trans x3
    have x42 := (f.cell (p := ⟨xb, 4, none⟩) hxb1 (fun h => h)).trans x4
    refine hK.out _ _ ⟨cm2, x32, x42⟩ (fun _ => trivial) ?_
    clear hK Kq
    (try simp only [Act.put, List.setIfInBounds_toArray, List.set_cons_zero, List.set_cons_succ])
    refine wpKeep_takeT (i := 9) (oi := ⟨some 98, _, _, _, _, _⟩) (v := ?_) rfl (by kernel_rfl) (by kernel_rfl) (by kernel_rfl) (by kernel_rfl) (fun _ _ _ h => h) (Or.inl ⟨by rfl, ?_⟩) ⟨cm2, x32, x42⟩ (fun _ => trivial) ?_
    rotate_left
    · intro w' hT
      obtain ⟨t1, t2, t3⟩ := hT
      go_simp
      (try rw [if_pos (by omega)])
      (try with_reducible rfl)
    rotate_left
    (try simp only [Act.put, List.setIfInBounds_toArray, List.set_cons_zero, List.set_cons_succ])
    refine wpKeep_takeT (i := 10) (oi := ⟨some 108, _, _, _, _, _⟩) (v := ?_) rfl (by kernel_rfl) (by kernel_rfl) (by kernel_rfl) (by kernel_rfl) (fun _ _ _ h => h) (Or.inl ⟨by rfl, ?_⟩) ⟨cm2, x32, x42⟩ (fun _ => trivial) ?_
    rotate_left
    · intro w' hT
      obtain ⟨t1, t2, t3⟩ := hT
      go_simp
      (try rw [if_pos (by omega)])
      (try with_reducible rfl)
    rotate_left
    (try simp only [Act.put, List.setIfInBounds_toArray, List.set_cons_zero, List.set_cons_succ])
    refine wpKeep_takeT (i := 11) (oi := ⟨some 109, _, _, _, _, _⟩) (v := ?_) rfl (by kernel_rfl) (by kernel_rfl) (by kernel_rfl) (by kernel_rfl) (fun _ _ _ h => h) (Or.inl ⟨by rfl, ?_⟩) ⟨cm2, x32, x42⟩ (fun _ => trivial) ?_
    rotate_left
    · intro w' hT
      obtain ⟨t1, t2, t3⟩ := hT
      go_simp
      (try rw [if_pos (by omega)])
      (try with_reducible rfl)
    rotate_left
    (try simp only [Act.put, List.setIfInBounds_toArray, List.set_cons_zero, List.set_cons_succ])
    refine wpKeep_takeT (i := 12) (oi := ⟨some 11, _, _, _, _, _⟩) (v := ?_) rfl (by kernel_rfl) (by kernel_rfl) (by kernel_rfl) (by kernel_rfl) (fun _ _ _ h => h) (Or.inl ⟨by rfl, ?_⟩) ⟨cm2, x32, x42⟩ (fun _ => trivial) ?_
    rotate_left
    · intro w' hT
      obtain ⟨t1, t2, t3⟩ := hT
      go_simp
      (try rw [if_pos (by omega)])
      (try with_reducible rfl)
    rotate_left
    (try simp only [Act.put, List.setIfInBounds_toArray, List.set_cons_zero, List.set_cons_succ])
    refine wpKeep_takeT (i := 13) (oi := ⟨some 12, _, _, _, _, _⟩) (v := ?_) rfl (by kernel_rfl) (by kernel_rfl) (by kernel_rfl) (by kernel_rfl) (fun _ _ _ h => h) (Or.inl ⟨by rfl, ?_⟩) ⟨cm2, x32, x42⟩ (fun _ => trivial) ?_
    rotate_left
    · intro w' hT
      obtain ⟨t1, t2, t3⟩ := hT
      go_simp
      (try rw [if_pos (by omega)])
      (try with_reducible rfl)
    rotate_left
    (try simp only [Act.put, List.setIfInBounds_toArray, List.set_cons_zero, List.set_cons_succ])
    refine wpKeep_done (by kernel_rfl) ?_ _
    clear cm cy x3 x4 cm2
    have hob3 : ob < w3.heap.size := Nat.lt_of_lt_of_le hob1 f.size
    have hxb3 : xb < w3.heap.size := Nat.lt_of_lt_of_le hxb1 f.size
    go_wp2_with fail
    refine wp_region_keep 14 (fun w' => w'.cell? ⟨ob, 3, none⟩ = some (.pointer (some ⟨y 1, 0, none⟩)) ∧ w'.cell? ⟨xb, 3, none⟩ = some (.string (str key)) ∧ w'.cell? ⟨xb, 4, none⟩ = some (.string (str val))) (fun _ => True) (fun _ => true) (by kernel_rfl) (by kernel_rfl) ?_
    (try (change wpKeep _ _ _ _ _ _ _ _ _ _ (World.drew _)))
    refine wpKeep_takeT (i := 0) (oi := ⟨some 111, _, _, _, _, _⟩) (v := ?_) rfl (by kernel_rfl) (by kernel_rfl) (by kernel_rfl) (by kernel_rfl) (fun _ _ _ h => h) (Or.inl ⟨by rfl, ?_⟩) ⟨cy2, x32, x42⟩ (fun _ => trivial) ?_
    rotate_left
    · intro w' hT
      obtain ⟨t1, t2, t3⟩ := hT
      go_simp
      (try rw [if_pos (by omega)])
      (try with_reducible rfl)
    rotate_left
    (try simp only [Act.put, List.setIfInBounds_toArray, List.set_cons_zero, List.set_cons_succ])
    refine wpKeep_takeT (i := 1) (oi := ⟨some 112, _, _, _, _, _⟩) (v := ?_) rfl (by kernel_rfl) (by kernel_rfl) (by kernel_rfl) (by kernel_rfl) (fun _ _ _ h => h) (Or.inl ⟨by rfl, ?_⟩) ⟨cy2, x32, x42⟩ (fun _ => trivial) ?_
    rotate_left
    · intro w' hT
      obtain ⟨t1, t2, t3⟩ := hT
      go_simp
      (try rw [if_pos (by omega)])
      (try with_reducible rfl)
    rotate_left
    (try simp only [Act.put, List.setIfInBounds_toArray, List.set_cons_zero, List.set_cons_succ])
    refine wpKeep_takeT (i := 2) (oi := ⟨some 113, _, _, _, _, _⟩) (v := ?_) rfl (by kernel_rfl) (by kernel_rfl) (by kernel_rfl) (by kernel_rfl) (fun _ _ _ h => h) (Or.inl ⟨by rfl, ?_⟩) ⟨cy2, x32, x42⟩ (fun _ => trivial) ?_
    rotate_left
    · intro w' hT
      obtain ⟨t1, t2, t3⟩ := hT
      go_simp
      (try rw [if_pos (by omega)])
      (try with_reducible rfl)
    rotate_left
    (try simp only [Act.put, List.setIfInBounds_toArray, List.set_cons_zero, List.set_cons_succ])
    refine wpKeep_takeT (i := 3) (oi := ⟨some 114, _, _, _, _, _⟩) (v := ?_) rfl (by kernel_rfl) (by kernel_rfl) (by kernel_rfl) (by kernel_rfl) (fun _ _ _ h => h) (Or.inl ⟨by rfl, ?_⟩) ⟨cy2, x32, x42⟩ (fun _ => trivial) ?_
    rotate_left
    · intro w' hT
      obtain ⟨t1, t2, t3⟩ := hT
      go_simp
      (try rw [if_pos (by omega)])
      (try with_reducible rfl)
    rotate_left
    (try simp only [Act.put, List.setIfInBounds_toArray, List.set_cons_zero, List.set_cons_succ])
    refine wpKeep_takeT (i := 4) (oi := ⟨some 115, _, _, _, _, _⟩) (v := ?_) rfl (by kernel_rfl) (by kernel_rfl) (by kernel_rfl) (by kernel_rfl) (fun _ _ _ h => h) (Or.inl ⟨by rfl, ?_⟩) ⟨cy2, x32, x42⟩ (fun _ => trivial) ?_
    rotate_left
    · intro w' hT
      obtain ⟨t1, t2, t3⟩ := hT
      go_simp
      (try rw [if_pos (by omega)])
      (try with_reducible rfl)
    rotate_left
    (try simp only [Act.put, List.setIfInBounds_toArray, List.set_cons_zero, List.set_cons_succ])
    refine wpKeep_takeT (i := 5) (oi := ⟨some 116, _, _, _, _, _⟩) (v := ?_) rfl (by kernel_rfl) (by kernel_rfl) (by kernel_rfl) (by kernel_rfl) (fun _ _ _ h => h) (Or.inl ⟨by rfl, ?_⟩) ⟨cy2, x32, x42⟩ (fun _ => trivial) ?_
    rotate_left
    · intro w' hT
      obtain ⟨t1, t2, t3⟩ := hT
      go_simp
      (try rw [if_pos (by omega)])
      (try with_reducible rfl)
    rotate_left
    (try simp only [Act.put, List.setIfInBounds_toArray, List.set_cons_zero, List.set_cons_succ])
    refine wpKeep_takeT (i := 6) (oi := ⟨some 117, _, _, _, _, _⟩) (v := ?_) rfl (by kernel_rfl) (by kernel_rfl) (by kernel_rfl) (by kernel_rfl) (fun _ _ _ h => h) (Or.inl ⟨by rfl, ?_⟩) ⟨cy2, x32, x42⟩ (fun _ => trivial) ?_
    rotate_left
    · intro w' hT
      obtain ⟨t1, t2, t3⟩ := hT
      go_simp
      (try rw [if_pos (by omega)])
      (try with_reducible rfl)
    rotate_left
    (try simp only [Act.put, List.setIfInBounds_toArray, List.set_cons_zero, List.set_cons_succ])
    refine wpKeep_takeT (i := 7) (oi := ⟨some 118, _, _, _, _, _⟩) (v := ?_) rfl (by kernel_rfl) (by kernel_rfl) (by kernel_rfl) (by kernel_rfl) (fun _ _ _ h => h) (Or.inl ⟨by rfl, ?_⟩) ⟨cy2, x32, x42⟩ (fun _ => trivial) ?_
    rotate_left
    · intro w' hT
      obtain ⟨t1, t2, t3⟩ := hT
      go_simp
      (try rw [if_pos (by omega)])
      (try with_reducible rfl)
    rotate_left
    (try simp only [Act.put, List.setIfInBounds_toArray, List.set_cons_zero, List.set_cons_succ])
    refine wpKeep_ready (rs := [8]) (by kernel_rfl) (by simp) ?_
    refine AllKeep.cons (o := ⟨some 119, _, _, _, _, _⟩) rfl (fun Kq hK => ?_) AllKeep.nil
    go_simp
    go_at_call 20
    refine (HDG.out _ f.drew).mono ?_
    rintro e w4 ⟨rfl, f40⟩
    have f4 : Fresh w3 w4 := (Keeps.refl (fun _ => False) w3).drew.trans f40
    have cy4 := (f4.cell (p := ⟨ob, 3, none⟩) hob3 (fun h => h)).trans cy2
    have x34 := (f4.cell (p := ⟨xb, 3, none⟩) hxb3 (fun h => h)).trans x32
    have x44 := (f4.cell (p := ⟨xb, 4, none⟩) hxb3 (fun h => h)).trans x42
    refine hK.out _ _ ⟨cy4, x34, x44⟩ (fun _ => trivial) ?_
    clear hK Kq
    (try simp only [Act.put, List.setIfInBounds_toArray, List.set_cons_zero, List.set_cons_succ])
    refine wpKeep_takeT (i := 9) (oi := ⟨some 110, _, _, _, _, _⟩) (v := ?_) rfl (by kernel_rfl) (by kernel_rfl) (by kernel_rfl) (by kernel_rfl) (fun _ _ _ h => h) (Or.inl ⟨by rfl, ?_⟩) ⟨cy4, x34, x44⟩ (fun _ => trivial) ?_
    rotate_left
    · intro w' hT
      obtain ⟨t1, t2, t3⟩ := hT
      go_simp
      (try rw [if_pos (by omega)])
      (try with_reducible rfl)
    rotate_left
    (try simp only [Act.put, List.setIfInBounds_toArray, List.set_cons_zero, List.set_cons_succ])
    refine wpKeep_takeT (i := 10) (oi := ⟨some 120, _, _, _, _, _⟩) (v := ?_) rfl (by kernel_rfl) (by kernel_rfl) (by kernel_rfl) (by kernel_rfl) (fun _ _ _ h => h) (Or.inl ⟨by rfl, ?_⟩) ⟨cy4, x34, x44⟩ (fun _ => trivial) ?_
    rotate_left
    · intro w' hT
      obtain ⟨t1, t2, t3⟩ := hT
      go_simp
      (try rw [if_pos (by omega)])
      (try with_reducible rfl)
    rotate_left
    (try simp only [Act.put, List.setIfInBounds_toArray, List.set_cons_zero, List.set_cons_succ])
    refine wpKeep_takeT (i := 11) (oi := ⟨some 121, _, _, _, _, _⟩) (v := ?_) rfl (by kernel_rfl) (by kernel_rfl) (by kernel_rfl) (by kernel_rfl) (fun _ _ _ h => h) (Or.inl ⟨by rfl, ?_⟩) ⟨cy4, x34, x44⟩ (fun _ => trivial) ?_
    rotate_left
    · intro w' hT
      obtain ⟨t1, t2, t3⟩ := hT
      go_simp
      (try rw [if_pos (by omega)])
      (try with_reducible rfl)
    rotate_left
    (try simp only [Act.put, List.setIfInBounds_toArray, List.set_cons_zero, List.set_cons_succ])
    refine wpKeep_takeT (i := 12) (oi := ⟨some 13, _, _, _, _, _⟩) (v := ?_) rfl (by kernel_rfl) (by kernel_rfl) (by kernel_rfl) (by kernel_rfl) (fun _ _ _ h => h) (Or.inl ⟨by rfl, ?_⟩) ⟨cy4, x34, x44⟩ (fun _ => trivial) ?_
    rotate_left
    · intro w' hT
      obtain ⟨t1, t2, t3⟩ := hT
      go_simp
      (try rw [if_pos (by omega)])
      (try with_reducible rfl)
    rotate_left
    (try simp only [Act.put, List.setIfInBounds_toArray, List.set_cons_zero, List.set_cons_succ])
    refine wpKeep_takeT (i := 13) (oi := ⟨some 14, _, _, _, _, _⟩) (v := ?_) rfl (by kernel_rfl) (by kernel_rfl) (by kernel_rfl) (by kernel_rfl) (fun _ _ _ h => h) (Or.inl ⟨by rfl, ?_⟩) ⟨cy4, x34, x44⟩ (fun _ => trivial) ?_
    rotate_left
    · intro w' hT
      obtain ⟨t1, t2, t3⟩ := hT
      go_simp
      (try rw [if_pos (by omega)])
      (try with_reducible rfl)
    rotate_left
    (try simp only [Act.put, List.setIfInBounds_toArray, List.set_cons_zero, List.set_cons_succ])
    refine wpKeep_done (by kernel_rfl) ?_ _
    clear cy2 x32 x42 cy4 x34 x44
    go_wp2_with fail
    go_ret
    have ff := f.trans f4
    exact ⟨by first | rfl | simp, After.of ((H1.out.fresh ff).most (by omega)) HH.out (fun k hk => by have := HN.out k hk; omega), HB1.out.trans (ff.mono fun _ _ h => h.elim)⟩
  | false =>
    go_enter Tryz.func7, Tryz.ntmps7
    go_wp2_with fail
    obtain ⟨W1, hW1⟩ : ∃ W1, (w.setCell ⟨ob, 7, none⟩ (.bool kb)).alloc (opObj false kb (3) key val) = W1 := ⟨_, rfl⟩
    obtain ⟨h1, hop, k1, hBob⟩ := H.out.open_ false kb (3) key val hW1
    unfold opObj at hW1 hop
    rw [hW1]
    have hB1 : Keeps (fun q => B ≤ q) w W1 := k1.mono (fun q _ e => by rw [e]; exact hBob)
    obtain ⟨xb, hxb⟩ : ∃ xb, w.heap.size = xb := ⟨_, rfl⟩
    rw [hxb] at hop ⊢
    have x3 := (cell_at hop 3).trans (show _ = some (Value.string (str key)) from rfl)
    have x4 := (cell_at hop 4).trans (show _ = some (Value.string (str val)) from rfl)
    have cm := (cell_at h1.box 0).trans (show _ = some (Value.pointer (some ⟨m 0, 0, none⟩)) from rfl)
    have cy := (cell_at h1.box 2).trans (show _ = some (Value.pointer (some ⟨y 0, 0, none⟩)) from rfl)
    have hob1 := lt_of_block h1.box
    have hxb1 := lt_of_block hop
    have hD1 := HD.out W1 hB1
    have hMap := h1.map 0 (by omega)
    have hDoc := h1.doc 0 (by omega)
    have hHas := HH.out 0 (by omega)
    have hnk := HN.out 0 (by omega)
    have hgood := hMap.good
    have hlen : (L 0).length = n 0 := (hHas.len hgood).trans hMap.count
    have hxm : ¬ xb = m 0 := fun e => by have := (H.out.map 0 (by omega)).lt; omega
    have H1 := hid h1
    have HB1 := hid hB1
    have HOP := hid hop
    clear h1 hB1 hop k1 hBob hW1 hxb c7 d7
    have HG := hid fun W (f : Fresh W1 W) => get_map (m 0) (n 0) (t 0) key W (hMap.fresh f) (hD1.fresh f) hkey
    have HDG := hid fun W (f : Fresh W1 W) => dget_all (y 0) (dv 0) (L 0) (t 0) key W (hDoc.fresh f) (by omega) hgood hHas hkey
    clear hMap hDoc hHas hgood hD1
    generalize (t 0).tells key = tl at HG HDG
    obtain ⟨gv, hv⟩ := tl
    simp only at HG HDG
    have hq : ((str gv).toList == (str gv).toList) = true := by simp
    have hq2 : (hv == hv) = true := by simp
    refine wp_region_keep 14 (fun w' => w'.cell? ⟨ob, 0, none⟩ = some (.pointer (some ⟨m 0, 0, none⟩)) ∧ w'.cell? ⟨xb, 3, none⟩ = some (.string (str key)) ∧ w'.cell? ⟨xb, 4, none⟩ = some (.string (str val))) (fun _ => True) (fun _ => true) (by kernel_rfl) (by kernel_rfl) ?_
    (try (change wpKeep _ _ _ _ _ _ _ _ _ _ (World.drew _)))
    refine wpKeep_takeT (i := 0) (oi := ⟨some 99, _, _, _, _, _⟩) (v := ?_) rfl (by kernel_rfl) (by kernel_rfl) (by kernel_rfl) (by kernel_rfl) (fun _ _ _ h => h) (Or.inl ⟨by rfl, ?_⟩) ⟨cm, x3, x4⟩ (fun _ => trivial) ?_
    rotate_left
    · intro w' hT
      obtain ⟨t1, t2, t3⟩ := hT
      go_simp
      (try rw [if_pos (by omega)])
      (try with_reducible rfl)
    rotate_left
    (try simp only [Act.put, List.setIfInBounds_toArray, List.set_cons_zero, List.set_cons_succ])
    refine wpKeep_takeT (i := 1) (oi := ⟨some 100, _, _, _, _, _⟩) (v := ?_) rfl (by kernel_rfl) (by kernel_rfl) (by kernel_rfl) (by kernel_rfl) (fun _ _ _ h => h) (Or.inl ⟨by rfl, ?_⟩) ⟨cm, x3, x4⟩ (fun _ => trivial) ?_
    rotate_left
    · intro w' hT
      obtain ⟨t1, t2, t3⟩ := hT
      go_simp
      (try rw [if_pos (by omega)])
      (try with_reducible rfl)
    rotate_left
    (try simp only [Act.put, List.setIfInBounds_toArray, List.set_cons_zero, List.set_cons_succ])
    refine wpKeep_takeT (i := 2) (oi := ⟨some 101, _, _, _, _, _⟩) (v := ?_) rfl (by kernel_rfl) (by kernel_rfl) (by kernel_rfl) (by kernel_rfl) (fun _ _ _ h => h) (Or.inl ⟨by rfl, ?_⟩) ⟨cm, x3, x4⟩ (fun _ => trivial) ?_
    rotate_left
    · intro w' hT
      obtain ⟨t1, t2, t3⟩ := hT
      go_simp
      (try rw [if_pos (by omega)])
      (try with_reducible rfl)
    rotate_left
    (try simp only [Act.put, List.setIfInBounds_toArray, List.set_cons_zero, List.set_cons_succ])
    refine wpKeep_takeT (i := 3) (oi := ⟨some 102, _, _, _, _, _⟩) (v := ?_) rfl (by kernel_rfl) (by kernel_rfl) (by kernel_rfl) (by kernel_rfl) (fun _ _ _ h => h) (Or.inl ⟨by rfl, ?_⟩) ⟨cm, x3, x4⟩ (fun _ => trivial) ?_
    rotate_left
    · intro w' hT
      obtain ⟨t1, t2, t3⟩ := hT
      go_simp
      (try rw [if_pos (by omega)])
      (try with_reducible rfl)
    rotate_left
    (try simp only [Act.put, List.setIfInBounds_toArray, List.set_cons_zero, List.set_cons_succ])
    refine wpKeep_takeT (i := 4) (oi := ⟨some 103, _, _, _, _, _⟩) (v := ?_) rfl (by kernel_rfl) (by kernel_rfl) (by kernel_rfl) (by kernel_rfl) (fun _ _ _ h => h) (Or.inl ⟨by rfl, ?_⟩) ⟨cm, x3, x4⟩ (fun _ => trivial) ?_
    rotate_left
    · intro w' hT
      obtain ⟨t1, t2, t3⟩ := hT
      go_simp
      (try rw [if_pos (by omega)])
      (try with_reducible rfl)
    rotate_left
    (try simp only [Act.put, List.setIfInBounds_toArray, List.set_cons_zero, List.set_cons_succ])
    refine wpKeep_takeT (i := 5) (oi := ⟨some 104, _, _, _, _, _⟩) (v := ?_) rfl (by kernel_rfl) (by kernel_rfl) (by kernel_rfl) (by kernel_rfl) (fun _ _ _ h => h) (Or.inl ⟨by rfl, ?_⟩) ⟨cm, x3, x4⟩ (fun _ => trivial) ?_
    rotate_left
    · intro w' hT
      obtain ⟨t1, t2, t3⟩ := hT
      go_simp
      (try rw [if_pos (by omega)])
      (try with_reducible rfl)
    rotate_left
    (try simp only [Act.put, List.setIfInBounds_toArray, List.set_cons_zero, List.set_cons_succ])
    refine wpKeep_takeT (i := 6) (oi := ⟨some 105, _, _, _, _, _⟩) (v := ?_) rfl (by kernel_rfl) (by kernel_rfl) (by kernel_rfl) (by kernel_rfl) (fun _ _ _ h => h) (Or.inl ⟨by rfl, ?_⟩) ⟨cm, x3, x4⟩ (fun _ => trivial) ?_
    rotate_left
    · intro w' hT
      obtain ⟨t1, t2, t3⟩ := hT
      go_simp
      (try rw [if_pos (by omega)])
      (try with_reducible rfl)
    rotate_left
    (try simp only [Act.put, List.setIfInBounds_toArray, List.set_cons_zero, List.set_cons_succ])
    refine wpKeep_takeT (i := 7) (oi := ⟨some 106, _, _, _, _, _⟩) (v := ?_) rfl (by kernel_rfl) (by kernel_rfl) (by kernel_rfl) (by kernel_rfl) (fun _ _ _ h => h) (Or.inl ⟨by rfl, ?_⟩) ⟨cm, x3, x4⟩ (fun _ => trivial) ?_
    rotate_left
    · intro w' hT
      obtain ⟨t1, t2, t3⟩ := hT
      go_simp
      (try rw [if_pos (by omega)])
      (try with_reducible rfl)
    rotate_left
    (try simp only [Act.put, List.setIfInBounds_toArray, List.set_cons_zero, List.set_cons_succ])
    refine wpKeep_ready (rs := [8]) (by kernel_rfl) (by simp) ?_
    refine AllKeep.cons (o := ⟨some 107, _, _, _, _, _⟩) rfl (fun Kq hK => ?_) AllKeep.nil
    go_simp
    go_at_call 19
    refine (HG.out _ (Keeps.refl (fun _ => False) W1).drew).mono ?_
    rintro e w3 ⟨rfl, f0⟩
    have f : Fresh W1 w3 := (Keeps.refl (fun _ => False) W1).drew.trans f0
    have cm2 := (f.cell (p := ⟨ob, 0, none⟩) hob1 (fun h => h)).trans cm
    have cy2 := (f.cell (p := ⟨ob, 2, none⟩) hob1 (fun h => h)).trans cy
    have x32 := (f.cell (p := ⟨xb, 3, none⟩) hxb1 (fun h => h)).trans x3
    have x42 := (f.cell (p := ⟨xb, 4, none⟩) hxb1 (fun h => h)).trans x4
    refine hK.out _ _ ⟨cm2, x32, x42⟩ (fun _ => trivial) ?_
    clear hK Kq
    (try simp only [Act.put, List.setIfInBounds_toArray, List.set_cons_zero, List.set_cons_succ])
    refine wpKeep_takeT (i := 9) (oi := ⟨some 98, _, _, _, _, _⟩) (v := ?_) rfl (by kernel_rfl) (by kernel_rfl) (by kernel_rfl) (by kernel_rfl) (fun _ _ _ h => h) (Or.inl ⟨by rfl, ?_⟩) ⟨cm2, x32, x42⟩ (fun _ => trivial) ?_
    rotate_left
    · intro w' hT
      obtain ⟨t1, t2, t3⟩ := hT
      go_simp
      (try rw [if_pos (by omega)])
      (try with_reducible rfl)
    rotate_left
    (try simp only [Act.put, List.setIfInBounds_toArray, List.set_cons_zero, List.set_cons_succ])
    refine wpKeep_takeT (i := 10) (oi := ⟨some 108, _, _, _, _, _⟩) (v := ?_) rfl (by kernel_rfl) (by kernel_rfl) (by kernel_rfl) (by kernel_rfl) (fun _ _ _ h => h) (Or.inl ⟨by rfl, ?_⟩) ⟨cm2, x32, x42⟩ (fun _ => trivial) ?_
    rotate_left
    · intro w' hT
      obtain ⟨t1, t2, t3⟩ := hT
      go_simp
      (try rw [if_pos (by omega)])
      (try with_reducible rfl)
    rotate_left
    (try simp only [Act.put, List.setIfInBounds_toArray, List.set_cons_zero, List.set_cons_succ])
    refine wpKeep_takeT (i := 11) (oi := ⟨some 109, _, _, _, _, _⟩) (v := ?_) rfl (by kernel_rfl) (by kernel_rfl) (by kernel_rfl) (by kernel_rfl) (fun _ _ _ h => h) (Or.inl ⟨by rfl, ?_⟩) ⟨cm2, x32, x42⟩ (fun _ => trivial) ?_
    rotate_left
    · intro w' hT
      obtain ⟨t1, t2, t3⟩ := hT
      go_simp
      (try rw [if_pos (by omega)])
      (try with_reducible rfl)
    rotate_left
    (try simp only [Act.put, List.setIfInBounds_toArray, List.set_cons_zero, List.set_cons_succ])
    refine wpKeep_takeT (i := 12) (oi := ⟨some 11, _, _, _, _, _⟩) (v := ?_) rfl (by kernel_rfl) (by kernel_rfl) (by kernel_rfl) (by kernel_rfl) (fun _ _ _ h => h) (Or.inl ⟨by rfl, ?_⟩) ⟨cm2, x32, x42⟩ (fun _ => trivial) ?_
    rotate_left
    · intro w' hT
      obtain ⟨t1, t2, t3⟩ := hT
      go_simp
      (try rw [if_pos (by omega)])
      (try with_reducible rfl)
    rotate_left
    (try simp only [Act.put, List.setIfInBounds_toArray, List.set_cons_zero, List.set_cons_succ])
    refine wpKeep_takeT (i := 13) (oi := ⟨some 12, _, _, _, _, _⟩) (v := ?_) rfl (by kernel_rfl) (by kernel_rfl) (by kernel_rfl) (by kernel_rfl) (fun _ _ _ h => h) (Or.inl ⟨by rfl, ?_⟩) ⟨cm2, x32, x42⟩ (fun _ => trivial) ?_
    rotate_left
    · intro w' hT
      obtain ⟨t1, t2, t3⟩ := hT
      go_simp
      (try rw [if_pos (by omega)])
      (try with_reducible rfl)
    rotate_left
    (try simp only [Act.put, List.setIfInBounds_toArray, List.set_cons_zero, List.set_cons_succ])
    refine wpKeep_done (by kernel_rfl) ?_ _
    clear cm cy x3 x4 cm2
    have hob3 : ob < w3.heap.size := Nat.lt_of_lt_of_le hob1 f.size
    have hxb3 : xb < w3.heap.size := Nat.lt_of_lt_of_le hxb1 f.size
    go_wp2_with fail
    refine wp_region_keep 14 (fun w' => w'.cell? ⟨ob, 2, none⟩ = some (.pointer (some ⟨y 0, 0, none⟩)) ∧ w'.cell? ⟨xb, 3, none⟩ = some (.string (str key)) ∧ w'.cell? ⟨xb, 4, none⟩ = some (.string (str val))) (fun _ => True) (fun _ => true) (by kernel_rfl) (by kernel_rfl) ?_
    (try (change wpKeep _ _ _ _ _ _ _ _ _ _ (World.drew _)))
    refine wpKeep_takeT (i := 0) (oi := ⟨some 111, _, _, _, _, _⟩) (v := ?_) rfl (by kernel_rfl) (by kernel_rfl) (by kernel_rfl) (by kernel_rfl) (fun _ _ _ h => h) (Or.inl ⟨by rfl, ?_⟩) ⟨cy2, x32, x42⟩ (fun _ => trivial) ?_
    rotate_left
    · intro w' hT
      obtain ⟨t1, t2, t3⟩ := hT
      go_simp
      (try rw [if_pos (by omega)])
      (try with_reducible rfl)
    rotate_left
    (try simp only [Act.put, List.setIfInBounds_toArray, List.set_cons_zero, List.set_cons_succ])
    refine wpKeep_takeT (i := 1) (oi := ⟨some 112, _, _, _, _, _⟩) (v := ?_) rfl (by kernel_rfl) (by kernel_rfl) (by kernel_rfl) (by kernel_rfl) (fun _ _ _ h => h) (Or.inl ⟨by rfl, ?_⟩) ⟨cy2, x32, x42⟩ (fun _ => trivial) ?_
    rotate_left
    · intro w' hT
      obtain ⟨t1, t2, t3⟩ := hT
      go_simp
      (try rw [if_pos (by omega)])
      (try with_reducible rfl)
    rotate_left
    (try simp only [Act.put, List.setIfInBounds_toArray, List.set_cons_zero, List.set_cons_succ])
    refine wpKeep_takeT (i := 2) (oi := ⟨some 113, _, _, _, _, _⟩) (v := ?_) rfl (by kernel_rfl) (by kernel_rfl) (by kernel_rfl) (by kernel_rfl) (fun _ _ _ h => h) (Or.inl ⟨by rfl, ?_⟩) ⟨cy2, x32, x42⟩ (fun _ => trivial) ?_
    rotate_left
    · intro w' hT
      obtain ⟨t1, t2, t3⟩ := hT
      go_simp
      (try rw [if_pos (by omega)])
      (try with_reducible rfl)
    rotate_left
    (try simp only [Act.put, List.setIfInBounds_toArray, List.set_cons_zero, List.set_cons_succ])
    refine wpKeep_takeT (i := 3) (oi := ⟨some 114, _, _, _, _, _⟩) (v := ?_) rfl (by kernel_rfl) (by kernel_rfl) (by kernel_rfl) (by kernel_rfl) (fun _ _ _ h => h) (Or.inl ⟨by rfl, ?_⟩) ⟨cy2, x32, x42⟩ (fun _ => trivial) ?_
    rotate_left
    · intro w' hT
      obtain ⟨t1, t2, t3⟩ := hT
      go_simp
      (try rw [if_pos (by omega)])
      (try with_reducible rfl)
    rotate_left
    (try simp only [Act.put, List.setIfInBounds_toArray, List.set_cons_zero, List.set_cons_succ])
    refine wpKeep_takeT (i := 4) (oi := ⟨some 115, _, _, _, _, _⟩) (v := ?_) rfl (by kernel_rfl) (by kernel_rfl) (by kernel_rfl) (by kernel_rfl) (fun _ _ _ h => h) (Or.inl ⟨by rfl, ?_⟩) ⟨cy2, x32, x42⟩ (fun _ => trivial) ?_
    rotate_left
    · intro w' hT
      obtain ⟨t1, t2, t3⟩ := hT
      go_simp
      (try rw [if_pos (by omega)])
      (try with_reducible rfl)
    rotate_left
    (try simp only [Act.put, List.setIfInBounds_toArray, List.set_cons_zero, List.set_cons_succ])
    refine wpKeep_takeT (i := 5) (oi := ⟨some 116, _, _, _, _, _⟩) (v := ?_) rfl (by kernel_rfl) (by kernel_rfl) (by kernel_rfl) (by kernel_rfl) (fun _ _ _ h => h) (Or.inl ⟨by rfl, ?_⟩) ⟨cy2, x32, x42⟩ (fun _ => trivial) ?_
    rotate_left
    · intro w' hT
      obtain ⟨t1, t2, t3⟩ := hT
      go_simp
      (try rw [if_pos (by omega)])
      (try with_reducible rfl)
    rotate_left
    (try simp only [Act.put, List.setIfInBounds_toArray, List.set_cons_zero, List.set_cons_succ])
    refine wpKeep_takeT (i := 6) (oi := ⟨some 117, _, _, _, _, _⟩) (v := ?_) rfl (by kernel_rfl) (by kernel_rfl) (by kernel_rfl) (by kernel_rfl) (fun _ _ _ h => h) (Or.inl ⟨by rfl, ?_⟩) ⟨cy2, x32, x42⟩ (fun _ => trivial) ?_
    rotate_left
    · intro w' hT
      obtain ⟨t1, t2, t3⟩ := hT
      go_simp
      (try rw [if_pos (by omega)])
      (try with_reducible rfl)
    rotate_left
    (try simp only [Act.put, List.setIfInBounds_toArray, List.set_cons_zero, List.set_cons_succ])
    refine wpKeep_takeT (i := 7) (oi := ⟨some 118, _, _, _, _, _⟩) (v := ?_) rfl (by kernel_rfl) (by kernel_rfl) (by kernel_rfl) (by kernel_rfl) (fun _ _ _ h => h) (Or.inl ⟨by rfl, ?_⟩) ⟨cy2, x32, x42⟩ (fun _ => trivial) ?_
    rotate_left
    · intro w' hT
      obtain ⟨t1, t2, t3⟩ := hT
      go_simp
      (try rw [if_pos (by omega)])
      (try with_reducible rfl)
    rotate_left
    (try simp only [Act.put, List.setIfInBounds_toArray, List.set_cons_zero, List.set_cons_succ])
    refine wpKeep_ready (rs := [8]) (by kernel_rfl) (by simp) ?_
    refine AllKeep.cons (o := ⟨some 119, _, _, _, _, _⟩) rfl (fun Kq hK => ?_) AllKeep.nil
    go_simp
    go_at_call 20
    refine (HDG.out _ f.drew).mono ?_
    rintro e w4 ⟨rfl, f40⟩
    have f4 : Fresh w3 w4 := (Keeps.refl (fun _ => False) w3).drew.trans f40
    have cy4 := (f4.cell (p := ⟨ob, 2, none⟩) hob3 (fun h => h)).trans cy2
    have x34 := (f4.cell (p := ⟨xb, 3, none⟩) hxb3 (fun h => h)).trans x32
    have x44 := (f4.cell (p := ⟨xb, 4, none⟩) hxb3 (fun h => h)).trans x42
    refine hK.out _ _ ⟨cy4, x34, x44⟩ (fun _ => trivial) ?_
    clear hK Kq
    (try simp only [Act.put, List.setIfInBounds_toArray, List.set_cons_zero, List.set_cons_succ])
    refine wpKeep_takeT (i := 9) (oi := ⟨some 110, _, _, _, _, _⟩) (v := ?_) rfl (by kernel_rfl) (by kernel_rfl) (by kernel_rfl) (by kernel_rfl) (fun _ _ _ h => h) (Or.inl ⟨by rfl, ?_⟩) ⟨cy4, x34, x44⟩ (fun _ => trivial) ?_
    rotate_left
    · intro w' hT
      obtain ⟨t1, t2, t3⟩ := hT
      go_simp
      (try rw [if_pos (by omega)])
      (try with_reducible rfl)
    rotate_left
    (try simp only [Act.put, List.setIfInBounds_toArray, List.set_cons_zero, List.set_cons_succ])
    refine wpKeep_takeT (i := 10) (oi := ⟨some 120, _, _, _, _, _⟩) (v := ?_) rfl (by kernel_rfl) (by kernel_rfl) (by kernel_rfl) (by kernel_rfl) (fun _ _ _ h => h) (Or.inl ⟨by rfl, ?_⟩) ⟨cy4, x34, x44⟩ (fun _ => trivial) ?_
    rotate_left
    · intro w' hT
      obtain ⟨t1, t2, t3⟩ := hT
      go_simp
      (try rw [if_pos (by omega)])
      (try with_reducible rfl)
    rotate_left
    (try simp only [Act.put, List.setIfInBounds_toArray, List.set_cons_zero, List.set_cons_succ])
    refine wpKeep_takeT (i := 11) (oi := ⟨some 121, _, _, _, _, _⟩) (v := ?_) rfl (by kernel_rfl) (by kernel_rfl) (by kernel_rfl) (by kernel_rfl) (fun _ _ _ h => h) (Or.inl ⟨by rfl, ?_⟩) ⟨cy4, x34, x44⟩ (fun _ => trivial) ?_
    rotate_left
    · intro w' hT
      obtain ⟨t1, t2, t3⟩ := hT
      go_simp
      (try rw [if_pos (by omega)])
      (try with_reducible rfl)
    rotate_left
    (try simp only [Act.put, List.setIfInBounds_toArray, List.set_cons_zero, List.set_cons_succ])
    refine wpKeep_takeT (i := 12) (oi := ⟨some 13, _, _, _, _, _⟩) (v := ?_) rfl (by kernel_rfl) (by kernel_rfl) (by kernel_rfl) (by kernel_rfl) (fun _ _ _ h => h) (Or.inl ⟨by rfl, ?_⟩) ⟨cy4, x34, x44⟩ (fun _ => trivial) ?_
    rotate_left
    · intro w' hT
      obtain ⟨t1, t2, t3⟩ := hT
      go_simp
      (try rw [if_pos (by omega)])
      (try with_reducible rfl)
    rotate_left
    (try simp only [Act.put, List.setIfInBounds_toArray, List.set_cons_zero, List.set_cons_succ])
    refine wpKeep_takeT (i := 13) (oi := ⟨some 14, _, _, _, _, _⟩) (v := ?_) rfl (by kernel_rfl) (by kernel_rfl) (by kernel_rfl) (by kernel_rfl) (fun _ _ _ h => h) (Or.inl ⟨by rfl, ?_⟩) ⟨cy4, x34, x44⟩ (fun _ => trivial) ?_
    rotate_left
    · intro w' hT
      obtain ⟨t1, t2, t3⟩ := hT
      go_simp
      (try rw [if_pos (by omega)])
      (try with_reducible rfl)
    rotate_left
    (try simp only [Act.put, List.setIfInBounds_toArray, List.set_cons_zero, List.set_cons_succ])
    refine wpKeep_done (by kernel_rfl) ?_ _
    clear cy2 x32 x42 cy4 x34 x44
    go_wp2_with fail
    go_ret
    have ff := f.trans f4
    exact ⟨by first | rfl | simp, After.of ((H1.out.fresh ff).most (by omega)) HH.out (fun k hk => by have := HN.out k hk; omega), HB1.out.trans (ff.mono fun _ _ h => h.elim)⟩
end Go.Proofs.YtmflbchiapdhbaaGreatDoor
