/-
  The law's step: Len and Keys.
-/
import Derived.Test.YtmflbchiapdhbaaGreatDoorTpPlayA
import Derived.Test.YtmflbchiapdhbaaGreatDoorMMsF
import Derived.Test.YtmflbchiapdhbaaGreatDoorTpAll
import Derived.BigQuiet
import Derived.Deep.RegionLaw
namespace Go.Proofs.YtmflbchiapdhbaaGreatDoor
open Go.RowKit

theorem owned_any (B ob N : Nat) (c : Nat → Nat) (w : World) (kp : Bool) (m y n : Nat → Nat) (t : Nat → Tr) (dv : Nat → Value) (L : Nat → List Ent) (lv fv wv v : Value) (A F Wv : List Value) (C : List Texts) (l : Texts) (h : TW B c w ob kp m y t n dv L lv fv wv A F Wv C N) (hN : N ≤ 1000) (hv : w.ownsRow 0 9 1 v l.length (texts l)) (hvc : ∀ g, v.ownBlock = some g → B ≤ g ∧ c g = 0) (hl : l.length ≤ 1000) :
    Calls Tryz.prog 24 #[.pointer (some ⟨ob, 0, none⟩), v] w fun x w' => x = .returned (.tuple #[]) ∧ Owned B c w w' ob kp m y t n dv L N v := by
  cases kp with
  | true => exact owned_keep B ob N c w m y n t dv L lv fv wv v A F Wv C l h hN hv hvc hl
  | false => exact owned_mark B ob N c w m y n t dv L lv fv wv v A F Wv C l h hN hv hvc hl

set_option maxRecDepth 100000 in
set_option maxHeartbeats 8000000 in
theorem play_keys (B ob N M : Nat) (c : Nat → Nat) (w : World) (kp : Bool) (m y n : Nat → Nat) (t : Nat → Tr) (dv : Nat → Value) (L : Nat → List Ent) (lv fv wv : Value) (A F Wv : List Value) (C : List Texts) (h : TW B c w ob kp m y t n dv L lv fv wv A F Wv C N) (hh : ∀ k, k < 2 → Has (t k) (L k)) (hn : ∀ k, k < 2 → n k ≤ M) (hM : M ≤ 900) (hN : N ≤ 900) (hd : Dig w) (hgB : 3 ≤ B)
    (oo kb : Bool) (key val : List UInt8) (hkey : key.length ≤ 9223372036854775807) (hval : val.length ≤ 9223372036854775807) :
    Calls Tryz.prog 7 #[.pointer (some ⟨ob, 0, none⟩), .agg #[.bool oo, .bool kb, .int .i64 4, .string (str key), .string (str val)]] w fun e w' => e = .returned (.bool true) ∧ After B w' ob (N + 2) (M + 1) ∧ Keeps (fun q => B ≤ q) w w' := by
  have H := hid h
  have HH := hid hh
  have HN := hid hn
  have HD := hid fun W (k : Keeps (fun q => B ≤ q) w W) => hd.keepsOut (k.mono fun q _ e => .inr e) hgB hgB
  have hu := And.intro hM (And.intro hN (And.intro hkey hval))
  clear hu
  have hbl := lt_of_block h.box
  have c7 := ((Keeps.refl (fun _ => False) w).alloc (opObj oo kb (4) key val)).at_ h.box (fun h => h)
  have d7 := free_at c7 7
  replace c7 := (cell_at c7 7).trans (show _ = some (Value.bool kp) from rfl)
  unfold opObj at c7 d7
  clear h hh hn hd
  cases oo with
  | true =>
    have cw := (cell_at H.out.box 1).trans (show _ = some (Value.pointer (some ⟨m 1, 0, none⟩)) from rfl)
    go_enter Tryz.func7, Tryz.ntmps7
    go_wp2_with fail
    obtain ⟨W1, hW1⟩ : ∃ W1, (w.setCell ⟨ob, 7, none⟩ (.bool kb)).alloc (opObj true kb (4) key val) = W1 := ⟨_, rfl⟩
    obtain ⟨h1, hop, k1, hBob⟩ := H.out.open_ true kb (4) key val hW1
    unfold opObj at hW1 hop
    rw [hW1]
    have hB1 : Keeps (fun q => B ≤ q) w W1 := k1.mono (fun q _ e => by rw [e]; exact hBob)
    obtain ⟨xb, hxb⟩ : ∃ xb, w.heap.size = xb := ⟨_, rfl⟩
    rw [hxb] at hop ⊢
    have x3 := (cell_at hop 3).trans (show _ = some (Value.string (str key)) from rfl)
    have x4 := (cell_at hop 4).trans (show _ = some (Value.string (str val)) from rfl)
    have cm := (cell_at h1.box 1).trans (show _ = some (Value.pointer (some ⟨m 1, 0, none⟩)) from rfl)
    have cy := (cell_at h1.box 3).trans (show _ = some (Value.pointer (some ⟨y 1, 0, none⟩)) from rfl)
    have hob1 := lt_of_block h1.box
    have hxb1 := lt_of_block hop
    have hD1 := HD.out W1 hB1
    have hMap := h1.map 1 (by omega)
    have hDoc := h1.doc 1 (by omega)
    have hHas := HH.out 1 (by omega)
    have hnk := HN.out 1 (by omega)
    have hgood := hMap.good
    have hlen : (L 1).length = n 1 := (hHas.len hgood).trans hMap.count
    have hxm : ¬ xb = m 1 := fun e => by have := (H.out.map 1 (by omega)).lt; omega
    have H1 := hid h1
    have HB1 := hid hB1
    have HOP := hid hop
    clear cw
    clear x3 x4 HOP hxb1 hxm h1 hB1 hop k1 hBob hW1 hxb c7 d7
    have hnk9 : n 1 ≤ 900 := by omega
    have HK := hid fun W (f : Fresh W1 W) => keys_any (m 1) (t 1) (n 1) W (hMap.fresh f).at_ (by rw [hMap.count]; omega)
    have HDK := hid fun W (f : Fresh W1 W) => dkeys_all (y 1) (dv 1) (L 1) (t 1) W (hDoc.fresh f) (by omega) hgood hHas
    have HRL : Hid ((rising (t 1).keys).length ≤ 900) := by rw [Hid, rising_length, hMap.count]; exact hnk9
    have HLEN := hid hlen
    have HMAPK := hid hMap
    clear hMap hDoc hHas hgood hD1 hlen hnk
    generalize hkl : rising (t 1).keys = kl at HK HDK HRL
    clear hkl
    refine (HK.out _ (Keeps.refl _ _)).mono ?_
    rintro e w2 ⟨v2, rfl, f2, o2⟩
    have cm2 := (f2.cell (p := ⟨ob, 1, none⟩) hob1 (fun h => h)).trans cm
    have cy2 := (f2.cell (p := ⟨ob, 3, none⟩) hob1 (fun h => h)).trans cy
    have O2 := hid o2
    obtain ⟨a2, p2, rfl⟩ := ownsRow_slice o2.1
    clear o2 cm cy
    go_wp2_with fail
    refine (HK.out _ f2).mono ?_
    rintro e w3 ⟨v3, rfl, f3, o3⟩
    have f13 := f2.trans f3
    have cy3 := (f3.cell (p := ⟨ob, 3, none⟩) (World.block_lt_of_cell? _ _ cy2) (fun h => h)).trans cy2
    have O3 := hid o3
    obtain ⟨a3, p3, rfl⟩ := ownsRow_slice o3.1
    clear o3 cm2 cy2
    go_wp2_with fail
    refine (HDK.out _ f13).mono ?_
    rintro e w4 ⟨v4, rfl, f4, o4⟩
    have f14 := f13.trans f4
    have cy4 := (f4.cell (p := ⟨ob, 3, none⟩) (World.block_lt_of_cell? _ _ cy3) (fun h => h)).trans cy3
    have O4 := hid o4
    obtain ⟨a4, p4, rfl⟩ := ownsRow_slice o4.1
    clear o4 cy3
    go_wp2_with fail
    have HS1 := sameTexts_any _ _ kl kl w4 (O2.out.at_.fresh (f3.trans f4)) O4.out.at_ (by have := HRL.out; omega) (by have := HRL.out; omega)
    rw [decide_eq_true (rfl : kl = kl)] at HS1
    refine HS1.mono ?_
    rintro e w5 ⟨rfl, f5⟩
    have f15 := f14.trans f5
    have cy5 := (f5.cell (p := ⟨ob, 3, none⟩) (World.block_lt_of_cell? _ _ cy4) (fun h => h)).trans cy4
    clear cy4 HS1
    go_wp2_with fail
    refine (HDK.out _ f15).mono ?_
    rintro e w6 ⟨v6, rfl, f6, o6⟩
    have O6 := hid o6
    obtain ⟨a6, p6, rfl⟩ := ownsRow_slice o6.1
    clear o6 cy5
    go_wp2_with fail
    have HS2 := sameTexts_any _ _ kl kl w6 (O3.out.at_.fresh ((f4.trans f5).trans f6)) O6.out.at_ (by have := HRL.out; omega) (by have := HRL.out; omega)
    rw [decide_eq_true (rfl : kl = kl)] at HS2
    refine HS2.mono ?_
    rintro e w7 ⟨rfl, f7⟩
    have f37 := ((f4.trans f5).trans f6).trans f7
    have f17 := f13.trans f37
    have f27 := f3.trans f37
    clear HS2
    have T7 := H1.out.fresh f17
    have r2 := ownsRow_keeps O2.out.1 f27 (fun _ _ h => h)
    have r3 := ownsRow_keeps O3.out.1 f37 (fun _ _ h => h)
    have z2 : ∀ g, (Value.slice a2 kl.length p2).ownBlock = some g → W1.heap.size ≤ g ∧ g < w2.heap.size := fun g hg => ⟨O2.out.2 g hg, (O2.out.1.lt g hg).2⟩
    have z3 : ∀ g, (Value.slice a3 kl.length p3).ownBlock = some g → w2.heap.size ≤ g ∧ g < w3.heap.size := fun g hg => ⟨O3.out.2 g hg, (O3.out.1.lt g hg).2⟩
    have hBW := H1.out.size
    have n2 : ∀ g, (Value.slice a2 kl.length p2).ownBlock = some g → B ≤ g ∧ paint (paint c w 0) W1 0 g = 0 := fun g hg => ⟨by have := z2 g hg; omega, paint_new (z2 g hg).1⟩
    have HOW := hid (owned_any B ob N _ w7 kb m y n t dv L lv fv wv _ A F Wv C kl T7 (by omega) r2 n2 (by have := HRL.out; omega))
    have HT7 := hid T7
    have HF := hid (And.intro f17 (And.intro f2 (And.intro f3 (And.intro f37 hBW))))
    have HZ := hid (And.intro z2 (And.intro z3 (And.intro n2 r3)))
    clear f2 f3 f4 f5 f6 f7 f13 f14 f15 f37 f17 f27 T7 r2 r3 z2 z3 n2 hBW
    go_wp2_with fail
    refine HOW.out.mono ?_
    rintro e w8 ⟨rfl, c8, l8, fv8, wv8, A8, F8, Wv8, C8, T8, k8, z8⟩
    have e3 : ∀ g, (Value.slice a3 kl.length p3).ownBlock = some g → g < w7.heap.size ∧ paint (paint c w 0) W1 0 g = 0 ∧ (Value.slice a2 kl.length p2).ownBlock ≠ some g := fun g hg => by
      have h1 := HZ.out.2.1 g hg
      have h2 := HF.out.2.2.2.1.size
      have h3 := HF.out.2.1.size
      exact ⟨by omega, paint_new (by omega), fun e => by have := HZ.out.1 g e; omega⟩
    have r38 := ownsRow_keeps HZ.out.2.2.2 k8 (fun g hg e => e.elim (fun e => e (e3 g hg).2.1) (e3 g hg).2.2)
    have n38 : ∀ g, (Value.slice a3 kl.length p3).ownBlock = some g → B ≤ g ∧ c8 g = 0 := fun g hg => ⟨by have := HZ.out.2.1 g hg; have := HF.out.2.1.size; have := HF.out.2.2.2.2; omega, z8 g (e3 g hg).1 (e3 g hg).2.1 (e3 g hg).2.2⟩
    have HOW2 := hid (owned_any B ob (N + 1) c8 w8 kb m y n t dv L l8 fv8 wv8 _ A8 F8 Wv8 C8 kl T8 (by omega) r38 n38 (by have := HRL.out; omega))
    have k28 : Keeps (fun q => B ≤ q) w w8 := (HB1.out.trans (HF.out.1.mono fun _ _ h => h.elim)).trans (k8.mono fun q _ e => by
      rcases e with e | e
      · apply Classical.byContradiction
        intro hn
        exact e (HT7.out.low q (by omega))
      · exact (HZ.out.2.2.1 q e).1)
    have K28 := hid k28
    have N38 := hid n38
    have T8H := hid T8
    clear T8 k8 z8 e3 r38 n38 k28 HOW
    go_wp2_with fail
    refine HOW2.out.mono ?_
    rintro e w9 ⟨rfl, c9, l9, fv9, wv9, A9, F9, Wv9, C9, T9, k9, z9⟩
    have k29 : Keeps (fun q => B ≤ q) w w9 := K28.out.trans (k9.mono fun q _ e => by
      rcases e with e | e
      · apply Classical.byContradiction
        intro hn
        exact e (T8H.out.low q (by omega))
      · exact (N38.out q e).1)
    have cm9 := (cell_at T9.box 1).trans (show _ = some (Value.pointer (some ⟨m 1, 0, none⟩)) from rfl)
    have cy9 := (cell_at T9.box 3).trans (show _ = some (Value.pointer (some ⟨y 1, 0, none⟩)) from rfl)
    have hob9 := lt_of_block T9.box
    have hM9 := T9.map 1 (by omega)
    have hD9 := T9.doc 1 (by omega)
    have HL1 := hid fun W (f : Fresh w9 W) => len_map (m 1) (n 1) (t 1) W (hM9.fresh f)
    have HL2 : Hid (∀ W, Fresh w9 W → Calls Tryz.prog 26 #[.pointer (some ⟨y 1, 0, none⟩)] W fun e w' => e = .returned (.int .i64 (n 1 : Int)) ∧ Fresh W w') := fun W f => by
      have := dlenmap_any (y 1) (dv 1) (L 1) W (hD9.fresh f)
      rwa [HLEN.out] at this
    have HT9 := hid T9
    have HK29 := hid k29
    clear T9 k9 z9 k29 hM9 hD9 HOW2
    go_wp2_with fail
    refine wp_region_keep 22 (fun w' => w'.cell? ⟨ob, 1, none⟩ = some (.pointer (some ⟨m 1, 0, none⟩)) ∧ w'.cell? ⟨ob, 3, none⟩ = some (.pointer (some ⟨y 1, 0, none⟩))) (fun _ => True) (fun _ => true) (by kernel_rfl) (by kernel_rfl) ?_
    (try (change wpKeep _ _ _ _ _ _ _ _ _ _ (World.drew _)))
    refine wpKeep_takeT (i := 0) (oi := ⟨some 170, _, _, _, _, _⟩) (v := ?_) rfl (by kernel_rfl) (by kernel_rfl) (by kernel_rfl) (by kernel_rfl) (fun _ _ _ h => h) (Or.inl ⟨by rfl, ?_⟩) ⟨cm9, cy9⟩ (fun _ => trivial) ?_
    rotate_left
    · intro w' hT
      obtain ⟨t1, t2⟩ := hT
      go_simp
      (try rw [if_pos (by omega)])
      (try with_reducible rfl)
    rotate_left
    (try simp only [Act.put, List.setIfInBounds_toArray, List.set_cons_zero, List.set_cons_succ])
    refine wpKeep_takeT (i := 1) (oi := ⟨some 171, _, _, _, _, _⟩) (v := ?_) rfl (by kernel_rfl) (by kernel_rfl) (by kernel_rfl) (by kernel_rfl) (fun _ _ _ h => h) (Or.inl ⟨by rfl, ?_⟩) ⟨cm9, cy9⟩ (fun _ => trivial) ?_
    rotate_left
    · intro w' hT
      obtain ⟨t1, t2⟩ := hT
      go_simp
      (try rw [if_pos (by omega)])
      (try with_reducible rfl)
    rotate_left
    (try simp only [Act.put, List.setIfInBounds_toArray, List.set_cons_zero, List.set_cons_succ])
    refine wpKeep_takeT (i := 2) (oi := ⟨some 172, _, _, _, _, _⟩) (v := ?_) rfl (by kernel_rfl) (by kernel_rfl) (by kernel_rfl) (by kernel_rfl) (fun _ _ _ h => h) (Or.inl ⟨by rfl, ?_⟩) ⟨cm9, cy9⟩ (fun _ => trivial) ?_
    rotate_left
    · intro w' hT
      obtain ⟨t1, t2⟩ := hT
      go_simp
      (try rw [if_pos (by omega)])
      (try with_reducible rfl)
    rotate_left
    (try simp only [Act.put, List.setIfInBounds_toArray, List.set_cons_zero, List.set_cons_succ])
    refine wpKeep_takeT (i := 3) (oi := ⟨some 173, _, _, _, _, _⟩) (v := ?_) rfl (by kernel_rfl) (by kernel_rfl) (by kernel_rfl) (by kernel_rfl) (fun _ _ _ h => h) (Or.inl ⟨by rfl, ?_⟩) ⟨cm9, cy9⟩ (fun _ => trivial) ?_
    rotate_left
    · intro w' hT
      obtain ⟨t1, t2⟩ := hT
      go_simp
      (try rw [if_pos (by omega)])
      (try with_reducible rfl)
    rotate_left
    (try simp only [Act.put, List.setIfInBounds_toArray, List.set_cons_zero, List.set_cons_succ])
    refine wpKeep_takeT (i := 4) (oi := ⟨some 174, _, _, _, _, _⟩) (v := ?_) rfl (by kernel_rfl) (by kernel_rfl) (by kernel_rfl) (by kernel_rfl) (fun _ _ _ h => h) (Or.inl ⟨by rfl, ?_⟩) ⟨cm9, cy9⟩ (fun _ => trivial) ?_
    rotate_left
    · intro w' hT
      obtain ⟨t1, t2⟩ := hT
      go_simp
      (try rw [if_pos (by omega)])
      (try with_reducible rfl)
    rotate_left
    (try simp only [Act.put, List.setIfInBounds_toArray, List.set_cons_zero, List.set_cons_succ])
    refine wpKeep_takeT (i := 5) (oi := ⟨some 175, _, _, _, _, _⟩) (v := ?_) rfl (by kernel_rfl) (by kernel_rfl) (by kernel_rfl) (by kernel_rfl) (fun _ _ _ h => h) (Or.inl ⟨by rfl, ?_⟩) ⟨cm9, cy9⟩ (fun _ => trivial) ?_
    rotate_left
    · intro w' hT
      obtain ⟨t1, t2⟩ := hT
      go_simp
      (try rw [if_pos (by omega)])
      (try with_reducible rfl)
    rotate_left
    (try simp only [Act.put, List.setIfInBounds_toArray, List.set_cons_zero, List.set_cons_succ])
    refine wpKeep_takeT (i := 6) (oi := ⟨some 176, _, _, _, _, _⟩) (v := ?_) rfl (by kernel_rfl) (by kernel_rfl) (by kernel_rfl) (by kernel_rfl) (fun _ _ _ h => h) (Or.inl ⟨by rfl, ?_⟩) ⟨cm9, cy9⟩ (fun _ => trivial) ?_
    rotate_left
    · intro w' hT
      obtain ⟨t1, t2⟩ := hT
      go_simp
      (try rw [if_pos (by omega)])
      (try with_reducible rfl)
    rotate_left
    (try simp only [Act.put, List.setIfInBounds_toArray, List.set_cons_zero, List.set_cons_succ])
    refine wpKeep_takeT (i := 7) (oi := ⟨some 177, _, _, _, _, _⟩) (v := ?_) rfl (by kernel_rfl) (by kernel_rfl) (by kernel_rfl) (by kernel_rfl) (fun _ _ _ h => h) (Or.inl ⟨by rfl, ?_⟩) ⟨cm9, cy9⟩ (fun _ => trivial) ?_
    rotate_left
    · intro w' hT
      obtain ⟨t1, t2⟩ := hT
      go_simp
      (try rw [if_pos (by omega)])
      (try with_reducible rfl)
    rotate_left
    (try simp only [Act.put, List.setIfInBounds_toArray, List.set_cons_zero, List.set_cons_succ])
    refine wpKeep_takeT (i := 8) (oi := ⟨some 178, _, _, _, _, _⟩) (v := ?_) rfl (by kernel_rfl) (by kernel_rfl) (by kernel_rfl) (by kernel_rfl) (fun _ _ _ h => h) (Or.inl ⟨by rfl, ?_⟩) ⟨cm9, cy9⟩ (fun _ => trivial) ?_
    rotate_left
    · intro w' hT
      obtain ⟨t1, t2⟩ := hT
      go_simp
      (try rw [if_pos (by omega)])
      (try with_reducible rfl)
    rotate_left
    (try simp only [Act.put, List.setIfInBounds_toArray, List.set_cons_zero, List.set_cons_succ])
    refine wpKeep_takeT (i := 9) (oi := ⟨some 179, _, _, _, _, _⟩) (v := ?_) rfl (by kernel_rfl) (by kernel_rfl) (by kernel_rfl) (by kernel_rfl) (fun _ _ _ h => h) (Or.inl ⟨by rfl, ?_⟩) ⟨cm9, cy9⟩ (fun _ => trivial) ?_
    rotate_left
    · intro w' hT
      obtain ⟨t1, t2⟩ := hT
      go_simp
      (try rw [if_pos (by omega)])
      (try with_reducible rfl)
    rotate_left
    (try simp only [Act.put, List.setIfInBounds_toArray, List.set_cons_zero, List.set_cons_succ])
    refine wpKeep_takeT (i := 10) (oi := ⟨some 180, _, _, _, _, _⟩) (v := ?_) rfl (by kernel_rfl) (by kernel_rfl) (by kernel_rfl) (by kernel_rfl) (fun _ _ _ h => h) (Or.inl ⟨by rfl, ?_⟩) ⟨cm9, cy9⟩ (fun _ => trivial) ?_
    rotate_left
    · intro w' hT
      obtain ⟨t1, t2⟩ := hT
      go_simp
      (try rw [if_pos (by omega)])
      (try with_reducible rfl)
    rotate_left
    (try simp only [Act.put, List.setIfInBounds_toArray, List.set_cons_zero, List.set_cons_succ])
    refine wpKeep_takeT (i := 12) (oi := ⟨some 182, _, _, _, _, _⟩) (v := ?_) rfl (by kernel_rfl) (by kernel_rfl) (by kernel_rfl) (by kernel_rfl) (fun _ _ _ h => h) (Or.inl ⟨by rfl, ?_⟩) ⟨cm9, cy9⟩ (fun _ => trivial) ?_
    rotate_left
    · intro w' hT
      obtain ⟨t1, t2⟩ := hT
      go_simp
      (try rw [if_pos (by omega)])
      (try with_reducible rfl)
    rotate_left
    (try simp only [Act.put, List.setIfInBounds_toArray, List.set_cons_zero, List.set_cons_succ])
    refine wpKeep_takeT (i := 13) (oi := ⟨some 183, _, _, _, _, _⟩) (v := ?_) rfl (by kernel_rfl) (by kernel_rfl) (by kernel_rfl) (by kernel_rfl) (fun _ _ _ h => h) (Or.inl ⟨by rfl, ?_⟩) ⟨cm9, cy9⟩ (fun _ => trivial) ?_
    rotate_left
    · intro w' hT
      obtain ⟨t1, t2⟩ := hT
      go_simp
      (try rw [if_pos (by omega)])
      (try with_reducible rfl)
    rotate_left
    (try simp only [Act.put, List.setIfInBounds_toArray, List.set_cons_zero, List.set_cons_succ])
    refine wpKeep_takeT (i := 14) (oi := ⟨some 184, _, _, _, _, _⟩) (v := ?_) rfl (by kernel_rfl) (by kernel_rfl) (by kernel_rfl) (by kernel_rfl) (fun _ _ _ h => h) (Or.inl ⟨by rfl, ?_⟩) ⟨cm9, cy9⟩ (fun _ => trivial) ?_
    rotate_left
    · intro w' hT
      obtain ⟨t1, t2⟩ := hT
      go_simp
      (try rw [if_pos (by omega)])
      (try with_reducible rfl)
    rotate_left
    (try simp only [Act.put, List.setIfInBounds_toArray, List.set_cons_zero, List.set_cons_succ])
    refine wpKeep_takeT (i := 15) (oi := ⟨some 185, _, _, _, _, _⟩) (v := ?_) rfl (by kernel_rfl) (by kernel_rfl) (by kernel_rfl) (by kernel_rfl) (fun _ _ _ h => h) (Or.inl ⟨by rfl, ?_⟩) ⟨cm9, cy9⟩ (fun _ => trivial) ?_
    rotate_left
    · intro w' hT
      obtain ⟨t1, t2⟩ := hT
      go_simp
      (try rw [if_pos (by omega)])
      (try with_reducible rfl)
    rotate_left
    (try simp only [Act.put, List.setIfInBounds_toArray, List.set_cons_zero, List.set_cons_succ])
    refine wpKeep_takeT (i := 16) (oi := ⟨some 186, _, _, _, _, _⟩) (v := ?_) rfl (by kernel_rfl) (by kernel_rfl) (by kernel_rfl) (by kernel_rfl) (fun _ _ _ h => h) (Or.inl ⟨by rfl, ?_⟩) ⟨cm9, cy9⟩ (fun _ => trivial) ?_
    rotate_left
    · intro w' hT
      obtain ⟨t1, t2⟩ := hT
      go_simp
      (try rw [if_pos (by omega)])
      (try with_reducible rfl)
    rotate_left
    (try simp only [Act.put, List.setIfInBounds_toArray, List.set_cons_zero, List.set_cons_succ])
    refine wpKeep_takeT (i := 17) (oi := ⟨some 187, _, _, _, _, _⟩) (v := ?_) rfl (by kernel_rfl) (by kernel_rfl) (by kernel_rfl) (by kernel_rfl) (fun _ _ _ h => h) (Or.inl ⟨by rfl, ?_⟩) ⟨cm9, cy9⟩ (fun _ => trivial) ?_
    rotate_left
    · intro w' hT
      obtain ⟨t1, t2⟩ := hT
      go_simp
      (try rw [if_pos (by omega)])
      (try with_reducible rfl)
    rotate_left
    (try simp only [Act.put, List.setIfInBounds_toArray, List.set_cons_zero, List.set_cons_succ])
    refine wpKeep_ready (rs := [11]) (by kernel_rfl) (by simp) ?_
    refine AllKeep.cons (o := ⟨some 181, _, _, _, _, _⟩) rfl (fun Kq hK => ?_) AllKeep.nil
    go_simp
    go_at_call 25
    refine (HL1.out _ (Keeps.refl (fun _ => False) w9).drew).mono ?_
    rintro e wx ⟨rfl, f0⟩
    have f : Fresh w9 wx := (Keeps.refl (fun _ => False) w9).drew.trans f0
    have cm10 := (f.cell (p := ⟨ob, 1, none⟩) hob9 (fun h => h)).trans cm9
    have cy10 := (f.cell (p := ⟨ob, 3, none⟩) hob9 (fun h => h)).trans cy9
    refine hK.out _ _ ⟨cm10, cy10⟩ (fun _ => trivial) ?_
    clear hK Kq
    (try simp only [Act.put, List.setIfInBounds_toArray, List.set_cons_zero, List.set_cons_succ])
    refine wpKeep_ready (rs := [18]) (by kernel_rfl) (by simp) ?_
    refine AllKeep.cons (o := ⟨some 188, _, _, _, _, _⟩) rfl (fun Kq hK => ?_) AllKeep.nil
    go_simp
    go_at_call 26
    refine (HL2.out _ f).mono ?_
    rintro e wz ⟨rfl, fz⟩
    have cm11 := (fz.cell (p := ⟨ob, 1, none⟩) (Nat.lt_of_lt_of_le hob9 f.size) (fun h => h)).trans cm10
    have cy11 := (fz.cell (p := ⟨ob, 3, none⟩) (Nat.lt_of_lt_of_le hob9 f.size) (fun h => h)).trans cy10
    refine hK.out _ _ ⟨cm11, cy11⟩ (fun _ => trivial) ?_
    clear hK Kq
    (try simp only [Act.put, List.setIfInBounds_toArray, List.set_cons_zero, List.set_cons_succ])
    refine wpKeep_takeT (i := 19) (oi := ⟨some 189, _, _, _, _, _⟩) (v := ?_) rfl (by kernel_rfl) (by kernel_rfl) (by kernel_rfl) (by kernel_rfl) (fun _ _ _ h => h) (Or.inl ⟨by rfl, ?_⟩) ⟨cm11, cy11⟩ (fun _ => trivial) ?_
    rotate_left
    · intro w' hT
      obtain ⟨t1, t2⟩ := hT
      go_simp
      (try rw [if_pos (by omega)])
      (try with_reducible rfl)
    rotate_left
    (try simp only [Act.put, List.setIfInBounds_toArray, List.set_cons_zero, List.set_cons_succ])
    refine wpKeep_takeT (i := 20) (oi := ⟨some 190, _, _, _, _, _⟩) (v := ?_) rfl (by kernel_rfl) (by kernel_rfl) (by kernel_rfl) (by kernel_rfl) (fun _ _ _ h => h) (Or.inl ⟨by rfl, ?_⟩) ⟨cm11, cy11⟩ (fun _ => trivial) ?_
    rotate_left
    · intro w' hT
      obtain ⟨t1, t2⟩ := hT
      go_simp
      (try rw [if_pos (by omega)])
      (try with_reducible rfl)
    rotate_left
    (try simp only [Act.put, List.setIfInBounds_toArray, List.set_cons_zero, List.set_cons_succ])
    refine wpKeep_takeT (i := 21) (oi := ⟨some 4, _, _, _, _, _⟩) (v := ?_) rfl (by kernel_rfl) (by kernel_rfl) (by kernel_rfl) (by kernel_rfl) (fun _ _ _ h => h) (Or.inl ⟨by rfl, ?_⟩) ⟨cm11, cy11⟩ (fun _ => trivial) ?_
    rotate_left
    · intro w' hT
      obtain ⟨t1, t2⟩ := hT
      go_simp
      (try rw [if_pos (by omega)])
      (try with_reducible rfl)
    rotate_left
    (try simp only [Act.put, List.setIfInBounds_toArray, List.set_cons_zero, List.set_cons_succ])
    refine wpKeep_done (by kernel_rfl) ?_ _
    clear cm9 cy9 cm10 cy10 cm11 cy11
    go_wp2_with fail
    go_ret
    have ff := f.trans fz
    exact ⟨by first | rfl | simp, After.of (HT9.out.fresh ff) HH.out (fun k hk => by have := HN.out k hk; omega), HK29.out.trans (ff.mono fun _ _ h => h.elim)⟩
  | false =>
    have cw := (cell_at H.out.box 0).trans (show _ = some (Value.pointer (some ⟨m 0, 0, none⟩)) from rfl)
    go_enter Tryz.func7, Tryz.ntmps7
    go_wp2_with fail
    obtain ⟨W1, hW1⟩ : ∃ W1, (w.setCell ⟨ob, 7, none⟩ (.bool kb)).alloc (opObj false kb (4) key val) = W1 := ⟨_, rfl⟩
    obtain ⟨h1, hop, k1, hBob⟩ := H.out.open_ false kb (4) key val hW1
    unfold opObj at hW1 hop
    rw [hW1]
    have hB1 : Keeps (fun q => B ≤ q) w W1 := k1.mono (fun q _ e => by rw [e]; exact hBob)
    obtain ⟨xb, hxb⟩ : ∃ xb, w.heap.size = xb := ⟨_, rfl⟩
    rw [hxb] at hop ⊢
    have x3 := (cell_at hop 3).trans (show _ = some (Value.string (str key)) from rfl)
    have x4 := (cell_at hop 4).trans (show _ = some (Value.string (str val)) from rfl)
    have cm := (cell_at h1.box 0).trans (show _ = some (Value.pointer (some ⟨m 0, 0, none⟩)) from rfl)
    have cy := (cell_at h1.box 2).trans (show _ = some (Value.pointer (some ⟨y 0, 0, none⟩)) from rfl)
    have hob1 := lt_of_block h1.box
    have hxb1 := lt_of_block hop
    have hD1 := HD.out W1 hB1
    have hMap := h1.map 0 (by omega)
    have hDoc := h1.doc 0 (by omega)
    have hHas := HH.out 0 (by omega)
    have hnk := HN.out 0 (by omega)
    have hgood := hMap.good
    have hlen : (L 0).length = n 0 := (hHas.len hgood).trans hMap.count
    have hxm : ¬ xb = m 0 := fun e => by have := (H.out.map 0 (by omega)).lt; omega
    have H1 := hid h1
    have HB1 := hid hB1
    have HOP := hid hop
    clear cw
    clear x3 x4 HOP hxb1 hxm h1 hB1 hop k1 hBob hW1 hxb c7 d7
    have hnk9 : n 0 ≤ 900 := by omega
    have HK := hid fun W (f : Fresh W1 W) => keys_any (m 0) (t 0) (n 0) W (hMap.fresh f).at_ (by rw [hMap.count]; omega)
    have HDK := hid fun W (f : Fresh W1 W) => dkeys_all (y 0) (dv 0) (L 0) (t 0) W (hDoc.fresh f) (by omega) hgood hHas
    have HRL : Hid ((rising (t 0).keys).length ≤ 900) := by rw [Hid, rising_length, hMap.count]; exact hnk9
    have HLEN := hid hlen
    have HMAPK := hid hMap
    clear hMap hDoc hHas hgood hD1 hlen hnk
    generalize hkl : rising (t 0).keys = kl at HK HDK HRL
    clear hkl
    refine (HK.out _ (Keeps.refl _ _)).mono ?_
    rintro e w2 ⟨v2, rfl, f2, o2⟩
    have cm2 := (f2.cell (p := ⟨ob, 0, none⟩) hob1 (fun h => h)).trans cm
    have cy2 := (f2.cell (p := ⟨ob, 2, none⟩) hob1 (fun h => h)).trans cy
    have O2 := hid o2
    obtain ⟨a2, p2, rfl⟩ := ownsRow_slice o2.1
    clear o2 cm cy
    go_wp2_with fail
    refine (HK.out _ f2).mono ?_
    rintro e w3 ⟨v3, rfl, f3, o3⟩
    have f13 := f2.trans f3
    have cy3 := (f3.cell (p := ⟨ob, 2, none⟩) (World.block_lt_of_cell? _ _ cy2) (fun h => h)).trans cy2
    have O3 := hid o3
    obtain ⟨a3, p3, rfl⟩ := ownsRow_slice o3.1
    clear o3 cm2 cy2
    go_wp2_with fail
    refine (HDK.out _ f13).mono ?_
    rintro e w4 ⟨v4, rfl, f4, o4⟩
    have f14 := f13.trans f4
    have cy4 := (f4.cell (p := ⟨ob, 2, none⟩) (World.block_lt_of_cell? _ _ cy3) (fun h => h)).trans cy3
    have O4 := hid o4
    obtain ⟨a4, p4, rfl⟩ := ownsRow_slice o4.1
    clear o4 cy3
    go_wp2_with fail
    have HS1 := sameTexts_any _ _ kl kl w4 (O2.out.at_.fresh (f3.trans f4)) O4.out.at_ (by have := HRL.out; omega) (by have := HRL.out; omega)
    rw [decide_eq_true (rfl : kl = kl)] at HS1
    refine HS1.mono ?_
    rintro e w5 ⟨rfl, f5⟩
    have f15 := f14.trans f5
    have cy5 := (f5.cell (p := ⟨ob, 2, none⟩) (World.block_lt_of_cell? _ _ cy4) (fun h => h)).trans cy4
    clear cy4 HS1
    go_wp2_with fail
    refine (HDK.out _ f15).mono ?_
    rintro e w6 ⟨v6, rfl, f6, o6⟩
    have O6 := hid o6
    obtain ⟨a6, p6, rfl⟩ := ownsRow_slice o6.1
    clear o6 cy5
    go_wp2_with fail
    have HS2 := sameTexts_any _ _ kl kl w6 (O3.out.at_.fresh ((f4.trans f5).trans f6)) O6.out.at_ (by have := HRL.out; omega) (by have := HRL.out; omega)
    rw [decide_eq_true (rfl : kl = kl)] at HS2
    refine HS2.mono ?_
    rintro e w7 ⟨rfl, f7⟩
    have f37 := ((f4.trans f5).trans f6).trans f7
    have f17 := f13.trans f37
    have f27 := f3.trans f37
    clear HS2
    have T7 := H1.out.fresh f17
    have r2 := ownsRow_keeps O2.out.1 f27 (fun _ _ h => h)
    have r3 := ownsRow_keeps O3.out.1 f37 (fun _ _ h => h)
    have z2 : ∀ g, (Value.slice a2 kl.length p2).ownBlock = some g → W1.heap.size ≤ g ∧ g < w2.heap.size := fun g hg => ⟨O2.out.2 g hg, (O2.out.1.lt g hg).2⟩
    have z3 : ∀ g, (Value.slice a3 kl.length p3).ownBlock = some g → w2.heap.size ≤ g ∧ g < w3.heap.size := fun g hg => ⟨O3.out.2 g hg, (O3.out.1.lt g hg).2⟩
    have hBW := H1.out.size
    have n2 : ∀ g, (Value.slice a2 kl.length p2).ownBlock = some g → B ≤ g ∧ paint (paint c w 0) W1 0 g = 0 := fun g hg => ⟨by have := z2 g hg; omega, paint_new (z2 g hg).1⟩
    have HOW := hid (owned_any B ob N _ w7 kb m y n t dv L lv fv wv _ A F Wv C kl T7 (by omega) r2 n2 (by have := HRL.out; omega))
    have HT7 := hid T7
    have HF := hid (And.intro f17 (And.intro f2 (And.intro f3 (And.intro f37 hBW))))
    have HZ := hid (And.intro z2 (And.intro z3 (And.intro n2 r3)))
    clear f2 f3 f4 f5 f6 f7 f13 f14 f15 f37 f17 f27 T7 r2 r3 z2 z3 n2 hBW
    go_wp2_with fail
    refine HOW.out.mono ?_
    rintro e w8 ⟨rfl, c8, l8, fv8, wv8, A8, F8, Wv8, C8, T8, k8, z8⟩
    have e3 : ∀ g, (Value.slice a3 kl.length p3).ownBlock = some g → g < w7.heap.size ∧ paint (paint c w 0) W1 0 g = 0 ∧ (Value.slice a2 kl.length p2).ownBlock ≠ some g := fun g hg => by
      have h1 := HZ.out.2.1 g hg
      have h2 := HF.out.2.2.2.1.size
      have h3 := HF.out.2.1.size
      exact ⟨by omega, paint_new (by omega), fun e => by have := HZ.out.1 g e; omega⟩
    have r38 := ownsRow_keeps HZ.out.2.2.2 k8 (fun g hg e => e.elim (fun e => e (e3 g hg).2.1) (e3 g hg).2.2)
    have n38 : ∀ g, (Value.slice a3 kl.length p3).ownBlock = some g → B ≤ g ∧ c8 g = 0 := fun g hg => ⟨by have := HZ.out.2.1 g hg; have := HF.out.2.1.size; have := HF.out.2.2.2.2; omega, z8 g (e3 g hg).1 (e3 g hg).2.1 (e3 g hg).2.2⟩
    have HOW2 := hid (owned_any B ob (N + 1) c8 w8 kb m y n t dv L l8 fv8 wv8 _ A8 F8 Wv8 C8 kl T8 (by omega) r38 n38 (by have := HRL.out; omega))
    have k28 : Keeps (fun q => B ≤ q) w w8 := (HB1.out.trans (HF.out.1.mono fun _ _ h => h.elim)).trans (k8.mono fun q _ e => by
      rcases e with e | e
      · apply Classical.byContradiction
        intro hn
        exact e (HT7.out.low q (by omega))
      · exact (HZ.out.2.2.1 q e).1)
    have K28 := hid k28
    have N38 := hid n38
    have T8H := hid T8
    clear T8 k8 z8 e3 r38 n38 k28 HOW
    go_wp2_with fail
    refine HOW2.out.mono ?_
    rintro e w9 ⟨rfl, c9, l9, fv9, wv9, A9, F9, Wv9, C9, T9, k9, z9⟩
    have k29 : Keeps (fun q => B ≤ q) w w9 := K28.out.trans (k9.mono fun q _ e => by
      rcases e with e | e
      · apply Classical.byContradiction
        intro hn
        exact e (T8H.out.low q (by omega))
      · exact (N38.out q e).1)
    have cm9 := (cell_at T9.box 0).trans (show _ = some (Value.pointer (some ⟨m 0, 0, none⟩)) from rfl)
    have cy9 := (cell_at T9.box 2).trans (show _ = some (Value.pointer (some ⟨y 0, 0, none⟩)) from rfl)
    have hob9 := lt_of_block T9.box
    have hM9 := T9.map 0 (by omega)
    have hD9 := T9.doc 0 (by omega)
    have HL1 := hid fun W (f : Fresh w9 W) => len_map (m 0) (n 0) (t 0) W (hM9.fresh f)
    have HL2 : Hid (∀ W, Fresh w9 W → Calls Tryz.prog 26 #[.pointer (some ⟨y 0, 0, none⟩)] W fun e w' => e = .returned (.int .i64 (n 0 : Int)) ∧ Fresh W w') := fun W f => by
      have := dlenmap_any (y 0) (dv 0) (L 0) W (hD9.fresh f)
      rwa [HLEN.out] at this
    have HT9 := hid T9
    have HK29 := hid k29
    clear T9 k9 z9 k29 hM9 hD9 HOW2
    go_wp2_with fail
    refine wp_region_keep 22 (fun w' => w'.cell? ⟨ob, 0, none⟩ = some (.pointer (some ⟨m 0, 0, none⟩)) ∧ w'.cell? ⟨ob, 2, none⟩ = some (.pointer (some ⟨y 0, 0, none⟩))) (fun _ => True) (fun _ => true) (by kernel_rfl) (by kernel_rfl) ?_
    (try (change wpKeep _ _ _ _ _ _ _ _ _ _ (World.drew _)))
    refine wpKeep_takeT (i := 0) (oi := ⟨some 170, _, _, _, _, _⟩) (v := ?_) rfl (by kernel_rfl) (by kernel_rfl) (by kernel_rfl) (by kernel_rfl) (fun _ _ _ h => h) (Or.inl ⟨by rfl, ?_⟩) ⟨cm9, cy9⟩ (fun _ => trivial) ?_
    rotate_left
    · intro w' hT
      obtain ⟨t1, t2⟩ := hT
      go_simp
      (try rw [if_pos (by omega)])
      (try with_reducible rfl)
    rotate_left
    (try simp only [Act.put, List.setIfInBounds_toArray, List.set_cons_zero, List.set_cons_succ])
    refine wpKeep_takeT (i := 1) (oi := ⟨some 171, _, _, _, _, _⟩) (v := ?_) rfl (by kernel_rfl) (by kernel_rfl) (by kernel_rfl) (by kernel_rfl) (fun _ _ _ h => h) (Or.inl ⟨by rfl, ?_⟩) ⟨cm9, cy9⟩ (fun _ => trivial) ?_
    rotate_left
    · intro w' hT
      obtain ⟨t1, t2⟩ := hT
      go_simp
      (try rw [if_pos (by omega)])
      (try with_reducible rfl)
    rotate_left
    (try simp only [Act.put, List.setIfInBounds_toArray, List.set_cons_zero, List.set_cons_succ])
    refine wpKeep_takeT (i := 2) (oi := ⟨some 172, _, _, _, _, _⟩) (v := ?_) rfl (by kernel_rfl) (by kernel_rfl) (by kernel_rfl) (by kernel_rfl) (fun _ _ _ h => h) (Or.inl ⟨by rfl, ?_⟩) ⟨cm9, cy9⟩ (fun _ => trivial) ?_
    rotate_left
    · intro w' hT
      obtain ⟨t1, t2⟩ := hT
      go_simp
      (try rw [if_pos (by omega)])
      (try with_reducible rfl)
    rotate_left
    (try simp only [Act.put, List.setIfInBounds_toArray, List.set_cons_zero, List.set_cons_succ])
    refine wpKeep_takeT (i := 3) (oi := ⟨some 173, _, _, _, _, _⟩) (v := ?_) rfl (by kernel_rfl) (by kernel_rfl) (by kernel_rfl) (by kernel_rfl) (fun _ _ _ h => h) (Or.inl ⟨by rfl, ?_⟩) ⟨cm9, cy9⟩ (fun _ => trivial) ?_
    rotate_left
    · intro w' hT
      obtain ⟨t1, t2⟩ := hT
      go_simp
      (try rw [if_pos (by omega)])
      (try with_reducible rfl)
    rotate_left
    (try simp only [Act.put, List.setIfInBounds_toArray, List.set_cons_zero, List.set_cons_succ])
    refine wpKeep_takeT (i := 4) (oi := ⟨some 174, _, _, _, _, _⟩) (v := ?_) rfl (by kernel_rfl) (by kernel_rfl) (by kernel_rfl) (by kernel_rfl) (fun _ _ _ h => h) (Or.inl ⟨by rfl, ?_⟩) ⟨cm9, cy9⟩ (fun _ => trivial) ?_
    rotate_left
    · intro w' hT
      obtain ⟨t1, t2⟩ := hT
      go_simp
      (try rw [if_pos (by omega)])
      (try with_reducible rfl)
    rotate_left
    (try simp only [Act.put, List.setIfInBounds_toArray, List.set_cons_zero, List.set_cons_succ])
    refine wpKeep_takeT (i := 5) (oi := ⟨some 175, _, _, _, _, _⟩) (v := ?_) rfl (by kernel_rfl) (by kernel_rfl) (by kernel_rfl) (by kernel_rfl) (fun _ _ _ h => h) (Or.inl ⟨by rfl, ?_⟩) ⟨cm9, cy9⟩ (fun _ => trivial) ?_
    rotate_left
    · intro w' hT
      obtain ⟨t1, t2⟩ := hT
      go_simp
      (try rw [if_pos (by omega)])
      (try with_reducible rfl)
    rotate_left
    (try simp only [Act.put, List.setIfInBounds_toArray, List.set_cons_zero, List.set_cons_succ])
    refine wpKeep_takeT (i := 6) (oi := ⟨some 176, _, _, _, _, _⟩) (v := ?_) rfl (by kernel_rfl) (by kernel_rfl) (by kernel_rfl) (by kernel_rfl) (fun _ _ _ h => h) (Or.inl ⟨by rfl, ?_⟩) ⟨cm9, cy9⟩ (fun _ => trivial) ?_
    rotate_left
    · intro w' hT
      obtain ⟨t1, t2⟩ := hT
      go_simp
      (try rw [if_pos (by omega)])
      (try with_reducible rfl)
    rotate_left
    (try simp only [Act.put, List.setIfInBounds_toArray, List.set_cons_zero, List.set_cons_succ])
    refine wpKeep_takeT (i := 7) (oi := ⟨some 177, _, _, _, _, _⟩) (v := ?_) rfl (by kernel_rfl) (by kernel_rfl) (by kernel_rfl) (by kernel_rfl) (fun _ _ _ h => h) (Or.inl ⟨by rfl, ?_⟩) ⟨cm9, cy9⟩ (fun _ => trivial) ?_
    rotate_left
    · intro w' hT
      obtain ⟨t1, t2⟩ := hT
      go_simp
      (try rw [if_pos (by omega)])
      (try with_reducible rfl)
    rotate_left
    (try simp only [Act.put, List.setIfInBounds_toArray, List.set_cons_zero, List.set_cons_succ])
    refine wpKeep_takeT (i := 8) (oi := ⟨some 178, _, _, _, _, _⟩) (v := ?_) rfl (by kernel_rfl) (by kernel_rfl) (by kernel_rfl) (by kernel_rfl) (fun _ _ _ h => h) (Or.inl ⟨by rfl, ?_⟩) ⟨cm9, cy9⟩ (fun _ => trivial) ?_
    rotate_left
    · intro w' hT
      obtain ⟨t1, t2⟩ := hT
      go_simp
      (try rw [if_pos (by omega)])
      (try with_reducible rfl)
    rotate_left
    (try simp only [Act.put, List.setIfInBounds_toArray, List.set_cons_zero, List.set_cons_succ])
    refine wpKeep_takeT (i := 9) (oi := ⟨some 179, _, _, _, _, _⟩) (v := ?_) rfl (by kernel_rfl) (by kernel_rfl) (by kernel_rfl) (by kernel_rfl) (fun _ _ _ h => h) (Or.inl ⟨by rfl, ?_⟩) ⟨cm9, cy9⟩ (fun _ => trivial) ?_
    rotate_left
    · intro w' hT
      obtain ⟨t1, t2⟩ := hT
      go_simp
      (try rw [if_pos (by omega)])
      (try with_reducible rfl)
    rotate_left
    (try simp only [Act.put, List.setIfInBounds_toArray, List.set_cons_zero, List.set_cons_succ])
    refine wpKeep_takeT (i := 10) (oi := ⟨some 180, _, _, _, _, _⟩) (v := ?_) rfl (by kernel_rfl) (by kernel_rfl) (by kernel_rfl) (by kernel_rfl) (fun _ _ _ h => h) (Or.inl ⟨by rfl, ?_⟩) ⟨cm9, cy9⟩ (fun _ => trivial) ?_
    rotate_left
    · intro w' hT
      obtain ⟨t1, t2⟩ := hT
      go_simp
      (try rw [if_pos (by omega)])
      (try with_reducible rfl)
    rotate_left
    (try simp only [Act.put, List.setIfInBounds_toArray, List.set_cons_zero, List.set_cons_succ])
    refine wpKeep_takeT (i := 12) (oi := ⟨some 182, _, _, _, _, _⟩) (v := ?_) rfl (by kernel_rfl) (by kernel_rfl) (by kernel_rfl) (by kernel_rfl) (fun _ _ _ h => h) (Or.inl ⟨by rfl, ?_⟩) ⟨cm9, cy9⟩ (fun _ => trivial) ?_
    rotate_left
    · intro w' hT
      obtain ⟨t1, t2⟩ := hT
      go_simp
      (try rw [if_pos (by omega)])
      (try with_reducible rfl)
    rotate_left
    (try simp only [Act.put, List.setIfInBounds_toArray, List.set_cons_zero, List.set_cons_succ])
    refine wpKeep_takeT (i := 13) (oi := ⟨some 183, _, _, _, _, _⟩) (v := ?_) rfl (by kernel_rfl) (by kernel_rfl) (by kernel_rfl) (by kernel_rfl) (fun _ _ _ h => h) (Or.inl ⟨by rfl, ?_⟩) ⟨cm9, cy9⟩ (fun _ => trivial) ?_
    rotate_left
    · intro w' hT
      obtain ⟨t1, t2⟩ := hT
      go_simp
      (try rw [if_pos (by omega)])
      (try with_reducible rfl)
    rotate_left
    (try simp only [Act.put, List.setIfInBounds_toArray, List.set_cons_zero, List.set_cons_succ])
    refine wpKeep_takeT (i := 14) (oi := ⟨some 184, _, _, _, _, _⟩) (v := ?_) rfl (by kernel_rfl) (by kernel_rfl) (by kernel_rfl) (by kernel_rfl) (fun _ _ _ h => h) (Or.inl ⟨by rfl, ?_⟩) ⟨cm9, cy9⟩ (fun _ => trivial) ?_
    rotate_left
    · intro w' hT
      obtain ⟨t1, t2⟩ := hT
      go_simp
      (try rw [if_pos (by omega)])
      (try with_reducible rfl)
    rotate_left
    (try simp only [Act.put, List.setIfInBounds_toArray, List.set_cons_zero, List.set_cons_succ])
    refine wpKeep_takeT (i := 15) (oi := ⟨some 185, _, _, _, _, _⟩) (v := ?_) rfl (by kernel_rfl) (by kernel_rfl) (by kernel_rfl) (by kernel_rfl) (fun _ _ _ h => h) (Or.inl ⟨by rfl, ?_⟩) ⟨cm9, cy9⟩ (fun _ => trivial) ?_
    rotate_left
    · intro w' hT
      obtain ⟨t1, t2⟩ := hT
      go_simp
      (try rw [if_pos (by omega)])
      (try with_reducible rfl)
    rotate_left
    (try simp only [Act.put, List.setIfInBounds_toArray, List.set_cons_zero, List.set_cons_succ])
    refine wpKeep_takeT (i := 16) (oi := ⟨some 186, _, _, _, _, _⟩) (v := ?_) rfl (by kernel_rfl) (by kernel_rfl) (by kernel_rfl) (by kernel_rfl) (fun _ _ _ h => h) (Or.inl ⟨by rfl, ?_⟩) ⟨cm9, cy9⟩ (fun _ => trivial) ?_
    rotate_left
    · intro w' hT
      obtain ⟨t1, t2⟩ := hT
      go_simp
      (try rw [if_pos (by omega)])
      (try with_reducible rfl)
    rotate_left
    (try simp only [Act.put, List.setIfInBounds_toArray, List.set_cons_zero, List.set_cons_succ])
    refine wpKeep_takeT (i := 17) (oi := ⟨some 187, _, _, _, _, _⟩) (v := ?_) rfl (by kernel_rfl) (by kernel_rfl) (by kernel_rfl) (by kernel_rfl) (fun _ _ _ h => h) (Or.inl ⟨by rfl, ?_⟩) ⟨cm9, cy9⟩ (fun _ => trivial) ?_
    rotate_left
    · intro w' hT
      obtain ⟨t1, t2⟩ := hT
      go_simp
      (try rw [if_pos (by omega)])
      (try with_reducible rfl)
    rotate_left
    (try simp only [Act.put, List.setIfInBounds_toArray, List.set_cons_zero, List.set_cons_succ])
    refine wpKeep_ready (rs := [11]) (by kernel_rfl) (by simp) ?_
    refine AllKeep.cons (o := ⟨some 181, _, _, _, _, _⟩) rfl (fun Kq hK => ?_) AllKeep.nil
    go_simp
    go_at_call 25
    refine (HL1.out _ (Keeps.refl (fun _ => False) w9).drew).mono ?_
    rintro e wx ⟨rfl, f0⟩
    have f : Fresh w9 wx := (Keeps.refl (fun _ => False) w9).drew.trans f0
    have cm10 := (f.cell (p := ⟨ob, 0, none⟩) hob9 (fun h => h)).trans cm9
    have cy10 := (f.cell (p := ⟨ob, 2, none⟩) hob9 (fun h => h)).trans cy9
    refine hK.out _ _ ⟨cm10, cy10⟩ (fun _ => trivial) ?_
    clear hK Kq
    (try simp only [Act.put, List.setIfInBounds_toArray, List.set_cons_zero, List.set_cons_succ])
    refine wpKeep_ready (rs := [18]) (by kernel_rfl) (by simp) ?_
    refine AllKeep.cons (o := ⟨some 188, _, _, _, _, _⟩) rfl (fun Kq hK => ?_) AllKeep.nil
    go_simp
    go_at_call 26
    refine (HL2.out _ f).mono ?_
    rintro e wz ⟨rfl, fz⟩
    have cm11 := (fz.cell (p := ⟨ob, 0, none⟩) (Nat.lt_of_lt_of_le hob9 f.size) (fun h => h)).trans cm10
    have cy11 := (fz.cell (p := ⟨ob, 2, none⟩) (Nat.lt_of_lt_of_le hob9 f.size) (fun h => h)).trans cy10
    refine hK.out _ _ ⟨cm11, cy11⟩ (fun _ => trivial) ?_
    clear hK Kq
    (try simp only [Act.put, List.setIfInBounds_toArray, List.set_cons_zero, List.set_cons_succ])
    refine wpKeep_takeT (i := 19) (oi := ⟨some 189, _, _, _, _, _⟩) (v := ?_) rfl (by kernel_rfl) (by kernel_rfl) (by kernel_rfl) (by kernel_rfl) (fun _ _ _ h => h) (Or.inl ⟨by rfl, ?_⟩) ⟨cm11, cy11⟩ (fun _ => trivial) ?_
    rotate_left
    · intro w' hT
      obtain ⟨t1, t2⟩ := hT
      go_simp
      (try rw [if_pos (by omega)])
      (try with_reducible rfl)
    rotate_left
    (try simp only [Act.put, List.setIfInBounds_toArray, List.set_cons_zero, List.set_cons_succ])
    refine wpKeep_takeT (i := 20) (oi := ⟨some 190, _, _, _, _, _⟩) (v := ?_) rfl (by kernel_rfl) (by kernel_rfl) (by kernel_rfl) (by kernel_rfl) (fun _ _ _ h => h) (Or.inl ⟨by rfl, ?_⟩) ⟨cm11, cy11⟩ (fun _ => trivial) ?_
    rotate_left
    · intro w' hT
      obtain ⟨t1, t2⟩ := hT
      go_simp
      (try rw [if_pos (by omega)])
      (try with_reducible rfl)
    rotate_left
    (try simp only [Act.put, List.setIfInBounds_toArray, List.set_cons_zero, List.set_cons_succ])
    refine wpKeep_takeT (i := 21) (oi := ⟨some 4, _, _, _, _, _⟩) (v := ?_) rfl (by kernel_rfl) (by kernel_rfl) (by kernel_rfl) (by kernel_rfl) (fun _ _ _ h => h) (Or.inl ⟨by rfl, ?_⟩) ⟨cm11, cy11⟩ (fun _ => trivial) ?_
    rotate_left
    · intro w' hT
      obtain ⟨t1, t2⟩ := hT
      go_simp
      (try rw [if_pos (by omega)])
      (try with_reducible rfl)
    rotate_left
    (try simp only [Act.put, List.setIfInBounds_toArray, List.set_cons_zero, List.set_cons_succ])
    refine wpKeep_done (by kernel_rfl) ?_ _
    clear cm9 cy9 cm10 cy10 cm11 cy11
    go_wp2_with fail
    go_ret
    have ff := f.trans fz
    exact ⟨by first | rfl | simp, After.of (HT9.out.fresh ff) HH.out (fun k hk => by have := HN.out k hk; omega), HK29.out.trans (ff.mono fun _ _ h => h.elim)⟩
end Go.Proofs.YtmflbchiapdhbaaGreatDoor
