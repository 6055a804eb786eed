/-
  The law's step: Prove (of the second map).
-/
import Derived.Test.YtmflbchiapdhbaaGreatDoorTpPlayC
import Derived.Test.YtmflbchiapdhbaaGreatDoorMMsF
import Derived.Test.YtmflbchiapdhbaaGreatDoorTpAll
import Derived.BigQuiet
import Derived.Deep.RegionLaw
namespace Go.Proofs.YtmflbchiapdhbaaGreatDoor
open Go.RowKit

set_option maxRecDepth 100000 in
set_option maxHeartbeats 8000000 in
theorem play_prove_t (B ob N M : Nat) (c : Nat → Nat) (w : World) (kp : Bool) (m y n : Nat → Nat) (t : Nat → Tr) (dv : Nat → Value) (L : Nat → List Ent) (lv fv wv : Value) (A F Wv : List Value) (C : List Texts) (h : TW B c w ob kp m y t n dv L lv fv wv A F Wv C N) (hh : ∀ k, k < 2 → Has (t k) (L k)) (hn : ∀ k, k < 2 → n k ≤ M) (hM : M ≤ 900) (hN : N ≤ 900) (hd : Dig w) (hgB : 3 ≤ B)
    (oo kb : Bool) (key val : List UInt8) (hkey : key.length ≤ 9223372036854775807) (hval : val.length ≤ 9223372036854775807) (hoo : oo = true) :
    Calls Tryz.prog 7 #[.pointer (some ⟨ob, 0, none⟩), .agg #[.bool oo, .bool kb, .int .i64 6, .string (str key), .string (str val)]] w fun e w' => e = .returned (.bool true) ∧ After B w' ob (N + 2) (M + 1) ∧ Keeps (fun q => B ≤ q) w w' := by
  have H := hid h
  have HH := hid hh
  have HN := hid hn
  have HD := hid fun W (k : Keeps (fun q => B ≤ q) w W) => hd.keepsOut (k.mono fun q _ e => .inr e) hgB hgB
  have hu := And.intro hM (And.intro hN (And.intro hkey hval))
  clear hu
  have hbl := lt_of_block h.box
  have c7 := ((Keeps.refl (fun _ => False) w).alloc (opObj oo kb (6) key val)).at_ h.box (fun h => h)
  have d7 := free_at c7 7
  replace c7 := (cell_at c7 7).trans (show _ = some (Value.bool kp) from rfl)
  unfold opObj at c7 d7
  clear h hh hn hd
  subst hoo
  · go_enter Tryz.func7, Tryz.ntmps7
    go_wp2_with fail
    obtain ⟨W1, hW1⟩ : ∃ W1, (w.setCell ⟨ob, 7, none⟩ (.bool kb)).alloc (opObj true kb (6) key val) = W1 := ⟨_, rfl⟩
    obtain ⟨h1, hop, k1, hBob⟩ := H.out.open_ true kb (6) key val hW1
    unfold opObj at hW1 hop
    rw [hW1]
    have hB1 : Keeps (fun q => B ≤ q) w W1 := k1.mono (fun q _ e => by rw [e]; exact hBob)
    obtain ⟨xb, hxb⟩ : ∃ xb, w.heap.size = xb := ⟨_, rfl⟩
    rw [hxb] at hop ⊢
    have x3 := (cell_at hop 3).trans (show _ = some (Value.string (str key)) from rfl)
    have x4 := (cell_at hop 4).trans (show _ = some (Value.string (str val)) from rfl)
    have cm := (cell_at h1.box 1).trans (show _ = some (Value.pointer (some ⟨m 1, 0, none⟩)) from rfl)
    have cy := (cell_at h1.box 3).trans (show _ = some (Value.pointer (some ⟨y 1, 0, none⟩)) from rfl)
    have hob1 := lt_of_block h1.box
    have hxb1 := lt_of_block hop
    have hD1 := HD.out W1 hB1
    have hMap := h1.map 1 (by omega)
    have hDoc := h1.doc 1 (by omega)
    have hHas := HH.out 1 (by omega)
    have hnk := HN.out 1 (by omega)
    have hgood := hMap.good
    have hlen : (L 1).length = n 1 := (hHas.len hgood).trans hMap.count
    have hxm : ¬ xb = m 1 := fun e => by have := (H.out.map 1 (by omega)).lt; omega
    have H1 := hid h1
    have HB1 := hid hB1
    have HOP := hid hop
    clear hxm h1 hB1 hop k1 hBob hW1 hxb c7 d7
    have HP := hid fun W (f : Fresh W1 W) => prove_map (m 1) (n 1) (t 1) key W (hMap.fresh f) (hD1.fresh f) hkey
    have HDP := hid fun W (f : Fresh W1 W) => dprove_all (y 1) (dv 1) (L 1) (t 1) key W (hDoc.fresh f) (by omega) hgood hHas hkey
    have HRL : Hid (((t 1).proof key).1.length ≤ 256) := proof_short hgood key
    clear hMap hDoc hHas hgood hD1 hlen hnk
    obtain ⟨⟨sides, ⟨pt, pk, pv⟩, er⟩, hpr⟩ : ∃ pr, (t 1).proof key = pr := ⟨_, rfl⟩
    rw [hpr] at HP HDP HRL
    simp only [lookupVal] at HP HDP HRL
    have hq : (er == er) = true := by simp
    clear hpr
    go_cut [19, 20] (fun sa sb wx => ∃ g v, sa = .pointer (some ⟨g, 0, none⟩) ∧ sb = .int .i64 er ∧ wx.heap[g]? = some (.cells #[v, .bool pt, .string (str pk), .string (str pv)] 43 (0, 0)) ∧ OwnTexts W1.heap.size wx v sides ∧ Fresh W1 wx ∧ W1.heap.size ≤ g ∧ v.ownBlock ≠ some g)
    case first => as_aux_lemma =>
      refine wp_region_keep 15 (fun w' => w'.cell? ⟨ob, 1, none⟩ = some (.pointer (some ⟨m 1, 0, none⟩)) ∧ w'.cell? ⟨xb, 3, none⟩ = some (.string (str key)) ∧ w'.cell? ⟨xb, 4, none⟩ = some (.string (str val))) (fun _ => True) (fun _ => true) (by kernel_rfl) (by kernel_rfl) ?_
      (try (change wpKeep _ _ _ _ _ _ _ _ _ _ (World.drew _)))
      refine wpKeep_takeT (i := 0) (oi := ⟨some 211, _, _, _, _, _⟩) (v := ?_) rfl (by kernel_rfl) (by kernel_rfl) (by kernel_rfl) (by kernel_rfl) (fun _ _ _ h => h) (Or.inl ⟨by rfl, ?_⟩) ⟨cm, x3, x4⟩ (fun _ => trivial) ?_
      rotate_left
      · intro w' hT
        obtain ⟨t1, t2, t3⟩ := hT
        go_simp
        (try rw [if_pos (by omega)])
        (try with_reducible rfl)
      rotate_left
      (try simp only [Act.put, List.setIfInBounds_toArray, List.set_cons_zero, List.set_cons_succ])
      refine wpKeep_takeT (i := 1) (oi := ⟨some 212, _, _, _, _, _⟩) (v := ?_) rfl (by kernel_rfl) (by kernel_rfl) (by kernel_rfl) (by kernel_rfl) (fun _ _ _ h => h) (Or.inl ⟨by rfl, ?_⟩) ⟨cm, x3, x4⟩ (fun _ => trivial) ?_
      rotate_left
      · intro w' hT
        obtain ⟨t1, t2, t3⟩ := hT
        go_simp
        (try rw [if_pos (by omega)])
        (try with_reducible rfl)
      rotate_left
      (try simp only [Act.put, List.setIfInBounds_toArray, List.set_cons_zero, List.set_cons_succ])
      refine wpKeep_takeT (i := 2) (oi := ⟨some 213, _, _, _, _, _⟩) (v := ?_) rfl (by kernel_rfl) (by kernel_rfl) (by kernel_rfl) (by kernel_rfl) (fun _ _ _ h => h) (Or.inl ⟨by rfl, ?_⟩) ⟨cm, x3, x4⟩ (fun _ => trivial) ?_
      rotate_left
      · intro w' hT
        obtain ⟨t1, t2, t3⟩ := hT
        go_simp
        (try rw [if_pos (by omega)])
        (try with_reducible rfl)
      rotate_left
      (try simp only [Act.put, List.setIfInBounds_toArray, List.set_cons_zero, List.set_cons_succ])
      refine wpKeep_takeT (i := 3) (oi := ⟨some 214, _, _, _, _, _⟩) (v := ?_) rfl (by kernel_rfl) (by kernel_rfl) (by kernel_rfl) (by kernel_rfl) (fun _ _ _ h => h) (Or.inl ⟨by rfl, ?_⟩) ⟨cm, x3, x4⟩ (fun _ => trivial) ?_
      rotate_left
      · intro w' hT
        obtain ⟨t1, t2, t3⟩ := hT
        go_simp
        (try rw [if_pos (by omega)])
        (try with_reducible rfl)
      rotate_left
      (try simp only [Act.put, List.setIfInBounds_toArray, List.set_cons_zero, List.set_cons_succ])
      refine wpKeep_takeT (i := 4) (oi := ⟨some 215, _, _, _, _, _⟩) (v := ?_) rfl (by kernel_rfl) (by kernel_rfl) (by kernel_rfl) (by kernel_rfl) (fun _ _ _ h => h) (Or.inl ⟨by rfl, ?_⟩) ⟨cm, x3, x4⟩ (fun _ => trivial) ?_
      rotate_left
      · intro w' hT
        obtain ⟨t1, t2, t3⟩ := hT
        go_simp
        (try rw [if_pos (by omega)])
        (try with_reducible rfl)
      rotate_left
      (try simp only [Act.put, List.setIfInBounds_toArray, List.set_cons_zero, List.set_cons_succ])
      refine wpKeep_takeT (i := 5) (oi := ⟨some 216, _, _, _, _, _⟩) (v := ?_) rfl (by kernel_rfl) (by kernel_rfl) (by kernel_rfl) (by kernel_rfl) (fun _ _ _ h => h) (Or.inl ⟨by rfl, ?_⟩) ⟨cm, x3, x4⟩ (fun _ => trivial) ?_
      rotate_left
      · intro w' hT
        obtain ⟨t1, t2, t3⟩ := hT
        go_simp
        (try rw [if_pos (by omega)])
        (try with_reducible rfl)
      rotate_left
      (try simp only [Act.put, List.setIfInBounds_toArray, List.set_cons_zero, List.set_cons_succ])
      refine wpKeep_takeT (i := 6) (oi := ⟨some 217, _, _, _, _, _⟩) (v := ?_) rfl (by kernel_rfl) (by kernel_rfl) (by kernel_rfl) (by kernel_rfl) (fun _ _ _ h => h) (Or.inl ⟨by rfl, ?_⟩) ⟨cm, x3, x4⟩ (fun _ => trivial) ?_
      rotate_left
      · intro w' hT
        obtain ⟨t1, t2, t3⟩ := hT
        go_simp
        (try rw [if_pos (by omega)])
        (try with_reducible rfl)
      rotate_left
      (try simp only [Act.put, List.setIfInBounds_toArray, List.set_cons_zero, List.set_cons_succ])
      refine wpKeep_takeT (i := 7) (oi := ⟨some 218, _, _, _, _, _⟩) (v := ?_) rfl (by kernel_rfl) (by kernel_rfl) (by kernel_rfl) (by kernel_rfl) (fun _ _ _ h => h) (Or.inl ⟨by rfl, ?_⟩) ⟨cm, x3, x4⟩ (fun _ => trivial) ?_
      rotate_left
      · intro w' hT
        obtain ⟨t1, t2, t3⟩ := hT
        go_simp
        (try rw [if_pos (by omega)])
        (try with_reducible rfl)
      rotate_left
      (try simp only [Act.put, List.setIfInBounds_toArray, List.set_cons_zero, List.set_cons_succ])
      refine wpKeep_ready (rs := [8, 12]) (by kernel_rfl) (by simp) ?_
      refine AllKeep.cons (o := ⟨some 219, _, _, _, _, _⟩) rfl (fun Kq hK => ?_) (AllKeep.cons (o := ⟨some 19, _, _, _, _, _⟩) rfl (fun Kq hK => ?_) AllKeep.nil)
      · go_simp
        go_at_call 13
        refine (HP.out _ (Keeps.refl (fun _ => False) W1).drew).mono ?_
        rintro e wy ⟨vp, rfl, f0, op⟩
        obtain ⟨ap, cp, rfl⟩ := ownsRow_slice op.1
        have f : Fresh W1 wy := (Keeps.refl (fun _ => False) W1).drew.trans f0
        have ya := (f.cell (p := ⟨ob, 1, none⟩) hob1 (fun h => h)).trans cm
        have yb := (f.cell (p := ⟨xb, 3, none⟩) hxb1 (fun h => h)).trans x3
        have yc := (f.cell (p := ⟨xb, 4, none⟩) hxb1 (fun h => h)).trans x4
        refine hK.out _ _ ⟨ya, yb, yc⟩ (fun _ => trivial) ?_
        clear hK Kq
        (try simp only [Act.put, List.setIfInBounds_toArray, List.set_cons_zero, List.set_cons_succ])
        refine wpKeep_takeT (i := 9) (oi := ⟨some 210, _, _, _, _, _⟩) (v := ?_) rfl (by kernel_rfl) (by kernel_rfl) (by kernel_rfl) (by kernel_rfl) (fun _ _ _ h => h) (Or.inl ⟨by rfl, ?_⟩) ⟨ya, yb, yc⟩ (fun _ => trivial) ?_
        rotate_left
        · intro w' hT
          obtain ⟨t1, t2, t3⟩ := hT
          go_simp
          (try rw [if_pos (by omega)])
          (try with_reducible rfl)
        rotate_left
        (try simp only [Act.put, List.setIfInBounds_toArray, List.set_cons_zero, List.set_cons_succ])
        refine wpKeep_takeT (i := 10) (oi := ⟨some 220, _, _, _, _, _⟩) (v := ?_) rfl (by kernel_rfl) (by kernel_rfl) (by kernel_rfl) (by kernel_rfl) (fun _ _ _ h => h) (Or.inl ⟨by rfl, ?_⟩) ⟨ya, yb, yc⟩ (fun _ => trivial) ?_
        rotate_left
        · intro w' hT
          obtain ⟨t1, t2, t3⟩ := hT
          go_simp
          (try rw [if_pos (by omega)])
          (try with_reducible rfl)
        rotate_left
        (try simp only [Act.put, List.setIfInBounds_toArray, List.set_cons_zero, List.set_cons_succ])
        refine wpKeep_takeT (i := 11) (oi := ⟨some 221, _, _, _, _, _⟩) (v := ?_) rfl (by kernel_rfl) (by kernel_rfl) (by kernel_rfl) (by kernel_rfl) (fun _ _ _ h => h) (Or.inl ⟨by rfl, ?_⟩) ⟨ya, yb, yc⟩ (fun _ => trivial) ?_
        rotate_left
        · intro w' hT
          obtain ⟨t1, t2, t3⟩ := hT
          go_simp
          (try rw [if_pos (by omega)])
          (try with_reducible rfl)
        rotate_left
        (try simp only [Act.put, List.setIfInBounds_toArray, List.set_cons_zero, List.set_cons_succ])
        refine wpKeep_ready (rs := [12]) (by kernel_rfl) (by simp) ?_
        refine AllKeep.cons (o := ⟨some 19, _, _, _, _, _⟩) rfl (fun Kq hK => ?_) AllKeep.nil
        go_simp
        have fz := f.alloc (.cells #[.slice none 0 0, .bool false, .string ⟨#[]⟩, .string ⟨#[]⟩] 43)
        have za := (fz.cell (p := ⟨ob, 1, none⟩) hob1 (fun h => h)).trans cm
        have zb := (fz.cell (p := ⟨xb, 3, none⟩) hxb1 (fun h => h)).trans x3
        have zc := (fz.cell (p := ⟨xb, 4, none⟩) hxb1 (fun h => h)).trans x4
        refine hK.out _ _ ⟨za, zb, zc⟩ (fun _ => trivial) ?_
        clear hK Kq
        (try simp only [Act.put, List.setIfInBounds_toArray, List.set_cons_zero, List.set_cons_succ])
        refine wpKeep_ready (rs := [13]) (by kernel_rfl) (by simp) ?_
        refine AllKeep.cons (o := ⟨none, _, _, _, _, _⟩) rfl (fun Kq hK => ?_) AllKeep.nil
        go_simp
        have fu := f.alloc (.cells #[.slice ap sides.length cp, .bool pt, .string (str pk), .string (str pv)] 43)
        have ua := (fu.cell (p := ⟨ob, 1, none⟩) hob1 (fun h => h)).trans cm
        have ub := (fu.cell (p := ⟨xb, 3, none⟩) hxb1 (fun h => h)).trans x3
        have uc := (fu.cell (p := ⟨xb, 4, none⟩) hxb1 (fun h => h)).trans x4
        refine hK.out _ _ ⟨ua, ub, uc⟩ (fun _ => trivial) ?_
        clear hK Kq
        (try simp only [Act.put, List.setIfInBounds_toArray, List.set_cons_zero, List.set_cons_succ])
        refine wpKeep_takeT (i := 14) (oi := ⟨some 20, _, _, _, _, _⟩) (v := ?_) rfl (by kernel_rfl) (by kernel_rfl) (by kernel_rfl) (by kernel_rfl) (fun _ _ _ h => h) (Or.inl ⟨by rfl, ?_⟩) ⟨ua, ub, uc⟩ (fun _ => trivial) ?_
        rotate_left
        · intro w' hT
          obtain ⟨t1, t2, t3⟩ := hT
          go_simp
          (try rw [if_pos (by omega)])
          (try with_reducible rfl)
        rotate_left
        (try simp only [Act.put, List.setIfInBounds_toArray, List.set_cons_zero, List.set_cons_succ])
        refine wpKeep_done (by kernel_rfl) ?_ _
        go_wp2
        go_meet
        exact ⟨_, _, rfl, rfl, heap_alloc_new _ _, ⟨ownsRow_keeps op.1 ((Keeps.refl (fun _ => False) _).alloc _) (fun _ _ h => h), op.2⟩, fu, f.size, fun e => by have := (op.1.lt _ e).2; omega⟩
      · go_simp
        have f9 : Fresh W1 (W1.alloc (.cells #[.slice none 0 0, .bool false, .string ⟨#[]⟩, .string ⟨#[]⟩] 43)).drew := ((Keeps.refl _ _).alloc _).drew
        have qa := (f9.cell (p := ⟨ob, 1, none⟩) hob1 (fun h => h)).trans cm
        have qb := (f9.cell (p := ⟨xb, 3, none⟩) hxb1 (fun h => h)).trans x3
        have qc := (f9.cell (p := ⟨xb, 4, none⟩) hxb1 (fun h => h)).trans x4
        refine hK.out _ _ ⟨qa, qb, qc⟩ (fun _ => trivial) ?_
        clear hK Kq
        (try simp only [Act.put, List.setIfInBounds_toArray, List.set_cons_zero, List.set_cons_succ])
        refine wpKeep_ready (rs := [8]) (by kernel_rfl) (by simp) ?_
        refine AllKeep.cons (o := ⟨some 219, _, _, _, _, _⟩) rfl (fun Kq hK => ?_) AllKeep.nil
        go_simp
        go_at_call 13
        refine (HP.out _ (f9)).mono ?_
        rintro e wy ⟨vp, rfl, f0, op0⟩
        have f : Fresh W1 wy := f9.trans f0
        have op : OwnTexts W1.heap.size wy vp sides := ⟨op0.1, fun g hg => by have := op0.2 g hg; have := f9.size; omega⟩
        have bz := f0.at_ (k := W1.heap.size) (o := .cells #[.slice none 0 0, .bool false, .string ⟨#[]⟩, .string ⟨#[]⟩] 43 (0, 0)) (by exact heap_alloc_new _ _) (fun h => h)
        have bl9 := lt_of_block bz
        have hs9 : (W1.alloc (.cells #[.slice none 0 0, .bool false, .string ⟨#[]⟩, .string ⟨#[]⟩] 43)).drew.heap.size = W1.heap.size + 1 := World.size_alloc _ _
        have hvn : vp.ownBlock ≠ some W1.heap.size := fun e => by have := op0.2 _ e; omega
        obtain ⟨ap, cp, rfl⟩ := ownsRow_slice op.1
        have i0 := (cell_at bz 0).trans (show _ = some (Value.slice none 0 0) from rfl)
        have i1 := (cell_at bz 1).trans (show _ = some (Value.bool false) from rfl)
        have i2 := (cell_at bz 2).trans (show _ = some (Value.string ⟨#[]⟩) from rfl)
        have i3 := (cell_at bz 3).trans (show _ = some (Value.string ⟨#[]⟩) from rfl)
        have j0 := free_at bz 0
        have j1 := free_at bz 1
        have j2 := free_at bz 2
        have j3 := free_at bz 3
        clear f0 op0 hs9
        have ya := (f.cell (p := ⟨ob, 1, none⟩) hob1 (fun h => h)).trans cm
        have yb := (f.cell (p := ⟨xb, 3, none⟩) hxb1 (fun h => h)).trans x3
        have yc := (f.cell (p := ⟨xb, 4, none⟩) hxb1 (fun h => h)).trans x4
        refine hK.out _ _ ⟨ya, yb, yc⟩ (fun _ => trivial) ?_
        clear hK Kq
        (try simp only [Act.put, List.setIfInBounds_toArray, List.set_cons_zero, List.set_cons_succ])
        refine wpKeep_takeT (i := 9) (oi := ⟨some 210, _, _, _, _, _⟩) (v := ?_) rfl (by kernel_rfl) (by kernel_rfl) (by kernel_rfl) (by kernel_rfl) (fun _ _ _ h => h) (Or.inl ⟨by rfl, ?_⟩) ⟨ya, yb, yc⟩ (fun _ => trivial) ?_
        rotate_left
        · intro w' hT
          obtain ⟨t1, t2, t3⟩ := hT
          go_simp
          (try rw [if_pos (by omega)])
          (try with_reducible rfl)
        rotate_left
        (try simp only [Act.put, List.setIfInBounds_toArray, List.set_cons_zero, List.set_cons_succ])
        refine wpKeep_takeT (i := 10) (oi := ⟨some 220, _, _, _, _, _⟩) (v := ?_) rfl (by kernel_rfl) (by kernel_rfl) (by kernel_rfl) (by kernel_rfl) (fun _ _ _ h => h) (Or.inl ⟨by rfl, ?_⟩) ⟨ya, yb, yc⟩ (fun _ => trivial) ?_
        rotate_left
        · intro w' hT
          obtain ⟨t1, t2, t3⟩ := hT
          go_simp
          (try rw [if_pos (by omega)])
          (try with_reducible rfl)
        rotate_left
        (try simp only [Act.put, List.setIfInBounds_toArray, List.set_cons_zero, List.set_cons_succ])
        refine wpKeep_takeT (i := 11) (oi := ⟨some 221, _, _, _, _, _⟩) (v := ?_) rfl (by kernel_rfl) (by kernel_rfl) (by kernel_rfl) (by kernel_rfl) (fun _ _ _ h => h) (Or.inl ⟨by rfl, ?_⟩) ⟨ya, yb, yc⟩ (fun _ => trivial) ?_
        rotate_left
        · intro w' hT
          obtain ⟨t1, t2, t3⟩ := hT
          go_simp
          (try rw [if_pos (by omega)])
          (try with_reducible rfl)
        rotate_left
        (try simp only [Act.put, List.setIfInBounds_toArray, List.set_cons_zero, List.set_cons_succ])
        refine wpKeep_ready (rs := [13]) (by kernel_rfl) (by simp) ?_
        refine AllKeep.cons (o := ⟨none, _, _, _, _, _⟩) rfl (fun Kq hK => ?_) AllKeep.nil
        go_simp
        have k4 := keep4 wy W1.heap.size (.slice ap sides.length cp) (.bool pt) (.string (str pk)) (.string (str pv))
        have b4 := set4 bz (.slice ap sides.length cp) (.bool pt) (.string (str pk)) (.string (str pv))
        have r4 := ownsRow_keeps op.1 k4 (fun g hg e => hvn (by rw [← e]; exact hg))
        have fu : Fresh W1 ((((wy.setCell ⟨W1.heap.size, 0, none⟩ (.slice ap sides.length cp)).setCell ⟨W1.heap.size, 1, none⟩ (.bool pt)).setCell ⟨W1.heap.size, 2, none⟩ (.string (str pk))).setCell ⟨W1.heap.size, 3, none⟩ (.string (str pv))) := f.trans' k4 (fun i hi e => by omega)
        have ua := (fu.cell (p := ⟨ob, 1, none⟩) hob1 (fun h => h)).trans cm
        have ub := (fu.cell (p := ⟨xb, 3, none⟩) hxb1 (fun h => h)).trans x3
        have uc := (fu.cell (p := ⟨xb, 4, none⟩) hxb1 (fun h => h)).trans x4
        refine hK.out _ _ ⟨ua, ub, uc⟩ (fun _ => trivial) ?_
        clear hK Kq
        (try simp only [Act.put, List.setIfInBounds_toArray, List.set_cons_zero, List.set_cons_succ])
        refine wpKeep_takeT (i := 14) (oi := ⟨some 20, _, _, _, _, _⟩) (v := ?_) rfl (by kernel_rfl) (by kernel_rfl) (by kernel_rfl) (by kernel_rfl) (fun _ _ _ h => h) (Or.inl ⟨by rfl, ?_⟩) ⟨ua, ub, uc⟩ (fun _ => trivial) ?_
        rotate_left
        · intro w' hT
          obtain ⟨t1, t2, t3⟩ := hT
          go_simp
          (try rw [if_pos (by omega)])
          (try with_reducible rfl)
        rotate_left
        (try simp only [Act.put, List.setIfInBounds_toArray, List.set_cons_zero, List.set_cons_succ])
        refine wpKeep_done (by kernel_rfl) ?_ _
        go_wp2
        go_meet
        exact ⟨_, _, rfl, rfl, b4, ⟨r4, op.2⟩, fu, Nat.le_refl _, hvn⟩
    case rest => as_aux_lemma =>
    obtain ⟨g2, v2, rfl, rfl, bx2, o2, f2, hg2, hv2⟩ := hcut
    obtain ⟨w2, rfl⟩ : ∃ w2, w2 = wc := ⟨_, rfl⟩
    obtain ⟨a2, p2, rfl⟩ := ownsRow_slice o2.1
    have cy2 := (f2.cell (p := ⟨ob, 3, none⟩) hob1 (fun h => h)).trans cy
    have cm2 := (f2.cell (p := ⟨ob, 1, none⟩) hob1 (fun h => h)).trans cm
    have x32 := (f2.cell (p := ⟨xb, 3, none⟩) hxb1 (fun h => h)).trans x3
    have x42 := (f2.cell (p := ⟨xb, 4, none⟩) hxb1 (fun h => h)).trans x4
    have hob2 : ob < w2.heap.size := World.block_lt_of_cell? _ _ cm2
    have hxb2 : xb < w2.heap.size := World.block_lt_of_cell? _ _ x32
    have HBX2 := hid bx2
    have HO2 := hid o2
    clear cm cy x3 x4 bx2 o2
    go_wp2_with fail
    go_cut [21, 22] (fun sa sb wx => ∃ g v, sa = .pointer (some ⟨g, 0, none⟩) ∧ sb = .int .i64 er ∧ wx.heap[g]? = some (.cells #[v, .bool pt, .string (str pk), .string (str pv)] 43 (0, 0)) ∧ OwnTexts w2.heap.size wx v sides ∧ Fresh w2 wx ∧ w2.heap.size ≤ g ∧ v.ownBlock ≠ some g)
    case first => as_aux_lemma =>
      refine wp_region_keep 15 (fun w' => w'.cell? ⟨ob, 3, none⟩ = some (.pointer (some ⟨y 1, 0, none⟩)) ∧ w'.cell? ⟨xb, 3, none⟩ = some (.string (str key)) ∧ w'.cell? ⟨xb, 4, none⟩ = some (.string (str val))) (fun _ => True) (fun _ => true) (by kernel_rfl) (by kernel_rfl) ?_
      (try (change wpKeep _ _ _ _ _ _ _ _ _ _ (World.drew _)))
      refine wpKeep_takeT (i := 0) (oi := ⟨some 223, _, _, _, _, _⟩) (v := ?_) rfl (by kernel_rfl) (by kernel_rfl) (by kernel_rfl) (by kernel_rfl) (fun _ _ _ h => h) (Or.inl ⟨by rfl, ?_⟩) ⟨cy2, x32, x42⟩ (fun _ => trivial) ?_
      rotate_left
      · intro w' hT
        obtain ⟨t1, t2, t3⟩ := hT
        go_simp
        (try rw [if_pos (by omega)])
        (try with_reducible rfl)
      rotate_left
      (try simp only [Act.put, List.setIfInBounds_toArray, List.set_cons_zero, List.set_cons_succ])
      refine wpKeep_takeT (i := 1) (oi := ⟨some 224, _, _, _, _, _⟩) (v := ?_) rfl (by kernel_rfl) (by kernel_rfl) (by kernel_rfl) (by kernel_rfl) (fun _ _ _ h => h) (Or.inl ⟨by rfl, ?_⟩) ⟨cy2, x32, x42⟩ (fun _ => trivial) ?_
      rotate_left
      · intro w' hT
        obtain ⟨t1, t2, t3⟩ := hT
        go_simp
        (try rw [if_pos (by omega)])
        (try with_reducible rfl)
      rotate_left
      (try simp only [Act.put, List.setIfInBounds_toArray, List.set_cons_zero, List.set_cons_succ])
      refine wpKeep_takeT (i := 2) (oi := ⟨some 225, _, _, _, _, _⟩) (v := ?_) rfl (by kernel_rfl) (by kernel_rfl) (by kernel_rfl) (by kernel_rfl) (fun _ _ _ h => h) (Or.inl ⟨by rfl, ?_⟩) ⟨cy2, x32, x42⟩ (fun _ => trivial) ?_
      rotate_left
      · intro w' hT
        obtain ⟨t1, t2, t3⟩ := hT
        go_simp
        (try rw [if_pos (by omega)])
        (try with_reducible rfl)
      rotate_left
      (try simp only [Act.put, List.setIfInBounds_toArray, List.set_cons_zero, List.set_cons_succ])
      refine wpKeep_takeT (i := 3) (oi := ⟨some 226, _, _, _, _, _⟩) (v := ?_) rfl (by kernel_rfl) (by kernel_rfl) (by kernel_rfl) (by kernel_rfl) (fun _ _ _ h => h) (Or.inl ⟨by rfl, ?_⟩) ⟨cy2, x32, x42⟩ (fun _ => trivial) ?_
      rotate_left
      · intro w' hT
        obtain ⟨t1, t2, t3⟩ := hT
        go_simp
        (try rw [if_pos (by omega)])
        (try with_reducible rfl)
      rotate_left
      (try simp only [Act.put, List.setIfInBounds_toArray, List.set_cons_zero, List.set_cons_succ])
      refine wpKeep_takeT (i := 4) (oi := ⟨some 227, _, _, _, _, _⟩) (v := ?_) rfl (by kernel_rfl) (by kernel_rfl) (by kernel_rfl) (by kernel_rfl) (fun _ _ _ h => h) (Or.inl ⟨by rfl, ?_⟩) ⟨cy2, x32, x42⟩ (fun _ => trivial) ?_
      rotate_left
      · intro w' hT
        obtain ⟨t1, t2, t3⟩ := hT
        go_simp
        (try rw [if_pos (by omega)])
        (try with_reducible rfl)
      rotate_left
      (try simp only [Act.put, List.setIfInBounds_toArray, List.set_cons_zero, List.set_cons_succ])
      refine wpKeep_takeT (i := 5) (oi := ⟨some 228, _, _, _, _, _⟩) (v := ?_) rfl (by kernel_rfl) (by kernel_rfl) (by kernel_rfl) (by kernel_rfl) (fun _ _ _ h => h) (Or.inl ⟨by rfl, ?_⟩) ⟨cy2, x32, x42⟩ (fun _ => trivial) ?_
      rotate_left
      · intro w' hT
        obtain ⟨t1, t2, t3⟩ := hT
        go_simp
        (try rw [if_pos (by omega)])
        (try with_reducible rfl)
      rotate_left
      (try simp only [Act.put, List.setIfInBounds_toArray, List.set_cons_zero, List.set_cons_succ])
      refine wpKeep_takeT (i := 6) (oi := ⟨some 229, _, _, _, _, _⟩) (v := ?_) rfl (by kernel_rfl) (by kernel_rfl) (by kernel_rfl) (by kernel_rfl) (fun _ _ _ h => h) (Or.inl ⟨by rfl, ?_⟩) ⟨cy2, x32, x42⟩ (fun _ => trivial) ?_
      rotate_left
      · intro w' hT
        obtain ⟨t1, t2, t3⟩ := hT
        go_simp
        (try rw [if_pos (by omega)])
        (try with_reducible rfl)
      rotate_left
      (try simp only [Act.put, List.setIfInBounds_toArray, List.set_cons_zero, List.set_cons_succ])
      refine wpKeep_takeT (i := 7) (oi := ⟨some 230, _, _, _, _, _⟩) (v := ?_) rfl (by kernel_rfl) (by kernel_rfl) (by kernel_rfl) (by kernel_rfl) (fun _ _ _ h => h) (Or.inl ⟨by rfl, ?_⟩) ⟨cy2, x32, x42⟩ (fun _ => trivial) ?_
      rotate_left
      · intro w' hT
        obtain ⟨t1, t2, t3⟩ := hT
        go_simp
        (try rw [if_pos (by omega)])
        (try with_reducible rfl)
      rotate_left
      (try simp only [Act.put, List.setIfInBounds_toArray, List.set_cons_zero, List.set_cons_succ])
      refine wpKeep_ready (rs := [8, 12]) (by kernel_rfl) (by simp) ?_
      refine AllKeep.cons (o := ⟨some 231, _, _, _, _, _⟩) rfl (fun Kq hK => ?_) (AllKeep.cons (o := ⟨some 21, _, _, _, _, _⟩) rfl (fun Kq hK => ?_) AllKeep.nil)
      · go_simp
        go_at_call 27
        refine (HDP.out _ f2.drew).mono ?_
        rintro e wy ⟨vp, rfl, f0, op⟩
        obtain ⟨ap, cp, rfl⟩ := ownsRow_slice op.1
        have f : Fresh w2 wy := (Keeps.refl (fun _ => False) w2).drew.trans f0
        have ya := (f.cell (p := ⟨ob, 3, none⟩) hob2 (fun h => h)).trans cy2
        have yb := (f.cell (p := ⟨xb, 3, none⟩) hxb2 (fun h => h)).trans x32
        have yc := (f.cell (p := ⟨xb, 4, none⟩) hxb2 (fun h => h)).trans x42
        refine hK.out _ _ ⟨ya, yb, yc⟩ (fun _ => trivial) ?_
        clear hK Kq
        (try simp only [Act.put, List.setIfInBounds_toArray, List.set_cons_zero, List.set_cons_succ])
        refine wpKeep_takeT (i := 9) (oi := ⟨some 222, _, _, _, _, _⟩) (v := ?_) rfl (by kernel_rfl) (by kernel_rfl) (by kernel_rfl) (by kernel_rfl) (fun _ _ _ h => h) (Or.inl ⟨by rfl, ?_⟩) ⟨ya, yb, yc⟩ (fun _ => trivial) ?_
        rotate_left
        · intro w' hT
          obtain ⟨t1, t2, t3⟩ := hT
          go_simp
          (try rw [if_pos (by omega)])
          (try with_reducible rfl)
        rotate_left
        (try simp only [Act.put, List.setIfInBounds_toArray, List.set_cons_zero, List.set_cons_succ])
        refine wpKeep_takeT (i := 10) (oi := ⟨some 232, _, _, _, _, _⟩) (v := ?_) rfl (by kernel_rfl) (by kernel_rfl) (by kernel_rfl) (by kernel_rfl) (fun _ _ _ h => h) (Or.inl ⟨by rfl, ?_⟩) ⟨ya, yb, yc⟩ (fun _ => trivial) ?_
        rotate_left
        · intro w' hT
          obtain ⟨t1, t2, t3⟩ := hT
          go_simp
          (try rw [if_pos (by omega)])
          (try with_reducible rfl)
        rotate_left
        (try simp only [Act.put, List.setIfInBounds_toArray, List.set_cons_zero, List.set_cons_succ])
        refine wpKeep_takeT (i := 11) (oi := ⟨some 233, _, _, _, _, _⟩) (v := ?_) rfl (by kernel_rfl) (by kernel_rfl) (by kernel_rfl) (by kernel_rfl) (fun _ _ _ h => h) (Or.inl ⟨by rfl, ?_⟩) ⟨ya, yb, yc⟩ (fun _ => trivial) ?_
        rotate_left
        · intro w' hT
          obtain ⟨t1, t2, t3⟩ := hT
          go_simp
          (try rw [if_pos (by omega)])
          (try with_reducible rfl)
        rotate_left
        (try simp only [Act.put, List.setIfInBounds_toArray, List.set_cons_zero, List.set_cons_succ])
        refine wpKeep_ready (rs := [12]) (by kernel_rfl) (by simp) ?_
        refine AllKeep.cons (o := ⟨some 21, _, _, _, _, _⟩) rfl (fun Kq hK => ?_) AllKeep.nil
        go_simp
        have fz := f.alloc (.cells #[.slice none 0 0, .bool false, .string ⟨#[]⟩, .string ⟨#[]⟩] 43)
        have za := (fz.cell (p := ⟨ob, 3, none⟩) hob2 (fun h => h)).trans cy2
        have zb := (fz.cell (p := ⟨xb, 3, none⟩) hxb2 (fun h => h)).trans x32
        have zc := (fz.cell (p := ⟨xb, 4, none⟩) hxb2 (fun h => h)).trans x42
        refine hK.out _ _ ⟨za, zb, zc⟩ (fun _ => trivial) ?_
        clear hK Kq
        (try simp only [Act.put, List.setIfInBounds_toArray, List.set_cons_zero, List.set_cons_succ])
        refine wpKeep_ready (rs := [13]) (by kernel_rfl) (by simp) ?_
        refine AllKeep.cons (o := ⟨none, _, _, _, _, _⟩) rfl (fun Kq hK => ?_) AllKeep.nil
        go_simp
        have fu := f.alloc (.cells #[.slice ap sides.length cp, .bool pt, .string (str pk), .string (str pv)] 43)
        have ua := (fu.cell (p := ⟨ob, 3, none⟩) hob2 (fun h => h)).trans cy2
        have ub := (fu.cell (p := ⟨xb, 3, none⟩) hxb2 (fun h => h)).trans x32
        have uc := (fu.cell (p := ⟨xb, 4, none⟩) hxb2 (fun h => h)).trans x42
        refine hK.out _ _ ⟨ua, ub, uc⟩ (fun _ => trivial) ?_
        clear hK Kq
        (try simp only [Act.put, List.setIfInBounds_toArray, List.set_cons_zero, List.set_cons_succ])
        refine wpKeep_takeT (i := 14) (oi := ⟨some 22, _, _, _, _, _⟩) (v := ?_) rfl (by kernel_rfl) (by kernel_rfl) (by kernel_rfl) (by kernel_rfl) (fun _ _ _ h => h) (Or.inl ⟨by rfl, ?_⟩) ⟨ua, ub, uc⟩ (fun _ => trivial) ?_
        rotate_left
        · intro w' hT
          obtain ⟨t1, t2, t3⟩ := hT
          go_simp
          (try rw [if_pos (by omega)])
          (try with_reducible rfl)
        rotate_left
        (try simp only [Act.put, List.setIfInBounds_toArray, List.set_cons_zero, List.set_cons_succ])
        refine wpKeep_done (by kernel_rfl) ?_ _
        go_wp2
        go_meet
        exact ⟨_, _, rfl, rfl, heap_alloc_new _ _, ⟨ownsRow_keeps op.1 ((Keeps.refl (fun _ => False) _).alloc _) (fun _ _ h => h), op.2⟩, fu, f.size, fun e => by have := (op.1.lt _ e).2; omega⟩
      · go_simp
        have f9 : Fresh w2 (w2.alloc (.cells #[.slice none 0 0, .bool false, .string ⟨#[]⟩, .string ⟨#[]⟩] 43)).drew := ((Keeps.refl _ _).alloc _).drew
        have qa := (f9.cell (p := ⟨ob, 3, none⟩) hob2 (fun h => h)).trans cy2
        have qb := (f9.cell (p := ⟨xb, 3, none⟩) hxb2 (fun h => h)).trans x32
        have qc := (f9.cell (p := ⟨xb, 4, none⟩) hxb2 (fun h => h)).trans x42
        refine hK.out _ _ ⟨qa, qb, qc⟩ (fun _ => trivial) ?_
        clear hK Kq
        (try simp only [Act.put, List.setIfInBounds_toArray, List.set_cons_zero, List.set_cons_succ])
        refine wpKeep_ready (rs := [8]) (by kernel_rfl) (by simp) ?_
        refine AllKeep.cons (o := ⟨some 231, _, _, _, _, _⟩) rfl (fun Kq hK => ?_) AllKeep.nil
        go_simp
        go_at_call 27
        refine (HDP.out _ (f2.trans f9)).mono ?_
        rintro e wy ⟨vp, rfl, f0, op0⟩
        have f : Fresh w2 wy := f9.trans f0
        have op : OwnTexts w2.heap.size wy vp sides := ⟨op0.1, fun g hg => by have := op0.2 g hg; have := f9.size; omega⟩
        have bz := f0.at_ (k := w2.heap.size) (o := .cells #[.slice none 0 0, .bool false, .string ⟨#[]⟩, .string ⟨#[]⟩] 43 (0, 0)) (by exact heap_alloc_new _ _) (fun h => h)
        have bl9 := lt_of_block bz
        have hs9 : (w2.alloc (.cells #[.slice none 0 0, .bool false, .string ⟨#[]⟩, .string ⟨#[]⟩] 43)).drew.heap.size = w2.heap.size + 1 := World.size_alloc _ _
        have hvn : vp.ownBlock ≠ some w2.heap.size := fun e => by have := op0.2 _ e; omega
        obtain ⟨ap, cp, rfl⟩ := ownsRow_slice op.1
        have i0 := (cell_at bz 0).trans (show _ = some (Value.slice none 0 0) from rfl)
        have i1 := (cell_at bz 1).trans (show _ = some (Value.bool false) from rfl)
        have i2 := (cell_at bz 2).trans (show _ = some (Value.string ⟨#[]⟩) from rfl)
        have i3 := (cell_at bz 3).trans (show _ = some (Value.string ⟨#[]⟩) from rfl)
        have j0 := free_at bz 0
        have j1 := free_at bz 1
        have j2 := free_at bz 2
        have j3 := free_at bz 3
        clear f0 op0 hs9
        have ya := (f.cell (p := ⟨ob, 3, none⟩) hob2 (fun h => h)).trans cy2
        have yb := (f.cell (p := ⟨xb, 3, none⟩) hxb2 (fun h => h)).trans x32
        have yc := (f.cell (p := ⟨xb, 4, none⟩) hxb2 (fun h => h)).trans x42
        refine hK.out _ _ ⟨ya, yb, yc⟩ (fun _ => trivial) ?_
        clear hK Kq
        (try simp only [Act.put, List.setIfInBounds_toArray, List.set_cons_zero, List.set_cons_succ])
        refine wpKeep_takeT (i := 9) (oi := ⟨some 222, _, _, _, _, _⟩) (v := ?_) rfl (by kernel_rfl) (by kernel_rfl) (by kernel_rfl) (by kernel_rfl) (fun _ _ _ h => h) (Or.inl ⟨by rfl, ?_⟩) ⟨ya, yb, yc⟩ (fun _ => trivial) ?_
        rotate_left
        · intro w' hT
          obtain ⟨t1, t2, t3⟩ := hT
          go_simp
          (try rw [if_pos (by omega)])
          (try with_reducible rfl)
        rotate_left
        (try simp only [Act.put, List.setIfInBounds_toArray, List.set_cons_zero, List.set_cons_succ])
        refine wpKeep_takeT (i := 10) (oi := ⟨some 232, _, _, _, _, _⟩) (v := ?_) rfl (by kernel_rfl) (by kernel_rfl) (by kernel_rfl) (by kernel_rfl) (fun _ _ _ h => h) (Or.inl ⟨by rfl, ?_⟩) ⟨ya, yb, yc⟩ (fun _ => trivial) ?_
        rotate_left
        · intro w' hT
          obtain ⟨t1, t2, t3⟩ := hT
          go_simp
          (try rw [if_pos (by omega)])
          (try with_reducible rfl)
        rotate_left
        (try simp only [Act.put, List.setIfInBounds_toArray, List.set_cons_zero, List.set_cons_succ])
        refine wpKeep_takeT (i := 11) (oi := ⟨some 233, _, _, _, _, _⟩) (v := ?_) rfl (by kernel_rfl) (by kernel_rfl) (by kernel_rfl) (by kernel_rfl) (fun _ _ _ h => h) (Or.inl ⟨by rfl, ?_⟩) ⟨ya, yb, yc⟩ (fun _ => trivial) ?_
        rotate_left
        · intro w' hT
          obtain ⟨t1, t2, t3⟩ := hT
          go_simp
          (try rw [if_pos (by omega)])
          (try with_reducible rfl)
        rotate_left
        (try simp only [Act.put, List.setIfInBounds_toArray, List.set_cons_zero, List.set_cons_succ])
        refine wpKeep_ready (rs := [13]) (by kernel_rfl) (by simp) ?_
        refine AllKeep.cons (o := ⟨none, _, _, _, _, _⟩) rfl (fun Kq hK => ?_) AllKeep.nil
        go_simp
        have k4 := keep4 wy w2.heap.size (.slice ap sides.length cp) (.bool pt) (.string (str pk)) (.string (str pv))
        have b4 := set4 bz (.slice ap sides.length cp) (.bool pt) (.string (str pk)) (.string (str pv))
        have r4 := ownsRow_keeps op.1 k4 (fun g hg e => hvn (by rw [← e]; exact hg))
        have fu : Fresh w2 ((((wy.setCell ⟨w2.heap.size, 0, none⟩ (.slice ap sides.length cp)).setCell ⟨w2.heap.size, 1, none⟩ (.bool pt)).setCell ⟨w2.heap.size, 2, none⟩ (.string (str pk))).setCell ⟨w2.heap.size, 3, none⟩ (.string (str pv))) := f.trans' k4 (fun i hi e => by omega)
        have ua := (fu.cell (p := ⟨ob, 3, none⟩) hob2 (fun h => h)).trans cy2
        have ub := (fu.cell (p := ⟨xb, 3, none⟩) hxb2 (fun h => h)).trans x32
        have uc := (fu.cell (p := ⟨xb, 4, none⟩) hxb2 (fun h => h)).trans x42
        refine hK.out _ _ ⟨ua, ub, uc⟩ (fun _ => trivial) ?_
        clear hK Kq
        (try simp only [Act.put, List.setIfInBounds_toArray, List.set_cons_zero, List.set_cons_succ])
        refine wpKeep_takeT (i := 14) (oi := ⟨some 22, _, _, _, _, _⟩) (v := ?_) rfl (by kernel_rfl) (by kernel_rfl) (by kernel_rfl) (by kernel_rfl) (fun _ _ _ h => h) (Or.inl ⟨by rfl, ?_⟩) ⟨ua, ub, uc⟩ (fun _ => trivial) ?_
        rotate_left
        · intro w' hT
          obtain ⟨t1, t2, t3⟩ := hT
          go_simp
          (try rw [if_pos (by omega)])
          (try with_reducible rfl)
        rotate_left
        (try simp only [Act.put, List.setIfInBounds_toArray, List.set_cons_zero, List.set_cons_succ])
        refine wpKeep_done (by kernel_rfl) ?_ _
        go_wp2
        go_meet
        exact ⟨_, _, rfl, rfl, b4, ⟨r4, op.2⟩, fu, Nat.le_refl _, hvn⟩
    case rest => as_aux_lemma =>
    obtain ⟨g3, v3, rfl, rfl, bx3, o3, f3, hg3, hv3⟩ := hcut
    obtain ⟨w3, rfl⟩ : ∃ w3, w3 = wc := ⟨_, rfl⟩
    obtain ⟨a3, p3, rfl⟩ := ownsRow_slice o3.1
    have cm3 := (f3.cell (p := ⟨ob, 1, none⟩) hob2 (fun h => h)).trans cm2
    have x33 := (f3.cell (p := ⟨xb, 3, none⟩) hxb2 (fun h => h)).trans x32
    have x43 := (f3.cell (p := ⟨xb, 4, none⟩) hxb2 (fun h => h)).trans x42
    have hob3 : ob < w3.heap.size := World.block_lt_of_cell? _ _ cm3
    have hxb3 : xb < w3.heap.size := World.block_lt_of_cell? _ _ x33
    have HBX3 := hid bx3
    have HO3 := hid o3
    have f13 := f2.trans f3
    clear cm2 cy2 x32 x42 bx3 o3
    go_wp2_with fail
    go_cut [23, 24] (fun sa sb wx => ∃ g v, sa = .pointer (some ⟨g, 0, none⟩) ∧ sb = .int .i64 er ∧ wx.heap[g]? = some (.cells #[v, .bool pt, .string (str pk), .string (str pv)] 43 (0, 0)) ∧ OwnTexts w3.heap.size wx v sides ∧ Fresh w3 wx ∧ w3.heap.size ≤ g ∧ v.ownBlock ≠ some g)
    case first => as_aux_lemma =>
      refine wp_region_keep 15 (fun w' => w'.cell? ⟨ob, 1, none⟩ = some (.pointer (some ⟨m 1, 0, none⟩)) ∧ w'.cell? ⟨xb, 3, none⟩ = some (.string (str key)) ∧ w'.cell? ⟨xb, 4, none⟩ = some (.string (str val))) (fun _ => True) (fun _ => true) (by kernel_rfl) (by kernel_rfl) ?_
      (try (change wpKeep _ _ _ _ _ _ _ _ _ _ (World.drew _)))
      refine wpKeep_takeT (i := 0) (oi := ⟨some 235, _, _, _, _, _⟩) (v := ?_) rfl (by kernel_rfl) (by kernel_rfl) (by kernel_rfl) (by kernel_rfl) (fun _ _ _ h => h) (Or.inl ⟨by rfl, ?_⟩) ⟨cm3, x33, x43⟩ (fun _ => trivial) ?_
      rotate_left
      · intro w' hT
        obtain ⟨t1, t2, t3⟩ := hT
        go_simp
        (try rw [if_pos (by omega)])
        (try with_reducible rfl)
      rotate_left
      (try simp only [Act.put, List.setIfInBounds_toArray, List.set_cons_zero, List.set_cons_succ])
      refine wpKeep_takeT (i := 1) (oi := ⟨some 236, _, _, _, _, _⟩) (v := ?_) rfl (by kernel_rfl) (by kernel_rfl) (by kernel_rfl) (by kernel_rfl) (fun _ _ _ h => h) (Or.inl ⟨by rfl, ?_⟩) ⟨cm3, x33, x43⟩ (fun _ => trivial) ?_
      rotate_left
      · intro w' hT
        obtain ⟨t1, t2, t3⟩ := hT
        go_simp
        (try rw [if_pos (by omega)])
        (try with_reducible rfl)
      rotate_left
      (try simp only [Act.put, List.setIfInBounds_toArray, List.set_cons_zero, List.set_cons_succ])
      refine wpKeep_takeT (i := 2) (oi := ⟨some 237, _, _, _, _, _⟩) (v := ?_) rfl (by kernel_rfl) (by kernel_rfl) (by kernel_rfl) (by kernel_rfl) (fun _ _ _ h => h) (Or.inl ⟨by rfl, ?_⟩) ⟨cm3, x33, x43⟩ (fun _ => trivial) ?_
      rotate_left
      · intro w' hT
        obtain ⟨t1, t2, t3⟩ := hT
        go_simp
        (try rw [if_pos (by omega)])
        (try with_reducible rfl)
      rotate_left
      (try simp only [Act.put, List.setIfInBounds_toArray, List.set_cons_zero, List.set_cons_succ])
      refine wpKeep_takeT (i := 3) (oi := ⟨some 238, _, _, _, _, _⟩) (v := ?_) rfl (by kernel_rfl) (by kernel_rfl) (by kernel_rfl) (by kernel_rfl) (fun _ _ _ h => h) (Or.inl ⟨by rfl, ?_⟩) ⟨cm3, x33, x43⟩ (fun _ => trivial) ?_
      rotate_left
      · intro w' hT
        obtain ⟨t1, t2, t3⟩ := hT
        go_simp
        (try rw [if_pos (by omega)])
        (try with_reducible rfl)
      rotate_left
      (try simp only [Act.put, List.setIfInBounds_toArray, List.set_cons_zero, List.set_cons_succ])
      refine wpKeep_takeT (i := 4) (oi := ⟨some 239, _, _, _, _, _⟩) (v := ?_) rfl (by kernel_rfl) (by kernel_rfl) (by kernel_rfl) (by kernel_rfl) (fun _ _ _ h => h) (Or.inl ⟨by rfl, ?_⟩) ⟨cm3, x33, x43⟩ (fun _ => trivial) ?_
      rotate_left
      · intro w' hT
        obtain ⟨t1, t2, t3⟩ := hT
        go_simp
        (try rw [if_pos (by omega)])
        (try with_reducible rfl)
      rotate_left
      (try simp only [Act.put, List.setIfInBounds_toArray, List.set_cons_zero, List.set_cons_succ])
      refine wpKeep_takeT (i := 5) (oi := ⟨some 240, _, _, _, _, _⟩) (v := ?_) rfl (by kernel_rfl) (by kernel_rfl) (by kernel_rfl) (by kernel_rfl) (fun _ _ _ h => h) (Or.inl ⟨by rfl, ?_⟩) ⟨cm3, x33, x43⟩ (fun _ => trivial) ?_
      rotate_left
      · intro w' hT
        obtain ⟨t1, t2, t3⟩ := hT
        go_simp
        (try rw [if_pos (by omega)])
        (try with_reducible rfl)
      rotate_left
      (try simp only [Act.put, List.setIfInBounds_toArray, List.set_cons_zero, List.set_cons_succ])
      refine wpKeep_takeT (i := 6) (oi := ⟨some 241, _, _, _, _, _⟩) (v := ?_) rfl (by kernel_rfl) (by kernel_rfl) (by kernel_rfl) (by kernel_rfl) (fun _ _ _ h => h) (Or.inl ⟨by rfl, ?_⟩) ⟨cm3, x33, x43⟩ (fun _ => trivial) ?_
      rotate_left
      · intro w' hT
        obtain ⟨t1, t2, t3⟩ := hT
        go_simp
        (try rw [if_pos (by omega)])
        (try with_reducible rfl)
      rotate_left
      (try simp only [Act.put, List.setIfInBounds_toArray, List.set_cons_zero, List.set_cons_succ])
      refine wpKeep_takeT (i := 7) (oi := ⟨some 242, _, _, _, _, _⟩) (v := ?_) rfl (by kernel_rfl) (by kernel_rfl) (by kernel_rfl) (by kernel_rfl) (fun _ _ _ h => h) (Or.inl ⟨by rfl, ?_⟩) ⟨cm3, x33, x43⟩ (fun _ => trivial) ?_
      rotate_left
      · intro w' hT
        obtain ⟨t1, t2, t3⟩ := hT
        go_simp
        (try rw [if_pos (by omega)])
        (try with_reducible rfl)
      rotate_left
      (try simp only [Act.put, List.setIfInBounds_toArray, List.set_cons_zero, List.set_cons_succ])
      refine wpKeep_ready (rs := [8, 12]) (by kernel_rfl) (by simp) ?_
      refine AllKeep.cons (o := ⟨some 243, _, _, _, _, _⟩) rfl (fun Kq hK => ?_) (AllKeep.cons (o := ⟨some 23, _, _, _, _, _⟩) rfl (fun Kq hK => ?_) AllKeep.nil)
      · go_simp
        go_at_call 13
        refine (HP.out _ f13.drew).mono ?_
        rintro e wy ⟨vp, rfl, f0, op⟩
        obtain ⟨ap, cp, rfl⟩ := ownsRow_slice op.1
        have f : Fresh w3 wy := (Keeps.refl (fun _ => False) w3).drew.trans f0
        have ya := (f.cell (p := ⟨ob, 1, none⟩) hob3 (fun h => h)).trans cm3
        have yb := (f.cell (p := ⟨xb, 3, none⟩) hxb3 (fun h => h)).trans x33
        have yc := (f.cell (p := ⟨xb, 4, none⟩) hxb3 (fun h => h)).trans x43
        refine hK.out _ _ ⟨ya, yb, yc⟩ (fun _ => trivial) ?_
        clear hK Kq
        (try simp only [Act.put, List.setIfInBounds_toArray, List.set_cons_zero, List.set_cons_succ])
        refine wpKeep_takeT (i := 9) (oi := ⟨some 234, _, _, _, _, _⟩) (v := ?_) rfl (by kernel_rfl) (by kernel_rfl) (by kernel_rfl) (by kernel_rfl) (fun _ _ _ h => h) (Or.inl ⟨by rfl, ?_⟩) ⟨ya, yb, yc⟩ (fun _ => trivial) ?_
        rotate_left
        · intro w' hT
          obtain ⟨t1, t2, t3⟩ := hT
          go_simp
          (try rw [if_pos (by omega)])
          (try with_reducible rfl)
        rotate_left
        (try simp only [Act.put, List.setIfInBounds_toArray, List.set_cons_zero, List.set_cons_succ])
        refine wpKeep_takeT (i := 10) (oi := ⟨some 244, _, _, _, _, _⟩) (v := ?_) rfl (by kernel_rfl) (by kernel_rfl) (by kernel_rfl) (by kernel_rfl) (fun _ _ _ h => h) (Or.inl ⟨by rfl, ?_⟩) ⟨ya, yb, yc⟩ (fun _ => trivial) ?_
        rotate_left
        · intro w' hT
          obtain ⟨t1, t2, t3⟩ := hT
          go_simp
          (try rw [if_pos (by omega)])
          (try with_reducible rfl)
        rotate_left
        (try simp only [Act.put, List.setIfInBounds_toArray, List.set_cons_zero, List.set_cons_succ])
        refine wpKeep_takeT (i := 11) (oi := ⟨some 245, _, _, _, _, _⟩) (v := ?_) rfl (by kernel_rfl) (by kernel_rfl) (by kernel_rfl) (by kernel_rfl) (fun _ _ _ h => h) (Or.inl ⟨by rfl, ?_⟩) ⟨ya, yb, yc⟩ (fun _ => trivial) ?_
        rotate_left
        · intro w' hT
          obtain ⟨t1, t2, t3⟩ := hT
          go_simp
          (try rw [if_pos (by omega)])
          (try with_reducible rfl)
        rotate_left
        (try simp only [Act.put, List.setIfInBounds_toArray, List.set_cons_zero, List.set_cons_succ])
        refine wpKeep_ready (rs := [12]) (by kernel_rfl) (by simp) ?_
        refine AllKeep.cons (o := ⟨some 23, _, _, _, _, _⟩) rfl (fun Kq hK => ?_) AllKeep.nil
        go_simp
        have fz := f.alloc (.cells #[.slice none 0 0, .bool false, .string ⟨#[]⟩, .string ⟨#[]⟩] 43)
        have za := (fz.cell (p := ⟨ob, 1, none⟩) hob3 (fun h => h)).trans cm3
        have zb := (fz.cell (p := ⟨xb, 3, none⟩) hxb3 (fun h => h)).trans x33
        have zc := (fz.cell (p := ⟨xb, 4, none⟩) hxb3 (fun h => h)).trans x43
        refine hK.out _ _ ⟨za, zb, zc⟩ (fun _ => trivial) ?_
        clear hK Kq
        (try simp only [Act.put, List.setIfInBounds_toArray, List.set_cons_zero, List.set_cons_succ])
        refine wpKeep_ready (rs := [13]) (by kernel_rfl) (by simp) ?_
        refine AllKeep.cons (o := ⟨none, _, _, _, _, _⟩) rfl (fun Kq hK => ?_) AllKeep.nil
        go_simp
        have fu := f.alloc (.cells #[.slice ap sides.length cp, .bool pt, .string (str pk), .string (str pv)] 43)
        have ua := (fu.cell (p := ⟨ob, 1, none⟩) hob3 (fun h => h)).trans cm3
        have ub := (fu.cell (p := ⟨xb, 3, none⟩) hxb3 (fun h => h)).trans x33
        have uc := (fu.cell (p := ⟨xb, 4, none⟩) hxb3 (fun h => h)).trans x43
        refine hK.out _ _ ⟨ua, ub, uc⟩ (fun _ => trivial) ?_
        clear hK Kq
        (try simp only [Act.put, List.setIfInBounds_toArray, List.set_cons_zero, List.set_cons_succ])
        refine wpKeep_takeT (i := 14) (oi := ⟨some 24, _, _, _, _, _⟩) (v := ?_) rfl (by kernel_rfl) (by kernel_rfl) (by kernel_rfl) (by kernel_rfl) (fun _ _ _ h => h) (Or.inl ⟨by rfl, ?_⟩) ⟨ua, ub, uc⟩ (fun _ => trivial) ?_
        rotate_left
        · intro w' hT
          obtain ⟨t1, t2, t3⟩ := hT
          go_simp
          (try rw [if_pos (by omega)])
          (try with_reducible rfl)
        rotate_left
        (try simp only [Act.put, List.setIfInBounds_toArray, List.set_cons_zero, List.set_cons_succ])
        refine wpKeep_done (by kernel_rfl) ?_ _
        go_wp2
        go_meet
        exact ⟨_, _, rfl, rfl, heap_alloc_new _ _, ⟨ownsRow_keeps op.1 ((Keeps.refl (fun _ => False) _).alloc _) (fun _ _ h => h), op.2⟩, fu, f.size, fun e => by have := (op.1.lt _ e).2; omega⟩
      · go_simp
        have f9 : Fresh w3 (w3.alloc (.cells #[.slice none 0 0, .bool false, .string ⟨#[]⟩, .string ⟨#[]⟩] 43)).drew := ((Keeps.refl _ _).alloc _).drew
        have qa := (f9.cell (p := ⟨ob, 1, none⟩) hob3 (fun h => h)).trans cm3
        have qb := (f9.cell (p := ⟨xb, 3, none⟩) hxb3 (fun h => h)).trans x33
        have qc := (f9.cell (p := ⟨xb, 4, none⟩) hxb3 (fun h => h)).trans x43
        refine hK.out _ _ ⟨qa, qb, qc⟩ (fun _ => trivial) ?_
        clear hK Kq
        (try simp only [Act.put, List.setIfInBounds_toArray, List.set_cons_zero, List.set_cons_succ])
        refine wpKeep_ready (rs := [8]) (by kernel_rfl) (by simp) ?_
        refine AllKeep.cons (o := ⟨some 243, _, _, _, _, _⟩) rfl (fun Kq hK => ?_) AllKeep.nil
        go_simp
        go_at_call 13
        refine (HP.out _ (f13.trans f9)).mono ?_
        rintro e wy ⟨vp, rfl, f0, op0⟩
        have f : Fresh w3 wy := f9.trans f0
        have op : OwnTexts w3.heap.size wy vp sides := ⟨op0.1, fun g hg => by have := op0.2 g hg; have := f9.size; omega⟩
        have bz := f0.at_ (k := w3.heap.size) (o := .cells #[.slice none 0 0, .bool false, .string ⟨#[]⟩, .string ⟨#[]⟩] 43 (0, 0)) (by exact heap_alloc_new _ _) (fun h => h)
        have bl9 := lt_of_block bz
        have hs9 : (w3.alloc (.cells #[.slice none 0 0, .bool false, .string ⟨#[]⟩, .string ⟨#[]⟩] 43)).drew.heap.size = w3.heap.size + 1 := World.size_alloc _ _
        have hvn : vp.ownBlock ≠ some w3.heap.size := fun e => by have := op0.2 _ e; omega
        obtain ⟨ap, cp, rfl⟩ := ownsRow_slice op.1
        have i0 := (cell_at bz 0).trans (show _ = some (Value.slice none 0 0) from rfl)
        have i1 := (cell_at bz 1).trans (show _ = some (Value.bool false) from rfl)
        have i2 := (cell_at bz 2).trans (show _ = some (Value.string ⟨#[]⟩) from rfl)
        have i3 := (cell_at bz 3).trans (show _ = some (Value.string ⟨#[]⟩) from rfl)
        have j0 := free_at bz 0
        have j1 := free_at bz 1
        have j2 := free_at bz 2
        have j3 := free_at bz 3
        clear f0 op0 hs9
        have ya := (f.cell (p := ⟨ob, 1, none⟩) hob3 (fun h => h)).trans cm3
        have yb := (f.cell (p := ⟨xb, 3, none⟩) hxb3 (fun h => h)).trans x33
        have yc := (f.cell (p := ⟨xb, 4, none⟩) hxb3 (fun h => h)).trans x43
        refine hK.out _ _ ⟨ya, yb, yc⟩ (fun _ => trivial) ?_
        clear hK Kq
        (try simp only [Act.put, List.setIfInBounds_toArray, List.set_cons_zero, List.set_cons_succ])
        refine wpKeep_takeT (i := 9) (oi := ⟨some 234, _, _, _, _, _⟩) (v := ?_) rfl (by kernel_rfl) (by kernel_rfl) (by kernel_rfl) (by kernel_rfl) (fun _ _ _ h => h) (Or.inl ⟨by rfl, ?_⟩) ⟨ya, yb, yc⟩ (fun _ => trivial) ?_
        rotate_left
        · intro w' hT
          obtain ⟨t1, t2, t3⟩ := hT
          go_simp
          (try rw [if_pos (by omega)])
          (try with_reducible rfl)
        rotate_left
        (try simp only [Act.put, List.setIfInBounds_toArray, List.set_cons_zero, List.set_cons_succ])
        refine wpKeep_takeT (i := 10) (oi := ⟨some 244, _, _, _, _, _⟩) (v := ?_) rfl (by kernel_rfl) (by kernel_rfl) (by kernel_rfl) (by kernel_rfl) (fun _ _ _ h => h) (Or.inl ⟨by rfl, ?_⟩) ⟨ya, yb, yc⟩ (fun _ => trivial) ?_
        rotate_left
        · intro w' hT
          obtain ⟨t1, t2, t3⟩ := hT
          go_simp
          (try rw [if_pos (by omega)])
          (try with_reducible rfl)
        rotate_left
        (try simp only [Act.put, List.setIfInBounds_toArray, List.set_cons_zero, List.set_cons_succ])
        refine wpKeep_takeT (i := 11) (oi := ⟨some 245, _, _, _, _, _⟩) (v := ?_) rfl (by kernel_rfl) (by kernel_rfl) (by kernel_rfl) (by kernel_rfl) (fun _ _ _ h => h) (Or.inl ⟨by rfl, ?_⟩) ⟨ya, yb, yc⟩ (fun _ => trivial) ?_
        rotate_left
        · intro w' hT
          obtain ⟨t1, t2, t3⟩ := hT
          go_simp
          (try rw [if_pos (by omega)])
          (try with_reducible rfl)
        rotate_left
        (try simp only [Act.put, List.setIfInBounds_toArray, List.set_cons_zero, List.set_cons_succ])
        refine wpKeep_ready (rs := [13]) (by kernel_rfl) (by simp) ?_
        refine AllKeep.cons (o := ⟨none, _, _, _, _, _⟩) rfl (fun Kq hK => ?_) AllKeep.nil
        go_simp
        have k4 := keep4 wy w3.heap.size (.slice ap sides.length cp) (.bool pt) (.string (str pk)) (.string (str pv))
        have b4 := set4 bz (.slice ap sides.length cp) (.bool pt) (.string (str pk)) (.string (str pv))
        have r4 := ownsRow_keeps op.1 k4 (fun g hg e => hvn (by rw [← e]; exact hg))
        have fu : Fresh w3 ((((wy.setCell ⟨w3.heap.size, 0, none⟩ (.slice ap sides.length cp)).setCell ⟨w3.heap.size, 1, none⟩ (.bool pt)).setCell ⟨w3.heap.size, 2, none⟩ (.string (str pk))).setCell ⟨w3.heap.size, 3, none⟩ (.string (str pv))) := f.trans' k4 (fun i hi e => by omega)
        have ua := (fu.cell (p := ⟨ob, 1, none⟩) hob3 (fun h => h)).trans cm3
        have ub := (fu.cell (p := ⟨xb, 3, none⟩) hxb3 (fun h => h)).trans x33
        have uc := (fu.cell (p := ⟨xb, 4, none⟩) hxb3 (fun h => h)).trans x43
        refine hK.out _ _ ⟨ua, ub, uc⟩ (fun _ => trivial) ?_
        clear hK Kq
        (try simp only [Act.put, List.setIfInBounds_toArray, List.set_cons_zero, List.set_cons_succ])
        refine wpKeep_takeT (i := 14) (oi := ⟨some 24, _, _, _, _, _⟩) (v := ?_) rfl (by kernel_rfl) (by kernel_rfl) (by kernel_rfl) (by kernel_rfl) (fun _ _ _ h => h) (Or.inl ⟨by rfl, ?_⟩) ⟨ua, ub, uc⟩ (fun _ => trivial) ?_
        rotate_left
        · intro w' hT
          obtain ⟨t1, t2, t3⟩ := hT
          go_simp
          (try rw [if_pos (by omega)])
          (try with_reducible rfl)
        rotate_left
        (try simp only [Act.put, List.setIfInBounds_toArray, List.set_cons_zero, List.set_cons_succ])
        refine wpKeep_done (by kernel_rfl) ?_ _
        go_wp2
        go_meet
        exact ⟨_, _, rfl, rfl, b4, ⟨r4, op.2⟩, fu, Nat.le_refl _, hvn⟩
    case rest => as_aux_lemma =>
    obtain ⟨g4, v4, rfl, rfl, bx4, o4, f4, hg4, hv4⟩ := hcut
    obtain ⟨w4, rfl⟩ : ∃ w4, w4 = wc := ⟨_, rfl⟩
    obtain ⟨a4, p4, rfl⟩ := ownsRow_slice o4.1
    have f14 := f13.trans f4
    have f34 := f4
    have f24 := f3.trans f4
    have bx2 := f24.at_ HBX2.out (fun h => h)
    have bx3 := f4.at_ HBX3.out (fun h => h)
    have HT := hid (And.intro (HO2.out.at_.fresh f24) (And.intro (HO3.out.at_.fresh f4) o4.at_))
    have HBX4 := hid bx4
    have HO4 := hid o4
    have q20 := (cell_at bx2 0).trans (show _ = some (Value.slice a2 sides.length p2) from rfl)
    have q21 := (cell_at bx2 1).trans (show _ = some (Value.bool pt) from rfl)
    have q22 := (cell_at bx2 2).trans (show _ = some (Value.string (str pk)) from rfl)
    have q23 := (cell_at bx2 3).trans (show _ = some (Value.string (str pv)) from rfl)
    have q30 := (cell_at bx3 0).trans (show _ = some (Value.slice a3 sides.length p3) from rfl)
    have q31 := (cell_at bx3 1).trans (show _ = some (Value.bool pt) from rfl)
    have q32 := (cell_at bx3 2).trans (show _ = some (Value.string (str pk)) from rfl)
    have q33 := (cell_at bx3 3).trans (show _ = some (Value.string (str pv)) from rfl)
    have HB2 := hid bx2
    have HB3 := hid bx3
    clear cm3 x33 x43 bx2 bx3 bx4 o4
    go_wp2_with fail
    have HS1 := same_self (.slice a2 sides.length p2) (.slice a3 sides.length p3) sides pt pk pv w4 HT.out.1 HT.out.2.1 (by have := HRL.out; omega)
    refine HS1.mono ?_
    rintro e w5 ⟨rfl, f5⟩
    have b23 := f5.at_ HB3.out (fun h => h)
    have b24 := f5.at_ HBX4.out (fun h => h)
    have r30 := (cell_at b23 0).trans (show _ = some (Value.slice a3 sides.length p3) from rfl)
    have r31 := (cell_at b23 1).trans (show _ = some (Value.bool pt) from rfl)
    have r32 := (cell_at b23 2).trans (show _ = some (Value.string (str pk)) from rfl)
    have r33 := (cell_at b23 3).trans (show _ = some (Value.string (str pv)) from rfl)
    have r40 := (cell_at b24 0).trans (show _ = some (Value.slice a4 sides.length p4) from rfl)
    have r41 := (cell_at b24 1).trans (show _ = some (Value.bool pt) from rfl)
    have r42 := (cell_at b24 2).trans (show _ = some (Value.string (str pk)) from rfl)
    have r43 := (cell_at b24 3).trans (show _ = some (Value.string (str pv)) from rfl)
    have HB24 := hid b24
    clear q20 q21 q22 q23 q30 q31 q32 q33 b23 b24 HS1
    go_wp2_with fail
    have HS2 := same_self (.slice a4 sides.length p4) (.slice a3 sides.length p3) sides pt pk pv w5 (HT.out.2.2.fresh f5) (HT.out.2.1.fresh f5) (by have := HRL.out; omega)
    refine HS2.mono ?_
    rintro e w7 ⟨rfl, f7⟩
    have f57 := f5.trans f7
    have f17 := f14.trans f57
    have f27 := f24.trans f57
    have T7 := H1.out.fresh f17
    have r2 := ownsRow_keeps HO2.out.1 f27 (fun _ _ h => h)
    have r3 := ownsRow_keeps HO4.out.1 f57 (fun _ _ h => h)
    have b72 := f57.at_ HB2.out (fun h => h)
    have b74 := f7.at_ HB24.out (fun h => h)
    have s20 := (cell_at b72 0).trans (show _ = some (Value.slice a2 sides.length p2) from rfl)
    have z2 : ∀ g, (Value.slice a2 sides.length p2).ownBlock = some g → W1.heap.size ≤ g ∧ g < w2.heap.size := fun g hg => ⟨HO2.out.2 g hg, (HO2.out.1.lt g hg).2⟩
    have z3 : ∀ g, (Value.slice a4 sides.length p4).ownBlock = some g → w3.heap.size ≤ g ∧ g < w4.heap.size := fun g hg => ⟨HO4.out.2 g hg, (HO4.out.1.lt g hg).2⟩
    have hBW := H1.out.size
    have n2 : ∀ g, (Value.slice a2 sides.length p2).ownBlock = some g → B ≤ g ∧ paint (paint c w 0) W1 0 g = 0 := fun g hg => ⟨by have := z2 g hg; omega, paint_new (z2 g hg).1⟩
    have HOW := hid (owned_any B ob N _ w7 kb m y n t dv L lv fv wv _ A F Wv C sides T7 (by omega) r2 n2 (by have := HRL.out; omega))
    have HT7 := hid T7
    have HF := hid (And.intro f17 (And.intro f2 (And.intro f3 (And.intro f57 hBW))))
    have HZ := hid (And.intro z2 (And.intro z3 (And.intro n2 r3)))
    have HB74 := hid b74
    have HG4 := hid hg4
    clear r30 r31 r32 r33 r40 r41 r42 r43 f5 f7 f13 f14 f24 f34 f57 f17 f27 T7 r2 r3 z2 z3 n2 hBW b72 b74 HS2 f2 f3 f4
    go_wp2_with fail
    refine HOW.out.mono ?_
    rintro e w8 ⟨rfl, c8, l8, fv8, wv8, A8, F8, Wv8, C8, T8, k8, z8⟩
    have hs23 : w2.heap.size ≤ w3.heap.size := HF.out.2.2.1.size
    have hs12 : W1.heap.size ≤ w2.heap.size := HF.out.2.1.size
    have e3 : ∀ g, w3.heap.size ≤ g → paint (paint c w 0) W1 0 g = 0 ∧ (Value.slice a2 sides.length p2).ownBlock ≠ some g := fun g hg =>
      ⟨paint_new (by omega), fun e => by have := HZ.out.1 g e; omega⟩
    have r38 := ownsRow_keeps HZ.out.2.2.2 k8 (fun g hg e => e.elim (fun e => e (e3 g (HZ.out.2.1 g hg).1).1) (e3 g (HZ.out.2.1 g hg).1).2)
    have b84 := k8.at_ HB74.out (fun e => e.elim (fun e => e (e3 _ HG4.out).1) (e3 _ HG4.out).2)
    have s40 := (cell_at b84 0).trans (show _ = some (Value.slice a4 sides.length p4) from rfl)
    have n38 : ∀ g, (Value.slice a4 sides.length p4).ownBlock = some g → B ≤ g ∧ c8 g = 0 := fun g hg => ⟨by have := HZ.out.2.1 g hg; have := HF.out.2.2.2.2; omega, z8 g (HZ.out.2.2.2.lt g hg).2 (e3 g (HZ.out.2.1 g hg).1).1 (e3 g (HZ.out.2.1 g hg).1).2⟩
    have HOW2 := hid (owned_any B ob (N + 1) c8 w8 kb m y n t dv L l8 fv8 wv8 _ A8 F8 Wv8 C8 sides T8 (by omega) r38 n38 (by have := HRL.out; omega))
    have k28 : Keeps (fun q => B ≤ q) w w8 := (HB1.out.trans (HF.out.1.mono fun _ _ h => h.elim)).trans (k8.mono fun q _ e => by
      rcases e with e | e
      · apply Classical.byContradiction
        intro hn
        exact e (HT7.out.low q (by omega))
      · exact (HZ.out.2.2.1 q e).1)
    have K28 := hid k28
    have N38 := hid n38
    have T8H := hid T8
    clear T8 k8 z8 e3 r38 n38 k28 HOW s20 b84 hs23 hs12
    go_wp2_with fail
    refine HOW2.out.mono ?_
    rintro e w9 ⟨rfl, c9, l9, fv9, wv9, A9, F9, Wv9, C9, T9, k9, z9⟩
    have k29 : Keeps (fun q => B ≤ q) w w9 := K28.out.trans (k9.mono fun q _ e => by
      rcases e with e | e
      · apply Classical.byContradiction
        intro hn
        exact e (T8H.out.low q (by omega))
      · exact (N38.out q e).1)
    have HT9 := hid T9
    have HK29 := hid k29
    clear T9 k9 z9 k29 HOW2 s40
    go_wp2_with fail
    go_ret
    exact ⟨by first | rfl | simp, After.of HT9.out HH.out (fun k hk => by have := HN.out k hk; omega), HK29.out⟩
end Go.Proofs.YtmflbchiapdhbaaGreatDoor
