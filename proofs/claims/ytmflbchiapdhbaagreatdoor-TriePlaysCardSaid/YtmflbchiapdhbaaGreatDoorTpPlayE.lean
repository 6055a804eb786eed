/-
  The law's step: Clone, and no kind.
-/
import Derived.Test.YtmflbchiapdhbaaGreatDoorTpPlayA
import Derived.Test.YtmflbchiapdhbaaGreatDoorMMsF
import Derived.Test.YtmflbchiapdhbaaGreatDoorTpAll
import Derived.BigQuiet
import Derived.Deep.RegionLaw
namespace Go.Proofs.YtmflbchiapdhbaaGreatDoor
open Go.RowKit

set_option maxRecDepth 100000 in
set_option maxHeartbeats 8000000 in
theorem play_clone (B ob N M : Nat) (c : Nat → Nat) (w : World) (kp : Bool) (m y n : Nat → Nat) (t : Nat → Tr) (dv : Nat → Value) (L : Nat → List Ent) (lv fv wv : Value) (A F Wv : List Value) (C : List Texts) (h : TW B c w ob kp m y t n dv L lv fv wv A F Wv C N) (hh : ∀ k, k < 2 → Has (t k) (L k)) (hn : ∀ k, k < 2 → n k ≤ M) (hM : M ≤ 900) (hN : N ≤ 900) (hd : Dig w) (hgB : 3 ≤ B)
    (oo kb : Bool) (key val : List UInt8) (hkey : key.length ≤ 9223372036854775807) (hval : val.length ≤ 9223372036854775807) :
    Calls Tryz.prog 7 #[.pointer (some ⟨ob, 0, none⟩), .agg #[.bool oo, .bool kb, .int .i64 7, .string (str key), .string (str val)]] w fun e w' => e = .returned (.bool true) ∧ After B w' ob (N + 2) (M + 1) ∧ Keeps (fun q => B ≤ q) w w' := by
  have H := hid h
  have HH := hid hh
  have HN := hid hn
  have HD := hid fun W (k : Keeps (fun q => B ≤ q) w W) => hd.keepsOut (k.mono fun q _ e => .inr e) hgB hgB
  have hu := And.intro hM (And.intro hN (And.intro hkey hval))
  clear hu
  have hbl := lt_of_block h.box
  have c7 := ((Keeps.refl (fun _ => False) w).alloc (opObj oo kb (7) key val)).at_ h.box (fun h => h)
  have d7 := free_at c7 7
  replace c7 := (cell_at c7 7).trans (show _ = some (Value.bool kp) from rfl)
  unfold opObj at c7 d7
  clear h hh hn hd
  cases oo with
  | true =>
    go_enter Tryz.func7, Tryz.ntmps7
    go_wp2_with fail
    obtain ⟨W1, hW1⟩ : ∃ W1, (w.setCell ⟨ob, 7, none⟩ (.bool kb)).alloc (opObj true kb (7) key val) = W1 := ⟨_, rfl⟩
    obtain ⟨h1, hop, k1, hBob⟩ := H.out.open_ true kb (7) key val hW1
    unfold opObj at hW1 hop
    rw [hW1]
    have hB1 : Keeps (fun q => B ≤ q) w W1 := k1.mono (fun q _ e => by rw [e]; exact hBob)
    obtain ⟨xb, hxb⟩ : ∃ xb, w.heap.size = xb := ⟨_, rfl⟩
    rw [hxb] at hop ⊢
    have x3 := (cell_at hop 3).trans (show _ = some (Value.string (str key)) from rfl)
    have x4 := (cell_at hop 4).trans (show _ = some (Value.string (str val)) from rfl)
    have cm := (cell_at h1.box 1).trans (show _ = some (Value.pointer (some ⟨m 1, 0, none⟩)) from rfl)
    have cy := (cell_at h1.box 3).trans (show _ = some (Value.pointer (some ⟨y 1, 0, none⟩)) from rfl)
    have hob1 := lt_of_block h1.box
    have hxb1 := lt_of_block hop
    have hD1 := HD.out W1 hB1
    have hMap := h1.map 1 (by omega)
    have hDoc := h1.doc 1 (by omega)
    have hHas := HH.out 1 (by omega)
    have hnk := HN.out 1 (by omega)
    have hgood := hMap.good
    have hlen : (L 1).length = n 1 := (hHas.len hgood).trans hMap.count
    have hxm : ¬ xb = m 1 := fun e => by have := (H.out.map 1 (by omega)).lt; omega
    have H1 := hid h1
    have HB1 := hid hB1
    have HOP := hid hop
    have h1o := h1.box
    have hwr0 : IntKind.i64.wrap 0 = 0 := by first | rfl | decide
    have hwr1 : IntKind.i64.wrap 1 = 1 := by first | rfl | decide
    have HBO := hid hBob
    clear x3 x4 HOP hxb1 hxm h1 hB1 hop k1 hBob hW1 hxb c7 d7
    have HCL := hid fun W (f : Fresh W1 W) => clone_any (m 1) (t 1) (n 1) W (hMap.fresh f).at_
    have HDCL := hid fun W (hD : DocAt W (y 1) (dv 1) (L 1)) => dclone_any (y 1) (dv 1) (L 1) W hD (by omega)
    have HMAPK := hid hMap
    have HGL : Hid (3 ≤ W1.heap.size) := hD1.room
    have HHK := hid hHas
    have HNK := hid hnk
    have co := (cell_at h1o 0).trans (show _ = some (Value.pointer (some ⟨m 0, 0, none⟩)) from rfl)
    have do_ := free_at h1o 0
    clear hMap hDoc hHas hgood hD1 hlen hnk h1o
    go_cut [] (fun wx => ∃ c3 b, TW B c3 wx ob kb (updt m 0 b) y (updt t 0 (t 1)) (updt n 0 (n 1)) dv L lv fv wv A F Wv C N ∧ Keeps (fun q => B ≤ q) w wx)
    case first => as_aux_lemma =>
      refine wp_region_keep 14 (fun _ => True) (fun w' => w'.cell? ⟨ob, 1, none⟩ = some (.pointer (some ⟨m 1, 0, none⟩)) ∧ w'.cell? ⟨ob, 0, none⟩ = some (.pointer (some ⟨m 0, 0, none⟩)) ∧ w'.frozen? ⟨ob, 0, none⟩ = false) (fun j => !(j == 13)) (by kernel_rfl) (by kernel_rfl) ?_
      (try (change wpKeep _ _ _ _ _ _ _ _ _ _ (World.drew _)))
      refine wpKeep_takeT (i := 0) (oi := ⟨some 276, _, _, _, _, _⟩) (v := ?_) rfl (by kernel_rfl) (by kernel_rfl) (by kernel_rfl) (by kernel_rfl) (fun _ _ _ h => h) (Or.inl ⟨by rfl, ?_⟩) trivial (fun _ => ⟨cm, co, do_⟩) ?_
      rotate_left
      · intro w' hT
        go_simp
        (try rw [if_pos (by omega)])
        (try with_reducible rfl)
      rotate_left
      (try simp only [Act.put, List.setIfInBounds_toArray, List.set_cons_zero, List.set_cons_succ])
      refine wpKeep_takeT (i := 1) (oi := ⟨some 277, _, _, _, _, _⟩) (v := ?_) rfl (by kernel_rfl) (by kernel_rfl) (by kernel_rfl) (by kernel_rfl) (fun _ _ _ h => h) (Or.inl ⟨by rfl, ?_⟩) trivial (fun _ => ⟨cm, co, do_⟩) ?_
      rotate_left
      · intro w' hT
        go_simp
        (try rw [if_pos (by omega)])
        (try with_reducible rfl)
      rotate_left
      (try simp only [Act.put, List.setIfInBounds_toArray, List.set_cons_zero, List.set_cons_succ])
      refine wpKeep_takeT (i := 2) (oi := ⟨some 278, _, _, _, _, _⟩) (v := ?_) rfl (by kernel_rfl) (by kernel_rfl) (by kernel_rfl) (by kernel_rfl) (fun _ _ _ h => h) (Or.inl ⟨by rfl, ?_⟩) trivial (fun _ => ⟨cm, co, do_⟩) ?_
      rotate_left
      · intro w' hT
        go_simp
        (try rw [if_pos (by omega)])
        (try with_reducible rfl)
      rotate_left
      (try simp only [Act.put, List.setIfInBounds_toArray, List.set_cons_zero, List.set_cons_succ])
      refine wpKeep_takeT (i := 3) (oi := ⟨some 279, _, _, _, _, _⟩) (v := ?_) rfl (by kernel_rfl) (by kernel_rfl) (by kernel_rfl) (by kernel_rfl) (fun _ _ _ h => h) (Or.inl ⟨by rfl, ?_⟩) trivial (fun _ => ⟨cm, co, do_⟩) ?_
      rotate_left
      · intro w' hT
        go_simp
        (try rw [if_pos (by omega)])
        (try with_reducible rfl)
      rotate_left
      (try simp only [Act.put, List.setIfInBounds_toArray, List.set_cons_zero, List.set_cons_succ])
      refine wpKeep_takeT (i := 4) (oi := ⟨some 280, _, _, _, _, _⟩) (v := ?_) rfl (by kernel_rfl) (by kernel_rfl) (by kernel_rfl) (by kernel_rfl) (fun _ _ _ h => h) (Or.inl ⟨by rfl, ?_⟩) trivial (fun _ => ⟨cm, co, do_⟩) ?_
      rotate_left
      · intro w' hT
        go_simp
        (try rw [if_pos (by omega)])
        (try with_reducible rfl)
      rotate_left
      (try simp only [Act.put, List.setIfInBounds_toArray, List.set_cons_zero, List.set_cons_succ])
      refine wpKeep_takeT (i := 5) (oi := ⟨some 281, _, _, _, _, _⟩) (v := ?_) rfl (by kernel_rfl) (by kernel_rfl) (by kernel_rfl) (by kernel_rfl) (fun _ _ _ h => h) (Or.inl ⟨by rfl, ?_⟩) trivial (fun _ => ⟨cm, co, do_⟩) ?_
      rotate_left
      · intro w' hT
        go_simp
        (try rw [if_pos (by omega)])
        (try with_reducible rfl)
      rotate_left
      (try simp only [Act.put, List.setIfInBounds_toArray, List.set_cons_zero, List.set_cons_succ])
      refine wpKeep_takeT (i := 6) (oi := ⟨some 282, _, _, _, _, _⟩) (v := ?_) rfl (by kernel_rfl) (by kernel_rfl) (by kernel_rfl) (by kernel_rfl) (fun _ _ _ h => h) (Or.inl ⟨by rfl, ?_⟩) trivial (fun _ => ⟨cm, co, do_⟩) ?_
      rotate_left
      · intro w' hT
        go_simp
        (try rw [if_pos (by omega)])
        (try with_reducible rfl)
      rotate_left
      (try simp only [Act.put, List.setIfInBounds_toArray, List.set_cons_zero, List.set_cons_succ])
      refine wpKeep_takeT (i := 7) (oi := ⟨some 283, _, _, _, _, _⟩) (v := ?_) rfl (by kernel_rfl) (by kernel_rfl) (by kernel_rfl) (by kernel_rfl) (fun _ _ _ h => h) (Or.inl ⟨by rfl, ?_⟩) trivial (fun _ => ⟨cm, co, do_⟩) ?_
      rotate_left
      · intro w' hT
        go_simp
        (try rw [if_pos (by omega)])
        (try with_reducible rfl)
      rotate_left
      (try simp only [Act.put, List.setIfInBounds_toArray, List.set_cons_zero, List.set_cons_succ])
      refine wpKeep_take (i := 8) (oi := ⟨some 284, _, _, _, _, _⟩) (v := ?_) rfl (by kernel_rfl) (by kernel_rfl) (by kernel_rfl) (by kernel_rfl) (fun _ _ _ h => h) (Or.inl ⟨by rfl, ?_⟩) ⟨trivial, ⟨cm, co, do_⟩⟩ ?_
      rotate_left
      · intro w' hT
        have hS0 := hT.2
        replace hT := hT.1
        obtain ⟨t1, t2, t3⟩ := hS0
        go_simp
        (try rw [if_pos (by omega)])
        (try with_reducible rfl)
      rotate_left
      (try simp only [Act.put, List.setIfInBounds_toArray, List.set_cons_zero, List.set_cons_succ])
      refine wpKeep_takeT (i := 10) (oi := ⟨some 286, _, _, _, _, _⟩) (v := ?_) rfl (by kernel_rfl) (by kernel_rfl) (by kernel_rfl) (by kernel_rfl) (fun _ _ _ h => h) (Or.inl ⟨by rfl, ?_⟩) trivial (fun _ => ⟨cm, co, do_⟩) ?_
      rotate_left
      · intro w' hT
        go_simp
        (try rw [if_pos (by omega)])
        (try with_reducible rfl)
      rotate_left
      (try simp only [Act.put, List.setIfInBounds_toArray, List.set_cons_zero, List.set_cons_succ])
      refine wpKeep_takeT (i := 11) (oi := ⟨some 287, _, _, _, _, _⟩) (v := ?_) rfl (by kernel_rfl) (by kernel_rfl) (by kernel_rfl) (by kernel_rfl) (fun _ _ _ h => h) (Or.inl ⟨by rfl, ?_⟩) trivial (fun _ => ⟨cm, co, do_⟩) ?_
      rotate_left
      · intro w' hT
        go_simp
        (try rw [if_pos (by omega)])
        (try with_reducible rfl)
      rotate_left
      (try simp only [Act.put, List.setIfInBounds_toArray, List.set_cons_zero, List.set_cons_succ])
      refine wpKeep_ready (rs := [9]) (by kernel_rfl) (by simp) ?_
      refine AllKeep.cons (o := ⟨some 285, _, _, _, _, _⟩) rfl (fun Kq hK => ?_) AllKeep.nil
      go_simp
      go_at_call 29
      refine (HCL.out _ (Keeps.refl (fun _ => False) W1).drew).mono ?_
      rintro e w3 ⟨rfl, f3, hm3⟩
      have cm3 := (f3.cell (p := ⟨ob, 1, none⟩) hob1 (fun h => h)).trans cm
      have co3 := (f3.cell (p := ⟨ob, 0, none⟩) hob1 (fun h => h)).trans co
      have do3 := (f3.frozen (p := ⟨ob, 0, none⟩) hob1 (fun h => h)).trans do_
      refine hK.out _ _ trivial (fun _ => ⟨cm3, co3, do3⟩) ?_
      clear hK Kq
      (try simp only [Act.put, List.setIfInBounds_toArray, List.set_cons_zero, List.set_cons_succ])
      refine wpKeep_takeT (i := 12) (oi := ⟨some 288, _, _, _, _, _⟩) (v := ?_) rfl (by kernel_rfl) (by kernel_rfl) (by kernel_rfl) (by kernel_rfl) (fun _ _ _ h => h) (Or.inl ⟨by rfl, ?_⟩) trivial (fun _ => ⟨cm3, co3, do3⟩) ?_
      rotate_left
      · intro w' hT
        go_simp
        (try rw [if_pos (by omega)])
        (try with_reducible rfl)
      rotate_left
      (try simp only [Act.put, List.setIfInBounds_toArray, List.set_cons_zero, List.set_cons_succ])
      refine wpKeep_ready (rs := [13]) (by kernel_rfl) (by simp) ?_
      refine AllKeep.cons (o := ⟨none, _, _, _, _, _⟩) rfl (fun Kq hK => ?_) AllKeep.nil
      go_simp
      refine hK.out _ _ trivial (not_early (by kernel_rfl)) ?_
      clear hK Kq
      (try simp only [Act.put, List.setIfInBounds_toArray, List.set_cons_zero, List.set_cons_succ])
      refine wpKeep_done (by kernel_rfl) ?_ _
      have f1 : Fresh W1 w3 := (Keeps.refl (fun _ => False) W1).drew.trans f3
      obtain ⟨c3, T3⟩ := H1.out.putMap (show 0 < 2 by omega) f1 (Nat.le_refl _) ⟨hm3, HMAPK.out.good, HMAPK.out.count⟩ HGL.out
      have hk3 : Keeps (fun q => B ≤ q) w (w3.setCell ⟨ob, 0, none⟩ (.pointer (some ⟨W1.heap.size, 0, none⟩))) := (HB1.out.trans (f1.mono fun _ _ h => h.elim)).setCell (p := ⟨ob, 0, none⟩) (fun _ => HBO.out) _
      have HT3 := hid T3
      have HK3 := hid hk3
      clear T3 hk3 f1 hm3 f3 cm cy co do_ co3 do3 cm3
      go_wp2
      go_meet
      exact ⟨c3, _, HT3.out, HK3.out⟩
    case rest => as_aux_lemma =>
    obtain ⟨c3, b, T3, k3⟩ := hcut
    have cy3 := (cell_at T3.box 3).trans (show _ = some (Value.pointer (some ⟨y 1, 0, none⟩)) from rfl)
    have co3 := (cell_at T3.box 2).trans (show _ = some (Value.pointer (some ⟨y 0, 0, none⟩)) from rfl)
    have do3 := free_at T3.box 2
    have hob3 := lt_of_block T3.box
    have HT3 := hid T3
    have HK3 := hid k3
    have hDoc3 := (T3.doc 1 (by omega)).fresh (Keeps.refl (fun _ => False) wc).drew
    have HDC := hid (HDCL.out wc.drew hDoc3)
    clear cm cy co do_ T3 k3 hDoc3
    go_wp2_with fail
    go_cut [] (fun wx => ∃ c4 y4 t4 n4 dv4 L4 b', TW B c4 wx ob kb (updt m 0 b) y4 t4 n4 dv4 L4 lv fv wv A F Wv C N ∧ Keeps (fun q => B ≤ q) w wx ∧ b' = b ∧ (∀ k, k < 2 → Has (t4 k) (L4 k)) ∧ ∀ k, k < 2 → n4 k ≤ M + 1)
    case first => as_aux_lemma =>
      refine wp_region_keep 14 (fun _ => True) (fun w' => w'.cell? ⟨ob, 3, none⟩ = some (.pointer (some ⟨y 1, 0, none⟩)) ∧ w'.cell? ⟨ob, 2, none⟩ = some (.pointer (some ⟨y 0, 0, none⟩)) ∧ w'.frozen? ⟨ob, 2, none⟩ = false) (fun j => !(j == 13)) (by kernel_rfl) (by kernel_rfl) ?_
      (try (change wpKeep _ _ _ _ _ _ _ _ _ _ (World.drew _)))
      refine wpKeep_takeT (i := 0) (oi := ⟨some 289, _, _, _, _, _⟩) (v := ?_) rfl (by kernel_rfl) (by kernel_rfl) (by kernel_rfl) (by kernel_rfl) (fun _ _ _ h => h) (Or.inl ⟨by rfl, ?_⟩) trivial (fun _ => ⟨cy3, co3, do3⟩) ?_
      rotate_left
      · intro w' hT
        go_simp
        (try rw [if_pos (by omega)])
        (try with_reducible rfl)
      rotate_left
      (try simp only [Act.put, List.setIfInBounds_toArray, List.set_cons_zero, List.set_cons_succ])
      refine wpKeep_takeT (i := 1) (oi := ⟨some 290, _, _, _, _, _⟩) (v := ?_) rfl (by kernel_rfl) (by kernel_rfl) (by kernel_rfl) (by kernel_rfl) (fun _ _ _ h => h) (Or.inl ⟨by rfl, ?_⟩) trivial (fun _ => ⟨cy3, co3, do3⟩) ?_
      rotate_left
      · intro w' hT
        go_simp
        (try rw [if_pos (by omega)])
        (try with_reducible rfl)
      rotate_left
      (try simp only [Act.put, List.setIfInBounds_toArray, List.set_cons_zero, List.set_cons_succ])
      refine wpKeep_takeT (i := 2) (oi := ⟨some 291, _, _, _, _, _⟩) (v := ?_) rfl (by kernel_rfl) (by kernel_rfl) (by kernel_rfl) (by kernel_rfl) (fun _ _ _ h => h) (Or.inl ⟨by rfl, ?_⟩) trivial (fun _ => ⟨cy3, co3, do3⟩) ?_
      rotate_left
      · intro w' hT
        go_simp
        (try rw [if_pos (by omega)])
        (try with_reducible rfl)
      rotate_left
      (try simp only [Act.put, List.setIfInBounds_toArray, List.set_cons_zero, List.set_cons_succ])
      refine wpKeep_takeT (i := 3) (oi := ⟨some 292, _, _, _, _, _⟩) (v := ?_) rfl (by kernel_rfl) (by kernel_rfl) (by kernel_rfl) (by kernel_rfl) (fun _ _ _ h => h) (Or.inl ⟨by rfl, ?_⟩) trivial (fun _ => ⟨cy3, co3, do3⟩) ?_
      rotate_left
      · intro w' hT
        go_simp
        (try rw [if_pos (by omega)])
        (try with_reducible rfl)
      rotate_left
      (try simp only [Act.put, List.setIfInBounds_toArray, List.set_cons_zero, List.set_cons_succ])
      refine wpKeep_takeT (i := 4) (oi := ⟨some 293, _, _, _, _, _⟩) (v := ?_) rfl (by kernel_rfl) (by kernel_rfl) (by kernel_rfl) (by kernel_rfl) (fun _ _ _ h => h) (Or.inl ⟨by rfl, ?_⟩) trivial (fun _ => ⟨cy3, co3, do3⟩) ?_
      rotate_left
      · intro w' hT
        go_simp
        (try rw [if_pos (by omega)])
        (try with_reducible rfl)
      rotate_left
      (try simp only [Act.put, List.setIfInBounds_toArray, List.set_cons_zero, List.set_cons_succ])
      refine wpKeep_takeT (i := 5) (oi := ⟨some 294, _, _, _, _, _⟩) (v := ?_) rfl (by kernel_rfl) (by kernel_rfl) (by kernel_rfl) (by kernel_rfl) (fun _ _ _ h => h) (Or.inl ⟨by rfl, ?_⟩) trivial (fun _ => ⟨cy3, co3, do3⟩) ?_
      rotate_left
      · intro w' hT
        go_simp
        (try rw [if_pos (by omega)])
        (try with_reducible rfl)
      rotate_left
      (try simp only [Act.put, List.setIfInBounds_toArray, List.set_cons_zero, List.set_cons_succ])
      refine wpKeep_takeT (i := 6) (oi := ⟨some 295, _, _, _, _, _⟩) (v := ?_) rfl (by kernel_rfl) (by kernel_rfl) (by kernel_rfl) (by kernel_rfl) (fun _ _ _ h => h) (Or.inl ⟨by rfl, ?_⟩) trivial (fun _ => ⟨cy3, co3, do3⟩) ?_
      rotate_left
      · intro w' hT
        go_simp
        (try rw [if_pos (by omega)])
        (try with_reducible rfl)
      rotate_left
      (try simp only [Act.put, List.setIfInBounds_toArray, List.set_cons_zero, List.set_cons_succ])
      refine wpKeep_takeT (i := 7) (oi := ⟨some 296, _, _, _, _, _⟩) (v := ?_) rfl (by kernel_rfl) (by kernel_rfl) (by kernel_rfl) (by kernel_rfl) (fun _ _ _ h => h) (Or.inl ⟨by rfl, ?_⟩) trivial (fun _ => ⟨cy3, co3, do3⟩) ?_
      rotate_left
      · intro w' hT
        go_simp
        (try rw [if_pos (by omega)])
        (try with_reducible rfl)
      rotate_left
      (try simp only [Act.put, List.setIfInBounds_toArray, List.set_cons_zero, List.set_cons_succ])
      refine wpKeep_take (i := 8) (oi := ⟨some 297, _, _, _, _, _⟩) (v := ?_) rfl (by kernel_rfl) (by kernel_rfl) (by kernel_rfl) (by kernel_rfl) (fun _ _ _ h => h) (Or.inl ⟨by rfl, ?_⟩) ⟨trivial, ⟨cy3, co3, do3⟩⟩ ?_
      rotate_left
      · intro w' hT
        have hS0 := hT.2
        replace hT := hT.1
        obtain ⟨t1, t2, t3⟩ := hS0
        go_simp
        (try rw [if_pos (by omega)])
        (try with_reducible rfl)
      rotate_left
      (try simp only [Act.put, List.setIfInBounds_toArray, List.set_cons_zero, List.set_cons_succ])
      refine wpKeep_takeT (i := 10) (oi := ⟨some 299, _, _, _, _, _⟩) (v := ?_) rfl (by kernel_rfl) (by kernel_rfl) (by kernel_rfl) (by kernel_rfl) (fun _ _ _ h => h) (Or.inl ⟨by rfl, ?_⟩) trivial (fun _ => ⟨cy3, co3, do3⟩) ?_
      rotate_left
      · intro w' hT
        go_simp
        (try rw [if_pos (by omega)])
        (try with_reducible rfl)
      rotate_left
      (try simp only [Act.put, List.setIfInBounds_toArray, List.set_cons_zero, List.set_cons_succ])
      refine wpKeep_takeT (i := 11) (oi := ⟨some 300, _, _, _, _, _⟩) (v := ?_) rfl (by kernel_rfl) (by kernel_rfl) (by kernel_rfl) (by kernel_rfl) (fun _ _ _ h => h) (Or.inl ⟨by rfl, ?_⟩) trivial (fun _ => ⟨cy3, co3, do3⟩) ?_
      rotate_left
      · intro w' hT
        go_simp
        (try rw [if_pos (by omega)])
        (try with_reducible rfl)
      rotate_left
      (try simp only [Act.put, List.setIfInBounds_toArray, List.set_cons_zero, List.set_cons_succ])
      refine wpKeep_ready (rs := [9]) (by kernel_rfl) (by simp) ?_
      refine AllKeep.cons (o := ⟨some 298, _, _, _, _, _⟩) rfl (fun Kq hK => ?_) AllKeep.nil
      go_simp
      go_at_call 30
      refine (HDC.out).mono ?_
      rintro e w4 ⟨y4, dv4, rfl, f4, hd4, hy4, hdn4⟩
      have cy4 := (f4.cell (p := ⟨ob, 3, none⟩) hob3 (fun h => h)).trans cy3
      have co4 := (f4.cell (p := ⟨ob, 2, none⟩) hob3 (fun h => h)).trans co3
      have do4 := (f4.frozen (p := ⟨ob, 2, none⟩) hob3 (fun h => h)).trans do3
      refine hK.out _ _ trivial (fun _ => ⟨cy4, co4, do4⟩) ?_
      clear hK Kq
      (try simp only [Act.put, List.setIfInBounds_toArray, List.set_cons_zero, List.set_cons_succ])
      refine wpKeep_takeT (i := 12) (oi := ⟨some 301, _, _, _, _, _⟩) (v := ?_) rfl (by kernel_rfl) (by kernel_rfl) (by kernel_rfl) (by kernel_rfl) (fun _ _ _ h => h) (Or.inl ⟨by rfl, ?_⟩) trivial (fun _ => ⟨cy4, co4, do4⟩) ?_
      rotate_left
      · intro w' hT
        go_simp
        (try rw [if_pos (by omega)])
        (try with_reducible rfl)
      rotate_left
      (try simp only [Act.put, List.setIfInBounds_toArray, List.set_cons_zero, List.set_cons_succ])
      refine wpKeep_ready (rs := [13]) (by kernel_rfl) (by simp) ?_
      refine AllKeep.cons (o := ⟨none, _, _, _, _, _⟩) rfl (fun Kq hK => ?_) AllKeep.nil
      go_simp
      refine hK.out _ _ trivial (not_early (by kernel_rfl)) ?_
      clear hK Kq
      (try simp only [Act.put, List.setIfInBounds_toArray, List.set_cons_zero, List.set_cons_succ])
      refine wpKeep_done (by kernel_rfl) ?_ _
      have f1 : Fresh wc w4 := (Keeps.refl (fun _ => False) wc).drew.trans f4
      obtain ⟨c4, T4⟩ := HT3.out.putDoc (show 0 < 2 by omega) f1 hy4 hd4 hdn4
      have hk4 : Keeps (fun q => B ≤ q) w (w4.setCell ⟨ob, 2, none⟩ (.pointer (some ⟨y4, 0, none⟩))) := (HK3.out.trans (f1.mono fun _ _ h => h.elim)).setCell (p := ⟨ob, 2, none⟩) (fun _ => HBO.out) _
      have HT4 := hid T4
      have HK4 := hid hk4
      have hhas : ∀ k, k < 2 → Has (updt t 0 (t 1) k) (updt L 0 (L 1) k) := fun k hk => by
        by_cases e : k = 0
        · subst e
          rw [updt_at, updt_at]; exact HHK.out
        · rw [updt_ne _ _ e, updt_ne _ _ e]; exact HH.out k hk
      have hnn : ∀ k, k < 2 → updt n 0 (n 1) k ≤ M + 1 := fun k hk => by
        by_cases e : k = 0
        · subst e
          rw [updt_at]; have := HNK.out; omega
        · rw [updt_ne _ _ e]; have := HN.out k hk; omega
      have HHS := hid (And.intro hhas hnn)
      clear T4 hk4 f1 hd4 hdn4 hy4 f4 cy3 co3 do3 co4 do4 cy4 hhas hnn
      go_wp2
      go_meet
      exact ⟨c4, _, _, _, _, _, b, HT4.out, HK4.out, rfl, HHS.out.1, HHS.out.2⟩
    case rest => as_aux_lemma =>
    obtain ⟨c4, y4, t4, n4, dv4, L4, b', T4, k4, -, hh4, hn4⟩ := hcut
    have cz := (cell_at T4.box 0).trans (show _ = some (Value.pointer (some ⟨b, 0, none⟩)) from rfl)
    have HT4 := hid T4
    have HK4 := hid k4
    have HHS := hid (And.intro hh4 hn4)
    clear cy3 co3 do3 T4 k4 hh4 hn4
    go_wp2_with fail
    go_ret
    exact ⟨by first | rfl | simp, After.of (HT4.out.most (by omega)) HHS.out.1 HHS.out.2, HK4.out⟩
  | false =>
    go_enter Tryz.func7, Tryz.ntmps7
    go_wp2_with fail
    obtain ⟨W1, hW1⟩ : ∃ W1, (w.setCell ⟨ob, 7, none⟩ (.bool kb)).alloc (opObj false kb (7) key val) = W1 := ⟨_, rfl⟩
    obtain ⟨h1, hop, k1, hBob⟩ := H.out.open_ false kb (7) key val hW1
    unfold opObj at hW1 hop
    rw [hW1]
    have hB1 : Keeps (fun q => B ≤ q) w W1 := k1.mono (fun q _ e => by rw [e]; exact hBob)
    obtain ⟨xb, hxb⟩ : ∃ xb, w.heap.size = xb := ⟨_, rfl⟩
    rw [hxb] at hop ⊢
    have x3 := (cell_at hop 3).trans (show _ = some (Value.string (str key)) from rfl)
    have x4 := (cell_at hop 4).trans (show _ = some (Value.string (str val)) from rfl)
    have cm := (cell_at h1.box 0).trans (show _ = some (Value.pointer (some ⟨m 0, 0, none⟩)) from rfl)
    have cy := (cell_at h1.box 2).trans (show _ = some (Value.pointer (some ⟨y 0, 0, none⟩)) from rfl)
    have hob1 := lt_of_block h1.box
    have hxb1 := lt_of_block hop
    have hD1 := HD.out W1 hB1
    have hMap := h1.map 0 (by omega)
    have hDoc := h1.doc 0 (by omega)
    have hHas := HH.out 0 (by omega)
    have hnk := HN.out 0 (by omega)
    have hgood := hMap.good
    have hlen : (L 0).length = n 0 := (hHas.len hgood).trans hMap.count
    have hxm : ¬ xb = m 0 := fun e => by have := (H.out.map 0 (by omega)).lt; omega
    have H1 := hid h1
    have HB1 := hid hB1
    have HOP := hid hop
    have h1o := h1.box
    have hwr0 : IntKind.i64.wrap 0 = 0 := by first | rfl | decide
    have hwr1 : IntKind.i64.wrap 1 = 1 := by first | rfl | decide
    have HBO := hid hBob
    clear x3 x4 HOP hxb1 hxm h1 hB1 hop k1 hBob hW1 hxb c7 d7
    have HCL := hid fun W (f : Fresh W1 W) => clone_any (m 0) (t 0) (n 0) W (hMap.fresh f).at_
    have HDCL := hid fun W (hD : DocAt W (y 0) (dv 0) (L 0)) => dclone_any (y 0) (dv 0) (L 0) W hD (by omega)
    have HMAPK := hid hMap
    have HGL : Hid (3 ≤ W1.heap.size) := hD1.room
    have HHK := hid hHas
    have HNK := hid hnk
    have co := (cell_at h1o 1).trans (show _ = some (Value.pointer (some ⟨m 1, 0, none⟩)) from rfl)
    have do_ := free_at h1o 1
    clear hMap hDoc hHas hgood hD1 hlen hnk h1o
    go_cut [] (fun wx => ∃ c3 b, TW B c3 wx ob kb (updt m 1 b) y (updt t 1 (t 0)) (updt n 1 (n 0)) dv L lv fv wv A F Wv C N ∧ Keeps (fun q => B ≤ q) w wx)
    case first => as_aux_lemma =>
      refine wp_region_keep 14 (fun _ => True) (fun w' => w'.cell? ⟨ob, 0, none⟩ = some (.pointer (some ⟨m 0, 0, none⟩)) ∧ w'.cell? ⟨ob, 1, none⟩ = some (.pointer (some ⟨m 1, 0, none⟩)) ∧ w'.frozen? ⟨ob, 1, none⟩ = false) (fun j => !(j == 13)) (by kernel_rfl) (by kernel_rfl) ?_
      (try (change wpKeep _ _ _ _ _ _ _ _ _ _ (World.drew _)))
      refine wpKeep_takeT (i := 0) (oi := ⟨some 276, _, _, _, _, _⟩) (v := ?_) rfl (by kernel_rfl) (by kernel_rfl) (by kernel_rfl) (by kernel_rfl) (fun _ _ _ h => h) (Or.inl ⟨by rfl, ?_⟩) trivial (fun _ => ⟨cm, co, do_⟩) ?_
      rotate_left
      · intro w' hT
        go_simp
        (try rw [if_pos (by omega)])
        (try with_reducible rfl)
      rotate_left
      (try simp only [Act.put, List.setIfInBounds_toArray, List.set_cons_zero, List.set_cons_succ])
      refine wpKeep_takeT (i := 1) (oi := ⟨some 277, _, _, _, _, _⟩) (v := ?_) rfl (by kernel_rfl) (by kernel_rfl) (by kernel_rfl) (by kernel_rfl) (fun _ _ _ h => h) (Or.inl ⟨by rfl, ?_⟩) trivial (fun _ => ⟨cm, co, do_⟩) ?_
      rotate_left
      · intro w' hT
        go_simp
        (try rw [if_pos (by omega)])
        (try with_reducible rfl)
      rotate_left
      (try simp only [Act.put, List.setIfInBounds_toArray, List.set_cons_zero, List.set_cons_succ])
      refine wpKeep_takeT (i := 2) (oi := ⟨some 278, _, _, _, _, _⟩) (v := ?_) rfl (by kernel_rfl) (by kernel_rfl) (by kernel_rfl) (by kernel_rfl) (fun _ _ _ h => h) (Or.inl ⟨by rfl, ?_⟩) trivial (fun _ => ⟨cm, co, do_⟩) ?_
      rotate_left
      · intro w' hT
        go_simp
        (try rw [if_pos (by omega)])
        (try with_reducible rfl)
      rotate_left
      (try simp only [Act.put, List.setIfInBounds_toArray, List.set_cons_zero, List.set_cons_succ])
      refine wpKeep_takeT (i := 3) (oi := ⟨some 279, _, _, _, _, _⟩) (v := ?_) rfl (by kernel_rfl) (by kernel_rfl) (by kernel_rfl) (by kernel_rfl) (fun _ _ _ h => h) (Or.inl ⟨by rfl, ?_⟩) trivial (fun _ => ⟨cm, co, do_⟩) ?_
      rotate_left
      · intro w' hT
        go_simp
        (try rw [if_pos (by omega)])
        (try with_reducible rfl)
      rotate_left
      (try simp only [Act.put, List.setIfInBounds_toArray, List.set_cons_zero, List.set_cons_succ])
      refine wpKeep_takeT (i := 4) (oi := ⟨some 280, _, _, _, _, _⟩) (v := ?_) rfl (by kernel_rfl) (by kernel_rfl) (by kernel_rfl) (by kernel_rfl) (fun _ _ _ h => h) (Or.inl ⟨by rfl, ?_⟩) trivial (fun _ => ⟨cm, co, do_⟩) ?_
      rotate_left
      · intro w' hT
        go_simp
        (try rw [if_pos (by omega)])
        (try with_reducible rfl)
      rotate_left
      (try simp only [Act.put, List.setIfInBounds_toArray, List.set_cons_zero, List.set_cons_succ])
      refine wpKeep_takeT (i := 5) (oi := ⟨some 281, _, _, _, _, _⟩) (v := ?_) rfl (by kernel_rfl) (by kernel_rfl) (by kernel_rfl) (by kernel_rfl) (fun _ _ _ h => h) (Or.inl ⟨by rfl, ?_⟩) trivial (fun _ => ⟨cm, co, do_⟩) ?_
      rotate_left
      · intro w' hT
        go_simp
        (try rw [if_pos (by omega)])
        (try with_reducible rfl)
      rotate_left
      (try simp only [Act.put, List.setIfInBounds_toArray, List.set_cons_zero, List.set_cons_succ])
      refine wpKeep_takeT (i := 6) (oi := ⟨some 282, _, _, _, _, _⟩) (v := ?_) rfl (by kernel_rfl) (by kernel_rfl) (by kernel_rfl) (by kernel_rfl) (fun _ _ _ h => h) (Or.inl ⟨by rfl, ?_⟩) trivial (fun _ => ⟨cm, co, do_⟩) ?_
      rotate_left
      · intro w' hT
        go_simp
        (try rw [if_pos (by omega)])
        (try with_reducible rfl)
      rotate_left
      (try simp only [Act.put, List.setIfInBounds_toArray, List.set_cons_zero, List.set_cons_succ])
      refine wpKeep_takeT (i := 7) (oi := ⟨some 283, _, _, _, _, _⟩) (v := ?_) rfl (by kernel_rfl) (by kernel_rfl) (by kernel_rfl) (by kernel_rfl) (fun _ _ _ h => h) (Or.inl ⟨by rfl, ?_⟩) trivial (fun _ => ⟨cm, co, do_⟩) ?_
      rotate_left
      · intro w' hT
        go_simp
        (try rw [if_pos (by omega)])
        (try with_reducible rfl)
      rotate_left
      (try simp only [Act.put, List.setIfInBounds_toArray, List.set_cons_zero, List.set_cons_succ])
      refine wpKeep_take (i := 8) (oi := ⟨some 284, _, _, _, _, _⟩) (v := ?_) rfl (by kernel_rfl) (by kernel_rfl) (by kernel_rfl) (by kernel_rfl) (fun _ _ _ h => h) (Or.inl ⟨by rfl, ?_⟩) ⟨trivial, ⟨cm, co, do_⟩⟩ ?_
      rotate_left
      · intro w' hT
        have hS0 := hT.2
        replace hT := hT.1
        obtain ⟨t1, t2, t3⟩ := hS0
        go_simp
        (try rw [if_pos (by omega)])
        (try with_reducible rfl)
      rotate_left
      (try simp only [Act.put, List.setIfInBounds_toArray, List.set_cons_zero, List.set_cons_succ])
      refine wpKeep_takeT (i := 10) (oi := ⟨some 286, _, _, _, _, _⟩) (v := ?_) rfl (by kernel_rfl) (by kernel_rfl) (by kernel_rfl) (by kernel_rfl) (fun _ _ _ h => h) (Or.inl ⟨by rfl, ?_⟩) trivial (fun _ => ⟨cm, co, do_⟩) ?_
      rotate_left
      · intro w' hT
        go_simp
        (try rw [if_pos (by omega)])
        (try with_reducible rfl)
      rotate_left
      (try simp only [Act.put, List.setIfInBounds_toArray, List.set_cons_zero, List.set_cons_succ])
      refine wpKeep_takeT (i := 11) (oi := ⟨some 287, _, _, _, _, _⟩) (v := ?_) rfl (by kernel_rfl) (by kernel_rfl) (by kernel_rfl) (by kernel_rfl) (fun _ _ _ h => h) (Or.inl ⟨by rfl, ?_⟩) trivial (fun _ => ⟨cm, co, do_⟩) ?_
      rotate_left
      · intro w' hT
        go_simp
        (try rw [if_pos (by omega)])
        (try with_reducible rfl)
      rotate_left
      (try simp only [Act.put, List.setIfInBounds_toArray, List.set_cons_zero, List.set_cons_succ])
      refine wpKeep_ready (rs := [9]) (by kernel_rfl) (by simp) ?_
      refine AllKeep.cons (o := ⟨some 285, _, _, _, _, _⟩) rfl (fun Kq hK => ?_) AllKeep.nil
      go_simp
      go_at_call 29
      refine (HCL.out _ (Keeps.refl (fun _ => False) W1).drew).mono ?_
      rintro e w3 ⟨rfl, f3, hm3⟩
      have cm3 := (f3.cell (p := ⟨ob, 0, none⟩) hob1 (fun h => h)).trans cm
      have co3 := (f3.cell (p := ⟨ob, 1, none⟩) hob1 (fun h => h)).trans co
      have do3 := (f3.frozen (p := ⟨ob, 1, none⟩) hob1 (fun h => h)).trans do_
      refine hK.out _ _ trivial (fun _ => ⟨cm3, co3, do3⟩) ?_
      clear hK Kq
      (try simp only [Act.put, List.setIfInBounds_toArray, List.set_cons_zero, List.set_cons_succ])
      refine wpKeep_takeT (i := 12) (oi := ⟨some 288, _, _, _, _, _⟩) (v := ?_) rfl (by kernel_rfl) (by kernel_rfl) (by kernel_rfl) (by kernel_rfl) (fun _ _ _ h => h) (Or.inl ⟨by rfl, ?_⟩) trivial (fun _ => ⟨cm3, co3, do3⟩) ?_
      rotate_left
      · intro w' hT
        go_simp
        (try rw [if_pos (by omega)])
        (try with_reducible rfl)
      rotate_left
      (try simp only [Act.put, List.setIfInBounds_toArray, List.set_cons_zero, List.set_cons_succ])
      refine wpKeep_ready (rs := [13]) (by kernel_rfl) (by simp) ?_
      refine AllKeep.cons (o := ⟨none, _, _, _, _, _⟩) rfl (fun Kq hK => ?_) AllKeep.nil
      go_simp
      refine hK.out _ _ trivial (not_early (by kernel_rfl)) ?_
      clear hK Kq
      (try simp only [Act.put, List.setIfInBounds_toArray, List.set_cons_zero, List.set_cons_succ])
      refine wpKeep_done (by kernel_rfl) ?_ _
      have f1 : Fresh W1 w3 := (Keeps.refl (fun _ => False) W1).drew.trans f3
      obtain ⟨c3, T3⟩ := H1.out.putMap (show 1 < 2 by omega) f1 (Nat.le_refl _) ⟨hm3, HMAPK.out.good, HMAPK.out.count⟩ HGL.out
      have hk3 : Keeps (fun q => B ≤ q) w (w3.setCell ⟨ob, 1, none⟩ (.pointer (some ⟨W1.heap.size, 0, none⟩))) := (HB1.out.trans (f1.mono fun _ _ h => h.elim)).setCell (p := ⟨ob, 1, none⟩) (fun _ => HBO.out) _
      have HT3 := hid T3
      have HK3 := hid hk3
      clear T3 hk3 f1 hm3 f3 cm cy co do_ co3 do3 cm3
      go_wp2
      go_meet
      exact ⟨c3, _, HT3.out, HK3.out⟩
    case rest => as_aux_lemma =>
    obtain ⟨c3, b, T3, k3⟩ := hcut
    have cy3 := (cell_at T3.box 2).trans (show _ = some (Value.pointer (some ⟨y 0, 0, none⟩)) from rfl)
    have co3 := (cell_at T3.box 3).trans (show _ = some (Value.pointer (some ⟨y 1, 0, none⟩)) from rfl)
    have do3 := free_at T3.box 3
    have hob3 := lt_of_block T3.box
    have HT3 := hid T3
    have HK3 := hid k3
    have hDoc3 := (T3.doc 0 (by omega)).fresh (Keeps.refl (fun _ => False) wc).drew
    have HDC := hid (HDCL.out wc.drew hDoc3)
    clear cm cy co do_ T3 k3 hDoc3
    go_wp2_with fail
    go_cut [] (fun wx => ∃ c4 y4 t4 n4 dv4 L4 b', TW B c4 wx ob kb (updt m 1 b) y4 t4 n4 dv4 L4 lv fv wv A F Wv C N ∧ Keeps (fun q => B ≤ q) w wx ∧ b' = b ∧ (∀ k, k < 2 → Has (t4 k) (L4 k)) ∧ ∀ k, k < 2 → n4 k ≤ M + 1)
    case first => as_aux_lemma =>
      refine wp_region_keep 14 (fun _ => True) (fun w' => w'.cell? ⟨ob, 2, none⟩ = some (.pointer (some ⟨y 0, 0, none⟩)) ∧ w'.cell? ⟨ob, 3, none⟩ = some (.pointer (some ⟨y 1, 0, none⟩)) ∧ w'.frozen? ⟨ob, 3, none⟩ = false) (fun j => !(j == 13)) (by kernel_rfl) (by kernel_rfl) ?_
      (try (change wpKeep _ _ _ _ _ _ _ _ _ _ (World.drew _)))
      refine wpKeep_takeT (i := 0) (oi := ⟨some 289, _, _, _, _, _⟩) (v := ?_) rfl (by kernel_rfl) (by kernel_rfl) (by kernel_rfl) (by kernel_rfl) (fun _ _ _ h => h) (Or.inl ⟨by rfl, ?_⟩) trivial (fun _ => ⟨cy3, co3, do3⟩) ?_
      rotate_left
      · intro w' hT
        go_simp
        (try rw [if_pos (by omega)])
        (try with_reducible rfl)
      rotate_left
      (try simp only [Act.put, List.setIfInBounds_toArray, List.set_cons_zero, List.set_cons_succ])
      refine wpKeep_takeT (i := 1) (oi := ⟨some 290, _, _, _, _, _⟩) (v := ?_) rfl (by kernel_rfl) (by kernel_rfl) (by kernel_rfl) (by kernel_rfl) (fun _ _ _ h => h) (Or.inl ⟨by rfl, ?_⟩) trivial (fun _ => ⟨cy3, co3, do3⟩) ?_
      rotate_left
      · intro w' hT
        go_simp
        (try rw [if_pos (by omega)])
        (try with_reducible rfl)
      rotate_left
      (try simp only [Act.put, List.setIfInBounds_toArray, List.set_cons_zero, List.set_cons_succ])
      refine wpKeep_takeT (i := 2) (oi := ⟨some 291, _, _, _, _, _⟩) (v := ?_) rfl (by kernel_rfl) (by kernel_rfl) (by kernel_rfl) (by kernel_rfl) (fun _ _ _ h => h) (Or.inl ⟨by rfl, ?_⟩) trivial (fun _ => ⟨cy3, co3, do3⟩) ?_
      rotate_left
      · intro w' hT
        go_simp
        (try rw [if_pos (by omega)])
        (try with_reducible rfl)
      rotate_left
      (try simp only [Act.put, List.setIfInBounds_toArray, List.set_cons_zero, List.set_cons_succ])
      refine wpKeep_takeT (i := 3) (oi := ⟨some 292, _, _, _, _, _⟩) (v := ?_) rfl (by kernel_rfl) (by kernel_rfl) (by kernel_rfl) (by kernel_rfl) (fun _ _ _ h => h) (Or.inl ⟨by rfl, ?_⟩) trivial (fun _ => ⟨cy3, co3, do3⟩) ?_
      rotate_left
      · intro w' hT
        go_simp
        (try rw [if_pos (by omega)])
        (try with_reducible rfl)
      rotate_left
      (try simp only [Act.put, List.setIfInBounds_toArray, List.set_cons_zero, List.set_cons_succ])
      refine wpKeep_takeT (i := 4) (oi := ⟨some 293, _, _, _, _, _⟩) (v := ?_) rfl (by kernel_rfl) (by kernel_rfl) (by kernel_rfl) (by kernel_rfl) (fun _ _ _ h => h) (Or.inl ⟨by rfl, ?_⟩) trivial (fun _ => ⟨cy3, co3, do3⟩) ?_
      rotate_left
      · intro w' hT
        go_simp
        (try rw [if_pos (by omega)])
        (try with_reducible rfl)
      rotate_left
      (try simp only [Act.put, List.setIfInBounds_toArray, List.set_cons_zero, List.set_cons_succ])
      refine wpKeep_takeT (i := 5) (oi := ⟨some 294, _, _, _, _, _⟩) (v := ?_) rfl (by kernel_rfl) (by kernel_rfl) (by kernel_rfl) (by kernel_rfl) (fun _ _ _ h => h) (Or.inl ⟨by rfl, ?_⟩) trivial (fun _ => ⟨cy3, co3, do3⟩) ?_
      rotate_left
      · intro w' hT
        go_simp
        (try rw [if_pos (by omega)])
        (try with_reducible rfl)
      rotate_left
      (try simp only [Act.put, List.setIfInBounds_toArray, List.set_cons_zero, List.set_cons_succ])
      refine wpKeep_takeT (i := 6) (oi := ⟨some 295, _, _, _, _, _⟩) (v := ?_) rfl (by kernel_rfl) (by kernel_rfl) (by kernel_rfl) (by kernel_rfl) (fun _ _ _ h => h) (Or.inl ⟨by rfl, ?_⟩) trivial (fun _ => ⟨cy3, co3, do3⟩) ?_
      rotate_left
      · intro w' hT
        go_simp
        (try rw [if_pos (by omega)])
        (try with_reducible rfl)
      rotate_left
      (try simp only [Act.put, List.setIfInBounds_toArray, List.set_cons_zero, List.set_cons_succ])
      refine wpKeep_takeT (i := 7) (oi := ⟨some 296, _, _, _, _, _⟩) (v := ?_) rfl (by kernel_rfl) (by kernel_rfl) (by kernel_rfl) (by kernel_rfl) (fun _ _ _ h => h) (Or.inl ⟨by rfl, ?_⟩) trivial (fun _ => ⟨cy3, co3, do3⟩) ?_
      rotate_left
      · intro w' hT
        go_simp
        (try rw [if_pos (by omega)])
        (try with_reducible rfl)
      rotate_left
      (try simp only [Act.put, List.setIfInBounds_toArray, List.set_cons_zero, List.set_cons_succ])
      refine wpKeep_take (i := 8) (oi := ⟨some 297, _, _, _, _, _⟩) (v := ?_) rfl (by kernel_rfl) (by kernel_rfl) (by kernel_rfl) (by kernel_rfl) (fun _ _ _ h => h) (Or.inl ⟨by rfl, ?_⟩) ⟨trivial, ⟨cy3, co3, do3⟩⟩ ?_
      rotate_left
      · intro w' hT
        have hS0 := hT.2
        replace hT := hT.1
        obtain ⟨t1, t2, t3⟩ := hS0
        go_simp
        (try rw [if_pos (by omega)])
        (try with_reducible rfl)
      rotate_left
      (try simp only [Act.put, List.setIfInBounds_toArray, List.set_cons_zero, List.set_cons_succ])
      refine wpKeep_takeT (i := 10) (oi := ⟨some 299, _, _, _, _, _⟩) (v := ?_) rfl (by kernel_rfl) (by kernel_rfl) (by kernel_rfl) (by kernel_rfl) (fun _ _ _ h => h) (Or.inl ⟨by rfl, ?_⟩) trivial (fun _ => ⟨cy3, co3, do3⟩) ?_
      rotate_left
      · intro w' hT
        go_simp
        (try rw [if_pos (by omega)])
        (try with_reducible rfl)
      rotate_left
      (try simp only [Act.put, List.setIfInBounds_toArray, List.set_cons_zero, List.set_cons_succ])
      refine wpKeep_takeT (i := 11) (oi := ⟨some 300, _, _, _, _, _⟩) (v := ?_) rfl (by kernel_rfl) (by kernel_rfl) (by kernel_rfl) (by kernel_rfl) (fun _ _ _ h => h) (Or.inl ⟨by rfl, ?_⟩) trivial (fun _ => ⟨cy3, co3, do3⟩) ?_
      rotate_left
      · intro w' hT
        go_simp
        (try rw [if_pos (by omega)])
        (try with_reducible rfl)
      rotate_left
      (try simp only [Act.put, List.setIfInBounds_toArray, List.set_cons_zero, List.set_cons_succ])
      refine wpKeep_ready (rs := [9]) (by kernel_rfl) (by simp) ?_
      refine AllKeep.cons (o := ⟨some 298, _, _, _, _, _⟩) rfl (fun Kq hK => ?_) AllKeep.nil
      go_simp
      go_at_call 30
      refine (HDC.out).mono ?_
      rintro e w4 ⟨y4, dv4, rfl, f4, hd4, hy4, hdn4⟩
      have cy4 := (f4.cell (p := ⟨ob, 2, none⟩) hob3 (fun h => h)).trans cy3
      have co4 := (f4.cell (p := ⟨ob, 3, none⟩) hob3 (fun h => h)).trans co3
      have do4 := (f4.frozen (p := ⟨ob, 3, none⟩) hob3 (fun h => h)).trans do3
      refine hK.out _ _ trivial (fun _ => ⟨cy4, co4, do4⟩) ?_
      clear hK Kq
      (try simp only [Act.put, List.setIfInBounds_toArray, List.set_cons_zero, List.set_cons_succ])
      refine wpKeep_takeT (i := 12) (oi := ⟨some 301, _, _, _, _, _⟩) (v := ?_) rfl (by kernel_rfl) (by kernel_rfl) (by kernel_rfl) (by kernel_rfl) (fun _ _ _ h => h) (Or.inl ⟨by rfl, ?_⟩) trivial (fun _ => ⟨cy4, co4, do4⟩) ?_
      rotate_left
      · intro w' hT
        go_simp
        (try rw [if_pos (by omega)])
        (try with_reducible rfl)
      rotate_left
      (try simp only [Act.put, List.setIfInBounds_toArray, List.set_cons_zero, List.set_cons_succ])
      refine wpKeep_ready (rs := [13]) (by kernel_rfl) (by simp) ?_
      refine AllKeep.cons (o := ⟨none, _, _, _, _, _⟩) rfl (fun Kq hK => ?_) AllKeep.nil
      go_simp
      refine hK.out _ _ trivial (not_early (by kernel_rfl)) ?_
      clear hK Kq
      (try simp only [Act.put, List.setIfInBounds_toArray, List.set_cons_zero, List.set_cons_succ])
      refine wpKeep_done (by kernel_rfl) ?_ _
      have f1 : Fresh wc w4 := (Keeps.refl (fun _ => False) wc).drew.trans f4
      obtain ⟨c4, T4⟩ := HT3.out.putDoc (show 1 < 2 by omega) f1 hy4 hd4 hdn4
      have hk4 : Keeps (fun q => B ≤ q) w (w4.setCell ⟨ob, 3, none⟩ (.pointer (some ⟨y4, 0, none⟩))) := (HK3.out.trans (f1.mono fun _ _ h => h.elim)).setCell (p := ⟨ob, 3, none⟩) (fun _ => HBO.out) _
      have HT4 := hid T4
      have HK4 := hid hk4
      have hhas : ∀ k, k < 2 → Has (updt t 1 (t 0) k) (updt L 1 (L 0) k) := fun k hk => by
        by_cases e : k = 1
        · subst e
          rw [updt_at, updt_at]; exact HHK.out
        · rw [updt_ne _ _ e, updt_ne _ _ e]; exact HH.out k hk
      have hnn : ∀ k, k < 2 → updt n 1 (n 0) k ≤ M + 1 := fun k hk => by
        by_cases e : k = 1
        · subst e
          rw [updt_at]; have := HNK.out; omega
        · rw [updt_ne _ _ e]; have := HN.out k hk; omega
      have HHS := hid (And.intro hhas hnn)
      clear T4 hk4 f1 hd4 hdn4 hy4 f4 cy3 co3 do3 co4 do4 cy4 hhas hnn
      go_wp2
      go_meet
      exact ⟨c4, _, _, _, _, _, b, HT4.out, HK4.out, rfl, HHS.out.1, HHS.out.2⟩
    case rest => as_aux_lemma =>
    obtain ⟨c4, y4, t4, n4, dv4, L4, b', T4, k4, -, hh4, hn4⟩ := hcut
    have cz := (cell_at T4.box 1).trans (show _ = some (Value.pointer (some ⟨b, 0, none⟩)) from rfl)
    have HT4 := hid T4
    have HK4 := hid k4
    have HHS := hid (And.intro hh4 hn4)
    clear cy3 co3 do3 T4 k4 hh4 hn4
    go_wp2_with fail
    go_ret
    exact ⟨by first | rfl | simp, After.of (HT4.out.most (by omega)) HHS.out.1 HHS.out.2, HK4.out⟩

set_option maxRecDepth 100000 in
set_option maxHeartbeats 8000000 in
theorem play_other (B ob N M : Nat) (c : Nat → Nat) (w : World) (kp : Bool) (m y n : Nat → Nat) (t : Nat → Tr) (dv : Nat → Value) (L : Nat → List Ent) (lv fv wv : Value) (A F Wv : List Value) (C : List Texts) (h : TW B c w ob kp m y t n dv L lv fv wv A F Wv C N) (hh : ∀ k, k < 2 → Has (t k) (L k)) (hn : ∀ k, k < 2 → n k ≤ M) (hM : M ≤ 900) (hN : N ≤ 900) (hd : Dig w) (hgB : 3 ≤ B)
    (oo kb : Bool) (key val : List UInt8) (hkey : key.length ≤ 9223372036854775807) (hval : val.length ≤ 9223372036854775807) (ok : Int) (o1 : ¬ ok = 1) (o2 : ¬ ok = 2) (o3 : ¬ ok = 3) (o4 : ¬ ok = 4) (o5 : ¬ ok = 5) (o6 : ¬ ok = 6) (o7 : ¬ ok = 7) :
    Calls Tryz.prog 7 #[.pointer (some ⟨ob, 0, none⟩), .agg #[.bool oo, .bool kb, .int .i64 ok, .string (str key), .string (str val)]] w fun e w' => e = .returned (.bool true) ∧ After B w' ob (N + 2) (M + 1) ∧ Keeps (fun q => B ≤ q) w w' := by
  have H := hid h
  have HH := hid hh
  have HN := hid hn
  have HD := hid fun W (k : Keeps (fun q => B ≤ q) w W) => hd.keepsOut (k.mono fun q _ e => .inr e) hgB hgB
  have hu := And.intro hM (And.intro hN (And.intro hkey hval))
  clear hu
  have hbl := lt_of_block h.box
  have c7 := ((Keeps.refl (fun _ => False) w).alloc (opObj oo kb (ok) key val)).at_ h.box (fun h => h)
  have d7 := free_at c7 7
  replace c7 := (cell_at c7 7).trans (show _ = some (Value.bool kp) from rfl)
  unfold opObj at c7 d7
  clear h hh hn hd
  cases oo with
  | true =>
    go_enter Tryz.func7, Tryz.ntmps7
    go_wp2_with fail
    obtain ⟨W1, hW1⟩ : ∃ W1, (w.setCell ⟨ob, 7, none⟩ (.bool kb)).alloc (opObj true kb (ok) key val) = W1 := ⟨_, rfl⟩
    obtain ⟨h1, hop, k1, hBob⟩ := H.out.open_ true kb (ok) key val hW1
    unfold opObj at hW1 hop
    rw [hW1]
    have hB1 : Keeps (fun q => B ≤ q) w W1 := k1.mono (fun q _ e => by rw [e]; exact hBob)
    obtain ⟨xb, hxb⟩ : ∃ xb, w.heap.size = xb := ⟨_, rfl⟩
    rw [hxb] at hop ⊢
    have x3 := (cell_at hop 3).trans (show _ = some (Value.string (str key)) from rfl)
    have x4 := (cell_at hop 4).trans (show _ = some (Value.string (str val)) from rfl)
    have cm := (cell_at h1.box 1).trans (show _ = some (Value.pointer (some ⟨m 1, 0, none⟩)) from rfl)
    have cy := (cell_at h1.box 3).trans (show _ = some (Value.pointer (some ⟨y 1, 0, none⟩)) from rfl)
    have hob1 := lt_of_block h1.box
    have hxb1 := lt_of_block hop
    have hD1 := HD.out W1 hB1
    have hMap := h1.map 1 (by omega)
    have hDoc := h1.doc 1 (by omega)
    have hHas := HH.out 1 (by omega)
    have hnk := HN.out 1 (by omega)
    have hgood := hMap.good
    have hlen : (L 1).length = n 1 := (hHas.len hgood).trans hMap.count
    have hxm : ¬ xb = m 1 := fun e => by have := (H.out.map 1 (by omega)).lt; omega
    have H1 := hid h1
    have HB1 := hid hB1
    have HOP := hid hop
    clear x3 x4 HOP hxb1 hxm hMap hDoc hHas hgood hD1 hlen hnk cm cy h1 hB1 hop k1 hBob hW1 hxb c7 d7
    go_ret
    exact ⟨by first | rfl | simp, After.of (H1.out.most (by omega)) HH.out (fun k hk => by have := HN.out k hk; omega), HB1.out⟩
  | false =>
    go_enter Tryz.func7, Tryz.ntmps7
    go_wp2_with fail
    obtain ⟨W1, hW1⟩ : ∃ W1, (w.setCell ⟨ob, 7, none⟩ (.bool kb)).alloc (opObj false kb (ok) key val) = W1 := ⟨_, rfl⟩
    obtain ⟨h1, hop, k1, hBob⟩ := H.out.open_ false kb (ok) key val hW1
    unfold opObj at hW1 hop
    rw [hW1]
    have hB1 : Keeps (fun q => B ≤ q) w W1 := k1.mono (fun q _ e => by rw [e]; exact hBob)
    obtain ⟨xb, hxb⟩ : ∃ xb, w.heap.size = xb := ⟨_, rfl⟩
    rw [hxb] at hop ⊢
    have x3 := (cell_at hop 3).trans (show _ = some (Value.string (str key)) from rfl)
    have x4 := (cell_at hop 4).trans (show _ = some (Value.string (str val)) from rfl)
    have cm := (cell_at h1.box 0).trans (show _ = some (Value.pointer (some ⟨m 0, 0, none⟩)) from rfl)
    have cy := (cell_at h1.box 2).trans (show _ = some (Value.pointer (some ⟨y 0, 0, none⟩)) from rfl)
    have hob1 := lt_of_block h1.box
    have hxb1 := lt_of_block hop
    have hD1 := HD.out W1 hB1
    have hMap := h1.map 0 (by omega)
    have hDoc := h1.doc 0 (by omega)
    have hHas := HH.out 0 (by omega)
    have hnk := HN.out 0 (by omega)
    have hgood := hMap.good
    have hlen : (L 0).length = n 0 := (hHas.len hgood).trans hMap.count
    have hxm : ¬ xb = m 0 := fun e => by have := (H.out.map 0 (by omega)).lt; omega
    have H1 := hid h1
    have HB1 := hid hB1
    have HOP := hid hop
    clear x3 x4 HOP hxb1 hxm hMap hDoc hHas hgood hD1 hlen hnk cm cy h1 hB1 hop k1 hBob hW1 hxb c7 d7
    go_ret
    exact ⟨by first | rfl | simp, After.of (H1.out.most (by omega)) HH.out (fun k hk => by have := HN.out k hk; omega), HB1.out⟩
end Go.Proofs.YtmflbchiapdhbaaGreatDoor
