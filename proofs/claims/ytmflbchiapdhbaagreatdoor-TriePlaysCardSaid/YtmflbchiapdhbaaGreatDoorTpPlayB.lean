/-
  The law's step: Set, Remove.
-/
import Derived.Test.YtmflbchiapdhbaaGreatDoorTpPlayA
import Derived.Test.YtmflbchiapdhbaaGreatDoorMMsF
import Derived.Test.YtmflbchiapdhbaaGreatDoorTpAll
import Derived.BigQuiet
import Derived.Deep.RegionLaw
namespace Go.Proofs.YtmflbchiapdhbaaGreatDoor
open Go.RowKit

theorem DocTo.off {w w' : World} {y xb : Nat} {dv : Value} {L' : List Ent} {o : Obj} (h : DocTo w w' y dv L') (ho : w.heap[xb]? = some o) (hx : ¬ xb = y ∧ ∀ g, dv.ownBlock = some g → g ≠ xb) : w'.heap[xb]? = some o := by
  obtain ⟨dv1, -, k, -⟩ := h
  exact k.at_ ho (fun e => e.elim hx.1 (fun e => hx.2 xb e rfl))

set_option maxRecDepth 100000 in
set_option maxHeartbeats 8000000 in
theorem play_set (B ob N M : Nat) (c : Nat → Nat) (w : World) (kp : Bool) (m y n : Nat → Nat) (t : Nat → Tr) (dv : Nat → Value) (L : Nat → List Ent) (lv fv wv : Value) (A F Wv : List Value) (C : List Texts) (h : TW B c w ob kp m y t n dv L lv fv wv A F Wv C N) (hh : ∀ k, k < 2 → Has (t k) (L k)) (hn : ∀ k, k < 2 → n k ≤ M) (hM : M ≤ 900) (hN : N ≤ 900) (hd : Dig w) (hgB : 3 ≤ B)
    (oo kb : Bool) (key val : List UInt8) (hkey : key.length ≤ 9223372036854775807) (hval : val.length ≤ 9223372036854775807) :
    Calls Tryz.prog 7 #[.pointer (some ⟨ob, 0, none⟩), .agg #[.bool oo, .bool kb, .int .i64 1, .string (str key), .string (str val)]] w fun e w' => e = .returned (.bool true) ∧ After B w' ob (N + 2) (M + 1) ∧ Keeps (fun q => B ≤ q) w w' := by
  have H := hid h
  have HH := hid hh
  have HN := hid hn
  have HD := hid fun W (k : Keeps (fun q => B ≤ q) w W) => hd.keepsOut (k.mono fun q _ e => .inr e) hgB hgB
  have hu := And.intro hM (And.intro hN (And.intro hkey hval))
  clear hu
  have hbl := lt_of_block h.box
  have c7 := ((Keeps.refl (fun _ => False) w).alloc (opObj oo kb (1) key val)).at_ h.box (fun h => h)
  have d7 := free_at c7 7
  replace c7 := (cell_at c7 7).trans (show _ = some (Value.bool kp) from rfl)
  unfold opObj at c7 d7
  clear h hh hn hd
  cases oo with
  | true =>
    go_enter Tryz.func7, Tryz.ntmps7
    go_wp2_with fail
    obtain ⟨W1, hW1⟩ : ∃ W1, (w.setCell ⟨ob, 7, none⟩ (.bool kb)).alloc (opObj true kb (1) key val) = W1 := ⟨_, rfl⟩
    obtain ⟨h1, hop, k1, hBob⟩ := H.out.open_ true kb (1) key val hW1
    unfold opObj at hW1 hop
    rw [hW1]
    have hB1 : Keeps (fun q => B ≤ q) w W1 := k1.mono (fun q _ e => by rw [e]; exact hBob)
    obtain ⟨xb, hxb⟩ : ∃ xb, w.heap.size = xb := ⟨_, rfl⟩
    rw [hxb] at hop ⊢
    have x3 := (cell_at hop 3).trans (show _ = some (Value.string (str key)) from rfl)
    have x4 := (cell_at hop 4).trans (show _ = some (Value.string (str val)) from rfl)
    have cm := (cell_at h1.box 1).trans (show _ = some (Value.pointer (some ⟨m 1, 0, none⟩)) from rfl)
    have cy := (cell_at h1.box 3).trans (show _ = some (Value.pointer (some ⟨y 1, 0, none⟩)) from rfl)
    have hob1 := lt_of_block h1.box
    have hxb1 := lt_of_block hop
    have hD1 := HD.out W1 hB1
    have hMap := h1.map 1 (by omega)
    have hDoc := h1.doc 1 (by omega)
    have hHas := HH.out 1 (by omega)
    have hnk := HN.out 1 (by omega)
    have hgood := hMap.good
    have hlen : (L 1).length = n 1 := (hHas.len hgood).trans hMap.count
    have hxm : ¬ xb = m 1 := fun e => by have := (H.out.map 1 (by omega)).lt; omega
    have H1 := hid h1
    have HB1 := hid hB1
    have HOP := hid hop
    have HXD : Hid (¬ xb = y 1 ∧ ∀ g, (dv 1).ownBlock = some g → g ≠ xb) := ⟨fun e => by have := lt_of_block (H.out.doc 1 (by omega)).box; omega, fun g hg => by have := ((H.out.doc 1 (by omega)).row.lt g hg).2; omega⟩
    have HS := hid fun W (f : Fresh W1 W) => mset_all (m 1) (n 1) (t 1) key val W (hMap.fresh f) (hD1.fresh f) (h1.gmap _ (by omega)) (by omega) hkey hval
    have HTK := hid (hHas.setT hgood key val)
    have HGK := hid (And.intro hgood hHas)
    have HX := hid (And.intro hxm (And.intro hlen hnk))
    clear hMap hDoc hHas hgood hD1 hlen hnk hxm h1 hB1 hop k1 hBob hW1 hxb c7 d7
    obtain ⟨er, her⟩ : ∃ er, setErr key val = er := ⟨_, rfl⟩
    have HER := hid her
    rw [her] at HS
    have hq : (er == er) = true := by simp
    clear her
    refine wp_region_keep 12 (fun w' => w'.cell? ⟨ob, 1, none⟩ = some (.pointer (some ⟨m 1, 0, none⟩)) ∧ w'.cell? ⟨xb, 3, none⟩ = some (.string (str key)) ∧ w'.cell? ⟨xb, 4, none⟩ = some (.string (str val))) (fun _ => True) (fun _ => true) (by kernel_rfl) (by kernel_rfl) ?_
    (try (change wpKeep _ _ _ _ _ _ _ _ _ _ (World.drew _)))
    refine wpKeep_takeT (i := 0) (oi := ⟨some 38, _, _, _, _, _⟩) (v := ?_) rfl (by kernel_rfl) (by kernel_rfl) (by kernel_rfl) (by kernel_rfl) (fun _ _ _ h => h) (Or.inl ⟨by rfl, ?_⟩) ⟨cm, x3, x4⟩ (fun _ => trivial) ?_
    rotate_left
    · intro w' hT
      obtain ⟨t1, t2, t3⟩ := hT
      go_simp
      (try rw [if_pos (by omega)])
      (try with_reducible rfl)
    rotate_left
    (try simp only [Act.put, List.setIfInBounds_toArray, List.set_cons_zero, List.set_cons_succ])
    refine wpKeep_takeT (i := 1) (oi := ⟨some 39, _, _, _, _, _⟩) (v := ?_) rfl (by kernel_rfl) (by kernel_rfl) (by kernel_rfl) (by kernel_rfl) (fun _ _ _ h => h) (Or.inl ⟨by rfl, ?_⟩) ⟨cm, x3, x4⟩ (fun _ => trivial) ?_
    rotate_left
    · intro w' hT
      obtain ⟨t1, t2, t3⟩ := hT
      go_simp
      (try rw [if_pos (by omega)])
      (try with_reducible rfl)
    rotate_left
    (try simp only [Act.put, List.setIfInBounds_toArray, List.set_cons_zero, List.set_cons_succ])
    refine wpKeep_takeT (i := 2) (oi := ⟨some 40, _, _, _, _, _⟩) (v := ?_) rfl (by kernel_rfl) (by kernel_rfl) (by kernel_rfl) (by kernel_rfl) (fun _ _ _ h => h) (Or.inl ⟨by rfl, ?_⟩) ⟨cm, x3, x4⟩ (fun _ => trivial) ?_
    rotate_left
    · intro w' hT
      obtain ⟨t1, t2, t3⟩ := hT
      go_simp
      (try rw [if_pos (by omega)])
      (try with_reducible rfl)
    rotate_left
    (try simp only [Act.put, List.setIfInBounds_toArray, List.set_cons_zero, List.set_cons_succ])
    refine wpKeep_takeT (i := 3) (oi := ⟨some 41, _, _, _, _, _⟩) (v := ?_) rfl (by kernel_rfl) (by kernel_rfl) (by kernel_rfl) (by kernel_rfl) (fun _ _ _ h => h) (Or.inl ⟨by rfl, ?_⟩) ⟨cm, x3, x4⟩ (fun _ => trivial) ?_
    rotate_left
    · intro w' hT
      obtain ⟨t1, t2, t3⟩ := hT
      go_simp
      (try rw [if_pos (by omega)])
      (try with_reducible rfl)
    rotate_left
    (try simp only [Act.put, List.setIfInBounds_toArray, List.set_cons_zero, List.set_cons_succ])
    refine wpKeep_takeT (i := 4) (oi := ⟨some 42, _, _, _, _, _⟩) (v := ?_) rfl (by kernel_rfl) (by kernel_rfl) (by kernel_rfl) (by kernel_rfl) (fun _ _ _ h => h) (Or.inl ⟨by rfl, ?_⟩) ⟨cm, x3, x4⟩ (fun _ => trivial) ?_
    rotate_left
    · intro w' hT
      obtain ⟨t1, t2, t3⟩ := hT
      go_simp
      (try rw [if_pos (by omega)])
      (try with_reducible rfl)
    rotate_left
    (try simp only [Act.put, List.setIfInBounds_toArray, List.set_cons_zero, List.set_cons_succ])
    refine wpKeep_takeT (i := 5) (oi := ⟨some 43, _, _, _, _, _⟩) (v := ?_) rfl (by kernel_rfl) (by kernel_rfl) (by kernel_rfl) (by kernel_rfl) (fun _ _ _ h => h) (Or.inl ⟨by rfl, ?_⟩) ⟨cm, x3, x4⟩ (fun _ => trivial) ?_
    rotate_left
    · intro w' hT
      obtain ⟨t1, t2, t3⟩ := hT
      go_simp
      (try rw [if_pos (by omega)])
      (try with_reducible rfl)
    rotate_left
    (try simp only [Act.put, List.setIfInBounds_toArray, List.set_cons_zero, List.set_cons_succ])
    refine wpKeep_takeT (i := 6) (oi := ⟨some 44, _, _, _, _, _⟩) (v := ?_) rfl (by kernel_rfl) (by kernel_rfl) (by kernel_rfl) (by kernel_rfl) (fun _ _ _ h => h) (Or.inl ⟨by rfl, ?_⟩) ⟨cm, x3, x4⟩ (fun _ => trivial) ?_
    rotate_left
    · intro w' hT
      obtain ⟨t1, t2, t3⟩ := hT
      go_simp
      (try rw [if_pos (by omega)])
      (try with_reducible rfl)
    rotate_left
    (try simp only [Act.put, List.setIfInBounds_toArray, List.set_cons_zero, List.set_cons_succ])
    refine wpKeep_takeT (i := 7) (oi := ⟨some 45, _, _, _, _, _⟩) (v := ?_) rfl (by kernel_rfl) (by kernel_rfl) (by kernel_rfl) (by kernel_rfl) (fun _ _ _ h => h) (Or.inl ⟨by rfl, ?_⟩) ⟨cm, x3, x4⟩ (fun _ => trivial) ?_
    rotate_left
    · intro w' hT
      obtain ⟨t1, t2, t3⟩ := hT
      go_simp
      (try rw [if_pos (by omega)])
      (try with_reducible rfl)
    rotate_left
    (try simp only [Act.put, List.setIfInBounds_toArray, List.set_cons_zero, List.set_cons_succ])
    refine wpKeep_takeT (i := 8) (oi := ⟨some 46, _, _, _, _, _⟩) (v := ?_) rfl (by kernel_rfl) (by kernel_rfl) (by kernel_rfl) (by kernel_rfl) (fun _ _ _ h => h) (Or.inl ⟨by rfl, ?_⟩) ⟨cm, x3, x4⟩ (fun _ => trivial) ?_
    rotate_left
    · intro w' hT
      obtain ⟨t1, t2, t3⟩ := hT
      go_simp
      (try rw [if_pos (by omega)])
      (try with_reducible rfl)
    rotate_left
    (try simp only [Act.put, List.setIfInBounds_toArray, List.set_cons_zero, List.set_cons_succ])
    refine wpKeep_takeT (i := 9) (oi := ⟨some 47, _, _, _, _, _⟩) (v := ?_) rfl (by kernel_rfl) (by kernel_rfl) (by kernel_rfl) (by kernel_rfl) (fun _ _ _ h => h) (Or.inl ⟨by rfl, ?_⟩) ⟨cm, x3, x4⟩ (fun _ => trivial) ?_
    rotate_left
    · intro w' hT
      obtain ⟨t1, t2, t3⟩ := hT
      go_simp
      (try rw [if_pos (by omega)])
      (try with_reducible rfl)
    rotate_left
    (try simp only [Act.put, List.setIfInBounds_toArray, List.set_cons_zero, List.set_cons_succ])
    refine wpKeep_ready (rs := [10]) (by kernel_rfl) (by simp) ?_
    refine AllKeep.cons (o := ⟨some 48, _, _, _, _, _⟩) rfl (fun Kq hK => ?_) AllKeep.nil
    go_simp
    go_at_call 12
    refine (HS.out _ (Keeps.refl (fun _ => False) W1).drew).mono ?_
    rintro e w3 ⟨rfl, c2, k3, hm3, hc3⟩
    have f1 : Fresh W1 W1.drew := (Keeps.refl _ _).drew
    have T3 := (H1.out.fresh f1).setMap (show 1 < 2 by omega) k3 hm3
    have kB3 := HB1.out.trans ((f1.mono fun _ _ h => h.elim).trans ((H1.out.fresh f1).owns k3 (fun g e => by rw [e, (H1.out.fresh f1).cmap 1 (by omega)]; omega)))
    have hop3 := k3.at_ (f1.at_ HOP.out (fun h => h)) HX.out.1
    have x33 := (cell_at hop3 3).trans (show _ = some (Value.string (str key)) from rfl)
    have x34 := (cell_at hop3 4).trans (show _ = some (Value.string (str val)) from rfl)
    have cy3 := (cell_at T3.box 3).trans (show _ = some (Value.pointer (some ⟨y 1, 0, none⟩)) from rfl)
    have cm3 := (cell_at T3.box 1).trans (show _ = some (Value.pointer (some ⟨m 1, 0, none⟩)) from rfl)
    refine hK.out _ _ ⟨cm3, x33, x34⟩ (fun _ => trivial) ?_
    clear hK Kq
    (try simp only [Act.put, List.setIfInBounds_toArray, List.set_cons_zero, List.set_cons_succ])
    refine wpKeep_takeT (i := 11) (oi := ⟨some 6, _, _, _, _, _⟩) (v := ?_) rfl (by kernel_rfl) (by kernel_rfl) (by kernel_rfl) (by kernel_rfl) (fun _ _ _ h => h) (Or.inl ⟨by rfl, ?_⟩) ⟨cm3, x33, x34⟩ (fun _ => trivial) ?_
    rotate_left
    · intro w' hT
      obtain ⟨t1, t2, t3⟩ := hT
      go_simp
      (try rw [if_pos (by omega)])
      (try with_reducible rfl)
    rotate_left
    (try simp only [Act.put, List.setIfInBounds_toArray, List.set_cons_zero, List.set_cons_succ])
    refine wpKeep_done (by kernel_rfl) ?_ _
    have T3d := T3.fresh (Keeps.refl (fun _ => False) w3).drew
    have hDoc3 := T3d.doc 1 (by omega)
    have HDS := hid (dset_all (y 1) (dv 1) (L 1) key val w3.drew hDoc3 (by have := HX.out.2.1; have := HX.out.2.2; omega) hkey hval)
    have HT3 := hid T3d
    have HKB := hid (kB3.trans ((Keeps.refl (fun q => B ≤ q) w3).drew))
    have HC3 := hid hc3
    have HOPW := hid (show w3.drew.heap[xb]? = _ from hop3)
    have HYX : Hid (¬ xb = y 1 ∧ ∀ g, (dv 1).ownBlock = some g → g ≠ xb) := HXD.out
    rw [HER.out] at HDS
    clear cm cy x3 x4 k3 hm3 hc3 f1 T3 kB3 hop3 T3d hDoc3 cm3
    go_wp2_with fail
    refine wp_region_keep 14 (fun w' => w'.cell? ⟨ob, 3, none⟩ = some (.pointer (some ⟨y 1, 0, none⟩)) ∧ w'.cell? ⟨xb, 3, none⟩ = some (.string (str key)) ∧ w'.cell? ⟨xb, 4, none⟩ = some (.string (str val))) (fun _ => True) (fun _ => true) (by kernel_rfl) (by kernel_rfl) ?_
    (try (change wpKeep _ _ _ _ _ _ _ _ _ _ (World.drew _)))
    refine wpKeep_takeT (i := 0) (oi := ⟨some 49, _, _, _, _, _⟩) (v := ?_) rfl (by kernel_rfl) (by kernel_rfl) (by kernel_rfl) (by kernel_rfl) (fun _ _ _ h => h) (Or.inl ⟨by rfl, ?_⟩) ⟨cy3, x33, x34⟩ (fun _ => trivial) ?_
    rotate_left
    · intro w' hT
      obtain ⟨t1, t2, t3⟩ := hT
      go_simp
      (try rw [if_pos (by omega)])
      (try with_reducible rfl)
    rotate_left
    (try simp only [Act.put, List.setIfInBounds_toArray, List.set_cons_zero, List.set_cons_succ])
    refine wpKeep_takeT (i := 1) (oi := ⟨some 50, _, _, _, _, _⟩) (v := ?_) rfl (by kernel_rfl) (by kernel_rfl) (by kernel_rfl) (by kernel_rfl) (fun _ _ _ h => h) (Or.inl ⟨by rfl, ?_⟩) ⟨cy3, x33, x34⟩ (fun _ => trivial) ?_
    rotate_left
    · intro w' hT
      obtain ⟨t1, t2, t3⟩ := hT
      go_simp
      (try rw [if_pos (by omega)])
      (try with_reducible rfl)
    rotate_left
    (try simp only [Act.put, List.setIfInBounds_toArray, List.set_cons_zero, List.set_cons_succ])
    refine wpKeep_takeT (i := 2) (oi := ⟨some 51, _, _, _, _, _⟩) (v := ?_) rfl (by kernel_rfl) (by kernel_rfl) (by kernel_rfl) (by kernel_rfl) (fun _ _ _ h => h) (Or.inl ⟨by rfl, ?_⟩) ⟨cy3, x33, x34⟩ (fun _ => trivial) ?_
    rotate_left
    · intro w' hT
      obtain ⟨t1, t2, t3⟩ := hT
      go_simp
      (try rw [if_pos (by omega)])
      (try with_reducible rfl)
    rotate_left
    (try simp only [Act.put, List.setIfInBounds_toArray, List.set_cons_zero, List.set_cons_succ])
    refine wpKeep_takeT (i := 3) (oi := ⟨some 52, _, _, _, _, _⟩) (v := ?_) rfl (by kernel_rfl) (by kernel_rfl) (by kernel_rfl) (by kernel_rfl) (fun _ _ _ h => h) (Or.inl ⟨by rfl, ?_⟩) ⟨cy3, x33, x34⟩ (fun _ => trivial) ?_
    rotate_left
    · intro w' hT
      obtain ⟨t1, t2, t3⟩ := hT
      go_simp
      (try rw [if_pos (by omega)])
      (try with_reducible rfl)
    rotate_left
    (try simp only [Act.put, List.setIfInBounds_toArray, List.set_cons_zero, List.set_cons_succ])
    refine wpKeep_takeT (i := 4) (oi := ⟨some 53, _, _, _, _, _⟩) (v := ?_) rfl (by kernel_rfl) (by kernel_rfl) (by kernel_rfl) (by kernel_rfl) (fun _ _ _ h => h) (Or.inl ⟨by rfl, ?_⟩) ⟨cy3, x33, x34⟩ (fun _ => trivial) ?_
    rotate_left
    · intro w' hT
      obtain ⟨t1, t2, t3⟩ := hT
      go_simp
      (try rw [if_pos (by omega)])
      (try with_reducible rfl)
    rotate_left
    (try simp only [Act.put, List.setIfInBounds_toArray, List.set_cons_zero, List.set_cons_succ])
    refine wpKeep_takeT (i := 5) (oi := ⟨some 54, _, _, _, _, _⟩) (v := ?_) rfl (by kernel_rfl) (by kernel_rfl) (by kernel_rfl) (by kernel_rfl) (fun _ _ _ h => h) (Or.inl ⟨by rfl, ?_⟩) ⟨cy3, x33, x34⟩ (fun _ => trivial) ?_
    rotate_left
    · intro w' hT
      obtain ⟨t1, t2, t3⟩ := hT
      go_simp
      (try rw [if_pos (by omega)])
      (try with_reducible rfl)
    rotate_left
    (try simp only [Act.put, List.setIfInBounds_toArray, List.set_cons_zero, List.set_cons_succ])
    refine wpKeep_takeT (i := 6) (oi := ⟨some 55, _, _, _, _, _⟩) (v := ?_) rfl (by kernel_rfl) (by kernel_rfl) (by kernel_rfl) (by kernel_rfl) (fun _ _ _ h => h) (Or.inl ⟨by rfl, ?_⟩) ⟨cy3, x33, x34⟩ (fun _ => trivial) ?_
    rotate_left
    · intro w' hT
      obtain ⟨t1, t2, t3⟩ := hT
      go_simp
      (try rw [if_pos (by omega)])
      (try with_reducible rfl)
    rotate_left
    (try simp only [Act.put, List.setIfInBounds_toArray, List.set_cons_zero, List.set_cons_succ])
    refine wpKeep_takeT (i := 7) (oi := ⟨some 56, _, _, _, _, _⟩) (v := ?_) rfl (by kernel_rfl) (by kernel_rfl) (by kernel_rfl) (by kernel_rfl) (fun _ _ _ h => h) (Or.inl ⟨by rfl, ?_⟩) ⟨cy3, x33, x34⟩ (fun _ => trivial) ?_
    rotate_left
    · intro w' hT
      obtain ⟨t1, t2, t3⟩ := hT
      go_simp
      (try rw [if_pos (by omega)])
      (try with_reducible rfl)
    rotate_left
    (try simp only [Act.put, List.setIfInBounds_toArray, List.set_cons_zero, List.set_cons_succ])
    refine wpKeep_takeT (i := 8) (oi := ⟨some 57, _, _, _, _, _⟩) (v := ?_) rfl (by kernel_rfl) (by kernel_rfl) (by kernel_rfl) (by kernel_rfl) (fun _ _ _ h => h) (Or.inl ⟨by rfl, ?_⟩) ⟨cy3, x33, x34⟩ (fun _ => trivial) ?_
    rotate_left
    · intro w' hT
      obtain ⟨t1, t2, t3⟩ := hT
      go_simp
      (try rw [if_pos (by omega)])
      (try with_reducible rfl)
    rotate_left
    (try simp only [Act.put, List.setIfInBounds_toArray, List.set_cons_zero, List.set_cons_succ])
    refine wpKeep_takeT (i := 9) (oi := ⟨some 58, _, _, _, _, _⟩) (v := ?_) rfl (by kernel_rfl) (by kernel_rfl) (by kernel_rfl) (by kernel_rfl) (fun _ _ _ h => h) (Or.inl ⟨by rfl, ?_⟩) ⟨cy3, x33, x34⟩ (fun _ => trivial) ?_
    rotate_left
    · intro w' hT
      obtain ⟨t1, t2, t3⟩ := hT
      go_simp
      (try rw [if_pos (by omega)])
      (try with_reducible rfl)
    rotate_left
    (try simp only [Act.put, List.setIfInBounds_toArray, List.set_cons_zero, List.set_cons_succ])
    refine wpKeep_takeT (i := 10) (oi := ⟨some 59, _, _, _, _, _⟩) (v := ?_) rfl (by kernel_rfl) (by kernel_rfl) (by kernel_rfl) (by kernel_rfl) (fun _ _ _ h => h) (Or.inl ⟨by rfl, ?_⟩) ⟨cy3, x33, x34⟩ (fun _ => trivial) ?_
    rotate_left
    · intro w' hT
      obtain ⟨t1, t2, t3⟩ := hT
      go_simp
      (try rw [if_pos (by omega)])
      (try with_reducible rfl)
    rotate_left
    (try simp only [Act.put, List.setIfInBounds_toArray, List.set_cons_zero, List.set_cons_succ])
    refine wpKeep_ready (rs := [11]) (by kernel_rfl) (by simp) ?_
    refine AllKeep.cons (o := ⟨some 60, _, _, _, _, _⟩) rfl (fun Kq hK => ?_) AllKeep.nil
    go_simp
    go_at_call 16
    refine HDS.out.mono ?_
    rintro e w4 ⟨rfl, hd4⟩
    obtain ⟨c4, dv4, T4, k4⟩ := HT3.out.setDoc (show 1 < 2 by omega) hd4
    have cy4 := (cell_at T4.box 3).trans (show _ = some (Value.pointer (some ⟨y 1, 0, none⟩)) from rfl)
    have hop4 := hd4.off (HOPW.out) HYX.out
    have x43 := (cell_at hop4 3).trans (show _ = some (Value.string (str key)) from rfl)
    have x44 := (cell_at hop4 4).trans (show _ = some (Value.string (str val)) from rfl)
    refine hK.out _ _ ⟨cy4, x43, x44⟩ (fun _ => trivial) ?_
    clear hK Kq
    (try simp only [Act.put, List.setIfInBounds_toArray, List.set_cons_zero, List.set_cons_succ])
    refine wpKeep_takeT (i := 12) (oi := ⟨some 61, _, _, _, _, _⟩) (v := ?_) rfl (by kernel_rfl) (by kernel_rfl) (by kernel_rfl) (by kernel_rfl) (fun _ _ _ h => h) (Or.inl ⟨by rfl, ?_⟩) ⟨cy4, x43, x44⟩ (fun _ => trivial) ?_
    rotate_left
    · intro w' hT
      obtain ⟨t1, t2, t3⟩ := hT
      go_simp
      (try rw [if_pos (by omega)])
      (try with_reducible rfl)
    rotate_left
    (try simp only [Act.put, List.setIfInBounds_toArray, List.set_cons_zero, List.set_cons_succ])
    refine wpKeep_takeT (i := 13) (oi := ⟨some 4, _, _, _, _, _⟩) (v := ?_) rfl (by kernel_rfl) (by kernel_rfl) (by kernel_rfl) (by kernel_rfl) (fun _ _ _ h => h) (Or.inl ⟨by rfl, ?_⟩) ⟨cy4, x43, x44⟩ (fun _ => trivial) ?_
    rotate_left
    · intro w' hT
      obtain ⟨t1, t2, t3⟩ := hT
      go_simp
      (try rw [if_pos (by omega)])
      (try with_reducible rfl)
    rotate_left
    (try simp only [Act.put, List.setIfInBounds_toArray, List.set_cons_zero, List.set_cons_succ])
    refine wpKeep_done (by kernel_rfl) ?_ _
    have HFIN : Hid (After B w4 ob (N + 2) (M + 1)) := After.of (T4.most (by omega)) (fun k hk => by
      by_cases e : k = 1
      · subst e
        rw [updt_at, updt_at]; exact HTK.out
      · rw [updt_ne _ _ e, updt_ne _ _ e]; exact HH.out k hk) (fun k hk => by
      by_cases e : k = 1
      · subst e
        rw [updt_at]; have := HC3.out; have := HX.out.2.2; omega
      · rw [updt_ne _ _ e]; have := HN.out k hk; omega)
    have HK4 := hid (HKB.out.trans k4)
    clear hd4 T4 k4 x33 x34 cy3 cy4 hop4 x43 x44
    go_wp2_with fail
    go_ret
    exact ⟨by first | rfl | simp, HFIN.out, HK4.out⟩
  | false =>
    go_enter Tryz.func7, Tryz.ntmps7
    go_wp2_with fail
    obtain ⟨W1, hW1⟩ : ∃ W1, (w.setCell ⟨ob, 7, none⟩ (.bool kb)).alloc (opObj false kb (1) key val) = W1 := ⟨_, rfl⟩
    obtain ⟨h1, hop, k1, hBob⟩ := H.out.open_ false kb (1) key val hW1
    unfold opObj at hW1 hop
    rw [hW1]
    have hB1 : Keeps (fun q => B ≤ q) w W1 := k1.mono (fun q _ e => by rw [e]; exact hBob)
    obtain ⟨xb, hxb⟩ : ∃ xb, w.heap.size = xb := ⟨_, rfl⟩
    rw [hxb] at hop ⊢
    have x3 := (cell_at hop 3).trans (show _ = some (Value.string (str key)) from rfl)
    have x4 := (cell_at hop 4).trans (show _ = some (Value.string (str val)) from rfl)
    have cm := (cell_at h1.box 0).trans (show _ = some (Value.pointer (some ⟨m 0, 0, none⟩)) from rfl)
    have cy := (cell_at h1.box 2).trans (show _ = some (Value.pointer (some ⟨y 0, 0, none⟩)) from rfl)
    have hob1 := lt_of_block h1.box
    have hxb1 := lt_of_block hop
    have hD1 := HD.out W1 hB1
    have hMap := h1.map 0 (by omega)
    have hDoc := h1.doc 0 (by omega)
    have hHas := HH.out 0 (by omega)
    have hnk := HN.out 0 (by omega)
    have hgood := hMap.good
    have hlen : (L 0).length = n 0 := (hHas.len hgood).trans hMap.count
    have hxm : ¬ xb = m 0 := fun e => by have := (H.out.map 0 (by omega)).lt; omega
    have H1 := hid h1
    have HB1 := hid hB1
    have HOP := hid hop
    have HXD : Hid (¬ xb = y 0 ∧ ∀ g, (dv 0).ownBlock = some g → g ≠ xb) := ⟨fun e => by have := lt_of_block (H.out.doc 0 (by omega)).box; omega, fun g hg => by have := ((H.out.doc 0 (by omega)).row.lt g hg).2; omega⟩
    have HS := hid fun W (f : Fresh W1 W) => mset_all (m 0) (n 0) (t 0) key val W (hMap.fresh f) (hD1.fresh f) (h1.gmap _ (by omega)) (by omega) hkey hval
    have HTK := hid (hHas.setT hgood key val)
    have HGK := hid (And.intro hgood hHas)
    have HX := hid (And.intro hxm (And.intro hlen hnk))
    clear hMap hDoc hHas hgood hD1 hlen hnk hxm h1 hB1 hop k1 hBob hW1 hxb c7 d7
    obtain ⟨er, her⟩ : ∃ er, setErr key val = er := ⟨_, rfl⟩
    have HER := hid her
    rw [her] at HS
    have hq : (er == er) = true := by simp
    clear her
    refine wp_region_keep 12 (fun w' => w'.cell? ⟨ob, 0, none⟩ = some (.pointer (some ⟨m 0, 0, none⟩)) ∧ w'.cell? ⟨xb, 3, none⟩ = some (.string (str key)) ∧ w'.cell? ⟨xb, 4, none⟩ = some (.string (str val))) (fun _ => True) (fun _ => true) (by kernel_rfl) (by kernel_rfl) ?_
    (try (change wpKeep _ _ _ _ _ _ _ _ _ _ (World.drew _)))
    refine wpKeep_takeT (i := 0) (oi := ⟨some 38, _, _, _, _, _⟩) (v := ?_) rfl (by kernel_rfl) (by kernel_rfl) (by kernel_rfl) (by kernel_rfl) (fun _ _ _ h => h) (Or.inl ⟨by rfl, ?_⟩) ⟨cm, x3, x4⟩ (fun _ => trivial) ?_
    rotate_left
    · intro w' hT
      obtain ⟨t1, t2, t3⟩ := hT
      go_simp
      (try rw [if_pos (by omega)])
      (try with_reducible rfl)
    rotate_left
    (try simp only [Act.put, List.setIfInBounds_toArray, List.set_cons_zero, List.set_cons_succ])
    refine wpKeep_takeT (i := 1) (oi := ⟨some 39, _, _, _, _, _⟩) (v := ?_) rfl (by kernel_rfl) (by kernel_rfl) (by kernel_rfl) (by kernel_rfl) (fun _ _ _ h => h) (Or.inl ⟨by rfl, ?_⟩) ⟨cm, x3, x4⟩ (fun _ => trivial) ?_
    rotate_left
    · intro w' hT
      obtain ⟨t1, t2, t3⟩ := hT
      go_simp
      (try rw [if_pos (by omega)])
      (try with_reducible rfl)
    rotate_left
    (try simp only [Act.put, List.setIfInBounds_toArray, List.set_cons_zero, List.set_cons_succ])
    refine wpKeep_takeT (i := 2) (oi := ⟨some 40, _, _, _, _, _⟩) (v := ?_) rfl (by kernel_rfl) (by kernel_rfl) (by kernel_rfl) (by kernel_rfl) (fun _ _ _ h => h) (Or.inl ⟨by rfl, ?_⟩) ⟨cm, x3, x4⟩ (fun _ => trivial) ?_
    rotate_left
    · intro w' hT
      obtain ⟨t1, t2, t3⟩ := hT
      go_simp
      (try rw [if_pos (by omega)])
      (try with_reducible rfl)
    rotate_left
    (try simp only [Act.put, List.setIfInBounds_toArray, List.set_cons_zero, List.set_cons_succ])
    refine wpKeep_takeT (i := 3) (oi := ⟨some 41, _, _, _, _, _⟩) (v := ?_) rfl (by kernel_rfl) (by kernel_rfl) (by kernel_rfl) (by kernel_rfl) (fun _ _ _ h => h) (Or.inl ⟨by rfl, ?_⟩) ⟨cm, x3, x4⟩ (fun _ => trivial) ?_
    rotate_left
    · intro w' hT
      obtain ⟨t1, t2, t3⟩ := hT
      go_simp
      (try rw [if_pos (by omega)])
      (try with_reducible rfl)
    rotate_left
    (try simp only [Act.put, List.setIfInBounds_toArray, List.set_cons_zero, List.set_cons_succ])
    refine wpKeep_takeT (i := 4) (oi := ⟨some 42, _, _, _, _, _⟩) (v := ?_) rfl (by kernel_rfl) (by kernel_rfl) (by kernel_rfl) (by kernel_rfl) (fun _ _ _ h => h) (Or.inl ⟨by rfl, ?_⟩) ⟨cm, x3, x4⟩ (fun _ => trivial) ?_
    rotate_left
    · intro w' hT
      obtain ⟨t1, t2, t3⟩ := hT
      go_simp
      (try rw [if_pos (by omega)])
      (try with_reducible rfl)
    rotate_left
    (try simp only [Act.put, List.setIfInBounds_toArray, List.set_cons_zero, List.set_cons_succ])
    refine wpKeep_takeT (i := 5) (oi := ⟨some 43, _, _, _, _, _⟩) (v := ?_) rfl (by kernel_rfl) (by kernel_rfl) (by kernel_rfl) (by kernel_rfl) (fun _ _ _ h => h) (Or.inl ⟨by rfl, ?_⟩) ⟨cm, x3, x4⟩ (fun _ => trivial) ?_
    rotate_left
    · intro w' hT
      obtain ⟨t1, t2, t3⟩ := hT
      go_simp
      (try rw [if_pos (by omega)])
      (try with_reducible rfl)
    rotate_left
    (try simp only [Act.put, List.setIfInBounds_toArray, List.set_cons_zero, List.set_cons_succ])
    refine wpKeep_takeT (i := 6) (oi := ⟨some 44, _, _, _, _, _⟩) (v := ?_) rfl (by kernel_rfl) (by kernel_rfl) (by kernel_rfl) (by kernel_rfl) (fun _ _ _ h => h) (Or.inl ⟨by rfl, ?_⟩) ⟨cm, x3, x4⟩ (fun _ => trivial) ?_
    rotate_left
    · intro w' hT
      obtain ⟨t1, t2, t3⟩ := hT
      go_simp
      (try rw [if_pos (by omega)])
      (try with_reducible rfl)
    rotate_left
    (try simp only [Act.put, List.setIfInBounds_toArray, List.set_cons_zero, List.set_cons_succ])
    refine wpKeep_takeT (i := 7) (oi := ⟨some 45, _, _, _, _, _⟩) (v := ?_) rfl (by kernel_rfl) (by kernel_rfl) (by kernel_rfl) (by kernel_rfl) (fun _ _ _ h => h) (Or.inl ⟨by rfl, ?_⟩) ⟨cm, x3, x4⟩ (fun _ => trivial) ?_
    rotate_left
    · intro w' hT
      obtain ⟨t1, t2, t3⟩ := hT
      go_simp
      (try rw [if_pos (by omega)])
      (try with_reducible rfl)
    rotate_left
    (try simp only [Act.put, List.setIfInBounds_toArray, List.set_cons_zero, List.set_cons_succ])
    refine wpKeep_takeT (i := 8) (oi := ⟨some 46, _, _, _, _, _⟩) (v := ?_) rfl (by kernel_rfl) (by kernel_rfl) (by kernel_rfl) (by kernel_rfl) (fun _ _ _ h => h) (Or.inl ⟨by rfl, ?_⟩) ⟨cm, x3, x4⟩ (fun _ => trivial) ?_
    rotate_left
    · intro w' hT
      obtain ⟨t1, t2, t3⟩ := hT
      go_simp
      (try rw [if_pos (by omega)])
      (try with_reducible rfl)
    rotate_left
    (try simp only [Act.put, List.setIfInBounds_toArray, List.set_cons_zero, List.set_cons_succ])
    refine wpKeep_takeT (i := 9) (oi := ⟨some 47, _, _, _, _, _⟩) (v := ?_) rfl (by kernel_rfl) (by kernel_rfl) (by kernel_rfl) (by kernel_rfl) (fun _ _ _ h => h) (Or.inl ⟨by rfl, ?_⟩) ⟨cm, x3, x4⟩ (fun _ => trivial) ?_
    rotate_left
    · intro w' hT
      obtain ⟨t1, t2, t3⟩ := hT
      go_simp
      (try rw [if_pos (by omega)])
      (try with_reducible rfl)
    rotate_left
    (try simp only [Act.put, List.setIfInBounds_toArray, List.set_cons_zero, List.set_cons_succ])
    refine wpKeep_ready (rs := [10]) (by kernel_rfl) (by simp) ?_
    refine AllKeep.cons (o := ⟨some 48, _, _, _, _, _⟩) rfl (fun Kq hK => ?_) AllKeep.nil
    go_simp
    go_at_call 12
    refine (HS.out _ (Keeps.refl (fun _ => False) W1).drew).mono ?_
    rintro e w3 ⟨rfl, c2, k3, hm3, hc3⟩
    have f1 : Fresh W1 W1.drew := (Keeps.refl _ _).drew
    have T3 := (H1.out.fresh f1).setMap (show 0 < 2 by omega) k3 hm3
    have kB3 := HB1.out.trans ((f1.mono fun _ _ h => h.elim).trans ((H1.out.fresh f1).owns k3 (fun g e => by rw [e, (H1.out.fresh f1).cmap 0 (by omega)]; omega)))
    have hop3 := k3.at_ (f1.at_ HOP.out (fun h => h)) HX.out.1
    have x33 := (cell_at hop3 3).trans (show _ = some (Value.string (str key)) from rfl)
    have x34 := (cell_at hop3 4).trans (show _ = some (Value.string (str val)) from rfl)
    have cy3 := (cell_at T3.box 2).trans (show _ = some (Value.pointer (some ⟨y 0, 0, none⟩)) from rfl)
    have cm3 := (cell_at T3.box 0).trans (show _ = some (Value.pointer (some ⟨m 0, 0, none⟩)) from rfl)
    refine hK.out _ _ ⟨cm3, x33, x34⟩ (fun _ => trivial) ?_
    clear hK Kq
    (try simp only [Act.put, List.setIfInBounds_toArray, List.set_cons_zero, List.set_cons_succ])
    refine wpKeep_takeT (i := 11) (oi := ⟨some 6, _, _, _, _, _⟩) (v := ?_) rfl (by kernel_rfl) (by kernel_rfl) (by kernel_rfl) (by kernel_rfl) (fun _ _ _ h => h) (Or.inl ⟨by rfl, ?_⟩) ⟨cm3, x33, x34⟩ (fun _ => trivial) ?_
    rotate_left
    · intro w' hT
      obtain ⟨t1, t2, t3⟩ := hT
      go_simp
      (try rw [if_pos (by omega)])
      (try with_reducible rfl)
    rotate_left
    (try simp only [Act.put, List.setIfInBounds_toArray, List.set_cons_zero, List.set_cons_succ])
    refine wpKeep_done (by kernel_rfl) ?_ _
    have T3d := T3.fresh (Keeps.refl (fun _ => False) w3).drew
    have hDoc3 := T3d.doc 0 (by omega)
    have HDS := hid (dset_all (y 0) (dv 0) (L 0) key val w3.drew hDoc3 (by have := HX.out.2.1; have := HX.out.2.2; omega) hkey hval)
    have HT3 := hid T3d
    have HKB := hid (kB3.trans ((Keeps.refl (fun q => B ≤ q) w3).drew))
    have HC3 := hid hc3
    have HOPW := hid (show w3.drew.heap[xb]? = _ from hop3)
    have HYX : Hid (¬ xb = y 0 ∧ ∀ g, (dv 0).ownBlock = some g → g ≠ xb) := HXD.out
    rw [HER.out] at HDS
    clear cm cy x3 x4 k3 hm3 hc3 f1 T3 kB3 hop3 T3d hDoc3 cm3
    go_wp2_with fail
    refine wp_region_keep 14 (fun w' => w'.cell? ⟨ob, 2, none⟩ = some (.pointer (some ⟨y 0, 0, none⟩)) ∧ w'.cell? ⟨xb, 3, none⟩ = some (.string (str key)) ∧ w'.cell? ⟨xb, 4, none⟩ = some (.string (str val))) (fun _ => True) (fun _ => true) (by kernel_rfl) (by kernel_rfl) ?_
    (try (change wpKeep _ _ _ _ _ _ _ _ _ _ (World.drew _)))
    refine wpKeep_takeT (i := 0) (oi := ⟨some 49, _, _, _, _, _⟩) (v := ?_) rfl (by kernel_rfl) (by kernel_rfl) (by kernel_rfl) (by kernel_rfl) (fun _ _ _ h => h) (Or.inl ⟨by rfl, ?_⟩) ⟨cy3, x33, x34⟩ (fun _ => trivial) ?_
    rotate_left
    · intro w' hT
      obtain ⟨t1, t2, t3⟩ := hT
      go_simp
      (try rw [if_pos (by omega)])
      (try with_reducible rfl)
    rotate_left
    (try simp only [Act.put, List.setIfInBounds_toArray, List.set_cons_zero, List.set_cons_succ])
    refine wpKeep_takeT (i := 1) (oi := ⟨some 50, _, _, _, _, _⟩) (v := ?_) rfl (by kernel_rfl) (by kernel_rfl) (by kernel_rfl) (by kernel_rfl) (fun _ _ _ h => h) (Or.inl ⟨by rfl, ?_⟩) ⟨cy3, x33, x34⟩ (fun _ => trivial) ?_
    rotate_left
    · intro w' hT
      obtain ⟨t1, t2, t3⟩ := hT
      go_simp
      (try rw [if_pos (by omega)])
      (try with_reducible rfl)
    rotate_left
    (try simp only [Act.put, List.setIfInBounds_toArray, List.set_cons_zero, List.set_cons_succ])
    refine wpKeep_takeT (i := 2) (oi := ⟨some 51, _, _, _, _, _⟩) (v := ?_) rfl (by kernel_rfl) (by kernel_rfl) (by kernel_rfl) (by kernel_rfl) (fun _ _ _ h => h) (Or.inl ⟨by rfl, ?_⟩) ⟨cy3, x33, x34⟩ (fun _ => trivial) ?_
    rotate_left
    · intro w' hT
      obtain ⟨t1, t2, t3⟩ := hT
      go_simp
      (try rw [if_pos (by omega)])
      (try with_reducible rfl)
    rotate_left
    (try simp only [Act.put, List.setIfInBounds_toArray, List.set_cons_zero, List.set_cons_succ])
    refine wpKeep_takeT (i := 3) (oi := ⟨some 52, _, _, _, _, _⟩) (v := ?_) rfl (by kernel_rfl) (by kernel_rfl) (by kernel_rfl) (by kernel_rfl) (fun _ _ _ h => h) (Or.inl ⟨by rfl, ?_⟩) ⟨cy3, x33, x34⟩ (fun _ => trivial) ?_
    rotate_left
    · intro w' hT
      obtain ⟨t1, t2, t3⟩ := hT
      go_simp
      (try rw [if_pos (by omega)])
      (try with_reducible rfl)
    rotate_left
    (try simp only [Act.put, List.setIfInBounds_toArray, List.set_cons_zero, List.set_cons_succ])
    refine wpKeep_takeT (i := 4) (oi := ⟨some 53, _, _, _, _, _⟩) (v := ?_) rfl (by kernel_rfl) (by kernel_rfl) (by kernel_rfl) (by kernel_rfl) (fun _ _ _ h => h) (Or.inl ⟨by rfl, ?_⟩) ⟨cy3, x33, x34⟩ (fun _ => trivial) ?_
    rotate_left
    · intro w' hT
      obtain ⟨t1, t2, t3⟩ := hT
      go_simp
      (try rw [if_pos (by omega)])
      (try with_reducible rfl)
    rotate_left
    (try simp only [Act.put, List.setIfInBounds_toArray, List.set_cons_zero, List.set_cons_succ])
    refine wpKeep_takeT (i := 5) (oi := ⟨some 54, _, _, _, _, _⟩) (v := ?_) rfl (by kernel_rfl) (by kernel_rfl) (by kernel_rfl) (by kernel_rfl) (fun _ _ _ h => h) (Or.inl ⟨by rfl, ?_⟩) ⟨cy3, x33, x34⟩ (fun _ => trivial) ?_
    rotate_left
    · intro w' hT
      obtain ⟨t1, t2, t3⟩ := hT
      go_simp
      (try rw [if_pos (by omega)])
      (try with_reducible rfl)
    rotate_left
    (try simp only [Act.put, List.setIfInBounds_toArray, List.set_cons_zero, List.set_cons_succ])
    refine wpKeep_takeT (i := 6) (oi := ⟨some 55, _, _, _, _, _⟩) (v := ?_) rfl (by kernel_rfl) (by kernel_rfl) (by kernel_rfl) (by kernel_rfl) (fun _ _ _ h => h) (Or.inl ⟨by rfl, ?_⟩) ⟨cy3, x33, x34⟩ (fun _ => trivial) ?_
    rotate_left
    · intro w' hT
      obtain ⟨t1, t2, t3⟩ := hT
      go_simp
      (try rw [if_pos (by omega)])
      (try with_reducible rfl)
    rotate_left
    (try simp only [Act.put, List.setIfInBounds_toArray, List.set_cons_zero, List.set_cons_succ])
    refine wpKeep_takeT (i := 7) (oi := ⟨some 56, _, _, _, _, _⟩) (v := ?_) rfl (by kernel_rfl) (by kernel_rfl) (by kernel_rfl) (by kernel_rfl) (fun _ _ _ h => h) (Or.inl ⟨by rfl, ?_⟩) ⟨cy3, x33, x34⟩ (fun _ => trivial) ?_
    rotate_left
    · intro w' hT
      obtain ⟨t1, t2, t3⟩ := hT
      go_simp
      (try rw [if_pos (by omega)])
      (try with_reducible rfl)
    rotate_left
    (try simp only [Act.put, List.setIfInBounds_toArray, List.set_cons_zero, List.set_cons_succ])
    refine wpKeep_takeT (i := 8) (oi := ⟨some 57, _, _, _, _, _⟩) (v := ?_) rfl (by kernel_rfl) (by kernel_rfl) (by kernel_rfl) (by kernel_rfl) (fun _ _ _ h => h) (Or.inl ⟨by rfl, ?_⟩) ⟨cy3, x33, x34⟩ (fun _ => trivial) ?_
    rotate_left
    · intro w' hT
      obtain ⟨t1, t2, t3⟩ := hT
      go_simp
      (try rw [if_pos (by omega)])
      (try with_reducible rfl)
    rotate_left
    (try simp only [Act.put, List.setIfInBounds_toArray, List.set_cons_zero, List.set_cons_succ])
    refine wpKeep_takeT (i := 9) (oi := ⟨some 58, _, _, _, _, _⟩) (v := ?_) rfl (by kernel_rfl) (by kernel_rfl) (by kernel_rfl) (by kernel_rfl) (fun _ _ _ h => h) (Or.inl ⟨by rfl, ?_⟩) ⟨cy3, x33, x34⟩ (fun _ => trivial) ?_
    rotate_left
    · intro w' hT
      obtain ⟨t1, t2, t3⟩ := hT
      go_simp
      (try rw [if_pos (by omega)])
      (try with_reducible rfl)
    rotate_left
    (try simp only [Act.put, List.setIfInBounds_toArray, List.set_cons_zero, List.set_cons_succ])
    refine wpKeep_takeT (i := 10) (oi := ⟨some 59, _, _, _, _, _⟩) (v := ?_) rfl (by kernel_rfl) (by kernel_rfl) (by kernel_rfl) (by kernel_rfl) (fun _ _ _ h => h) (Or.inl ⟨by rfl, ?_⟩) ⟨cy3, x33, x34⟩ (fun _ => trivial) ?_
    rotate_left
    · intro w' hT
      obtain ⟨t1, t2, t3⟩ := hT
      go_simp
      (try rw [if_pos (by omega)])
      (try with_reducible rfl)
    rotate_left
    (try simp only [Act.put, List.setIfInBounds_toArray, List.set_cons_zero, List.set_cons_succ])
    refine wpKeep_ready (rs := [11]) (by kernel_rfl) (by simp) ?_
    refine AllKeep.cons (o := ⟨some 60, _, _, _, _, _⟩) rfl (fun Kq hK => ?_) AllKeep.nil
    go_simp
    go_at_call 16
    refine HDS.out.mono ?_
    rintro e w4 ⟨rfl, hd4⟩
    obtain ⟨c4, dv4, T4, k4⟩ := HT3.out.setDoc (show 0 < 2 by omega) hd4
    have cy4 := (cell_at T4.box 2).trans (show _ = some (Value.pointer (some ⟨y 0, 0, none⟩)) from rfl)
    have hop4 := hd4.off (HOPW.out) HYX.out
    have x43 := (cell_at hop4 3).trans (show _ = some (Value.string (str key)) from rfl)
    have x44 := (cell_at hop4 4).trans (show _ = some (Value.string (str val)) from rfl)
    refine hK.out _ _ ⟨cy4, x43, x44⟩ (fun _ => trivial) ?_
    clear hK Kq
    (try simp only [Act.put, List.setIfInBounds_toArray, List.set_cons_zero, List.set_cons_succ])
    refine wpKeep_takeT (i := 12) (oi := ⟨some 61, _, _, _, _, _⟩) (v := ?_) rfl (by kernel_rfl) (by kernel_rfl) (by kernel_rfl) (by kernel_rfl) (fun _ _ _ h => h) (Or.inl ⟨by rfl, ?_⟩) ⟨cy4, x43, x44⟩ (fun _ => trivial) ?_
    rotate_left
    · intro w' hT
      obtain ⟨t1, t2, t3⟩ := hT
      go_simp
      (try rw [if_pos (by omega)])
      (try with_reducible rfl)
    rotate_left
    (try simp only [Act.put, List.setIfInBounds_toArray, List.set_cons_zero, List.set_cons_succ])
    refine wpKeep_takeT (i := 13) (oi := ⟨some 4, _, _, _, _, _⟩) (v := ?_) rfl (by kernel_rfl) (by kernel_rfl) (by kernel_rfl) (by kernel_rfl) (fun _ _ _ h => h) (Or.inl ⟨by rfl, ?_⟩) ⟨cy4, x43, x44⟩ (fun _ => trivial) ?_
    rotate_left
    · intro w' hT
      obtain ⟨t1, t2, t3⟩ := hT
      go_simp
      (try rw [if_pos (by omega)])
      (try with_reducible rfl)
    rotate_left
    (try simp only [Act.put, List.setIfInBounds_toArray, List.set_cons_zero, List.set_cons_succ])
    refine wpKeep_done (by kernel_rfl) ?_ _
    have HFIN : Hid (After B w4 ob (N + 2) (M + 1)) := After.of (T4.most (by omega)) (fun k hk => by
      by_cases e : k = 0
      · subst e
        rw [updt_at, updt_at]; exact HTK.out
      · rw [updt_ne _ _ e, updt_ne _ _ e]; exact HH.out k hk) (fun k hk => by
      by_cases e : k = 0
      · subst e
        rw [updt_at]; have := HC3.out; have := HX.out.2.2; omega
      · rw [updt_ne _ _ e]; have := HN.out k hk; omega)
    have HK4 := hid (HKB.out.trans k4)
    clear hd4 T4 k4 x33 x34 cy3 cy4 hop4 x43 x44
    go_wp2_with fail
    go_ret
    exact ⟨by first | rfl | simp, HFIN.out, HK4.out⟩

set_option maxRecDepth 100000 in
set_option maxHeartbeats 8000000 in
theorem play_remove (B ob N M : Nat) (c : Nat → Nat) (w : World) (kp : Bool) (m y n : Nat → Nat) (t : Nat → Tr) (dv : Nat → Value) (L : Nat → List Ent) (lv fv wv : Value) (A F Wv : List Value) (C : List Texts) (h : TW B c w ob kp m y t n dv L lv fv wv A F Wv C N) (hh : ∀ k, k < 2 → Has (t k) (L k)) (hn : ∀ k, k < 2 → n k ≤ M) (hM : M ≤ 900) (hN : N ≤ 900) (hd : Dig w) (hgB : 3 ≤ B)
    (oo kb : Bool) (key val : List UInt8) (hkey : key.length ≤ 9223372036854775807) (hval : val.length ≤ 9223372036854775807) :
    Calls Tryz.prog 7 #[.pointer (some ⟨ob, 0, none⟩), .agg #[.bool oo, .bool kb, .int .i64 2, .string (str key), .string (str val)]] w fun e w' => e = .returned (.bool true) ∧ After B w' ob (N + 2) (M + 1) ∧ Keeps (fun q => B ≤ q) w w' := by
  have H := hid h
  have HH := hid hh
  have HN := hid hn
  have HD := hid fun W (k : Keeps (fun q => B ≤ q) w W) => hd.keepsOut (k.mono fun q _ e => .inr e) hgB hgB
  have hu := And.intro hM (And.intro hN (And.intro hkey hval))
  clear hu
  have hbl := lt_of_block h.box
  have c7 := ((Keeps.refl (fun _ => False) w).alloc (opObj oo kb (2) key val)).at_ h.box (fun h => h)
  have d7 := free_at c7 7
  replace c7 := (cell_at c7 7).trans (show _ = some (Value.bool kp) from rfl)
  unfold opObj at c7 d7
  clear h hh hn hd
  cases oo with
  | true =>
    go_enter Tryz.func7, Tryz.ntmps7
    go_wp2_with fail
    obtain ⟨W1, hW1⟩ : ∃ W1, (w.setCell ⟨ob, 7, none⟩ (.bool kb)).alloc (opObj true kb (2) key val) = W1 := ⟨_, rfl⟩
    obtain ⟨h1, hop, k1, hBob⟩ := H.out.open_ true kb (2) key val hW1
    unfold opObj at hW1 hop
    rw [hW1]
    have hB1 : Keeps (fun q => B ≤ q) w W1 := k1.mono (fun q _ e => by rw [e]; exact hBob)
    obtain ⟨xb, hxb⟩ : ∃ xb, w.heap.size = xb := ⟨_, rfl⟩
    rw [hxb] at hop ⊢
    have x3 := (cell_at hop 3).trans (show _ = some (Value.string (str key)) from rfl)
    have x4 := (cell_at hop 4).trans (show _ = some (Value.string (str val)) from rfl)
    have cm := (cell_at h1.box 1).trans (show _ = some (Value.pointer (some ⟨m 1, 0, none⟩)) from rfl)
    have cy := (cell_at h1.box 3).trans (show _ = some (Value.pointer (some ⟨y 1, 0, none⟩)) from rfl)
    have hob1 := lt_of_block h1.box
    have hxb1 := lt_of_block hop
    have hD1 := HD.out W1 hB1
    have hMap := h1.map 1 (by omega)
    have hDoc := h1.doc 1 (by omega)
    have hHas := HH.out 1 (by omega)
    have hnk := HN.out 1 (by omega)
    have hgood := hMap.good
    have hlen : (L 1).length = n 1 := (hHas.len hgood).trans hMap.count
    have hxm : ¬ xb = m 1 := fun e => by have := (H.out.map 1 (by omega)).lt; omega
    have H1 := hid h1
    have HB1 := hid hB1
    have HOP := hid hop
    have HXD : Hid (¬ xb = y 1 ∧ ∀ g, (dv 1).ownBlock = some g → g ≠ xb) := ⟨fun e => by have := lt_of_block (H.out.doc 1 (by omega)).box; omega, fun g hg => by have := ((H.out.doc 1 (by omega)).row.lt g hg).2; omega⟩
    have HS := hid fun W (f : Fresh W1 W) => mrem_all (m 1) (n 1) (t 1) key W (hMap.fresh f) (hD1.fresh f) (by omega) hkey
    have HTK := hid (hHas.remT hgood key)
    have HGK := hid (And.intro hgood hHas)
    have HX := hid (And.intro hxm (And.intro hlen hnk))
    clear hMap hDoc hHas hgood hD1 hlen hnk hxm h1 hB1 hop k1 hBob hW1 hxb c7 d7
    obtain ⟨⟨e1, e2⟩, her⟩ : ∃ er, (t 1).remV key = er := ⟨_, rfl⟩
    have HER := hid her
    rw [her] at HS
    simp only at HS
    have hq : (e1 == e1) = true := by simp
    have hq2 : (e2 == e2) = true := by simp
    clear her
    refine wp_region_keep 14 (fun w' => w'.cell? ⟨ob, 1, none⟩ = some (.pointer (some ⟨m 1, 0, none⟩)) ∧ w'.cell? ⟨xb, 3, none⟩ = some (.string (str key)) ∧ w'.cell? ⟨xb, 4, none⟩ = some (.string (str val))) (fun _ => True) (fun _ => true) (by kernel_rfl) (by kernel_rfl) ?_
    (try (change wpKeep _ _ _ _ _ _ _ _ _ _ (World.drew _)))
    refine wpKeep_takeT (i := 0) (oi := ⟨some 65, _, _, _, _, _⟩) (v := ?_) rfl (by kernel_rfl) (by kernel_rfl) (by kernel_rfl) (by kernel_rfl) (fun _ _ _ h => h) (Or.inl ⟨by rfl, ?_⟩) ⟨cm, x3, x4⟩ (fun _ => trivial) ?_
    rotate_left
    · intro w' hT
      obtain ⟨t1, t2, t3⟩ := hT
      go_simp
      (try rw [if_pos (by omega)])
      (try with_reducible rfl)
    rotate_left
    (try simp only [Act.put, List.setIfInBounds_toArray, List.set_cons_zero, List.set_cons_succ])
    refine wpKeep_takeT (i := 1) (oi := ⟨some 66, _, _, _, _, _⟩) (v := ?_) rfl (by kernel_rfl) (by kernel_rfl) (by kernel_rfl) (by kernel_rfl) (fun _ _ _ h => h) (Or.inl ⟨by rfl, ?_⟩) ⟨cm, x3, x4⟩ (fun _ => trivial) ?_
    rotate_left
    · intro w' hT
      obtain ⟨t1, t2, t3⟩ := hT
      go_simp
      (try rw [if_pos (by omega)])
      (try with_reducible rfl)
    rotate_left
    (try simp only [Act.put, List.setIfInBounds_toArray, List.set_cons_zero, List.set_cons_succ])
    refine wpKeep_takeT (i := 2) (oi := ⟨some 67, _, _, _, _, _⟩) (v := ?_) rfl (by kernel_rfl) (by kernel_rfl) (by kernel_rfl) (by kernel_rfl) (fun _ _ _ h => h) (Or.inl ⟨by rfl, ?_⟩) ⟨cm, x3, x4⟩ (fun _ => trivial) ?_
    rotate_left
    · intro w' hT
      obtain ⟨t1, t2, t3⟩ := hT
      go_simp
      (try rw [if_pos (by omega)])
      (try with_reducible rfl)
    rotate_left
    (try simp only [Act.put, List.setIfInBounds_toArray, List.set_cons_zero, List.set_cons_succ])
    refine wpKeep_takeT (i := 3) (oi := ⟨some 68, _, _, _, _, _⟩) (v := ?_) rfl (by kernel_rfl) (by kernel_rfl) (by kernel_rfl) (by kernel_rfl) (fun _ _ _ h => h) (Or.inl ⟨by rfl, ?_⟩) ⟨cm, x3, x4⟩ (fun _ => trivial) ?_
    rotate_left
    · intro w' hT
      obtain ⟨t1, t2, t3⟩ := hT
      go_simp
      (try rw [if_pos (by omega)])
      (try with_reducible rfl)
    rotate_left
    (try simp only [Act.put, List.setIfInBounds_toArray, List.set_cons_zero, List.set_cons_succ])
    refine wpKeep_takeT (i := 4) (oi := ⟨some 69, _, _, _, _, _⟩) (v := ?_) rfl (by kernel_rfl) (by kernel_rfl) (by kernel_rfl) (by kernel_rfl) (fun _ _ _ h => h) (Or.inl ⟨by rfl, ?_⟩) ⟨cm, x3, x4⟩ (fun _ => trivial) ?_
    rotate_left
    · intro w' hT
      obtain ⟨t1, t2, t3⟩ := hT
      go_simp
      (try rw [if_pos (by omega)])
      (try with_reducible rfl)
    rotate_left
    (try simp only [Act.put, List.setIfInBounds_toArray, List.set_cons_zero, List.set_cons_succ])
    refine wpKeep_takeT (i := 5) (oi := ⟨some 70, _, _, _, _, _⟩) (v := ?_) rfl (by kernel_rfl) (by kernel_rfl) (by kernel_rfl) (by kernel_rfl) (fun _ _ _ h => h) (Or.inl ⟨by rfl, ?_⟩) ⟨cm, x3, x4⟩ (fun _ => trivial) ?_
    rotate_left
    · intro w' hT
      obtain ⟨t1, t2, t3⟩ := hT
      go_simp
      (try rw [if_pos (by omega)])
      (try with_reducible rfl)
    rotate_left
    (try simp only [Act.put, List.setIfInBounds_toArray, List.set_cons_zero, List.set_cons_succ])
    refine wpKeep_takeT (i := 6) (oi := ⟨some 71, _, _, _, _, _⟩) (v := ?_) rfl (by kernel_rfl) (by kernel_rfl) (by kernel_rfl) (by kernel_rfl) (fun _ _ _ h => h) (Or.inl ⟨by rfl, ?_⟩) ⟨cm, x3, x4⟩ (fun _ => trivial) ?_
    rotate_left
    · intro w' hT
      obtain ⟨t1, t2, t3⟩ := hT
      go_simp
      (try rw [if_pos (by omega)])
      (try with_reducible rfl)
    rotate_left
    (try simp only [Act.put, List.setIfInBounds_toArray, List.set_cons_zero, List.set_cons_succ])
    refine wpKeep_takeT (i := 7) (oi := ⟨some 72, _, _, _, _, _⟩) (v := ?_) rfl (by kernel_rfl) (by kernel_rfl) (by kernel_rfl) (by kernel_rfl) (fun _ _ _ h => h) (Or.inl ⟨by rfl, ?_⟩) ⟨cm, x3, x4⟩ (fun _ => trivial) ?_
    rotate_left
    · intro w' hT
      obtain ⟨t1, t2, t3⟩ := hT
      go_simp
      (try rw [if_pos (by omega)])
      (try with_reducible rfl)
    rotate_left
    (try simp only [Act.put, List.setIfInBounds_toArray, List.set_cons_zero, List.set_cons_succ])
    refine wpKeep_ready (rs := [8]) (by kernel_rfl) (by simp) ?_
    refine AllKeep.cons (o := ⟨some 73, _, _, _, _, _⟩) rfl (fun Kq hK => ?_) AllKeep.nil
    go_simp
    go_at_call 17
    refine (HS.out _ (Keeps.refl (fun _ => False) W1).drew).mono ?_
    rintro e w3 ⟨rfl, c2, k3, hm3, hc3⟩
    have f1 : Fresh W1 W1.drew := (Keeps.refl _ _).drew
    have T3 := (H1.out.fresh f1).setMap (show 1 < 2 by omega) k3 hm3
    have kB3 := HB1.out.trans ((f1.mono fun _ _ h => h.elim).trans ((H1.out.fresh f1).owns k3 (fun g e => by rw [e, (H1.out.fresh f1).cmap 1 (by omega)]; omega)))
    have hop3 := k3.at_ (f1.at_ HOP.out (fun h => h)) HX.out.1
    have x33 := (cell_at hop3 3).trans (show _ = some (Value.string (str key)) from rfl)
    have x34 := (cell_at hop3 4).trans (show _ = some (Value.string (str val)) from rfl)
    have cy3 := (cell_at T3.box 3).trans (show _ = some (Value.pointer (some ⟨y 1, 0, none⟩)) from rfl)
    have cm3 := (cell_at T3.box 1).trans (show _ = some (Value.pointer (some ⟨m 1, 0, none⟩)) from rfl)
    refine hK.out _ _ ⟨cm3, x33, x34⟩ (fun _ => trivial) ?_
    clear hK Kq
    (try simp only [Act.put, List.setIfInBounds_toArray, List.set_cons_zero, List.set_cons_succ])
    refine wpKeep_takeT (i := 9) (oi := ⟨some 64, _, _, _, _, _⟩) (v := ?_) rfl (by kernel_rfl) (by kernel_rfl) (by kernel_rfl) (by kernel_rfl) (fun _ _ _ h => h) (Or.inl ⟨by rfl, ?_⟩) ⟨cm3, x33, x34⟩ (fun _ => trivial) ?_
    rotate_left
    · intro w' hT
      obtain ⟨t1, t2, t3⟩ := hT
      go_simp
      (try rw [if_pos (by omega)])
      (try with_reducible rfl)
    rotate_left
    (try simp only [Act.put, List.setIfInBounds_toArray, List.set_cons_zero, List.set_cons_succ])
    refine wpKeep_takeT (i := 10) (oi := ⟨some 74, _, _, _, _, _⟩) (v := ?_) rfl (by kernel_rfl) (by kernel_rfl) (by kernel_rfl) (by kernel_rfl) (fun _ _ _ h => h) (Or.inl ⟨by rfl, ?_⟩) ⟨cm3, x33, x34⟩ (fun _ => trivial) ?_
    rotate_left
    · intro w' hT
      obtain ⟨t1, t2, t3⟩ := hT
      go_simp
      (try rw [if_pos (by omega)])
      (try with_reducible rfl)
    rotate_left
    (try simp only [Act.put, List.setIfInBounds_toArray, List.set_cons_zero, List.set_cons_succ])
    refine wpKeep_takeT (i := 11) (oi := ⟨some 75, _, _, _, _, _⟩) (v := ?_) rfl (by kernel_rfl) (by kernel_rfl) (by kernel_rfl) (by kernel_rfl) (fun _ _ _ h => h) (Or.inl ⟨by rfl, ?_⟩) ⟨cm3, x33, x34⟩ (fun _ => trivial) ?_
    rotate_left
    · intro w' hT
      obtain ⟨t1, t2, t3⟩ := hT
      go_simp
      (try rw [if_pos (by omega)])
      (try with_reducible rfl)
    rotate_left
    (try simp only [Act.put, List.setIfInBounds_toArray, List.set_cons_zero, List.set_cons_succ])
    refine wpKeep_takeT (i := 12) (oi := ⟨some 7, _, _, _, _, _⟩) (v := ?_) rfl (by kernel_rfl) (by kernel_rfl) (by kernel_rfl) (by kernel_rfl) (fun _ _ _ h => h) (Or.inl ⟨by rfl, ?_⟩) ⟨cm3, x33, x34⟩ (fun _ => trivial) ?_
    rotate_left
    · intro w' hT
      obtain ⟨t1, t2, t3⟩ := hT
      go_simp
      (try rw [if_pos (by omega)])
      (try with_reducible rfl)
    rotate_left
    (try simp only [Act.put, List.setIfInBounds_toArray, List.set_cons_zero, List.set_cons_succ])
    refine wpKeep_takeT (i := 13) (oi := ⟨some 8, _, _, _, _, _⟩) (v := ?_) rfl (by kernel_rfl) (by kernel_rfl) (by kernel_rfl) (by kernel_rfl) (fun _ _ _ h => h) (Or.inl ⟨by rfl, ?_⟩) ⟨cm3, x33, x34⟩ (fun _ => trivial) ?_
    rotate_left
    · intro w' hT
      obtain ⟨t1, t2, t3⟩ := hT
      go_simp
      (try rw [if_pos (by omega)])
      (try with_reducible rfl)
    rotate_left
    (try simp only [Act.put, List.setIfInBounds_toArray, List.set_cons_zero, List.set_cons_succ])
    refine wpKeep_done (by kernel_rfl) ?_ _
    have T3d := T3.fresh (Keeps.refl (fun _ => False) w3).drew
    have hDoc3 := T3d.doc 1 (by omega)
    have HDS := hid (drem_all (y 1) (dv 1) (L 1) (t 1) key w3.drew hDoc3 (by have := HX.out.2.1; have := HX.out.2.2; omega) HGK.out.1 HGK.out.2 hkey)
    have HT3 := hid T3d
    have HKB := hid (kB3.trans ((Keeps.refl (fun q => B ≤ q) w3).drew))
    have HC3 := hid hc3
    have HOPW := hid (show w3.drew.heap[xb]? = _ from hop3)
    have HYX : Hid (¬ xb = y 1 ∧ ∀ g, (dv 1).ownBlock = some g → g ≠ xb) := HXD.out
    rw [HER.out] at HDS
    simp only at HDS
    clear cm cy x3 x4 k3 hm3 hc3 f1 T3 kB3 hop3 T3d hDoc3 cm3
    go_wp2_with fail
    refine wp_region_keep 14 (fun w' => w'.cell? ⟨ob, 3, none⟩ = some (.pointer (some ⟨y 1, 0, none⟩)) ∧ w'.cell? ⟨xb, 3, none⟩ = some (.string (str key)) ∧ w'.cell? ⟨xb, 4, none⟩ = some (.string (str val))) (fun _ => True) (fun _ => true) (by kernel_rfl) (by kernel_rfl) ?_
    (try (change wpKeep _ _ _ _ _ _ _ _ _ _ (World.drew _)))
    refine wpKeep_takeT (i := 0) (oi := ⟨some 77, _, _, _, _, _⟩) (v := ?_) rfl (by kernel_rfl) (by kernel_rfl) (by kernel_rfl) (by kernel_rfl) (fun _ _ _ h => h) (Or.inl ⟨by rfl, ?_⟩) ⟨cy3, x33, x34⟩ (fun _ => trivial) ?_
    rotate_left
    · intro w' hT
      obtain ⟨t1, t2, t3⟩ := hT
      go_simp
      (try rw [if_pos (by omega)])
      (try with_reducible rfl)
    rotate_left
    (try simp only [Act.put, List.setIfInBounds_toArray, List.set_cons_zero, List.set_cons_succ])
    refine wpKeep_takeT (i := 1) (oi := ⟨some 78, _, _, _, _, _⟩) (v := ?_) rfl (by kernel_rfl) (by kernel_rfl) (by kernel_rfl) (by kernel_rfl) (fun _ _ _ h => h) (Or.inl ⟨by rfl, ?_⟩) ⟨cy3, x33, x34⟩ (fun _ => trivial) ?_
    rotate_left
    · intro w' hT
      obtain ⟨t1, t2, t3⟩ := hT
      go_simp
      (try rw [if_pos (by omega)])
      (try with_reducible rfl)
    rotate_left
    (try simp only [Act.put, List.setIfInBounds_toArray, List.set_cons_zero, List.set_cons_succ])
    refine wpKeep_takeT (i := 2) (oi := ⟨some 79, _, _, _, _, _⟩) (v := ?_) rfl (by kernel_rfl) (by kernel_rfl) (by kernel_rfl) (by kernel_rfl) (fun _ _ _ h => h) (Or.inl ⟨by rfl, ?_⟩) ⟨cy3, x33, x34⟩ (fun _ => trivial) ?_
    rotate_left
    · intro w' hT
      obtain ⟨t1, t2, t3⟩ := hT
      go_simp
      (try rw [if_pos (by omega)])
      (try with_reducible rfl)
    rotate_left
    (try simp only [Act.put, List.setIfInBounds_toArray, List.set_cons_zero, List.set_cons_succ])
    refine wpKeep_takeT (i := 3) (oi := ⟨some 80, _, _, _, _, _⟩) (v := ?_) rfl (by kernel_rfl) (by kernel_rfl) (by kernel_rfl) (by kernel_rfl) (fun _ _ _ h => h) (Or.inl ⟨by rfl, ?_⟩) ⟨cy3, x33, x34⟩ (fun _ => trivial) ?_
    rotate_left
    · intro w' hT
      obtain ⟨t1, t2, t3⟩ := hT
      go_simp
      (try rw [if_pos (by omega)])
      (try with_reducible rfl)
    rotate_left
    (try simp only [Act.put, List.setIfInBounds_toArray, List.set_cons_zero, List.set_cons_succ])
    refine wpKeep_takeT (i := 4) (oi := ⟨some 81, _, _, _, _, _⟩) (v := ?_) rfl (by kernel_rfl) (by kernel_rfl) (by kernel_rfl) (by kernel_rfl) (fun _ _ _ h => h) (Or.inl ⟨by rfl, ?_⟩) ⟨cy3, x33, x34⟩ (fun _ => trivial) ?_
    rotate_left
    · intro w' hT
      obtain ⟨t1, t2, t3⟩ := hT
      go_simp
      (try rw [if_pos (by omega)])
      (try with_reducible rfl)
    rotate_left
    (try simp only [Act.put, List.setIfInBounds_toArray, List.set_cons_zero, List.set_cons_succ])
    refine wpKeep_takeT (i := 5) (oi := ⟨some 82, _, _, _, _, _⟩) (v := ?_) rfl (by kernel_rfl) (by kernel_rfl) (by kernel_rfl) (by kernel_rfl) (fun _ _ _ h => h) (Or.inl ⟨by rfl, ?_⟩) ⟨cy3, x33, x34⟩ (fun _ => trivial) ?_
    rotate_left
    · intro w' hT
      obtain ⟨t1, t2, t3⟩ := hT
      go_simp
      (try rw [if_pos (by omega)])
      (try with_reducible rfl)
    rotate_left
    (try simp only [Act.put, List.setIfInBounds_toArray, List.set_cons_zero, List.set_cons_succ])
    refine wpKeep_takeT (i := 6) (oi := ⟨some 83, _, _, _, _, _⟩) (v := ?_) rfl (by kernel_rfl) (by kernel_rfl) (by kernel_rfl) (by kernel_rfl) (fun _ _ _ h => h) (Or.inl ⟨by rfl, ?_⟩) ⟨cy3, x33, x34⟩ (fun _ => trivial) ?_
    rotate_left
    · intro w' hT
      obtain ⟨t1, t2, t3⟩ := hT
      go_simp
      (try rw [if_pos (by omega)])
      (try with_reducible rfl)
    rotate_left
    (try simp only [Act.put, List.setIfInBounds_toArray, List.set_cons_zero, List.set_cons_succ])
    refine wpKeep_takeT (i := 7) (oi := ⟨some 84, _, _, _, _, _⟩) (v := ?_) rfl (by kernel_rfl) (by kernel_rfl) (by kernel_rfl) (by kernel_rfl) (fun _ _ _ h => h) (Or.inl ⟨by rfl, ?_⟩) ⟨cy3, x33, x34⟩ (fun _ => trivial) ?_
    rotate_left
    · intro w' hT
      obtain ⟨t1, t2, t3⟩ := hT
      go_simp
      (try rw [if_pos (by omega)])
      (try with_reducible rfl)
    rotate_left
    (try simp only [Act.put, List.setIfInBounds_toArray, List.set_cons_zero, List.set_cons_succ])
    refine wpKeep_ready (rs := [8]) (by kernel_rfl) (by simp) ?_
    refine AllKeep.cons (o := ⟨some 85, _, _, _, _, _⟩) rfl (fun Kq hK => ?_) AllKeep.nil
    go_simp
    go_at_call 18
    refine HDS.out.mono ?_
    rintro e w4 ⟨rfl, hd4⟩
    obtain ⟨c4, dv4, T4, k4⟩ := HT3.out.setDoc (show 1 < 2 by omega) hd4
    have cy4 := (cell_at T4.box 3).trans (show _ = some (Value.pointer (some ⟨y 1, 0, none⟩)) from rfl)
    have hop4 := hd4.off (HOPW.out) HYX.out
    have x43 := (cell_at hop4 3).trans (show _ = some (Value.string (str key)) from rfl)
    have x44 := (cell_at hop4 4).trans (show _ = some (Value.string (str val)) from rfl)
    refine hK.out _ _ ⟨cy4, x43, x44⟩ (fun _ => trivial) ?_
    clear hK Kq
    (try simp only [Act.put, List.setIfInBounds_toArray, List.set_cons_zero, List.set_cons_succ])
    refine wpKeep_takeT (i := 9) (oi := ⟨some 76, _, _, _, _, _⟩) (v := ?_) rfl (by kernel_rfl) (by kernel_rfl) (by kernel_rfl) (by kernel_rfl) (fun _ _ _ h => h) (Or.inl ⟨by rfl, ?_⟩) ⟨cy4, x43, x44⟩ (fun _ => trivial) ?_
    rotate_left
    · intro w' hT
      obtain ⟨t1, t2, t3⟩ := hT
      go_simp
      (try rw [if_pos (by omega)])
      (try with_reducible rfl)
    rotate_left
    (try simp only [Act.put, List.setIfInBounds_toArray, List.set_cons_zero, List.set_cons_succ])
    refine wpKeep_takeT (i := 10) (oi := ⟨some 86, _, _, _, _, _⟩) (v := ?_) rfl (by kernel_rfl) (by kernel_rfl) (by kernel_rfl) (by kernel_rfl) (fun _ _ _ h => h) (Or.inl ⟨by rfl, ?_⟩) ⟨cy4, x43, x44⟩ (fun _ => trivial) ?_
    rotate_left
    · intro w' hT
      obtain ⟨t1, t2, t3⟩ := hT
      go_simp
      (try rw [if_pos (by omega)])
      (try with_reducible rfl)
    rotate_left
    (try simp only [Act.put, List.setIfInBounds_toArray, List.set_cons_zero, List.set_cons_succ])
    refine wpKeep_takeT (i := 11) (oi := ⟨some 87, _, _, _, _, _⟩) (v := ?_) rfl (by kernel_rfl) (by kernel_rfl) (by kernel_rfl) (by kernel_rfl) (fun _ _ _ h => h) (Or.inl ⟨by rfl, ?_⟩) ⟨cy4, x43, x44⟩ (fun _ => trivial) ?_
    rotate_left
    · intro w' hT
      obtain ⟨t1, t2, t3⟩ := hT
      go_simp
      (try rw [if_pos (by omega)])
      (try with_reducible rfl)
    rotate_left
    (try simp only [Act.put, List.setIfInBounds_toArray, List.set_cons_zero, List.set_cons_succ])
    refine wpKeep_takeT (i := 12) (oi := ⟨some 9, _, _, _, _, _⟩) (v := ?_) rfl (by kernel_rfl) (by kernel_rfl) (by kernel_rfl) (by kernel_rfl) (fun _ _ _ h => h) (Or.inl ⟨by rfl, ?_⟩) ⟨cy4, x43, x44⟩ (fun _ => trivial) ?_
    rotate_left
    · intro w' hT
      obtain ⟨t1, t2, t3⟩ := hT
      go_simp
      (try rw [if_pos (by omega)])
      (try with_reducible rfl)
    rotate_left
    (try simp only [Act.put, List.setIfInBounds_toArray, List.set_cons_zero, List.set_cons_succ])
    refine wpKeep_takeT (i := 13) (oi := ⟨some 10, _, _, _, _, _⟩) (v := ?_) rfl (by kernel_rfl) (by kernel_rfl) (by kernel_rfl) (by kernel_rfl) (fun _ _ _ h => h) (Or.inl ⟨by rfl, ?_⟩) ⟨cy4, x43, x44⟩ (fun _ => trivial) ?_
    rotate_left
    · intro w' hT
      obtain ⟨t1, t2, t3⟩ := hT
      go_simp
      (try rw [if_pos (by omega)])
      (try with_reducible rfl)
    rotate_left
    (try simp only [Act.put, List.setIfInBounds_toArray, List.set_cons_zero, List.set_cons_succ])
    refine wpKeep_done (by kernel_rfl) ?_ _
    have HFIN : Hid (After B w4 ob (N + 2) (M + 1)) := After.of (T4.most (by omega)) (fun k hk => by
      by_cases e : k = 1
      · subst e
        rw [updt_at, updt_at]; exact HTK.out
      · rw [updt_ne _ _ e, updt_ne _ _ e]; exact HH.out k hk) (fun k hk => by
      by_cases e : k = 1
      · subst e
        rw [updt_at]; have := HC3.out; have := HX.out.2.2; omega
      · rw [updt_ne _ _ e]; have := HN.out k hk; omega)
    have HK4 := hid (HKB.out.trans k4)
    clear hd4 T4 k4 x33 x34 cy3 cy4 hop4 x43 x44
    go_wp2_with fail
    go_ret
    exact ⟨by first | rfl | simp, HFIN.out, HK4.out⟩
  | false =>
    go_enter Tryz.func7, Tryz.ntmps7
    go_wp2_with fail
    obtain ⟨W1, hW1⟩ : ∃ W1, (w.setCell ⟨ob, 7, none⟩ (.bool kb)).alloc (opObj false kb (2) key val) = W1 := ⟨_, rfl⟩
    obtain ⟨h1, hop, k1, hBob⟩ := H.out.open_ false kb (2) key val hW1
    unfold opObj at hW1 hop
    rw [hW1]
    have hB1 : Keeps (fun q => B ≤ q) w W1 := k1.mono (fun q _ e => by rw [e]; exact hBob)
    obtain ⟨xb, hxb⟩ : ∃ xb, w.heap.size = xb := ⟨_, rfl⟩
    rw [hxb] at hop ⊢
    have x3 := (cell_at hop 3).trans (show _ = some (Value.string (str key)) from rfl)
    have x4 := (cell_at hop 4).trans (show _ = some (Value.string (str val)) from rfl)
    have cm := (cell_at h1.box 0).trans (show _ = some (Value.pointer (some ⟨m 0, 0, none⟩)) from rfl)
    have cy := (cell_at h1.box 2).trans (show _ = some (Value.pointer (some ⟨y 0, 0, none⟩)) from rfl)
    have hob1 := lt_of_block h1.box
    have hxb1 := lt_of_block hop
    have hD1 := HD.out W1 hB1
    have hMap := h1.map 0 (by omega)
    have hDoc := h1.doc 0 (by omega)
    have hHas := HH.out 0 (by omega)
    have hnk := HN.out 0 (by omega)
    have hgood := hMap.good
    have hlen : (L 0).length = n 0 := (hHas.len hgood).trans hMap.count
    have hxm : ¬ xb = m 0 := fun e => by have := (H.out.map 0 (by omega)).lt; omega
    have H1 := hid h1
    have HB1 := hid hB1
    have HOP := hid hop
    have HXD : Hid (¬ xb = y 0 ∧ ∀ g, (dv 0).ownBlock = some g → g ≠ xb) := ⟨fun e => by have := lt_of_block (H.out.doc 0 (by omega)).box; omega, fun g hg => by have := ((H.out.doc 0 (by omega)).row.lt g hg).2; omega⟩
    have HS := hid fun W (f : Fresh W1 W) => mrem_all (m 0) (n 0) (t 0) key W (hMap.fresh f) (hD1.fresh f) (by omega) hkey
    have HTK := hid (hHas.remT hgood key)
    have HGK := hid (And.intro hgood hHas)
    have HX := hid (And.intro hxm (And.intro hlen hnk))
    clear hMap hDoc hHas hgood hD1 hlen hnk hxm h1 hB1 hop k1 hBob hW1 hxb c7 d7
    obtain ⟨⟨e1, e2⟩, her⟩ : ∃ er, (t 0).remV key = er := ⟨_, rfl⟩
    have HER := hid her
    rw [her] at HS
    simp only at HS
    have hq : (e1 == e1) = true := by simp
    have hq2 : (e2 == e2) = true := by simp
    clear her
    refine wp_region_keep 14 (fun w' => w'.cell? ⟨ob, 0, none⟩ = some (.pointer (some ⟨m 0, 0, none⟩)) ∧ w'.cell? ⟨xb, 3, none⟩ = some (.string (str key)) ∧ w'.cell? ⟨xb, 4, none⟩ = some (.string (str val))) (fun _ => True) (fun _ => true) (by kernel_rfl) (by kernel_rfl) ?_
    (try (change wpKeep _ _ _ _ _ _ _ _ _ _ (World.drew _)))
    refine wpKeep_takeT (i := 0) (oi := ⟨some 65, _, _, _, _, _⟩) (v := ?_) rfl (by kernel_rfl) (by kernel_rfl) (by kernel_rfl) (by kernel_rfl) (fun _ _ _ h => h) (Or.inl ⟨by rfl, ?_⟩) ⟨cm, x3, x4⟩ (fun _ => trivial) ?_
    rotate_left
    · intro w' hT
      obtain ⟨t1, t2, t3⟩ := hT
      go_simp
      (try rw [if_pos (by omega)])
      (try with_reducible rfl)
    rotate_left
    (try simp only [Act.put, List.setIfInBounds_toArray, List.set_cons_zero, List.set_cons_succ])
    refine wpKeep_takeT (i := 1) (oi := ⟨some 66, _, _, _, _, _⟩) (v := ?_) rfl (by kernel_rfl) (by kernel_rfl) (by kernel_rfl) (by kernel_rfl) (fun _ _ _ h => h) (Or.inl ⟨by rfl, ?_⟩) ⟨cm, x3, x4⟩ (fun _ => trivial) ?_
    rotate_left
    · intro w' hT
      obtain ⟨t1, t2, t3⟩ := hT
      go_simp
      (try rw [if_pos (by omega)])
      (try with_reducible rfl)
    rotate_left
    (try simp only [Act.put, List.setIfInBounds_toArray, List.set_cons_zero, List.set_cons_succ])
    refine wpKeep_takeT (i := 2) (oi := ⟨some 67, _, _, _, _, _⟩) (v := ?_) rfl (by kernel_rfl) (by kernel_rfl) (by kernel_rfl) (by kernel_rfl) (fun _ _ _ h => h) (Or.inl ⟨by rfl, ?_⟩) ⟨cm, x3, x4⟩ (fun _ => trivial) ?_
    rotate_left
    · intro w' hT
      obtain ⟨t1, t2, t3⟩ := hT
      go_simp
      (try rw [if_pos (by omega)])
      (try with_reducible rfl)
    rotate_left
    (try simp only [Act.put, List.setIfInBounds_toArray, List.set_cons_zero, List.set_cons_succ])
    refine wpKeep_takeT (i := 3) (oi := ⟨some 68, _, _, _, _, _⟩) (v := ?_) rfl (by kernel_rfl) (by kernel_rfl) (by kernel_rfl) (by kernel_rfl) (fun _ _ _ h => h) (Or.inl ⟨by rfl, ?_⟩) ⟨cm, x3, x4⟩ (fun _ => trivial) ?_
    rotate_left
    · intro w' hT
      obtain ⟨t1, t2, t3⟩ := hT
      go_simp
      (try rw [if_pos (by omega)])
      (try with_reducible rfl)
    rotate_left
    (try simp only [Act.put, List.setIfInBounds_toArray, List.set_cons_zero, List.set_cons_succ])
    refine wpKeep_takeT (i := 4) (oi := ⟨some 69, _, _, _, _, _⟩) (v := ?_) rfl (by kernel_rfl) (by kernel_rfl) (by kernel_rfl) (by kernel_rfl) (fun _ _ _ h => h) (Or.inl ⟨by rfl, ?_⟩) ⟨cm, x3, x4⟩ (fun _ => trivial) ?_
    rotate_left
    · intro w' hT
      obtain ⟨t1, t2, t3⟩ := hT
      go_simp
      (try rw [if_pos (by omega)])
      (try with_reducible rfl)
    rotate_left
    (try simp only [Act.put, List.setIfInBounds_toArray, List.set_cons_zero, List.set_cons_succ])
    refine wpKeep_takeT (i := 5) (oi := ⟨some 70, _, _, _, _, _⟩) (v := ?_) rfl (by kernel_rfl) (by kernel_rfl) (by kernel_rfl) (by kernel_rfl) (fun _ _ _ h => h) (Or.inl ⟨by rfl, ?_⟩) ⟨cm, x3, x4⟩ (fun _ => trivial) ?_
    rotate_left
    · intro w' hT
      obtain ⟨t1, t2, t3⟩ := hT
      go_simp
      (try rw [if_pos (by omega)])
      (try with_reducible rfl)
    rotate_left
    (try simp only [Act.put, List.setIfInBounds_toArray, List.set_cons_zero, List.set_cons_succ])
    refine wpKeep_takeT (i := 6) (oi := ⟨some 71, _, _, _, _, _⟩) (v := ?_) rfl (by kernel_rfl) (by kernel_rfl) (by kernel_rfl) (by kernel_rfl) (fun _ _ _ h => h) (Or.inl ⟨by rfl, ?_⟩) ⟨cm, x3, x4⟩ (fun _ => trivial) ?_
    rotate_left
    · intro w' hT
      obtain ⟨t1, t2, t3⟩ := hT
      go_simp
      (try rw [if_pos (by omega)])
      (try with_reducible rfl)
    rotate_left
    (try simp only [Act.put, List.setIfInBounds_toArray, List.set_cons_zero, List.set_cons_succ])
    refine wpKeep_takeT (i := 7) (oi := ⟨some 72, _, _, _, _, _⟩) (v := ?_) rfl (by kernel_rfl) (by kernel_rfl) (by kernel_rfl) (by kernel_rfl) (fun _ _ _ h => h) (Or.inl ⟨by rfl, ?_⟩) ⟨cm, x3, x4⟩ (fun _ => trivial) ?_
    rotate_left
    · intro w' hT
      obtain ⟨t1, t2, t3⟩ := hT
      go_simp
      (try rw [if_pos (by omega)])
      (try with_reducible rfl)
    rotate_left
    (try simp only [Act.put, List.setIfInBounds_toArray, List.set_cons_zero, List.set_cons_succ])
    refine wpKeep_ready (rs := [8]) (by kernel_rfl) (by simp) ?_
    refine AllKeep.cons (o := ⟨some 73, _, _, _, _, _⟩) rfl (fun Kq hK => ?_) AllKeep.nil
    go_simp
    go_at_call 17
    refine (HS.out _ (Keeps.refl (fun _ => False) W1).drew).mono ?_
    rintro e w3 ⟨rfl, c2, k3, hm3, hc3⟩
    have f1 : Fresh W1 W1.drew := (Keeps.refl _ _).drew
    have T3 := (H1.out.fresh f1).setMap (show 0 < 2 by omega) k3 hm3
    have kB3 := HB1.out.trans ((f1.mono fun _ _ h => h.elim).trans ((H1.out.fresh f1).owns k3 (fun g e => by rw [e, (H1.out.fresh f1).cmap 0 (by omega)]; omega)))
    have hop3 := k3.at_ (f1.at_ HOP.out (fun h => h)) HX.out.1
    have x33 := (cell_at hop3 3).trans (show _ = some (Value.string (str key)) from rfl)
    have x34 := (cell_at hop3 4).trans (show _ = some (Value.string (str val)) from rfl)
    have cy3 := (cell_at T3.box 2).trans (show _ = some (Value.pointer (some ⟨y 0, 0, none⟩)) from rfl)
    have cm3 := (cell_at T3.box 0).trans (show _ = some (Value.pointer (some ⟨m 0, 0, none⟩)) from rfl)
    refine hK.out _ _ ⟨cm3, x33, x34⟩ (fun _ => trivial) ?_
    clear hK Kq
    (try simp only [Act.put, List.setIfInBounds_toArray, List.set_cons_zero, List.set_cons_succ])
    refine wpKeep_takeT (i := 9) (oi := ⟨some 64, _, _, _, _, _⟩) (v := ?_) rfl (by kernel_rfl) (by kernel_rfl) (by kernel_rfl) (by kernel_rfl) (fun _ _ _ h => h) (Or.inl ⟨by rfl, ?_⟩) ⟨cm3, x33, x34⟩ (fun _ => trivial) ?_
    rotate_left
    · intro w' hT
      obtain ⟨t1, t2, t3⟩ := hT
      go_simp
      (try rw [if_pos (by omega)])
      (try with_reducible rfl)
    rotate_left
    (try simp only [Act.put, List.setIfInBounds_toArray, List.set_cons_zero, List.set_cons_succ])
    refine wpKeep_takeT (i := 10) (oi := ⟨some 74, _, _, _, _, _⟩) (v := ?_) rfl (by kernel_rfl) (by kernel_rfl) (by kernel_rfl) (by kernel_rfl) (fun _ _ _ h => h) (Or.inl ⟨by rfl, ?_⟩) ⟨cm3, x33, x34⟩ (fun _ => trivial) ?_
    rotate_left
    · intro w' hT
      obtain ⟨t1, t2, t3⟩ := hT
      go_simp
      (try rw [if_pos (by omega)])
      (try with_reducible rfl)
    rotate_left
    (try simp only [Act.put, List.setIfInBounds_toArray, List.set_cons_zero, List.set_cons_succ])
    refine wpKeep_takeT (i := 11) (oi := ⟨some 75, _, _, _, _, _⟩) (v := ?_) rfl (by kernel_rfl) (by kernel_rfl) (by kernel_rfl) (by kernel_rfl) (fun _ _ _ h => h) (Or.inl ⟨by rfl, ?_⟩) ⟨cm3, x33, x34⟩ (fun _ => trivial) ?_
    rotate_left
    · intro w' hT
      obtain ⟨t1, t2, t3⟩ := hT
      go_simp
      (try rw [if_pos (by omega)])
      (try with_reducible rfl)
    rotate_left
    (try simp only [Act.put, List.setIfInBounds_toArray, List.set_cons_zero, List.set_cons_succ])
    refine wpKeep_takeT (i := 12) (oi := ⟨some 7, _, _, _, _, _⟩) (v := ?_) rfl (by kernel_rfl) (by kernel_rfl) (by kernel_rfl) (by kernel_rfl) (fun _ _ _ h => h) (Or.inl ⟨by rfl, ?_⟩) ⟨cm3, x33, x34⟩ (fun _ => trivial) ?_
    rotate_left
    · intro w' hT
      obtain ⟨t1, t2, t3⟩ := hT
      go_simp
      (try rw [if_pos (by omega)])
      (try with_reducible rfl)
    rotate_left
    (try simp only [Act.put, List.setIfInBounds_toArray, List.set_cons_zero, List.set_cons_succ])
    refine wpKeep_takeT (i := 13) (oi := ⟨some 8, _, _, _, _, _⟩) (v := ?_) rfl (by kernel_rfl) (by kernel_rfl) (by kernel_rfl) (by kernel_rfl) (fun _ _ _ h => h) (Or.inl ⟨by rfl, ?_⟩) ⟨cm3, x33, x34⟩ (fun _ => trivial) ?_
    rotate_left
    · intro w' hT
      obtain ⟨t1, t2, t3⟩ := hT
      go_simp
      (try rw [if_pos (by omega)])
      (try with_reducible rfl)
    rotate_left
    (try simp only [Act.put, List.setIfInBounds_toArray, List.set_cons_zero, List.set_cons_succ])
    refine wpKeep_done (by kernel_rfl) ?_ _
    have T3d := T3.fresh (Keeps.refl (fun _ => False) w3).drew
    have hDoc3 := T3d.doc 0 (by omega)
    have HDS := hid (drem_all (y 0) (dv 0) (L 0) (t 0) key w3.drew hDoc3 (by have := HX.out.2.1; have := HX.out.2.2; omega) HGK.out.1 HGK.out.2 hkey)
    have HT3 := hid T3d
    have HKB := hid (kB3.trans ((Keeps.refl (fun q => B ≤ q) w3).drew))
    have HC3 := hid hc3
    have HOPW := hid (show w3.drew.heap[xb]? = _ from hop3)
    have HYX : Hid (¬ xb = y 0 ∧ ∀ g, (dv 0).ownBlock = some g → g ≠ xb) := HXD.out
    rw [HER.out] at HDS
    simp only at HDS
    clear cm cy x3 x4 k3 hm3 hc3 f1 T3 kB3 hop3 T3d hDoc3 cm3
    go_wp2_with fail
    refine wp_region_keep 14 (fun w' => w'.cell? ⟨ob, 2, none⟩ = some (.pointer (some ⟨y 0, 0, none⟩)) ∧ w'.cell? ⟨xb, 3, none⟩ = some (.string (str key)) ∧ w'.cell? ⟨xb, 4, none⟩ = some (.string (str val))) (fun _ => True) (fun _ => true) (by kernel_rfl) (by kernel_rfl) ?_
    (try (change wpKeep _ _ _ _ _ _ _ _ _ _ (World.drew _)))
    refine wpKeep_takeT (i := 0) (oi := ⟨some 77, _, _, _, _, _⟩) (v := ?_) rfl (by kernel_rfl) (by kernel_rfl) (by kernel_rfl) (by kernel_rfl) (fun _ _ _ h => h) (Or.inl ⟨by rfl, ?_⟩) ⟨cy3, x33, x34⟩ (fun _ => trivial) ?_
    rotate_left
    · intro w' hT
      obtain ⟨t1, t2, t3⟩ := hT
      go_simp
      (try rw [if_pos (by omega)])
      (try with_reducible rfl)
    rotate_left
    (try simp only [Act.put, List.setIfInBounds_toArray, List.set_cons_zero, List.set_cons_succ])
    refine wpKeep_takeT (i := 1) (oi := ⟨some 78, _, _, _, _, _⟩) (v := ?_) rfl (by kernel_rfl) (by kernel_rfl) (by kernel_rfl) (by kernel_rfl) (fun _ _ _ h => h) (Or.inl ⟨by rfl, ?_⟩) ⟨cy3, x33, x34⟩ (fun _ => trivial) ?_
    rotate_left
    · intro w' hT
      obtain ⟨t1, t2, t3⟩ := hT
      go_simp
      (try rw [if_pos (by omega)])
      (try with_reducible rfl)
    rotate_left
    (try simp only [Act.put, List.setIfInBounds_toArray, List.set_cons_zero, List.set_cons_succ])
    refine wpKeep_takeT (i := 2) (oi := ⟨some 79, _, _, _, _, _⟩) (v := ?_) rfl (by kernel_rfl) (by kernel_rfl) (by kernel_rfl) (by kernel_rfl) (fun _ _ _ h => h) (Or.inl ⟨by rfl, ?_⟩) ⟨cy3, x33, x34⟩ (fun _ => trivial) ?_
    rotate_left
    · intro w' hT
      obtain ⟨t1, t2, t3⟩ := hT
      go_simp
      (try rw [if_pos (by omega)])
      (try with_reducible rfl)
    rotate_left
    (try simp only [Act.put, List.setIfInBounds_toArray, List.set_cons_zero, List.set_cons_succ])
    refine wpKeep_takeT (i := 3) (oi := ⟨some 80, _, _, _, _, _⟩) (v := ?_) rfl (by kernel_rfl) (by kernel_rfl) (by kernel_rfl) (by kernel_rfl) (fun _ _ _ h => h) (Or.inl ⟨by rfl, ?_⟩) ⟨cy3, x33, x34⟩ (fun _ => trivial) ?_
    rotate_left
    · intro w' hT
      obtain ⟨t1, t2, t3⟩ := hT
      go_simp
      (try rw [if_pos (by omega)])
      (try with_reducible rfl)
    rotate_left
    (try simp only [Act.put, List.setIfInBounds_toArray, List.set_cons_zero, List.set_cons_succ])
    refine wpKeep_takeT (i := 4) (oi := ⟨some 81, _, _, _, _, _⟩) (v := ?_) rfl (by kernel_rfl) (by kernel_rfl) (by kernel_rfl) (by kernel_rfl) (fun _ _ _ h => h) (Or.inl ⟨by rfl, ?_⟩) ⟨cy3, x33, x34⟩ (fun _ => trivial) ?_
    rotate_left
    · intro w' hT
      obtain ⟨t1, t2, t3⟩ := hT
      go_simp
      (try rw [if_pos (by omega)])
      (try with_reducible rfl)
    rotate_left
    (try simp only [Act.put, List.setIfInBounds_toArray, List.set_cons_zero, List.set_cons_succ])
    refine wpKeep_takeT (i := 5) (oi := ⟨some 82, _, _, _, _, _⟩) (v := ?_) rfl (by kernel_rfl) (by kernel_rfl) (by kernel_rfl) (by kernel_rfl) (fun _ _ _ h => h) (Or.inl ⟨by rfl, ?_⟩) ⟨cy3, x33, x34⟩ (fun _ => trivial) ?_
    rotate_left
    · intro w' hT
      obtain ⟨t1, t2, t3⟩ := hT
      go_simp
      (try rw [if_pos (by omega)])
      (try with_reducible rfl)
    rotate_left
    (try simp only [Act.put, List.setIfInBounds_toArray, List.set_cons_zero, List.set_cons_succ])
    refine wpKeep_takeT (i := 6) (oi := ⟨some 83, _, _, _, _, _⟩) (v := ?_) rfl (by kernel_rfl) (by kernel_rfl) (by kernel_rfl) (by kernel_rfl) (fun _ _ _ h => h) (Or.inl ⟨by rfl, ?_⟩) ⟨cy3, x33, x34⟩ (fun _ => trivial) ?_
    rotate_left
    · intro w' hT
      obtain ⟨t1, t2, t3⟩ := hT
      go_simp
      (try rw [if_pos (by omega)])
      (try with_reducible rfl)
    rotate_left
    (try simp only [Act.put, List.setIfInBounds_toArray, List.set_cons_zero, List.set_cons_succ])
    refine wpKeep_takeT (i := 7) (oi := ⟨some 84, _, _, _, _, _⟩) (v := ?_) rfl (by kernel_rfl) (by kernel_rfl) (by kernel_rfl) (by kernel_rfl) (fun _ _ _ h => h) (Or.inl ⟨by rfl, ?_⟩) ⟨cy3, x33, x34⟩ (fun _ => trivial) ?_
    rotate_left
    · intro w' hT
      obtain ⟨t1, t2, t3⟩ := hT
      go_simp
      (try rw [if_pos (by omega)])
      (try with_reducible rfl)
    rotate_left
    (try simp only [Act.put, List.setIfInBounds_toArray, List.set_cons_zero, List.set_cons_succ])
    refine wpKeep_ready (rs := [8]) (by kernel_rfl) (by simp) ?_
    refine AllKeep.cons (o := ⟨some 85, _, _, _, _, _⟩) rfl (fun Kq hK => ?_) AllKeep.nil
    go_simp
    go_at_call 18
    refine HDS.out.mono ?_
    rintro e w4 ⟨rfl, hd4⟩
    obtain ⟨c4, dv4, T4, k4⟩ := HT3.out.setDoc (show 0 < 2 by omega) hd4
    have cy4 := (cell_at T4.box 2).trans (show _ = some (Value.pointer (some ⟨y 0, 0, none⟩)) from rfl)
    have hop4 := hd4.off (HOPW.out) HYX.out
    have x43 := (cell_at hop4 3).trans (show _ = some (Value.string (str key)) from rfl)
    have x44 := (cell_at hop4 4).trans (show _ = some (Value.string (str val)) from rfl)
    refine hK.out _ _ ⟨cy4, x43, x44⟩ (fun _ => trivial) ?_
    clear hK Kq
    (try simp only [Act.put, List.setIfInBounds_toArray, List.set_cons_zero, List.set_cons_succ])
    refine wpKeep_takeT (i := 9) (oi := ⟨some 76, _, _, _, _, _⟩) (v := ?_) rfl (by kernel_rfl) (by kernel_rfl) (by kernel_rfl) (by kernel_rfl) (fun _ _ _ h => h) (Or.inl ⟨by rfl, ?_⟩) ⟨cy4, x43, x44⟩ (fun _ => trivial) ?_
    rotate_left
    · intro w' hT
      obtain ⟨t1, t2, t3⟩ := hT
      go_simp
      (try rw [if_pos (by omega)])
      (try with_reducible rfl)
    rotate_left
    (try simp only [Act.put, List.setIfInBounds_toArray, List.set_cons_zero, List.set_cons_succ])
    refine wpKeep_takeT (i := 10) (oi := ⟨some 86, _, _, _, _, _⟩) (v := ?_) rfl (by kernel_rfl) (by kernel_rfl) (by kernel_rfl) (by kernel_rfl) (fun _ _ _ h => h) (Or.inl ⟨by rfl, ?_⟩) ⟨cy4, x43, x44⟩ (fun _ => trivial) ?_
    rotate_left
    · intro w' hT
      obtain ⟨t1, t2, t3⟩ := hT
      go_simp
      (try rw [if_pos (by omega)])
      (try with_reducible rfl)
    rotate_left
    (try simp only [Act.put, List.setIfInBounds_toArray, List.set_cons_zero, List.set_cons_succ])
    refine wpKeep_takeT (i := 11) (oi := ⟨some 87, _, _, _, _, _⟩) (v := ?_) rfl (by kernel_rfl) (by kernel_rfl) (by kernel_rfl) (by kernel_rfl) (fun _ _ _ h => h) (Or.inl ⟨by rfl, ?_⟩) ⟨cy4, x43, x44⟩ (fun _ => trivial) ?_
    rotate_left
    · intro w' hT
      obtain ⟨t1, t2, t3⟩ := hT
      go_simp
      (try rw [if_pos (by omega)])
      (try with_reducible rfl)
    rotate_left
    (try simp only [Act.put, List.setIfInBounds_toArray, List.set_cons_zero, List.set_cons_succ])
    refine wpKeep_takeT (i := 12) (oi := ⟨some 9, _, _, _, _, _⟩) (v := ?_) rfl (by kernel_rfl) (by kernel_rfl) (by kernel_rfl) (by kernel_rfl) (fun _ _ _ h => h) (Or.inl ⟨by rfl, ?_⟩) ⟨cy4, x43, x44⟩ (fun _ => trivial) ?_
    rotate_left
    · intro w' hT
      obtain ⟨t1, t2, t3⟩ := hT
      go_simp
      (try rw [if_pos (by omega)])
      (try with_reducible rfl)
    rotate_left
    (try simp only [Act.put, List.setIfInBounds_toArray, List.set_cons_zero, List.set_cons_succ])
    refine wpKeep_takeT (i := 13) (oi := ⟨some 10, _, _, _, _, _⟩) (v := ?_) rfl (by kernel_rfl) (by kernel_rfl) (by kernel_rfl) (by kernel_rfl) (fun _ _ _ h => h) (Or.inl ⟨by rfl, ?_⟩) ⟨cy4, x43, x44⟩ (fun _ => trivial) ?_
    rotate_left
    · intro w' hT
      obtain ⟨t1, t2, t3⟩ := hT
      go_simp
      (try rw [if_pos (by omega)])
      (try with_reducible rfl)
    rotate_left
    (try simp only [Act.put, List.setIfInBounds_toArray, List.set_cons_zero, List.set_cons_succ])
    refine wpKeep_done (by kernel_rfl) ?_ _
    have HFIN : Hid (After B w4 ob (N + 2) (M + 1)) := After.of (T4.most (by omega)) (fun k hk => by
      by_cases e : k = 0
      · subst e
        rw [updt_at, updt_at]; exact HTK.out
      · rw [updt_ne _ _ e, updt_ne _ _ e]; exact HH.out k hk) (fun k hk => by
      by_cases e : k = 0
      · subst e
        rw [updt_at]; have := HC3.out; have := HX.out.2.2; omega
      · rw [updt_ne _ _ e]; have := HN.out k hk; omega)
    have HK4 := hid (HKB.out.trans k4)
    clear hd4 T4 k4 x33 x34 cy3 cy4 hop4 x43 x44
    go_wp2_with fail
    go_ret
    exact ⟨by first | rfl | simp, HFIN.out, HK4.out⟩
end Go.Proofs.YtmflbchiapdhbaaGreatDoor
