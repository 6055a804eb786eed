/-
  The program's trie: set, at a leaf.
-/
import Derived.Test.YtmflbchiapdhbaaGreatDoorTrFork
import Derived.Test.YtmflbchiapdhbaaGreatDoorMTrD
import Derived.Deep.DeepCutAuto
import Derived.Deep.CutBlock
namespace Go.Proofs.YtmflbchiapdhbaaGreatDoor
open Go.RowKit

set_option maxRecDepth 100000 in
theorem set_same (k sa keya vala sm key val : List UInt8) (d : Int) (w : World) :
    Calls Tryz.prog 34 #[(Tr.leaf k sa keya vala).val, .agg (leafCells k sm key val), .int .i64 d] w fun e w' => e = .returned (Tr.leaf k sm key val).val ∧ Fresh w w' := by
  have hta := as_leaf
  have htb := leaf_as_fork
  have hq : ((str k).toList == (str k).toList) = true := by simp
  simp only [Tr.val, leafCells]
  go_enter Tryz.func34, Tryz.ntmps34
  go_wp2_with fail
  go_ret
  exact ⟨rfl, ((Keeps.refl _ _).alloc _).alloc _⟩

set_option maxRecDepth 100000 in
set_option maxHeartbeats 4000000 in
theorem set_other00 (l2 : Tr) (ka sa keya vala k sm key val : List UInt8) (d : Nat) (w : World) (hd : Dig w) (hka : ka.length = 32) (hk : k.length = 32) (hne : ka ≠ k) (hdd : d < 256) (hba : bitAt ka d = 0) (hbx : bitAt k d = 0) (_hsa : sa.length ≤ 1000000) (h2 : l2.hash.length ≤ 1000000)
    (hrec : ∀ W, Dig W → Calls Tryz.prog 34 #[(Tr.leaf ka sa keya vala).val, .agg (leafCells k sm key val), .int .i64 ((d : Int) + 1)] W fun e w' => e = .returned l2.val ∧ Fresh W w') :
    Calls Tryz.prog 34 #[(Tr.leaf ka sa keya vala).val, .agg (leafCells k sm key val), .int .i64 (d : Int)] w fun e w' => e = .returned (Tr.mk (l2) (Tr.none)).val ∧ Fresh w w' := by
  have hta := as_leaf
  have htb := leaf_as_fork
  have hw : IntKind.i64.wrap ((d : Int) + 1) = (d : Int) + 1 := by rw [IntKind.wrap_i64]; omega
  rw [← hw] at hrec
  obtain ⟨ty3, dat3, fn3, hty3, -, -, -⟩ := hash_any l2
  have hfork : ∀ W (_ : Dig W), Calls Tryz.prog 54 #[.agg #[(l2).val, (Tr.none).val]] W fun e w' => e = .returned (Tr.mk (l2) (Tr.none)).val ∧ Fresh W w' := fun W (hW : Dig W) => forked_any (l2) (Tr.none) W hW h2 (by simp [Tr.hash, nought32])
  have hq : ((str ka).toList == (str k).toList) = false := by rw [str_toList, str_toList]; simp [hne]
  generalize (Tr.mk (l2) (Tr.none)).val = res at hfork ⊢
  rw [hty3] at hrec hfork
  simp only [Tr.val, leafCells] at hrec hfork ⊢
  have hbitc := bit_any ka d
  rw [hba] at hbitc
  have hbitd := bit_any k d
  rw [hbx] at hbitd
  have HREC := hid hrec
  have HFORK := hid hfork
  have HBA := hid hbitc
  have HBX := hid hbitd
  clear hrec hfork hbitc hbitd hba hbx hw hty3 h2 _hsa hne
  go_enter Tryz.func34, Tryz.ntmps34
  go_wp2_with fail
  have f0 : Fresh w (((w.alloc (.cells #[.string (str k), .string (str sm), .string (str key), .string (str val)] 75)).alloc (.cells #[.string (str ka), .string (str sa), .string (str keya), .string (str vala)] 75)).alloc (.cells #[.iface 50 (.agg #[]), .iface 50 (.agg #[])] 98)) := (((Keeps.refl _ _).alloc _).alloc _).alloc _
  have hbx := ((((Keeps.refl (fun _ => False) _).alloc (.cells #[.string (str ka), .string (str sa), .string (str keya), .string (str vala)] 75)).alloc (.cells #[.iface 50 (.agg #[]), .iface 50 (.agg #[])] 98))).at_ (heap_alloc_new w (.cells #[.string (str k), .string (str sm), .string (str key), .string (str val)] 75)) (fun h => h)
  have hba := (((Keeps.refl (fun _ => False) _).alloc (.cells #[.iface 50 (.agg #[]), .iface 50 (.agg #[])] 98))).at_ (heap_alloc_new (w.alloc (.cells #[.string (str k), .string (str sm), .string (str key), .string (str val)] 75)) (.cells #[.string (str ka), .string (str sa), .string (str keya), .string (str vala)] 75)) (fun h => h)
  have hbs := heap_alloc_new ((w.alloc (.cells #[.string (str k), .string (str sm), .string (str key), .string (str val)] 75)).alloc (.cells #[.string (str ka), .string (str sa), .string (str keya), .string (str vala)] 75)) (.cells #[.iface 50 (.agg #[]), .iface 50 (.agg #[])] 98)
  simp only [World.size_alloc] at hba hbs
  obtain ⟨bw, hbw⟩ : ∃ bw, w.heap.size = bw := ⟨_, rfl⟩
  rw [hbw] at hbx hba hbs ⊢
  have hbwl : w.heap.size ≤ bw := by omega
  generalize (((w.alloc (.cells #[.string (str k), .string (str sm), .string (str key), .string (str val)] 75)).alloc (.cells #[.string (str ka), .string (str sa), .string (str keya), .string (str vala)] 75)).alloc (.cells #[.iface 50 (.agg #[]), .iface 50 (.agg #[])] 98)) = W0 at f0 hbx hba hbs ⊢
  have hd0 := hd.fresh f0
  go_cut [] (fun wx => wx.heap[bw + 1 + 1]? = some (.cells #[.iface 75 (.agg #[.string (str ka), .string (str sa), .string (str keya), .string (str vala)]), .iface 50 (.agg #[])] 98 (0, 0)) ∧ wx.heap[bw]? = some (.cells #[.string (str k), .string (str sm), .string (str key), .string (str val)] 75 (0, 0)) ∧ Fresh w wx)
  case first =>
    have hbs0 : W0.drew.heap[bw + 1 + 1]? = _ := hbs
    have hba0 : W0.drew.heap[bw + 1]? = _ := hba
    have hbx0 : W0.drew.heap[bw]? = _ := hbx
    have frx : Fresh w W0.drew := f0.drew
    have x0 := cell_at hba 0
    have x1 := cell_at hba 1
    have x2 := cell_at hba 2
    have x3 := cell_at hba 3
    have s0 := cell_at hbs 0
    have s1 := cell_at hbs 1
    have z0 := free_at hbs 0
    have z1 := free_at hbs 1
    simp at x0 x1 x2 x3 s0 s1
    clear hta HFORK HREC HBX hbx hba hbs
    go_region_law (first
      | (go_simp; go_at_call 40; refine (HBA.out _ (by omega) (by omega)).mono ?_; rintro e w5 ⟨rfl, rfl⟩))
    all_goals
      go_wp2
      go_meet
      have kk := Keeps.setCell (S := fun q => q = bw + 1 + 1) (Keeps.refl _ W0.drew) (p := ⟨bw + 1 + 1, 0, none⟩) (fun _ => rfl) (.iface 75 (.agg #[.string (str ka), .string (str sa), .string (str keya), .string (str vala)]))
      exact ⟨heap_setCell_at hbs0 0 (.iface 75 (.agg #[.string (str ka), .string (str sa), .string (str keya), .string (str vala)])), kk.at_ hbx0 (by omega), frx.trans' kk (fun i hi h => by omega)⟩
  case rest =>
    obtain ⟨hs, hbx, fr⟩ := hcut
    have x0 := cell_at hbx 0
    have x1 := cell_at hbx 1
    have x2 := cell_at hbx 2
    have x3 := cell_at hbx 3
    simp at x0 x1 x2 x3
    have hd1 := hd.fresh fr
    clear hta hba hbs
    go_wp2_with fail
    refine (HBX.out _ (by omega) (by omega)).mono ?_
    rintro e w1 ⟨rfl, rfl⟩
    go_wp2_with fail
    go_cut [] (fun wx => wx.heap[bw + 1 + 1]? = some (.cells #[.iface ty3 dat3, .iface 50 (.agg #[])] 98 (0, 0)) ∧ Fresh w wx)
    case first =>
      have hbs0 : wc.drew.heap[bw + 1 + 1]? = _ := hs
      have frx : Fresh w wc.drew := fr.drew
      have s0 := cell_at hs 0
      have s1 := cell_at hs 1
      simp at s0 s1
      have hd1 := hd1.drew
      clear hbx HFORK HBX HBA
      go_region_law (first
        | (go_simp; go_at_call 34; refine (HREC.out _ hd1).mono ?_; rintro e w5 ⟨rfl, fa⟩; have frx := frx.trans fa; have hbs0 := fa.at_ hbs0 (fun h => h); have d0 := cell_at hbs0 0; have d1 := cell_at hbs0 1; have z0 := free_at hbs0 0; have z1 := free_at hbs0 1; simp at d0 d1))
      all_goals
        go_wp2
        go_meet
        exact ⟨heap_setCell_at hbs0 0 (.iface ty3 dat3), frx.trans' (Keeps.setCell (S := fun q => q = bw + 1 + 1) (Keeps.refl _ w5) (p := ⟨bw + 1 + 1, 0, none⟩) (fun _ => rfl) _) (fun i hi h => by omega)⟩
    case rest =>
      obtain ⟨hs, fr⟩ := hcut
      have d0 := cell_at hs 0
      have d1 := cell_at hs 1
      simp at d0 d1
      go_wp2_with fail
      refine (HFORK.out _ (hd.fresh fr)).mono ?_
      rintro e w7 ⟨rfl, fa⟩
      go_wp2
      go_ret
      exact ⟨rfl, fr.trans fa⟩

set_option maxRecDepth 100000 in
set_option maxHeartbeats 4000000 in
theorem set_other01 (l2 : Tr) (ka sa keya vala k sm key val : List UInt8) (d : Nat) (w : World) (hd : Dig w) (hka : ka.length = 32) (hk : k.length = 32) (hne : ka ≠ k) (hdd : d < 256) (hba : bitAt ka d = 0) (hbx : bitAt k d = 1) (hsa : sa.length ≤ 1000000) (h2 : l2.hash.length ≤ 1000000)
    (hrec : ∀ W, Dig W → Calls Tryz.prog 34 #[(Tr.none).val, .agg (leafCells k sm key val), .int .i64 ((d : Int) + 1)] W fun e w' => e = .returned l2.val ∧ Fresh W w') :
    Calls Tryz.prog 34 #[(Tr.leaf ka sa keya vala).val, .agg (leafCells k sm key val), .int .i64 (d : Int)] w fun e w' => e = .returned (Tr.mk (Tr.leaf ka sa keya vala) (l2)).val ∧ Fresh w w' := by
  have hta := as_leaf
  have htb := leaf_as_fork
  have hw : IntKind.i64.wrap ((d : Int) + 1) = (d : Int) + 1 := by rw [IntKind.wrap_i64]; omega
  rw [← hw] at hrec
  obtain ⟨ty3, dat3, fn3, hty3, -, -, -⟩ := hash_any l2
  have hfork : ∀ W (_ : Dig W), Calls Tryz.prog 54 #[.agg #[(Tr.leaf ka sa keya vala).val, (l2).val]] W fun e w' => e = .returned (Tr.mk (Tr.leaf ka sa keya vala) (l2)).val ∧ Fresh W w' := fun W (hW : Dig W) => forked_any (Tr.leaf ka sa keya vala) (l2) W hW hsa h2
  have hq : ((str ka).toList == (str k).toList) = false := by rw [str_toList, str_toList]; simp [hne]
  generalize (Tr.mk (Tr.leaf ka sa keya vala) (l2)).val = res at hfork ⊢
  rw [hty3] at hrec hfork
  simp only [Tr.val, leafCells] at hrec hfork ⊢
  have hbitc := bit_any ka d
  rw [hba] at hbitc
  have hbitd := bit_any k d
  rw [hbx] at hbitd
  have HREC := hid hrec
  have HFORK := hid hfork
  have HBA := hid hbitc
  have HBX := hid hbitd
  clear hrec hfork hbitc hbitd hba hbx hw hty3 h2 hsa hne
  go_enter Tryz.func34, Tryz.ntmps34
  go_wp2_with fail
  have f0 : Fresh w (((w.alloc (.cells #[.string (str k), .string (str sm), .string (str key), .string (str val)] 75)).alloc (.cells #[.string (str ka), .string (str sa), .string (str keya), .string (str vala)] 75)).alloc (.cells #[.iface 50 (.agg #[]), .iface 50 (.agg #[])] 98)) := (((Keeps.refl _ _).alloc _).alloc _).alloc _
  have hbx := ((((Keeps.refl (fun _ => False) _).alloc (.cells #[.string (str ka), .string (str sa), .string (str keya), .string (str vala)] 75)).alloc (.cells #[.iface 50 (.agg #[]), .iface 50 (.agg #[])] 98))).at_ (heap_alloc_new w (.cells #[.string (str k), .string (str sm), .string (str key), .string (str val)] 75)) (fun h => h)
  have hba := (((Keeps.refl (fun _ => False) _).alloc (.cells #[.iface 50 (.agg #[]), .iface 50 (.agg #[])] 98))).at_ (heap_alloc_new (w.alloc (.cells #[.string (str k), .string (str sm), .string (str key), .string (str val)] 75)) (.cells #[.string (str ka), .string (str sa), .string (str keya), .string (str vala)] 75)) (fun h => h)
  have hbs := heap_alloc_new ((w.alloc (.cells #[.string (str k), .string (str sm), .string (str key), .string (str val)] 75)).alloc (.cells #[.string (str ka), .string (str sa), .string (str keya), .string (str vala)] 75)) (.cells #[.iface 50 (.agg #[]), .iface 50 (.agg #[])] 98)
  simp only [World.size_alloc] at hba hbs
  obtain ⟨bw, hbw⟩ : ∃ bw, w.heap.size = bw := ⟨_, rfl⟩
  rw [hbw] at hbx hba hbs ⊢
  have hbwl : w.heap.size ≤ bw := by omega
  generalize (((w.alloc (.cells #[.string (str k), .string (str sm), .string (str key), .string (str val)] 75)).alloc (.cells #[.string (str ka), .string (str sa), .string (str keya), .string (str vala)] 75)).alloc (.cells #[.iface 50 (.agg #[]), .iface 50 (.agg #[])] 98)) = W0 at f0 hbx hba hbs ⊢
  have hd0 := hd.fresh f0
  go_cut [] (fun wx => wx.heap[bw + 1 + 1]? = some (.cells #[.iface 75 (.agg #[.string (str ka), .string (str sa), .string (str keya), .string (str vala)]), .iface 50 (.agg #[])] 98 (0, 0)) ∧ wx.heap[bw]? = some (.cells #[.string (str k), .string (str sm), .string (str key), .string (str val)] 75 (0, 0)) ∧ Fresh w wx)
  case first =>
    have hbs0 : W0.drew.heap[bw + 1 + 1]? = _ := hbs
    have hba0 : W0.drew.heap[bw + 1]? = _ := hba
    have hbx0 : W0.drew.heap[bw]? = _ := hbx
    have frx : Fresh w W0.drew := f0.drew
    have x0 := cell_at hba 0
    have x1 := cell_at hba 1
    have x2 := cell_at hba 2
    have x3 := cell_at hba 3
    have s0 := cell_at hbs 0
    have s1 := cell_at hbs 1
    have z0 := free_at hbs 0
    have z1 := free_at hbs 1
    simp at x0 x1 x2 x3 s0 s1
    clear hta HFORK HREC HBX hbx hba hbs
    go_region_law (first
      | (go_simp; go_at_call 40; refine (HBA.out _ (by omega) (by omega)).mono ?_; rintro e w5 ⟨rfl, rfl⟩))
    all_goals
      go_wp2
      go_meet
      have kk := Keeps.setCell (S := fun q => q = bw + 1 + 1) (Keeps.refl _ W0.drew) (p := ⟨bw + 1 + 1, 0, none⟩) (fun _ => rfl) (.iface 75 (.agg #[.string (str ka), .string (str sa), .string (str keya), .string (str vala)]))
      exact ⟨heap_setCell_at hbs0 0 (.iface 75 (.agg #[.string (str ka), .string (str sa), .string (str keya), .string (str vala)])), kk.at_ hbx0 (by omega), frx.trans' kk (fun i hi h => by omega)⟩
  case rest =>
    obtain ⟨hs, hbx, fr⟩ := hcut
    have x0 := cell_at hbx 0
    have x1 := cell_at hbx 1
    have x2 := cell_at hbx 2
    have x3 := cell_at hbx 3
    simp at x0 x1 x2 x3
    have hd1 := hd.fresh fr
    clear hta hba hbs
    go_wp2_with fail
    refine (HBX.out _ (by omega) (by omega)).mono ?_
    rintro e w1 ⟨rfl, rfl⟩
    go_wp2_with fail
    go_cut [] (fun wx => wx.heap[bw + 1 + 1]? = some (.cells #[.iface 75 (.agg #[.string (str ka), .string (str sa), .string (str keya), .string (str vala)]), .iface ty3 dat3] 98 (0, 0)) ∧ Fresh w wx)
    case first =>
      have hbs0 : wc.drew.heap[bw + 1 + 1]? = _ := hs
      have frx : Fresh w wc.drew := fr.drew
      have s0 := cell_at hs 0
      have s1 := cell_at hs 1
      simp at s0 s1
      have hd1 := hd1.drew
      clear hbx HFORK HBX HBA
      go_region_law (first
        | (go_simp; go_at_call 34; refine (HREC.out _ hd1).mono ?_; rintro e w5 ⟨rfl, fa⟩; have frx := frx.trans fa; have hbs0 := fa.at_ hbs0 (fun h => h); have d0 := cell_at hbs0 0; have d1 := cell_at hbs0 1; have z0 := free_at hbs0 0; have z1 := free_at hbs0 1; simp at d0 d1))
      all_goals
        go_wp2
        go_meet
        exact ⟨heap_setCell_at hbs0 1 (.iface ty3 dat3), frx.trans' (Keeps.setCell (S := fun q => q = bw + 1 + 1) (Keeps.refl _ w5) (p := ⟨bw + 1 + 1, 1, none⟩) (fun _ => rfl) _) (fun i hi h => by omega)⟩
    case rest =>
      obtain ⟨hs, fr⟩ := hcut
      have d0 := cell_at hs 0
      have d1 := cell_at hs 1
      simp at d0 d1
      go_wp2_with fail
      refine (HFORK.out _ (hd.fresh fr)).mono ?_
      rintro e w7 ⟨rfl, fa⟩
      go_wp2
      go_ret
      exact ⟨rfl, fr.trans fa⟩

set_option maxRecDepth 100000 in
set_option maxHeartbeats 4000000 in
theorem set_other10 (l2 : Tr) (ka sa keya vala k sm key val : List UInt8) (d : Nat) (w : World) (hd : Dig w) (hka : ka.length = 32) (hk : k.length = 32) (hne : ka ≠ k) (hdd : d < 256) (hba : bitAt ka d = 1) (hbx : bitAt k d = 0) (hsa : sa.length ≤ 1000000) (h2 : l2.hash.length ≤ 1000000)
    (hrec : ∀ W, Dig W → Calls Tryz.prog 34 #[(Tr.none).val, .agg (leafCells k sm key val), .int .i64 ((d : Int) + 1)] W fun e w' => e = .returned l2.val ∧ Fresh W w') :
    Calls Tryz.prog 34 #[(Tr.leaf ka sa keya vala).val, .agg (leafCells k sm key val), .int .i64 (d : Int)] w fun e w' => e = .returned (Tr.mk (l2) (Tr.leaf ka sa keya vala)).val ∧ Fresh w w' := by
  have hta := as_leaf
  have htb := leaf_as_fork
  have hw : IntKind.i64.wrap ((d : Int) + 1) = (d : Int) + 1 := by rw [IntKind.wrap_i64]; omega
  rw [← hw] at hrec
  obtain ⟨ty3, dat3, fn3, hty3, -, -, -⟩ := hash_any l2
  have hfork : ∀ W (_ : Dig W), Calls Tryz.prog 54 #[.agg #[(l2).val, (Tr.leaf ka sa keya vala).val]] W fun e w' => e = .returned (Tr.mk (l2) (Tr.leaf ka sa keya vala)).val ∧ Fresh W w' := fun W (hW : Dig W) => forked_any (l2) (Tr.leaf ka sa keya vala) W hW h2 hsa
  have hq : ((str ka).toList == (str k).toList) = false := by rw [str_toList, str_toList]; simp [hne]
  generalize (Tr.mk (l2) (Tr.leaf ka sa keya vala)).val = res at hfork ⊢
  rw [hty3] at hrec hfork
  simp only [Tr.val, leafCells] at hrec hfork ⊢
  have hbitc := bit_any ka d
  rw [hba] at hbitc
  have hbitd := bit_any k d
  rw [hbx] at hbitd
  have HREC := hid hrec
  have HFORK := hid hfork
  have HBA := hid hbitc
  have HBX := hid hbitd
  clear hrec hfork hbitc hbitd hba hbx hw hty3 h2 hsa hne
  go_enter Tryz.func34, Tryz.ntmps34
  go_wp2_with fail
  have f0 : Fresh w (((w.alloc (.cells #[.string (str k), .string (str sm), .string (str key), .string (str val)] 75)).alloc (.cells #[.string (str ka), .string (str sa), .string (str keya), .string (str vala)] 75)).alloc (.cells #[.iface 50 (.agg #[]), .iface 50 (.agg #[])] 98)) := (((Keeps.refl _ _).alloc _).alloc _).alloc _
  have hbx := ((((Keeps.refl (fun _ => False) _).alloc (.cells #[.string (str ka), .string (str sa), .string (str keya), .string (str vala)] 75)).alloc (.cells #[.iface 50 (.agg #[]), .iface 50 (.agg #[])] 98))).at_ (heap_alloc_new w (.cells #[.string (str k), .string (str sm), .string (str key), .string (str val)] 75)) (fun h => h)
  have hba := (((Keeps.refl (fun _ => False) _).alloc (.cells #[.iface 50 (.agg #[]), .iface 50 (.agg #[])] 98))).at_ (heap_alloc_new (w.alloc (.cells #[.string (str k), .string (str sm), .string (str key), .string (str val)] 75)) (.cells #[.string (str ka), .string (str sa), .string (str keya), .string (str vala)] 75)) (fun h => h)
  have hbs := heap_alloc_new ((w.alloc (.cells #[.string (str k), .string (str sm), .string (str key), .string (str val)] 75)).alloc (.cells #[.string (str ka), .string (str sa), .string (str keya), .string (str vala)] 75)) (.cells #[.iface 50 (.agg #[]), .iface 50 (.agg #[])] 98)
  simp only [World.size_alloc] at hba hbs
  obtain ⟨bw, hbw⟩ : ∃ bw, w.heap.size = bw := ⟨_, rfl⟩
  rw [hbw] at hbx hba hbs ⊢
  have hbwl : w.heap.size ≤ bw := by omega
  generalize (((w.alloc (.cells #[.string (str k), .string (str sm), .string (str key), .string (str val)] 75)).alloc (.cells #[.string (str ka), .string (str sa), .string (str keya), .string (str vala)] 75)).alloc (.cells #[.iface 50 (.agg #[]), .iface 50 (.agg #[])] 98)) = W0 at f0 hbx hba hbs ⊢
  have hd0 := hd.fresh f0
  go_cut [] (fun wx => wx.heap[bw + 1 + 1]? = some (.cells #[.iface 50 (.agg #[]), .iface 75 (.agg #[.string (str ka), .string (str sa), .string (str keya), .string (str vala)])] 98 (0, 0)) ∧ wx.heap[bw]? = some (.cells #[.string (str k), .string (str sm), .string (str key), .string (str val)] 75 (0, 0)) ∧ Fresh w wx)
  case first =>
    have hbs0 : W0.drew.heap[bw + 1 + 1]? = _ := hbs
    have hba0 : W0.drew.heap[bw + 1]? = _ := hba
    have hbx0 : W0.drew.heap[bw]? = _ := hbx
    have frx : Fresh w W0.drew := f0.drew
    have x0 := cell_at hba 0
    have x1 := cell_at hba 1
    have x2 := cell_at hba 2
    have x3 := cell_at hba 3
    have s0 := cell_at hbs 0
    have s1 := cell_at hbs 1
    have z0 := free_at hbs 0
    have z1 := free_at hbs 1
    simp at x0 x1 x2 x3 s0 s1
    clear hta HFORK HREC HBX hbx hba hbs
    go_region_law (first
      | (go_simp; go_at_call 40; refine (HBA.out _ (by omega) (by omega)).mono ?_; rintro e w5 ⟨rfl, rfl⟩))
    all_goals
      go_wp2
      go_meet
      have kk := Keeps.setCell (S := fun q => q = bw + 1 + 1) (Keeps.refl _ W0.drew) (p := ⟨bw + 1 + 1, 1, none⟩) (fun _ => rfl) (.iface 75 (.agg #[.string (str ka), .string (str sa), .string (str keya), .string (str vala)]))
      exact ⟨heap_setCell_at hbs0 1 (.iface 75 (.agg #[.string (str ka), .string (str sa), .string (str keya), .string (str vala)])), kk.at_ hbx0 (by omega), frx.trans' kk (fun i hi h => by omega)⟩
  case rest =>
    obtain ⟨hs, hbx, fr⟩ := hcut
    have x0 := cell_at hbx 0
    have x1 := cell_at hbx 1
    have x2 := cell_at hbx 2
    have x3 := cell_at hbx 3
    simp at x0 x1 x2 x3
    have hd1 := hd.fresh fr
    clear hta hba hbs
    go_wp2_with fail
    refine (HBX.out _ (by omega) (by omega)).mono ?_
    rintro e w1 ⟨rfl, rfl⟩
    go_wp2_with fail
    go_cut [] (fun wx => wx.heap[bw + 1 + 1]? = some (.cells #[.iface ty3 dat3, .iface 75 (.agg #[.string (str ka), .string (str sa), .string (str keya), .string (str vala)])] 98 (0, 0)) ∧ Fresh w wx)
    case first =>
      have hbs0 : wc.drew.heap[bw + 1 + 1]? = _ := hs
      have frx : Fresh w wc.drew := fr.drew
      have s0 := cell_at hs 0
      have s1 := cell_at hs 1
      simp at s0 s1
      have hd1 := hd1.drew
      clear hbx HFORK HBX HBA
      go_region_law (first
        | (go_simp; go_at_call 34; refine (HREC.out _ hd1).mono ?_; rintro e w5 ⟨rfl, fa⟩; have frx := frx.trans fa; have hbs0 := fa.at_ hbs0 (fun h => h); have d0 := cell_at hbs0 0; have d1 := cell_at hbs0 1; have z0 := free_at hbs0 0; have z1 := free_at hbs0 1; simp at d0 d1))
      all_goals
        go_wp2
        go_meet
        exact ⟨heap_setCell_at hbs0 0 (.iface ty3 dat3), frx.trans' (Keeps.setCell (S := fun q => q = bw + 1 + 1) (Keeps.refl _ w5) (p := ⟨bw + 1 + 1, 0, none⟩) (fun _ => rfl) _) (fun i hi h => by omega)⟩
    case rest =>
      obtain ⟨hs, fr⟩ := hcut
      have d0 := cell_at hs 0
      have d1 := cell_at hs 1
      simp at d0 d1
      go_wp2_with fail
      refine (HFORK.out _ (hd.fresh fr)).mono ?_
      rintro e w7 ⟨rfl, fa⟩
      go_wp2
      go_ret
      exact ⟨rfl, fr.trans fa⟩

set_option maxRecDepth 100000 in
set_option maxHeartbeats 4000000 in
theorem set_other11 (l2 : Tr) (ka sa keya vala k sm key val : List UInt8) (d : Nat) (w : World) (hd : Dig w) (hka : ka.length = 32) (hk : k.length = 32) (hne : ka ≠ k) (hdd : d < 256) (hba : bitAt ka d = 1) (hbx : bitAt k d = 1) (_hsa : sa.length ≤ 1000000) (h2 : l2.hash.length ≤ 1000000)
    (hrec : ∀ W, Dig W → Calls Tryz.prog 34 #[(Tr.leaf ka sa keya vala).val, .agg (leafCells k sm key val), .int .i64 ((d : Int) + 1)] W fun e w' => e = .returned l2.val ∧ Fresh W w') :
    Calls Tryz.prog 34 #[(Tr.leaf ka sa keya vala).val, .agg (leafCells k sm key val), .int .i64 (d : Int)] w fun e w' => e = .returned (Tr.mk (Tr.none) (l2)).val ∧ Fresh w w' := by
  have hta := as_leaf
  have htb := leaf_as_fork
  have hw : IntKind.i64.wrap ((d : Int) + 1) = (d : Int) + 1 := by rw [IntKind.wrap_i64]; omega
  rw [← hw] at hrec
  obtain ⟨ty3, dat3, fn3, hty3, -, -, -⟩ := hash_any l2
  have hfork : ∀ W (_ : Dig W), Calls Tryz.prog 54 #[.agg #[(Tr.none).val, (l2).val]] W fun e w' => e = .returned (Tr.mk (Tr.none) (l2)).val ∧ Fresh W w' := fun W (hW : Dig W) => forked_any (Tr.none) (l2) W hW (by simp [Tr.hash, nought32]) h2
  have hq : ((str ka).toList == (str k).toList) = false := by rw [str_toList, str_toList]; simp [hne]
  generalize (Tr.mk (Tr.none) (l2)).val = res at hfork ⊢
  rw [hty3] at hrec hfork
  simp only [Tr.val, leafCells] at hrec hfork ⊢
  have hbitc := bit_any ka d
  rw [hba] at hbitc
  have hbitd := bit_any k d
  rw [hbx] at hbitd
  have HREC := hid hrec
  have HFORK := hid hfork
  have HBA := hid hbitc
  have HBX := hid hbitd
  clear hrec hfork hbitc hbitd hba hbx hw hty3 h2 _hsa hne
  go_enter Tryz.func34, Tryz.ntmps34
  go_wp2_with fail
  have f0 : Fresh w (((w.alloc (.cells #[.string (str k), .string (str sm), .string (str key), .string (str val)] 75)).alloc (.cells #[.string (str ka), .string (str sa), .string (str keya), .string (str vala)] 75)).alloc (.cells #[.iface 50 (.agg #[]), .iface 50 (.agg #[])] 98)) := (((Keeps.refl _ _).alloc _).alloc _).alloc _
  have hbx := ((((Keeps.refl (fun _ => False) _).alloc (.cells #[.string (str ka), .string (str sa), .string (str keya), .string (str vala)] 75)).alloc (.cells #[.iface 50 (.agg #[]), .iface 50 (.agg #[])] 98))).at_ (heap_alloc_new w (.cells #[.string (str k), .string (str sm), .string (str key), .string (str val)] 75)) (fun h => h)
  have hba := (((Keeps.refl (fun _ => False) _).alloc (.cells #[.iface 50 (.agg #[]), .iface 50 (.agg #[])] 98))).at_ (heap_alloc_new (w.alloc (.cells #[.string (str k), .string (str sm), .string (str key), .string (str val)] 75)) (.cells #[.string (str ka), .string (str sa), .string (str keya), .string (str vala)] 75)) (fun h => h)
  have hbs := heap_alloc_new ((w.alloc (.cells #[.string (str k), .string (str sm), .string (str key), .string (str val)] 75)).alloc (.cells #[.string (str ka), .string (str sa), .string (str keya), .string (str vala)] 75)) (.cells #[.iface 50 (.agg #[]), .iface 50 (.agg #[])] 98)
  simp only [World.size_alloc] at hba hbs
  obtain ⟨bw, hbw⟩ : ∃ bw, w.heap.size = bw := ⟨_, rfl⟩
  rw [hbw] at hbx hba hbs ⊢
  have hbwl : w.heap.size ≤ bw := by omega
  generalize (((w.alloc (.cells #[.string (str k), .string (str sm), .string (str key), .string (str val)] 75)).alloc (.cells #[.string (str ka), .string (str sa), .string (str keya), .string (str vala)] 75)).alloc (.cells #[.iface 50 (.agg #[]), .iface 50 (.agg #[])] 98)) = W0 at f0 hbx hba hbs ⊢
  have hd0 := hd.fresh f0
  go_cut [] (fun wx => wx.heap[bw + 1 + 1]? = some (.cells #[.iface 50 (.agg #[]), .iface 75 (.agg #[.string (str ka), .string (str sa), .string (str keya), .string (str vala)])] 98 (0, 0)) ∧ wx.heap[bw]? = some (.cells #[.string (str k), .string (str sm), .string (str key), .string (str val)] 75 (0, 0)) ∧ Fresh w wx)
  case first =>
    have hbs0 : W0.drew.heap[bw + 1 + 1]? = _ := hbs
    have hba0 : W0.drew.heap[bw + 1]? = _ := hba
    have hbx0 : W0.drew.heap[bw]? = _ := hbx
    have frx : Fresh w W0.drew := f0.drew
    have x0 := cell_at hba 0
    have x1 := cell_at hba 1
    have x2 := cell_at hba 2
    have x3 := cell_at hba 3
    have s0 := cell_at hbs 0
    have s1 := cell_at hbs 1
    have z0 := free_at hbs 0
    have z1 := free_at hbs 1
    simp at x0 x1 x2 x3 s0 s1
    clear hta HFORK HREC HBX hbx hba hbs
    go_region_law (first
      | (go_simp; go_at_call 40; refine (HBA.out _ (by omega) (by omega)).mono ?_; rintro e w5 ⟨rfl, rfl⟩))
    all_goals
      go_wp2
      go_meet
      have kk := Keeps.setCell (S := fun q => q = bw + 1 + 1) (Keeps.refl _ W0.drew) (p := ⟨bw + 1 + 1, 1, none⟩) (fun _ => rfl) (.iface 75 (.agg #[.string (str ka), .string (str sa), .string (str keya), .string (str vala)]))
      exact ⟨heap_setCell_at hbs0 1 (.iface 75 (.agg #[.string (str ka), .string (str sa), .string (str keya), .string (str vala)])), kk.at_ hbx0 (by omega), frx.trans' kk (fun i hi h => by omega)⟩
  case rest =>
    obtain ⟨hs, hbx, fr⟩ := hcut
    have x0 := cell_at hbx 0
    have x1 := cell_at hbx 1
    have x2 := cell_at hbx 2
    have x3 := cell_at hbx 3
    simp at x0 x1 x2 x3
    have hd1 := hd.fresh fr
    clear hta hba hbs
    go_wp2_with fail
    refine (HBX.out _ (by omega) (by omega)).mono ?_
    rintro e w1 ⟨rfl, rfl⟩
    go_wp2_with fail
    go_cut [] (fun wx => wx.heap[bw + 1 + 1]? = some (.cells #[.iface 50 (.agg #[]), .iface ty3 dat3] 98 (0, 0)) ∧ Fresh w wx)
    case first =>
      have hbs0 : wc.drew.heap[bw + 1 + 1]? = _ := hs
      have frx : Fresh w wc.drew := fr.drew
      have s0 := cell_at hs 0
      have s1 := cell_at hs 1
      simp at s0 s1
      have hd1 := hd1.drew
      clear hbx HFORK HBX HBA
      go_region_law (first
        | (go_simp; go_at_call 34; refine (HREC.out _ hd1).mono ?_; rintro e w5 ⟨rfl, fa⟩; have frx := frx.trans fa; have hbs0 := fa.at_ hbs0 (fun h => h); have d0 := cell_at hbs0 0; have d1 := cell_at hbs0 1; have z0 := free_at hbs0 0; have z1 := free_at hbs0 1; simp at d0 d1))
      all_goals
        go_wp2
        go_meet
        exact ⟨heap_setCell_at hbs0 1 (.iface ty3 dat3), frx.trans' (Keeps.setCell (S := fun q => q = bw + 1 + 1) (Keeps.refl _ w5) (p := ⟨bw + 1 + 1, 1, none⟩) (fun _ => rfl) _) (fun i hi h => by omega)⟩
    case rest =>
      obtain ⟨hs, fr⟩ := hcut
      have d0 := cell_at hs 0
      have d1 := cell_at hs 1
      simp at d0 d1
      go_wp2_with fail
      refine (HFORK.out _ (hd.fresh fr)).mono ?_
      rintro e w7 ⟨rfl, fa⟩
      go_wp2
      go_ret
      exact ⟨rfl, fr.trans fa⟩

end Go.Proofs.YtmflbchiapdhbaaGreatDoor
