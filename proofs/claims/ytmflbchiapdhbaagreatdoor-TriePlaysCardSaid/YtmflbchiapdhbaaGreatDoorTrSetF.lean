/-
  The program's trie: set, at a fork.
-/
import Derived.Test.YtmflbchiapdhbaaGreatDoorTrFork
import Derived.Test.YtmflbchiapdhbaaGreatDoorMTrD
import Derived.Deep.DeepCutAuto
import Derived.Deep.CutBlock
namespace Go.Proofs.YtmflbchiapdhbaaGreatDoor
open Go.RowKit

set_option maxRecDepth 100000 in
set_option maxHeartbeats 4000000 in
theorem set_fork0 (l r l2 : Tr) (sum k sm key val : List UInt8) (d : Nat) (w : World) (hd : Dig w) (hk : k.length = 32) (hdd : d < 256) (hbit : bitAt k d = 0) (h1 : r.hash.length ≤ 1000000) (h2 : l2.hash.length ≤ 1000000)
    (hrec : ∀ W, Dig W → Calls Tryz.prog 34 #[l.val, .agg (leafCells k sm key val), .int .i64 ((d : Int) + 1)] W fun e w' => e = .returned l2.val ∧ Fresh W w') :
    Calls Tryz.prog 34 #[(Tr.fork l r sum).val, .agg (leafCells k sm key val), .int .i64 (d : Int)] w fun e w' => e = .returned (Tr.fork l2 r (sha (3 :: ((l2).hash ++ (r).hash)))).val ∧ Fresh w w' := by
  have hta := as_fork
  have hw : IntKind.i64.wrap ((d : Int) + 1) = (d : Int) + 1 := by rw [IntKind.wrap_i64]; omega
  rw [← hw] at hrec
  obtain ⟨ty, dat, fn, hty, -, -, -⟩ := hash_any l
  obtain ⟨ty2, dat2, fn2, hty2, -, -, -⟩ := hash_any r
  obtain ⟨ty3, dat3, fn3, hty3, -, -, -⟩ := hash_any l2
  have hfork := fun W (hW : Dig W) => forked_any (l2) (r) W hW h2 h1
  simp only [leafCells] at hrec ⊢
  have hval : (Tr.fork l r sum).val = .iface 100 (.agg #[.iface ty dat, .iface ty2 dat2, .string (str sum)]) := by rw [Tr.val, hty, hty2]
  rw [hval]
  rw [hty] at hrec
  rw [hty3] at hrec
  simp only [hty2, hty3] at hfork
  have hbitc := bit_any k d
  rw [hbit] at hbitc
  have HREC := hid hrec
  have HFORK := hid hfork
  have HBIT := hid hbitc
  clear hrec hfork hbitc hbit hval hty hty2 hty3 h1 h2 hw
  generalize (Tr.fork l2 r (sha (3 :: ((l2).hash ++ (r).hash)))).val = res at HFORK ⊢
  go_enter Tryz.func34, Tryz.ntmps34
  go_wp2_with fail
  refine (HBIT.out _ (by omega) (by omega)).mono ?_
  rintro e w1 ⟨rfl, rfl⟩
  go_wp2_with fail
  have f0 : Fresh w (((w.alloc (.cells #[.string (str k), .string (str sm), .string (str key), .string (str val)] 75)).alloc (.cells #[.iface ty dat, .iface ty2 dat2, .string (str sum)] 100)).alloc (.cells #[.iface ty dat, .iface ty2 dat2] 98)) := (((Keeps.refl _ _).alloc _).alloc _).alloc _
  have hbx := ((((Keeps.refl (fun _ => False) _).alloc (.cells #[.iface ty dat, .iface ty2 dat2, .string (str sum)] 100)).alloc (.cells #[.iface ty dat, .iface ty2 dat2] 98))).at_ (heap_alloc_new w (.cells #[.string (str k), .string (str sm), .string (str key), .string (str val)] 75)) (fun h => h)
  have hbs := heap_alloc_new ((w.alloc (.cells #[.string (str k), .string (str sm), .string (str key), .string (str val)] 75)).alloc (.cells #[.iface ty dat, .iface ty2 dat2, .string (str sum)] 100)) (.cells #[.iface ty dat, .iface ty2 dat2] 98)
  simp only [World.size_alloc] at hbs
  obtain ⟨bw, hbw⟩ : ∃ bw, w.heap.size = bw := ⟨_, rfl⟩
  rw [hbw] at hbx hbs ⊢
  generalize ((w.alloc (.cells #[.string (str k), .string (str sm), .string (str key), .string (str val)] 75)).alloc (.cells #[.iface ty dat, .iface ty2 dat2, .string (str sum)] 100)).alloc (.cells #[.iface ty dat, .iface ty2 dat2] 98) = W0 at f0 hbx hbs ⊢
  have hd0 := hd.fresh f0
  go_cut [] (fun wx => wx.heap[bw + 1 + 1]? = some (.cells #[.iface ty3 dat3, .iface ty2 dat2] 98 (0, 0)) ∧ Fresh w wx)
  case first =>
    have hbs0 : W0.drew.heap[bw + 1 + 1]? = _ := hbs
    have frx : Fresh w W0.drew := f0.drew
    have x0 := cell_at hbx 0
    have x1 := cell_at hbx 1
    have x2 := cell_at hbx 2
    have x3 := cell_at hbx 3
    have s0 := cell_at hbs 0
    have s1 := cell_at hbs 1
    simp at x0 x1 x2 x3 s0 s1
    have hd1 := hd0.drew
    clear hbx hta HFORK HBIT
    go_region_law (first
      | (go_simp; go_at_call 34; refine (HREC.out _ hd1).mono ?_; rintro e w5 ⟨rfl, fa⟩; have frx := frx.trans fa; have hbs0 := fa.at_ hbs0 (fun h => h); have d0 := cell_at hbs0 0; have d1 := cell_at hbs0 1; have z0 := free_at hbs0 0; have z1 := free_at hbs0 1; simp at d0 d1))
    all_goals
      go_wp2
      go_meet
      exact ⟨heap_setCell_at hbs0 0 (.iface ty3 dat3), frx.trans' (Keeps.setCell (S := fun q => q = bw + 1 + 1) (Keeps.refl _ w5) (p := ⟨bw + 1 + 1, 0, none⟩) (fun _ => rfl) _) (fun i hi h => by omega)⟩
  case rest =>
    obtain ⟨hs, fr⟩ := hcut
    have d0 := cell_at hs 0
    have d1 := cell_at hs 1
    simp at d0 d1
    go_wp2_with fail
    refine (HFORK.out _ (hd.fresh fr)).mono ?_
    rintro e w7 ⟨rfl, fa⟩
    go_wp2
    go_ret
    exact ⟨rfl, fr.trans fa⟩

set_option maxRecDepth 100000 in
set_option maxHeartbeats 4000000 in
theorem set_fork1 (l r l2 : Tr) (sum k sm key val : List UInt8) (d : Nat) (w : World) (hd : Dig w) (hk : k.length = 32) (hdd : d < 256) (hbit : bitAt k d = 1) (h1 : l.hash.length ≤ 1000000) (h2 : l2.hash.length ≤ 1000000)
    (hrec : ∀ W, Dig W → Calls Tryz.prog 34 #[r.val, .agg (leafCells k sm key val), .int .i64 ((d : Int) + 1)] W fun e w' => e = .returned l2.val ∧ Fresh W w') :
    Calls Tryz.prog 34 #[(Tr.fork l r sum).val, .agg (leafCells k sm key val), .int .i64 (d : Int)] w fun e w' => e = .returned (Tr.fork l l2 (sha (3 :: ((l).hash ++ (l2).hash)))).val ∧ Fresh w w' := by
  have hta := as_fork
  have hw : IntKind.i64.wrap ((d : Int) + 1) = (d : Int) + 1 := by rw [IntKind.wrap_i64]; omega
  rw [← hw] at hrec
  obtain ⟨ty, dat, fn, hty, -, -, -⟩ := hash_any l
  obtain ⟨ty2, dat2, fn2, hty2, -, -, -⟩ := hash_any r
  obtain ⟨ty3, dat3, fn3, hty3, -, -, -⟩ := hash_any l2
  have hfork := fun W (hW : Dig W) => forked_any (l) (l2) W hW h1 h2
  simp only [leafCells] at hrec ⊢
  have hval : (Tr.fork l r sum).val = .iface 100 (.agg #[.iface ty dat, .iface ty2 dat2, .string (str sum)]) := by rw [Tr.val, hty, hty2]
  rw [hval]
  rw [hty2] at hrec
  rw [hty3] at hrec
  simp only [hty, hty3] at hfork
  have hbitc := bit_any k d
  rw [hbit] at hbitc
  have HREC := hid hrec
  have HFORK := hid hfork
  have HBIT := hid hbitc
  clear hrec hfork hbitc hbit hval hty hty2 hty3 h1 h2 hw
  generalize (Tr.fork l l2 (sha (3 :: ((l).hash ++ (l2).hash)))).val = res at HFORK ⊢
  go_enter Tryz.func34, Tryz.ntmps34
  go_wp2_with fail
  refine (HBIT.out _ (by omega) (by omega)).mono ?_
  rintro e w1 ⟨rfl, rfl⟩
  go_wp2_with fail
  have f0 : Fresh w (((w.alloc (.cells #[.string (str k), .string (str sm), .string (str key), .string (str val)] 75)).alloc (.cells #[.iface ty dat, .iface ty2 dat2, .string (str sum)] 100)).alloc (.cells #[.iface ty dat, .iface ty2 dat2] 98)) := (((Keeps.refl _ _).alloc _).alloc _).alloc _
  have hbx := ((((Keeps.refl (fun _ => False) _).alloc (.cells #[.iface ty dat, .iface ty2 dat2, .string (str sum)] 100)).alloc (.cells #[.iface ty dat, .iface ty2 dat2] 98))).at_ (heap_alloc_new w (.cells #[.string (str k), .string (str sm), .string (str key), .string (str val)] 75)) (fun h => h)
  have hbs := heap_alloc_new ((w.alloc (.cells #[.string (str k), .string (str sm), .string (str key), .string (str val)] 75)).alloc (.cells #[.iface ty dat, .iface ty2 dat2, .string (str sum)] 100)) (.cells #[.iface ty dat, .iface ty2 dat2] 98)
  simp only [World.size_alloc] at hbs
  obtain ⟨bw, hbw⟩ : ∃ bw, w.heap.size = bw := ⟨_, rfl⟩
  rw [hbw] at hbx hbs ⊢
  generalize ((w.alloc (.cells #[.string (str k), .string (str sm), .string (str key), .string (str val)] 75)).alloc (.cells #[.iface ty dat, .iface ty2 dat2, .string (str sum)] 100)).alloc (.cells #[.iface ty dat, .iface ty2 dat2] 98) = W0 at f0 hbx hbs ⊢
  have hd0 := hd.fresh f0
  go_cut [] (fun wx => wx.heap[bw + 1 + 1]? = some (.cells #[.iface ty dat, .iface ty3 dat3] 98 (0, 0)) ∧ Fresh w wx)
  case first =>
    have hbs0 : W0.drew.heap[bw + 1 + 1]? = _ := hbs
    have frx : Fresh w W0.drew := f0.drew
    have x0 := cell_at hbx 0
    have x1 := cell_at hbx 1
    have x2 := cell_at hbx 2
    have x3 := cell_at hbx 3
    have s0 := cell_at hbs 0
    have s1 := cell_at hbs 1
    simp at x0 x1 x2 x3 s0 s1
    have hd1 := hd0.drew
    clear hbx hta HFORK HBIT
    go_region_law (first
      | (go_simp; go_at_call 34; refine (HREC.out _ hd1).mono ?_; rintro e w5 ⟨rfl, fa⟩; have frx := frx.trans fa; have hbs0 := fa.at_ hbs0 (fun h => h); have d0 := cell_at hbs0 0; have d1 := cell_at hbs0 1; have z0 := free_at hbs0 0; have z1 := free_at hbs0 1; simp at d0 d1))
    all_goals
      go_wp2
      go_meet
      exact ⟨heap_setCell_at hbs0 1 (.iface ty3 dat3), frx.trans' (Keeps.setCell (S := fun q => q = bw + 1 + 1) (Keeps.refl _ w5) (p := ⟨bw + 1 + 1, 1, none⟩) (fun _ => rfl) _) (fun i hi h => by omega)⟩
  case rest =>
    obtain ⟨hs, fr⟩ := hcut
    have d0 := cell_at hs 0
    have d1 := cell_at hs 1
    simp at d0 d1
    go_wp2_with fail
    refine (HFORK.out _ (hd.fresh fr)).mono ?_
    rintro e w7 ⟨rfl, fa⟩
    go_wp2
    go_ret
    exact ⟨rfl, fr.trans fa⟩

end Go.Proofs.YtmflbchiapdhbaaGreatDoor
