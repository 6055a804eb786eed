/-
  The program's trie: a fork of two sides.
-/
import Derived.Test.YtmflbchiapdhbaaGreatDoorMTrA
import Derived.Deep.RegionLaw
namespace Go.Proofs.YtmflbchiapdhbaaGreatDoor
open Go.RowKit

set_option maxRecDepth 100000 in
set_option maxHeartbeats 2000000 in
theorem forked_any (l r : Tr) (w : World) (hd : Dig w) (hl : l.hash.length ≤ 1000000) (hr : r.hash.length ≤ 1000000) :
    Calls Tryz.prog 54 #[.agg #[l.val, r.val]] w fun e w' => e = .returned (Tr.fork l r (sha (3 :: (l.hash ++ r.hash)))).val ∧ Fresh w w' := by
  obtain ⟨ty, dat, fn, hty, hmeth, hcf, hhash⟩ := hash_any l
  obtain ⟨ty2, dat2, fn2, hty2, hmeth2, hcf2, hhash2⟩ := hash_any r
  obtain ⟨lh, hlh⟩ : ∃ lh, l.hash = lh := ⟨_, rfl⟩
  obtain ⟨rh, hrh⟩ : ∃ rh, r.hash = rh := ⟨_, rfl⟩
  have hsum : ∀ W : World, Dig W → Calls Tryz.prog 15 #[.slice (some ⟨W.heap.size, 0, none⟩) 3 3] (W.alloc (.cells #[.string ⟨#[3]⟩, .string (str lh), .string (str rh)] 9)) fun e w' => e = .returned (.string (str (sha (3 :: (lh ++ rh))))) ∧ Fresh W w' := fun W hdW =>
    (psum_three W.heap.size [3] lh rh _ (heap_alloc_new W _) (hdW.alloc _) (by rw [hlh] at hl; rw [hrh] at hr; simp; omega)).mono (fun e w' h => ⟨h.1, ((Keeps.refl _ _).alloc _).trans h.2⟩)
  simp only [Tr.val]
  rw [hty, hty2, hlh, hrh]
  rw [hlh] at hhash
  rw [hrh] at hhash2
  have HH1 := hid hhash
  have HH2 := hid hhash2
  have HSUM := hid hsum
  clear hhash hhash2 hsum hty hty2 hlh hrh hl hr
  generalize sha (3 :: (lh ++ rh)) = sm at HSUM ⊢
  have f0 : Fresh w (w.alloc (.cells #[.iface ty dat, .iface ty2 dat2] 98)) := (Keeps.refl _ _).alloc _
  have hb0 := heap_alloc_new w (.cells #[.iface ty dat, .iface ty2 dat2] 98)
  go_enter Tryz.func54, Tryz.ntmps54
  go_wp2_with fail
  obtain ⟨bw, hbw⟩ : ∃ bw, w.heap.size = bw := ⟨_, rfl⟩
  rw [hbw] at hb0 ⊢
  generalize w.alloc (.cells #[.iface ty dat, .iface ty2 dat2] 98) = W0 at f0 hb0 ⊢
  clear hbw
  have hbx : W0.drew.heap[bw]? = _ := hb0
  have frx : Fresh w W0.drew := f0.drew
  have d0 := cell_at hbx 0
  have d1 := cell_at hbx 1
  simp at d0 d1
  go_region_law (first
    | (go_simp; go_at_fn fn; refine (HH1.out _).mono ?_; rintro e w5 ⟨rfl, fa⟩; have frx := frx.trans fa; have hbx := fa.at_ hbx (fun h => h); have d0 := cell_at hbx 0; have d1 := cell_at hbx 1; simp at d0 d1; have e0 := (cell_at (((Keeps.refl (fun _ => False) w5).alloc (.cells #[.string ⟨#[3]⟩, .string (str lh), .string (str rh)] 9)).at_ hbx (fun h => h)) 0).trans rfl; have e1 := (cell_at (((Keeps.refl (fun _ => False) w5).alloc (.cells #[.string ⟨#[3]⟩, .string (str lh), .string (str rh)] 9)).at_ hbx (fun h => h)) 1).trans rfl; simp at e0 e1)
    | (go_simp; go_at_fn fn2; refine (HH2.out _).mono ?_; rintro e w5 ⟨rfl, fa⟩; have frx := frx.trans fa; have hbx := fa.at_ hbx (fun h => h); have d0 := cell_at hbx 0; have d1 := cell_at hbx 1; simp at d0 d1; have e0 := (cell_at (((Keeps.refl (fun _ => False) w5).alloc (.cells #[.string ⟨#[3]⟩, .string (str lh), .string (str rh)] 9)).at_ hbx (fun h => h)) 0).trans rfl; have e1 := (cell_at (((Keeps.refl (fun _ => False) w5).alloc (.cells #[.string ⟨#[3]⟩, .string (str lh), .string (str rh)] 9)).at_ hbx (fun h => h)) 1).trans rfl; simp at e0 e1)
    | (go_simp; go_at_call 15; refine (HSUM.out _ (hd.fresh frx)).mono ?_; rintro e w5 ⟨rfl, fa⟩; have frx := frx.trans fa; have hbx := fa.at_ hbx (fun h => h); have d0 := cell_at hbx 0; have d1 := cell_at hbx 1; simp at d0 d1))
  all_goals
    go_wp2
  all_goals
    go_ret
    exact ⟨rfl, frx⟩
end Go.Proofs.YtmflbchiapdhbaaGreatDoor
