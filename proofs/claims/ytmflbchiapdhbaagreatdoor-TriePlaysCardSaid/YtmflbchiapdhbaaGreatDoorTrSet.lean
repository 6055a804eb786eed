/-
  The program's trie: Set (over the contract of set).
-/
import Derived.Test.YtmflbchiapdhbaaGreatDoorTrGet
namespace Go.Proofs.YtmflbchiapdhbaaGreatDoor
open Go.RowKit

set_option maxRecDepth 100000 in
theorem set_none (k sum key val : List UInt8) (d : Int) (w : World) :
    Calls Tryz.prog 34 #[Tr.none.val, .agg (leafCells k sum key val), .int .i64 d] w fun e w' => e = .returned (Tr.leaf k sum key val).val ∧ Fresh w w' := by
  have hta := none_as_leaf
  have htb := none_as_fork
  simp only [Tr.val, leafCells]
  go_enter Tryz.func34, Tryz.ntmps34
  go_wp2_with fail
  go_ret
  exact ⟨rfl, (Keeps.refl _ _).alloc _⟩

set_option maxRecDepth 100000 in
set_option maxHeartbeats 4000000 in
theorem setmap_any (b : Nat) (t t' : Tr) (many : Int) (key value : List UInt8) (w : World) (h : MapAt w b t many) (hd : Dig w) (hb : 3 ≤ b) (hkey : key.length ≤ 200) (hval : value.length ≤ 1000) (hdeep : (t.dig (sha key) 0).2.length ≤ 256)
    (hset : ∀ w, Dig w → Calls Tryz.prog 34 #[t.val, .agg (leafCells (sha key) (sha (2 :: (sha key ++ sha value))) key value), .int .i64 0] w fun e w' => e = .returned t'.val ∧ Fresh w w') :
    Calls Tryz.prog 12 #[.pointer (some ⟨b, 0, none⟩), .string (str key), .string (str value)] w fun e w' => e = .returned (.int .i64 0) ∧ Keeps (fun q => q = b) w w' ∧ MapAt w' b t' (if t.has (sha key) then many else wrap64 (many + 1)) := by
  have hsz := str_size key
  have hsv := str_size value
  have hget := get_any b t many key w h hd hkey hdeep
  obtain ⟨k, hk⟩ : ∃ k, sha key = k := ⟨_, rfl⟩
  have hkl : k.length = 32 := by rw [← hk]; exact sha_len _
  obtain ⟨sv, hsve⟩ : ∃ sv, sha value = sv := ⟨_, rfl⟩
  have hsvl : sv.length = 32 := by rw [← hsve]; exact sha_len _
  have hsumk : ∀ W : World, Dig W → Calls Tryz.prog 15 #[.slice (some ⟨W.heap.size, 0, none⟩) 1 1] (W.alloc (.cells #[.string (str key)] 9)) fun e w' => e = .returned (.string (str k)) ∧ Fresh W w' := fun W hdW => by
    have := psum_one W.heap.size key _ (heap_alloc_new W _) (hdW.alloc _) (by omega)
    rw [hk] at this
    exact this.mono (fun e w' h => ⟨h.1, ((Keeps.refl _ _).alloc _).trans h.2⟩)
  have hsumv : ∀ W : World, Dig W → Calls Tryz.prog 15 #[.slice (some ⟨W.heap.size, 0, none⟩) 1 1] (W.alloc (.cells #[.string (str value)] 9)) fun e w' => e = .returned (.string (str sv)) ∧ Fresh W w' := fun W hdW => by
    have := psum_one W.heap.size value _ (heap_alloc_new W _) (hdW.alloc _) (by omega)
    rw [hsve] at this
    exact this.mono (fun e w' h => ⟨h.1, ((Keeps.refl _ _).alloc _).trans h.2⟩)
  have hleaf := fun W (hdW : Dig W) => leafHash_any k sv W hdW.tab hdW.first hdW.room (by omega)
  rw [hk, hsve] at hset
  rw [hk] at hget ⊢
  obtain ⟨sm, hsm⟩ : ∃ sm, sha (2 :: (k ++ sv)) = sm := ⟨_, rfl⟩
  rw [hsm] at hleaf hset
  simp only [leafCells] at hset
  have HGET := hid hget
  have HSUMK := hid hsumk
  have HSUMV := hid hsumv
  have HLEAF := hid hleaf
  have HSET := hid hset
  have H := hid h
  clear hget hsumk hsumv hleaf hset hk hsve hsm hdeep h
  obtain ⟨ty, dat, fn, hty, -, -, -⟩ := hash_any t
  obtain ⟨ty2, dat2, fn2, hty2, -, -, -⟩ := hash_any t'
  have HH : Hid (w.heap[b]? = some (.cells #[.iface ty dat, .int .i64 many] 54 (0, 0))) := by rw [← hty]; exact H.out
  rw [hty, hty2] at HSET
  obtain ⟨hv, hhv⟩ : ∃ hv, t.has k = hv := ⟨_, rfl⟩
  rw [hhv] at HGET ⊢
  clear hhv
  generalize t.got k = gv at HGET
  cases hv with
  | true =>
    go_enter Tryz.func12, Tryz.ntmps12
    go_wp2_with fail
    refine HGET.out.mono ?_
    rintro e w1 ⟨rfl, f1⟩
    go_wp2_with fail
    have kW : Keeps (fun q => q = b) w w1 := f1.mono (fun _ _ h => h.elim)
    have dW : Dig w1 := hd.fresh f1
    have hbW := f1.at_ HH.out (fun h => h)
    clear f1
    generalize w1 = W1 at kW dW hbW ⊢
    refine (HSUMK.out _ dW).mono ?_
    rintro e w2 ⟨rfl, fr⟩
    have hb2 := fr.at_ hbW (fun h => h)
    have hbb : w2.drew.heap[b]? = _ := hb2
    have frx : Fresh W1 w2.drew := fr.drew
    have d0 := cell_at hbb 0
    have z0 := free_at hbb 0
    simp at d0 z0
    have e0 := (cell_at (((Keeps.refl (fun _ => False) w2).alloc (.cells #[.string (str value)] 9)).at_ hb2 (fun h => h)) 0).trans rfl
    simp at e0
    go_wp2_with fail
    go_region_law (first
      | (go_simp; go_at_call 15; refine (HSUMV.out _ (dW.fresh frx)).mono ?_; rintro e w5 ⟨rfl, fa⟩; have frx := frx.trans fa; have hbb := fa.at_ hbb (fun h => h); have d0 := cell_at hbb 0; have z0 := free_at hbb 0; simp at d0 z0)
      | (go_simp; go_at_call 35; refine (HLEAF.out _ (dW.fresh frx)).mono ?_; rintro e w5 ⟨rfl, fa⟩; have frx := frx.trans fa; have hbb := fa.at_ hbb (fun h => h); have d0 := cell_at hbb 0; have z0 := free_at hbb 0; simp at d0 z0)
      | (go_simp; go_at_call 34; refine (HSET.out _ (dW.fresh frx)).mono ?_; rintro e w5 ⟨rfl, fa⟩; have frx := frx.trans fa; have hbb := fa.at_ hbb (fun h => h); have d0 := cell_at hbb 0; have z0 := free_at hbb 0; simp at d0 z0))
    all_goals go_wp2
    all_goals
      go_ret
      refine ⟨rfl, Keeps.setCell (S := fun q => q = b) (kW.trans (frx.mono (fun _ _ h => h.elim))) (p := ⟨b, 0, none⟩) (fun _ => rfl) _, ?_⟩
      have hfin := heap_setCell_at hbb 0 (.iface ty2 dat2)
      rw [← hty2] at hfin ⊢
      simpa [MapAt] using hfin
  | false =>
    go_enter Tryz.func12, Tryz.ntmps12
    go_wp2_with fail
    refine HGET.out.mono ?_
    rintro e w1 ⟨rfl, f1⟩
    have hb1 := f1.at_ HH.out (fun h => h)
    have c1 := cell_at hb1 1
    have z1 := free_at hb1 1
    simp at c1
    go_wp2_with (go_at_call 15; fail)
    have kW : Keeps (fun q => q = b) w (w1.setCell ⟨b, 1, none⟩ (.int .i64 (wrap64 (many + 1)))) := Keeps.setCell (S := fun q => q = b) (f1.mono (fun _ _ h => h.elim)) (p := ⟨b, 1, none⟩) (fun _ => rfl) _
    have dW : Dig (w1.setCell ⟨b, 1, none⟩ (.int .i64 (wrap64 (many + 1)))) := hd.keepsOut (B := w.heap.size) (h := b) (kW.mono (fun _ _ h => .inl h)) hb hd.room
    have hbW : (w1.setCell ⟨b, 1, none⟩ (.int .i64 (wrap64 (many + 1)))).heap[b]? = some (.cells #[.iface ty dat, .int .i64 (wrap64 (many + 1))] 54 (0, 0)) := heap_setCell_at hb1 1 _
    have hsW : (w1.setCell ⟨b, 1, none⟩ (.int .i64 (wrap64 (many + 1)))).heap.size = w1.heap.size := by simp
    clear f1 hb1 c1 z1
    rw [← hsW]
    generalize w1.setCell ⟨b, 1, none⟩ (.int .i64 (wrap64 (many + 1))) = W1 at kW dW hbW ⊢
    refine (HSUMK.out _ dW).mono ?_
    rintro e w2 ⟨rfl, fr⟩
    have hb2 := fr.at_ hbW (fun h => h)
    have hbb : w2.drew.heap[b]? = _ := hb2
    have frx : Fresh W1 w2.drew := fr.drew
    have d0 := cell_at hbb 0
    have z0 := free_at hbb 0
    simp at d0 z0
    have e0 := (cell_at (((Keeps.refl (fun _ => False) w2).alloc (.cells #[.string (str value)] 9)).at_ hb2 (fun h => h)) 0).trans rfl
    simp at e0
    go_wp2_with fail
    go_region_law (first
      | (go_simp; go_at_call 15; refine (HSUMV.out _ (dW.fresh frx)).mono ?_; rintro e w5 ⟨rfl, fa⟩; have frx := frx.trans fa; have hbb := fa.at_ hbb (fun h => h); have d0 := cell_at hbb 0; have z0 := free_at hbb 0; simp at d0 z0)
      | (go_simp; go_at_call 35; refine (HLEAF.out _ (dW.fresh frx)).mono ?_; rintro e w5 ⟨rfl, fa⟩; have frx := frx.trans fa; have hbb := fa.at_ hbb (fun h => h); have d0 := cell_at hbb 0; have z0 := free_at hbb 0; simp at d0 z0)
      | (go_simp; go_at_call 34; refine (HSET.out _ (dW.fresh frx)).mono ?_; rintro e w5 ⟨rfl, fa⟩; have frx := frx.trans fa; have hbb := fa.at_ hbb (fun h => h); have d0 := cell_at hbb 0; have z0 := free_at hbb 0; simp at d0 z0))
    all_goals go_wp2
    all_goals
      go_ret
      refine ⟨rfl, Keeps.setCell (S := fun q => q = b) (kW.trans (frx.mono (fun _ _ h => h.elim))) (p := ⟨b, 0, none⟩) (fun _ => rfl) _, ?_⟩
      have hfin := heap_setCell_at hbb 0 (.iface ty2 dat2)
      rw [← hty2] at hfin ⊢
      simpa [MapAt] using hfin
end Go.Proofs.YtmflbchiapdhbaaGreatDoor
