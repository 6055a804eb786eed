/-
  The program's trie: Prove, where nothing is; Prove of any map.
-/
import Derived.Test.YtmflbchiapdhbaaGreatDoorMTrD
import Derived.Deep.DeepCutAuto
import Derived.Deep.CutBlock
namespace Go.Proofs.YtmflbchiapdhbaaGreatDoor
open Go.RowKit

set_option maxRecDepth 100000 in
set_option maxHeartbeats 4000000 in
theorem prove_nothing (b : Nat) (t : Tr) (many : Int) (key : List UInt8) (w : World) (h : MapAt w b t many) (hd : Dig w) (hkey : key.length ≤ 200) (hdeep : (t.dig (sha key) 0).2.length ≤ 256)
    (hleaf : (t.dig (sha key) 0).1 = .none) :
    Calls Tryz.prog 13 #[.pointer (some ⟨b, 0, none⟩), .string (str key)] w fun e w' => ∃ v, e = .returned (.tuple #[lookupVal v (t.dig (sha key) 0).1.told, .int .i64 0]) ∧ Fresh w w' ∧ OwnTexts w.heap.size w' v (t.dig (sha key) 0).2 := by
  have hsz := str_size key
  have hbl := lt_of_block h
  obtain ⟨k, hk⟩ : ∃ k, sha key = k := ⟨_, rfl⟩
  have hkl : k.length = 32 := by rw [← hk]; exact sha_len _
  have hsumk : ∀ W : World, Dig W → Calls Tryz.prog 15 #[.slice (some ⟨W.heap.size, 0, none⟩) 1 1] (W.alloc (.cells #[.string (str key)] 9)) fun e w' => e = .returned (.string (str k)) ∧ Fresh W w' := fun W hdW => by
    have := psum_one W.heap.size key _ (heap_alloc_new W _) (hdW.alloc _) (by omega)
    rw [hk] at this
    exact this.mono (fun e w' h => ⟨h.1, ((Keeps.refl _ _).alloc _).trans h.2⟩)
  rw [hk] at hdeep hleaf ⊢
  have hfind := fun w1 => find_any k t w1 hkl hdeep
  obtain ⟨node, hnode⟩ : ∃ node, (t.dig k 0).1 = node := ⟨_, rfl⟩
  obtain ⟨sides, hsides⟩ : ∃ sides, (t.dig k 0).2 = sides := ⟨_, rfl⟩
  rw [hleaf] at hnode
  subst hnode
  rw [hleaf] at hfind ⊢
  rw [hsides] at hfind hdeep ⊢
  obtain ⟨ty, dat, fn, hty, -, -, -⟩ := hash_any t
  rw [hty] at hfind
  have HH : Hid (w.heap[b]? = some (.cells #[.iface ty dat, .int .i64 many] 54 (0, 0))) := by rw [← hty]; exact h
  have HSUMK := hid hsumk
  have HFIND := hid hfind
  clear hsumk hfind hk hsides h hty hdeep hleaf
  have f0 : Fresh w (w.alloc (.cells #[.slice none 0 0, .bool false, .string ⟨#[]⟩, .string ⟨#[]⟩] 43)) := (Keeps.refl _ _).alloc _
  have hb4 := heap_alloc_new w (.cells #[.slice none 0 0, .bool false, .string ⟨#[]⟩, .string ⟨#[]⟩] 43)
  go_enter Tryz.func13, Tryz.ntmps13
  go_wp2_with fail
  obtain ⟨bw, hbw⟩ : ∃ bw, w.heap.size = bw := ⟨_, rfl⟩
  rw [hbw] at hb4 ⊢
  generalize w.alloc (.cells #[.slice none 0 0, .bool false, .string ⟨#[]⟩, .string ⟨#[]⟩] 43) = W0 at f0 hb4 ⊢
  have hb4 : W0.drew.heap[bw]? = _ := hb4
  have hb0 := f0.at_ HH.out (fun h => h)
  have hbb : W0.drew.heap[b]? = _ := hb0
  have f1 : Fresh w W0.drew := f0.drew
  have d0 := cell_at hbb 0
  simp at d0
  have e0 := (cell_at (((Keeps.refl (fun _ => False) W0).alloc (.cells #[.string (str key)] 9)).at_ hb0 (fun h => h)) 0).trans rfl
  simp at e0
  go_region_law (first
      | (go_simp; go_at_call 15; refine (HSUMK.out _ (hd.fresh f1)).mono ?_; rintro e w5 ⟨rfl, fa⟩; have f1 := f1.trans fa; have hbb := fa.at_ hbb (fun h => h); have hb4 := fa.at_ hb4 (fun h => h); have hb5 := hb4; have d0 := cell_at hbb 0; simp at d0)
      | (go_simp; go_at_call 36; refine (HFIND.out _).mono ?_; rintro e w6 ⟨v, rfl, fa, hown⟩; have f2 := f1.trans fa; have hb4 := fa.at_ hb4 (fun h => h)))
  all_goals
    clear hbb d0 e0 f1 HFIND HSUMK
    obtain ⟨ao, cp, rfl⟩ := ownsRow_slice hown.1
    have q0 := cell_at hb4 0
    have q1 := cell_at hb4 1
    have q2 := cell_at hb4 2
    have q3 := cell_at hb4 3
    have z0 := free_at hb4 0
    have z1 := free_at hb4 1
    have z2 := free_at hb4 2
    have z3 := free_at hb4 3
    simp at q0 q1 q2 q3
    have hlt6 : bw < w6.heap.size := lt_of_block hb4
    have hlt5 : bw < w5.heap.size := lt_of_block hb5
    have HLT5 := hid hlt5
    clear hlt5
    simp only [Tr.val]
    have hta := none_as_leaf
    go_wp2_with fail
    have hW2 := (((Keeps.refl (fun _ => False) _).alloc (.cells #[.slice ao sides.length cp, .bool false, .string ⟨#[]⟩, .string ⟨#[]⟩] 43)).alloc (.cells #[.string ⟨#[]⟩, .string ⟨#[]⟩, .string ⟨#[]⟩, .string ⟨#[]⟩] 75)).at_ (set4_at hb4 (.slice ao sides.length cp) (.bool false) (.string ⟨#[]⟩) (.string ⟨#[]⟩)) (fun h => h)
    have kW := ((set4_keeps w6 bw (.slice ao sides.length cp) (.bool false) (.string ⟨#[]⟩) (.string ⟨#[]⟩)).alloc (.cells #[.slice ao sides.length cp, .bool false, .string ⟨#[]⟩, .string ⟨#[]⟩] 43)).alloc (.cells #[.string ⟨#[]⟩, .string ⟨#[]⟩, .string ⟨#[]⟩, .string ⟨#[]⟩] 75)
    have hnb : ∀ g, (Value.slice ao sides.length cp).ownBlock = some g → w.heap.size ≤ g ∧ g ≠ bw := fun g hg => by
      have h1 := hown.2 g hg
      have h2 := HLT5.out
      omega
    have hrowW2 := ownsRow_keeps hown.1 kW (fun g hg h => (hnb g hg).2 h)
    have fin := (f2.trans' (S' := fun q => q = bw) kW (fun i hi h => by omega))
    clear kW q0 q1 q2 q3 z0 z1 z2 z3
    generalize ((((((w6.setCell ⟨bw, 0, none⟩ _).setCell ⟨bw, 1, none⟩ _).setCell ⟨bw, 2, none⟩ _).setCell ⟨bw, 3, none⟩ _).alloc _).alloc _) = W at hW2 fin hrowW2 ⊢
    have d0 := cell_at hW2 0
    have d1 := cell_at hW2 1
    have d2 := cell_at hW2 2
    have d3 := cell_at hW2 3
    simp at d0 d1 d2 d3
    refine bodyPost_ret (v := .tuple #[.agg #[.slice ao sides.length cp, .bool false, .string ⟨#[]⟩, .string ⟨#[]⟩], .int .i64 0]) (by simp [results, Tryz.results13, go_sem, d0, d1, d2, d3, Result.andThen]) rfl ⟨.slice ao sides.length cp, rfl, fin, hrowW2, fun g hg => (hnb g hg).1⟩

theorem prove_any (b : Nat) (t : Tr) (many : Int) (key : List UInt8) (w : World) (h : MapAt w b t many) (hg : Tr.Good (fun _ => 0) 0 t) (hd : Dig w) (hkey : key.length ≤ 200) :
    Calls Tryz.prog 13 #[.pointer (some ⟨b, 0, none⟩), .string (str key)] w fun e w' => ∃ v, e = .returned (.tuple #[lookupVal v (t.dig (sha key) 0).1.told, .int .i64 0]) ∧ Fresh w w' ∧ OwnTexts w.heap.size w' v (t.dig (sha key) 0).2 := by
  have hdeep := Good.deep hg (sha key)
  have hf := dig_node (sha key) t 0
  have hl := dig_leaf (sha key) t 0 _ hg (fun i hi => by omega)
  cases hn : (t.dig (sha key) 0).1 with
  | none =>
    have := prove_nothing b t many key w h hd hkey hdeep hn
    rwa [hn] at this
  | leaf kk sum kkey val =>
    have hv := (hl kk sum kkey val hn).1.2.2.2
    have := prove_leaf b t many key w h hd hkey hdeep kk sum kkey val hn (by omega)
    rwa [hn] at this
  | fork l r s => rw [hn] at hf; cases hf
end Go.Proofs.YtmflbchiapdhbaaGreatDoor
