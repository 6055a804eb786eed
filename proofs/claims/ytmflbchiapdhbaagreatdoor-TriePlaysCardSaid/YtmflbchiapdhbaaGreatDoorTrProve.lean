/-
  The program's trie: Prove.
-/
import Derived.Test.YtmflbchiapdhbaaGreatDoorTrGet
import Derived.Deep.DeepCutAuto
import Derived.Deep.CutBlock
namespace Go.Proofs.YtmflbchiapdhbaaGreatDoor
open Go.RowKit

/-- what a proof says of the node that is where the key is or would be -/
def Tr.told : Tr → Bool × List UInt8 × List UInt8
  | .leaf kk _ _ val => (true, kk, sha val)
  | _ => (false, [], [])
def lookupVal (v : Value) (p : Bool × List UInt8 × List UInt8) : Value := .agg #[v, .bool p.1, .string (str p.2.1), .string (str p.2.2)]

set_option maxRecDepth 100000 in
set_option maxHeartbeats 4000000 in
theorem prove_leaf (b : Nat) (t : Tr) (many : Int) (key : List UInt8) (w : World) (h : MapAt w b t many) (hd : Dig w) (hkey : key.length ≤ 200) (hdeep : (t.dig (sha key) 0).2.length ≤ 256)
    (kk sum kkey val : List UInt8) (hleaf : (t.dig (sha key) 0).1 = .leaf kk sum kkey val) (hval : val.length ≤ 1000000) :
    Calls Tryz.prog 13 #[.pointer (some ⟨b, 0, none⟩), .string (str key)] w fun e w' => ∃ v, e = .returned (.tuple #[lookupVal v (t.dig (sha key) 0).1.told, .int .i64 0]) ∧ Fresh w w' ∧ OwnTexts w.heap.size w' v (t.dig (sha key) 0).2 := by
  have hsz := str_size key
  have hbl := lt_of_block h
  obtain ⟨k, hk⟩ : ∃ k, sha key = k := ⟨_, rfl⟩
  have hkl : k.length = 32 := by rw [← hk]; exact sha_len _
  have hsumk : ∀ W : World, Dig W → Calls Tryz.prog 15 #[.slice (some ⟨W.heap.size, 0, none⟩) 1 1] (W.alloc (.cells #[.string (str key)] 9)) fun e w' => e = .returned (.string (str k)) ∧ Fresh W w' := fun W hdW => by
    have := psum_one W.heap.size key _ (heap_alloc_new W _) (hdW.alloc _) (by omega)
    rw [hk] at this
    exact this.mono (fun e w' h => ⟨h.1, ((Keeps.refl _ _).alloc _).trans h.2⟩)
  rw [hk] at hdeep hleaf ⊢
  have hfind := fun w1 => find_any k t w1 hkl hdeep
  obtain ⟨node, hnode⟩ : ∃ node, (t.dig k 0).1 = node := ⟨_, rfl⟩
  obtain ⟨sides, hsides⟩ : ∃ sides, (t.dig k 0).2 = sides := ⟨_, rfl⟩
  rw [hleaf] at hnode
  subst hnode
  rw [hleaf] at hfind ⊢
  rw [hsides] at hfind hdeep ⊢
  obtain ⟨ty, dat, fn, hty, -, -, -⟩ := hash_any t
  rw [hty] at hfind
  have HH : Hid (w.heap[b]? = some (.cells #[.iface ty dat, .int .i64 many] 54 (0, 0))) := by rw [← hty]; exact h
  have HSUMK := hid hsumk
  have HFIND := hid hfind
  have HV := hid hval
  clear hsumk hfind hk hsides h hty hval hdeep hleaf
  have f0 : Fresh w (w.alloc (.cells #[.slice none 0 0, .bool false, .string ⟨#[]⟩, .string ⟨#[]⟩] 43)) := (Keeps.refl _ _).alloc _
  have hb4 := heap_alloc_new w (.cells #[.slice none 0 0, .bool false, .string ⟨#[]⟩, .string ⟨#[]⟩] 43)
  go_enter Tryz.func13, Tryz.ntmps13
  go_wp2_with fail
  obtain ⟨bw, hbw⟩ : ∃ bw, w.heap.size = bw := ⟨_, rfl⟩
  rw [hbw] at hb4 ⊢
  generalize w.alloc (.cells #[.slice none 0 0, .bool false, .string ⟨#[]⟩, .string ⟨#[]⟩] 43) = W0 at f0 hb4 ⊢
  have hb4 : W0.drew.heap[bw]? = _ := hb4
  have hb0 := f0.at_ HH.out (fun h => h)
  have hbb : W0.drew.heap[b]? = _ := hb0
  have f1 : Fresh w W0.drew := f0.drew
  have d0 := cell_at hbb 0
  simp at d0
  have e0 := (cell_at (((Keeps.refl (fun _ => False) W0).alloc (.cells #[.string (str key)] 9)).at_ hb0 (fun h => h)) 0).trans rfl
  simp at e0
  go_region_law (first
      | (go_simp; go_at_call 15; refine (HSUMK.out _ (hd.fresh f1)).mono ?_; rintro e w5 ⟨rfl, fa⟩; have f1 := f1.trans fa; have hbb := fa.at_ hbb (fun h => h); have hb4 := fa.at_ hb4 (fun h => h); have hb5 := hb4; have d0 := cell_at hbb 0; simp at d0)
      | (go_simp; go_at_call 36; refine (HFIND.out _).mono ?_; rintro e w6 ⟨v, rfl, fa, hown⟩; have f2 := f1.trans fa; have hb4 := fa.at_ hb4 (fun h => h)))
  all_goals
    clear hbb d0 e0 f1 HFIND HSUMK
    obtain ⟨ao, cp, rfl⟩ := ownsRow_slice hown.1
    have q0 := cell_at hb4 0
    have q1 := cell_at hb4 1
    have q2 := cell_at hb4 2
    have q3 := cell_at hb4 3
    have z0 := free_at hb4 0
    have z1 := free_at hb4 1
    have z2 := free_at hb4 2
    have z3 := free_at hb4 3
    simp at q0 q1 q2 q3
    have hlt6 : bw < w6.heap.size := lt_of_block hb4
    have hlt5 : bw < w5.heap.size := lt_of_block hb5
    have HLT5 := hid hlt5
    clear hlt5
    simp only [Tr.val, leafCells]
    have hta := as_leaf
    go_wp2_with fail
    have hvl := HV.out
    have f7 : Fresh w6 ((w6.alloc (.cells #[.slice ao sides.length cp, .bool false, .string ⟨#[]⟩, .string ⟨#[]⟩] 43)).alloc (.cells #[.string (str kk), .string (str sum), .string (str kkey), .string (str val)] 75)) := ((Keeps.refl _ _).alloc _).alloc _
    have hp8 := ((Keeps.refl (fun _ => False) _).alloc (.cells #[.string (str kk), .string (str sum), .string (str kkey), .string (str val)] 75)).at_ (heap_alloc_new w6 (.cells #[.slice ao sides.length cp, .bool false, .string ⟨#[]⟩, .string ⟨#[]⟩] 43)) (fun h => h)
    have hp9 : ((w6.alloc (.cells #[.slice ao sides.length cp, .bool false, .string ⟨#[]⟩, .string ⟨#[]⟩] 43)).alloc (.cells #[.string (str kk), .string (str sum), .string (str kkey), .string (str val)] 75)).heap[w6.heap.size + 1]? = some (.cells #[.string (str kk), .string (str sum), .string (str kkey), .string (str val)] 75 (0, 0)) := by
      have := heap_alloc_new (w6.alloc (.cells #[.slice ao sides.length cp, .bool false, .string ⟨#[]⟩, .string ⟨#[]⟩] 43)) (.cells #[.string (str kk), .string (str sum), .string (str kkey), .string (str val)] 75)
      rwa [World.size_alloc] at this
    have hb7 := f7.at_ hb4 (fun h => h)
    have fr7 := f2.trans f7
    have hown7 := hown.1
    have hrow7 := ownsRow_keeps hown.1 f7 (fun _ _ h => h)
    obtain ⟨p8, hp8e⟩ : ∃ p8, w6.heap.size = p8 := ⟨_, rfl⟩
    rw [hp8e] at hp8 hp9 hlt6 ⊢
    clear q0 q1 q2 q3 z0 z1 z2 z3 f7 hown7 hb4
    generalize (w6.alloc (.cells #[.slice ao sides.length cp, .bool false, .string ⟨#[]⟩, .string ⟨#[]⟩] 43)).alloc (.cells #[.string (str kk), .string (str sum), .string (str kkey), .string (str val)] 75) = W7 at hp8 hp9 hb7 fr7 hrow7 ⊢
    have c0 := cell_at hp9 0
    have c3 := cell_at hp9 3
    simp at c0 c3
    obtain ⟨sv, hsv⟩ : ∃ sv, sha val = sv := ⟨_, rfl⟩
    have hsumv : ∀ W : World, Dig W → Calls Tryz.prog 15 #[.slice (some ⟨W.heap.size, 0, none⟩) 1 1] (W.alloc (.cells #[.string (str val)] 9)) fun e w' => e = .returned (.string (str sv)) ∧ Fresh W w' := fun W hdW => by
      have := psum_one W.heap.size val _ (heap_alloc_new W _) (hdW.alloc _) (by omega)
      rw [hsv] at this
      exact this.mono (fun e w' h => ⟨h.1, ((Keeps.refl _ _).alloc _).trans h.2⟩)
    have HSUMV := hid hsumv
    have HSVE := hid hsv
    clear hsumv hsv hvl HV
    have hp8 : W7.drew.heap[p8]? = _ := hp8
    have hp9 : W7.drew.heap[p8 + 1]? = _ := hp9
    have hb7 : W7.drew.heap[bw]? = _ := hb7
    have fr7 := fr7.drew
    have hrow7 : W7.drew.ownsRow 0 9 1 _ _ _ := hrow7
    have e0 := (cell_at (((Keeps.refl (fun _ => False) W7).alloc (.cells #[.string (str val)] 9)).at_ hp9 (fun h => h)) 0).trans rfl
    have e3 := (cell_at (((Keeps.refl (fun _ => False) W7).alloc (.cells #[.string (str val)] 9)).at_ hp9 (fun h => h)) 3).trans rfl
    simp at e0 e3
    go_cut [] (fun wx => wx.heap[p8]? = some (.cells #[.slice ao sides.length cp, .bool true, .string (str kk), .string (str sv)] 43 (0, 0)) ∧ wx.heap[bw]? = some (.cells #[.slice none 0 0, .bool false, .string ⟨#[]⟩, .string ⟨#[]⟩] 43 (0, 0)) ∧ wx.ownsRow 0 9 1 (.slice ao sides.length cp) sides.length (texts sides) ∧ Fresh w wx)
    case first =>
      go_region_law (first
        | (go_simp; go_at_call 15; refine (HSUMV.out _ (hd.fresh fr7)).mono ?_; rintro e w8 ⟨rfl, fa⟩; have fr7 := fr7.trans fa; have hp8 := fa.at_ hp8 (fun h => h); have hp9 := fa.at_ hp9 (fun h => h); have hb7 := fa.at_ hb7 (fun h => h); have hrow7 := ownsRow_keeps hrow7 fa (fun _ _ h => h); have c0 := cell_at hp9 0; have c3 := cell_at hp9 3; have b1 := cell_at hp8 1; have b2 := cell_at hp8 2; have b3 := cell_at hp8 3; have y1 := free_at hp8 1; have y2 := free_at hp8 2; have y3 := free_at hp8 3; simp at c0 c3 b1 b2 b3))
      all_goals
        have hS := heap_setCell_at (heap_setCell_at (heap_setCell_at hp8 1 (.bool true)) 2 (.string (str kk))) 3 (.string (str sv))
        have kS : Keeps (fun q => q = p8) w8 (((w8.setCell ⟨p8, 1, none⟩ (.bool true)).setCell ⟨p8, 2, none⟩ (.string (str kk))).setCell ⟨p8, 3, none⟩ (.string (str sv))) := (((Keeps.refl (fun q => q = p8) w8).setCell (p := ⟨p8, 1, none⟩) (fun _ => rfl) _).setCell (p := ⟨p8, 2, none⟩) (fun _ => rfl) _).setCell (p := ⟨p8, 3, none⟩) (fun _ => rfl) _
        go_wp2
        go_meet
        exact ⟨hS, kS.at_ hb7 (by omega), ownsRow_keeps hrow7 kS (fun g hg h => by have h1 := ownsRow_lt hown.1 hg; omega), fr7.trans' (S' := fun q => q = p8) kS (fun i hi h => by have := HLT5.out; omega)⟩
    case rest =>
      obtain ⟨hS, hbS, hrowS, frS⟩ := hcut
      have s0 := cell_at hS 0
      have s1 := cell_at hS 1
      have s2 := cell_at hS 2
      have s3 := cell_at hS 3
      have q0 := cell_at hbS 0
      have q1 := cell_at hbS 1
      have q2 := cell_at hbS 2
      have q3 := cell_at hbS 3
      have z0 := free_at hbS 0
      have z1 := free_at hbS 1
      have z2 := free_at hbS 2
      have z3 := free_at hbS 3
      simp at s0 s1 s2 s3 q0 q1 q2 q3
      go_wp2_with fail
      have hW := set4_at hbS (.slice ao sides.length cp) (.bool true) (.string (str kk)) (.string (str sv))
      have kW := set4_keeps wc bw (.slice ao sides.length cp) (.bool true) (.string (str kk)) (.string (str sv))
      have hnb : ∀ g, (Value.slice ao sides.length cp).ownBlock = some g → w.heap.size ≤ g ∧ g ≠ bw := fun g hg => by
        have h1 := hown.2 g hg
        have h2 := HLT5.out
        omega
      have hrowW := ownsRow_keeps hrowS kW (fun g hg h => (hnb g hg).2 h)
      have fin := (frS.trans' (S' := fun q => q = bw) kW (fun i hi h => by omega))
      clear kW hbS q0 q1 q2 q3 z0 z1 z2 z3 s0 s1 s2 s3
      generalize (((wc.setCell ⟨bw, 0, none⟩ _).setCell ⟨bw, 1, none⟩ _).setCell ⟨bw, 2, none⟩ _).setCell ⟨bw, 3, none⟩ _ = W at hW fin hrowW ⊢
      have d0 := cell_at hW 0
      have d1 := cell_at hW 1
      have d2 := cell_at hW 2
      have d3 := cell_at hW 3
      simp at d0 d1 d2 d3
      refine bodyPost_ret (v := .tuple #[.agg #[.slice ao sides.length cp, .bool true, .string (str kk), .string (str sv)], .int .i64 0]) (by simp [results, Tryz.results13, go_sem, d0, d1, d2, d3, Result.andThen]) rfl ⟨.slice ao sides.length cp, by rw [Tr.told, HSVE.out]; rfl, fin, hrowW, fun g hg => (hnb g hg).1⟩
end Go.Proofs.YtmflbchiapdhbaaGreatDoor
