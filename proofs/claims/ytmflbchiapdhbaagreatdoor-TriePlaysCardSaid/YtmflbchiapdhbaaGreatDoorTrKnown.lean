/-
  The law's known(): one key.
-/
import Derived.Test.YtmflbchiapdhbaaGreatDoorMTrA
import Derived.Test.YtmflbchiapdhbaaGreatDoorTrProve
import Derived.Test.YtmflbchiapdhbaaGreatDoorTrSet
import Derived.Test.YtmflbchiapdhbaaGreatDoorTrCheck
namespace Go.Proofs.YtmflbchiapdhbaaGreatDoor
open Go.RowKit

theorem sha_diff : sha [49] ≠ sha [50] := fun h => by
  have h1 := sha_one
  rw [h, sha_two] at h1
  exact absurd h1 (by decide)
theorem check_good (k sv : List UInt8) (key value : List UInt8) (hk : sha key = k) (hv : sha value = sv) (h1 : key.length ≤ 200) (h2 : value.length ≤ 1000) : checkOf [] true k sv key value true (sha (2 :: (k ++ sv))) = 0 := by
  have hkl : k.length = 32 := by rw [← hk]; exact sha_len _
  have hvl : sv.length = 32 := by rw [← hv]; exact sha_len _
  have ht : tooLong key value true = false := by simp [tooLong]; omega
  simp [checkOf, ht, fits, formOf, every32, agree, hk, hv, hkl, hvl, climb, ground]
theorem check_bad (k sv : List UInt8) (key value root : List UInt8) (_hk : sha key = k) (hv : sha value ≠ sv) (h1 : key.length ≤ 200) (h2 : value.length ≤ 1000) : checkOf [] true k sv key value true root = 240 := by
  have ht : tooLong key value true = false := by simp [tooLong]; omega
  have hv2 : ¬ sv = sha value := fun e => hv e.symm
  simp [checkOf, ht, fits, hv2]

/-- the map of one key -/
def knownLeaf : Tr := .leaf (sha [97]) (sha (2 :: (sha [97] ++ sha [49]))) [97] [49]
theorem known_dig : knownLeaf.dig (sha [97]) 0 = (knownLeaf, []) := rfl

set_option maxRecDepth 100000 in
set_option maxHeartbeats 2000000 in
theorem known_any (w : World) (hd : Dig w) :
    Calls Tryz.prog 4 #[] w fun e w' => e = .returned (.bool true) ∧ Fresh w w' := by
  obtain ⟨i0, hi, hz0, hz1, hz2⟩ := info_parts Tryz.infoByte
  have hroom := hd.room
  go_enter Tryz.func4, Tryz.ntmps4
  go_wp2_with fail
  refine (new_any w).mono ?_
  rintro e w1 ⟨rfl, f1, hm⟩
  obtain ⟨b, hb⟩ : ∃ b, w.heap.size = b := ⟨_, rfl⟩
  rw [hb] at hm ⊢
  have hkW : Keeps (fun q => b ≤ q) w w1 := f1.mono (fun _ _ h => h.elim)
  have hd1 := hd.fresh f1
  clear f1
  go_wp2_with fail
  have hr0 : Calls Tryz.prog 10 #[.pointer (some ⟨b, 0, none⟩)] w1 fun e w' => e = .returned (.string (str nought32)) ∧ Fresh w1 w' := root_any b .none 0 w1 hm
  refine hr0.mono ?_
  rintro e w2 ⟨rfl, fa⟩
  have hm : MapAt w2 b .none 0 := fa.at_ hm (fun h => h)
  have hd2 := hd1.fresh fa
  have hkW := hkW.trans (fa.mono (fun _ _ h => h.elim))
  clear fa hd1
  go_wp2_with fail
  refine (setmap_any b .none knownLeaf 0 [97] [49] w2 hm hd2 (by omega) (by simp) (by simp) (by simp [Tr.dig]) (fun w _ => set_none _ _ _ _ 0 w)).mono ?_
  rintro e w3 ⟨rfl, fa, hm⟩
  have hd3 : Dig w3 := hd2.keepsOut (B := b) (h := b) (fa.mono (fun _ _ h => .inl h)) (by omega) (by omega)
  have hkW := hkW.trans (fa.mono (fun q _ h => by omega))
  clear fa hd2
  generalize (if Tr.none.has (sha [97]) = true then (0 : Int) else wrap64 (0 + 1)) = many at hm
  go_wp2_with fail
  refine (prove_leaf b knownLeaf many [97] w3 hm hd3 (by simp) (by rw [known_dig]; simp) _ _ _ _ (by rw [known_dig]; rfl) (by simp)).mono ?_
  rintro e w4 ⟨v, rfl, fa, hown⟩
  rw [known_dig] at hown ⊢
  have hm : MapAt w4 b knownLeaf many := fa.at_ hm (fun h => h)
  have hd4 := hd3.fresh fa
  have hkW := hkW.trans (fa.mono (fun _ _ h => h.elim))
  clear fa hd3
  obtain ⟨ao, cp, rfl⟩ := ownsRow_slice hown.1
  clear hown
  obtain ⟨k, hk⟩ : ∃ k, sha [97] = k := ⟨_, rfl⟩
  obtain ⟨sv, hsv⟩ : ∃ sv, sha [49] = sv := ⟨_, rfl⟩
  obtain ⟨sm, hsm⟩ : ∃ sm, sha (2 :: (k ++ sv)) = sm := ⟨_, rfl⟩
  have hkl : k.length = 32 := by rw [← hk]; exact sha_len _
  have hsl : sv.length = 32 := by rw [← hsv]; exact sha_len _
  have hroot := fun W (hW : MapAt W b knownLeaf many) => root_any b knownLeaf many W hW
  have hrh : knownLeaf.hash = sm := by show sha (2 :: (sha [97] ++ sha [49])) = sm; rw [hk, hsv, hsm]
  rw [hrh] at hroot
  have hchk1 : ∀ W : World, Dig W → Calls Tryz.prog 14 #[.agg #[.slice ao 0 cp, .bool true, .string (str k), .string (str sv)], .string ⟨#[97]⟩, .string ⟨#[49]⟩, .bool true, .string (str sm)] W fun e w' => e = .returned (.int .i64 0) ∧ Fresh W w' := fun W hW => by
    have := check_any (.slice ao 0 cp) [] true k sv [97] [49] true sm W ⟨ao, cp, rfl, fun j s hs => by simp at hs⟩ hW (by omega) (by omega) (by simp) (by simp) (by simp) (by simp)
    rw [← hsm, check_good k sv [97] [49] hk hsv (by simp) (by simp), hsm] at this
    exact this
  have hchk2 : ∀ W : World, Dig W → Calls Tryz.prog 14 #[.agg #[.slice ao 0 cp, .bool true, .string (str k), .string (str sv)], .string ⟨#[97]⟩, .string ⟨#[50]⟩, .bool true, .string (str sm)] W fun e w' => e = .returned (.int .i64 240) ∧ Fresh W w' := fun W hW => by
    have := check_any (.slice ao 0 cp) [] true k sv [97] [50] true sm W ⟨ao, cp, rfl, fun j s hs => by simp at hs⟩ hW (by omega) (by omega) (by simp) (by simp) (by simp) (by simp)
    rw [check_bad k sv [97] [50] sm hk (by rw [← hsv]; exact fun h => sha_diff h.symm) (by simp) (by simp)] at this
    exact this
  have htold : lookupVal (.slice ao (knownLeaf, ([] : List (List UInt8))).2.length cp) (knownLeaf, ([] : List (List UInt8))).1.told = .agg #[.slice ao 0 cp, .bool true, .string (str k), .string (str sv)] := by
    show Value.agg #[.slice ao 0 cp, .bool true, .string (str (sha [97])), .string (str (sha [49]))] = _
    rw [hk, hsv]
  rw [htold]
  have HROOT := hid hroot
  have HCHK1 := hid hchk1
  have HCHK2 := hid hchk2
  have HK := hid hk
  have HSV := hid hsv
  have HSM := hid hsm
  clear hroot hchk1 hchk2 hk hsv hsm hrh htold
  go_wp2_with fail
  have hbox := heap_alloc_new w4 (.cells #[.slice ao 0 cp, .bool true, .string (str k), .string (str sv)] 43)
  have hm : MapAt (w4.alloc (.cells #[.slice ao 0 cp, .bool true, .string (str k), .string (str sv)] 43)) b knownLeaf many := ((Keeps.refl (fun _ => False) w4).alloc (.cells #[.slice ao 0 cp, .bool true, .string (str k), .string (str sv)] 43)).at_ hm (fun h => h)
  have hd5 := hd4.alloc (.cells #[.slice ao 0 cp, .bool true, .string (str k), .string (str sv)] 43)
  have hkW := hkW.alloc (.cells #[.slice ao 0 cp, .bool true, .string (str k), .string (str sv)] 43)
  have hpb : b < w4.heap.size := lt_of_block (k := b) (by assumption)
  clear hd4
  obtain ⟨pb, hpbe⟩ : ∃ pb, w4.heap.size = pb := ⟨_, rfl⟩
  rw [hpbe] at hbox hpb ⊢
  generalize w4.alloc (.cells #[.slice ao 0 cp, .bool true, .string (str k), .string (str sv)] 43) = W0 at hbox hm hd5 hkW ⊢
  go_cut [6] (fun s6 wx => s6 = .int .i64 0 ∧ Fresh W0 wx)
  case first =>
    have frx : Fresh W0 W0.drew := (Keeps.refl _ _).drew
    have c0 := cell_at hbox 0
    have c1 := cell_at hbox 1
    have c2 := cell_at hbox 2
    have c3 := cell_at hbox 3
    simp at c0 c1 c2 c3
    go_region_law (first
      | (go_simp; go_at_call 10; refine (HROOT.out _ (frx.at_ hm (fun h => h))).mono ?_; rintro e w5 ⟨rfl, fa⟩; have frx := frx.trans fa; have hbx := frx.at_ hbox (fun h => h); have d0 := cell_at hbx 0; have d1 := cell_at hbx 1; have d2 := cell_at hbx 2; have d3 := cell_at hbx 3; simp at d0 d1 d2 d3)
      | (go_simp; go_at_call 14; refine (HCHK1.out _ (hd5.fresh frx)).mono ?_; rintro e w6 ⟨rfl, fa⟩; have frx := frx.trans fa))
    all_goals
      go_wp2
      go_meet
      exact ⟨rfl, frx⟩
  case rest =>
    obtain ⟨rfl, fa⟩ := hcut
    have hm := fa.at_ hm (fun h => h)
    have hbox := fa.at_ hbox (fun h => h)
    have hd6 := hd5.fresh fa
    have hkW := hkW.trans (fa.mono (fun _ _ h => h.elim))
    clear fa hd5 HCHK1
    go_wp2_with fail
    go_cut [7] (fun s7 wx => s7 = .int .i64 240 ∧ Fresh wc wx)
    case first =>
      have frx : Fresh wc wc.drew := (Keeps.refl _ _).drew
      have c0 := cell_at hbox 0
      have c1 := cell_at hbox 1
      have c2 := cell_at hbox 2
      have c3 := cell_at hbox 3
      simp at c0 c1 c2 c3
      go_region_law (first
        | (go_simp; go_at_call 10; refine (HROOT.out _ (frx.at_ hm (fun h => h))).mono ?_; rintro e w5 ⟨rfl, fa⟩; have frx := frx.trans fa; have hbx := frx.at_ hbox (fun h => h); have d0 := cell_at hbx 0; have d1 := cell_at hbx 1; have d2 := cell_at hbx 2; have d3 := cell_at hbx 3; simp at d0 d1 d2 d3)
        | (go_simp; go_at_call 14; refine (HCHK2.out _ (hd6.fresh frx)).mono ?_; rintro e w6 ⟨rfl, fa⟩; have frx := frx.trans fa))
      all_goals
        go_wp2
        go_meet
        exact ⟨rfl, frx⟩
    case rest =>
      obtain ⟨rfl, fa⟩ := hcut
      have hm := fa.at_ hm (fun h => h)
      have hd7 := hd6.fresh fa
      have hkW := hkW.trans (fa.mono (fun _ _ h => h.elim))
      clear fa hd6 HCHK2 hbox
      go_wp2_with (at_make; refine wpList_make_full _ rfl (.const (.int .i64 32)) (.const (.int .i64 32)) 47 rfl 0 5 i0 (.int .u8 0) 1 Tryz.underlying47 hi hz0 hz1 .i64 .i64 32 32 32 rfl rfl rfl rfl (by rw [hz2]; omega) (by unfold maxLen; omega) (Nat.zero_le _) ?_)
      intro w8 hrow hgr
      have f8 : Fresh wc w8 := (Keeps.refl _ wc).grown hgr (fun k h => by cases h)
      rw [zeros_cells'] at hrow
      have hct : (convert 47 9 (.slice (some ⟨wc.heap.size, 0, none⟩) 32 32)).run Tryz.prog w8 = .ok (.string (str nought32)) w8 := run_text_of_row (P := Tryz.prog) (w := w8) (base := 0) (e := 5) (v := .slice (some ⟨wc.heap.size, 0, none⟩) 32 32) (bs := nought32) 47 9 Tryz.underlying47 Tryz.underlying5 Tryz.underlying9 hrow
      have hm := f8.at_ hm (fun h => h)
      have hd8 := hd7.fresh f8
      have hkW := hkW.trans (f8.mono (fun _ _ h => h.elim))
      clear f8 hd7 hrow hgr
      generalize hnn : nought32 = n32 at hct ⊢
      go_wp2_with fail
      refine (HROOT.out _ hm).mono ?_
      rintro e w9 ⟨rfl, fa⟩
      have hd9 := hd8.fresh fa
      have hkW := hkW.trans (fa.mono (fun _ _ h => h.elim))
      clear fa hd8 hct hm
      have hsa := psum_one w9.heap.size [97] (w9.alloc (.cells #[.string ⟨#[97]⟩] 9)) (heap_alloc_new w9 _) (hd9.alloc _) (by simp)
      rw [HK.out] at hsa
      have HSA := hid hsa
      clear hsa
      go_wp2_with fail
      refine HSA.out.mono ?_
      rintro e w10 ⟨rfl, fa⟩
      have f9 := ((Keeps.refl (fun _ => False) w9).alloc (.cells #[.string ⟨#[97]⟩] 9)).trans fa
      have hd10 := hd9.fresh f9
      have hkW := hkW.trans (f9.mono (fun _ _ h => h.elim))
      clear fa hd9 f9 HSA
      have hsb := psum_one w10.heap.size [49] (w10.alloc (.cells #[.string ⟨#[49]⟩] 9)) (heap_alloc_new w10 _) (hd10.alloc _) (by simp)
      rw [HSV.out] at hsb
      have HSB := hid hsb
      clear hsb
      go_wp2_with fail
      refine HSB.out.mono ?_
      rintro e w11 ⟨rfl, fa⟩
      have f9 := ((Keeps.refl (fun _ => False) w10).alloc (.cells #[.string ⟨#[49]⟩] 9)).trans fa
      have hd11 := hd10.fresh f9
      have hkW := hkW.trans (f9.mono (fun _ _ h => h.elim))
      clear fa hd10 f9 HSB
      have hsc := psum_three w11.heap.size [2] k sv (w11.alloc (.cells #[.string ⟨#[2]⟩, .string (str k), .string (str sv)] 9)) (heap_alloc_new w11 _) (hd11.alloc _) (by simp; omega)
      have hsm2 : sha ([2] ++ (k ++ sv)) = sm := HSM.out
      rw [hsm2] at hsc
      have HSC := hid hsc
      clear hsc hsm2
      go_wp2_with fail
      refine HSC.out.mono ?_
      rintro e w12 ⟨rfl, fa⟩
      have f9 := ((Keeps.refl (fun _ => False) w11).alloc (.cells #[.string ⟨#[2]⟩, .string (str k), .string (str sv)] 9)).trans fa
      have hkW := hkW.trans (f9.mono (fun _ _ h => h.elim))
      clear fa hd11 f9 HSC
      go_wp2_with fail
      go_ret
      exact ⟨by simp, hkW.mono (fun i hi h => by omega)⟩
end Go.Proofs.YtmflbchiapdhbaaGreatDoor
