/-
  The laws on spans: asks.
-/
import Derived.Test.YtgikabafaocemaaDoorSpLawT
import Derived.Test.YtgikabafaocemaaDoorMMsF
import Derived.Deep.CutBlock
import Derived.Deep.RegionHeldLaw
namespace Go.Proofs.YtgikabafaocemaaDoor
open Go.RowKit

theorem lentL_drop (l : List (List UInt8)) : (lentL l).drop l.length = List.replicate 8 spareL := by simp [lentL]
theorem revTo_fin {M K : List (List UInt8)} (h : K.length = M.length) : revTo (lentL K) M M.length = lentL M.reverse := by
  unfold revTo
  rw [List.take_of_length_le (by simp), ← h, lentL_drop]
  rfl
theorem rootOf_len (n b e : Int) (H L : List (List UInt8)) : (rootOf n b e H L).1.length ≤ 32 := by
  unfold rootOf
  split
  · simp
  · split
    · simp
    · rename_i h1 h2
      have h3 : L.length = (e - b).toNat := by
        apply Classical.byContradiction; intro q; exact h2 (.inr (.inl (by omega)))
      have h4 : all32P L := Classical.byContradiction fun q => h2 (.inr (.inr (.inl q)))
      have h5 : all32P H := Classical.byContradiction fun q => h2 (.inr (.inr (.inr (.inl q))))
      have h6 : (toldF 40 b.toNat e.toNat 0 n.toNat).length = H.length := Classical.byContradiction fun q => h2 (.inr (.inr (.inr (.inr q))))
      have := walkF_all 40 b.toNat e.toNat 0 n.toNat H L (by omega) (by omega) (by omega) (by omega) (by unfold inRun; omega) h5 h4
      simp only at this ⊢
      omega

set_option maxRecDepth 100000 in
set_option maxHeartbeats 16000000 in
theorem asks_any (sz b e : Int) (vH vL : Value) (H L : List (List UInt8)) (root : List UInt8) (w : World) (hH : TextsAt w vH H) (hL : TextsAt w vL L) (hd : Dig w) (hnb : H.length ≤ 8796093022200) (hmb : L.length ≤ 8796093022200) :
    Calls Tryd.prog 20 #[runV sz b e vH, vL, .string (str root)] w fun x w' => x = .returned (.bool true) ∧ Fresh w w' := by
  have f0 : Fresh w (w.alloc (.cells #[.int .i64 sz, .int .i64 b, .int .i64 e, vH] 41)) := (Keeps.refl _ _).alloc _
  have hrb0 := heap_alloc_new w (.cells #[.int .i64 sz, .int .i64 b, .int .i64 e, vH] 41)
  have hlentH := fun W (f : Fresh w W) => lent_any vH H W (hH.fresh f) hnb
  have hlentL := fun W (f : Fresh w W) => lent_any vL L W (hL.fresh f) hmb
  obtain ⟨aoH, capH, rfl, hkH⟩ := hH
  obtain ⟨aoL, capL, rfl, hkL⟩ := hL
  obtain ⟨n, hn⟩ : ∃ n, H.length = n := ⟨_, rfl⟩
  obtain ⟨m, hm⟩ : ∃ m, L.length = m := ⟨_, rfl⟩
  rw [hn] at hnb hlentH hrb0 f0 ⊢
  rw [hm] at hmb hlentL ⊢
  have hni : (n : Int) + 8 ≤ 9000000000000 := by omega
  have hmi : (m : Int) + 8 ≤ 9000000000000 := by omega
  obtain ⟨i0, hi, hz0, hz1, hz2⟩ := info_parts Tryd.infoText
  have HLH := hid hlentH
  have HLL := hid hlentL
  have HKH := hid hkH
  have HKL := hid hkL
  have HN := hid hn
  have HM := hid hm
  have HNB := hid hnb
  have HMB := hid hmb
  have HD := hid hd
  have HRB0 := hid hrb0
  clear hlentH hlentL hkH hkL hn hm hnb hmb hd hrb0
  unfold runV
  go_enter Tryd.func20, Tryd.ntmps20
  go_wp2_with fail
  refine (HLH.out _ f0).mono ?_
  rintro x w1 ⟨gh, rfl, hg1, hgl1, f1⟩
  have f1' := f0.trans f1
  have HG1 := hid hg1
  clear hg1
  go_wp2_with fail
  refine (HLL.out _ f1').mono ?_
  rintro x w2 ⟨gl, rfl, hg2, hgl2, f2⟩
  have f2' := f1'.trans f2
  have hgh2 := f2.at_ HG1.out (fun h => h)
  have hrb2 := (f1.trans f2).at_ HRB0.out (fun h => h)
  have hghl := lt_of_block HG1.out
  have hs0 : (w.alloc (.cells #[.int .i64 sz, .int .i64 b, .int .i64 e, .slice aoH n capH] 41)).heap.size = w.heap.size + 1 := World.size_alloc _ _
  have HRB := hid hrb2
  have hw2 := f2'.size
  generalize hrbe : w.heap.size = rb at HRB hs0 hw2 ⊢
  have HRBE := hid hrbe
  have HGH := hid hgh2
  have HGL := hid hg2
  have hne : gh ≠ gl := by omega
  have hrgh : rb < gh := by omega
  have hrgl : rb < gl := by omega
  clear hgh2 hg2 hrb2 f0 f1 f2 f1' HRB0 HG1 hrbe hs0
  go_wp2_with fail
  go_loopw [9] (fun i wr => ∃ (t : Nat) (K J : List (List UInt8)), i = .int .i64 (t : Int) ∧ t ≤ 2 ∧ K.length = n ∧ J.length = m ∧ wr.heap[gh]? = some (textsC (lentL K)) ∧ wr.heap[gl]? = some (textsC (lentL J)) ∧ Keeps (fun q => q = gh ∨ q = gl) w2 wr) (fun i _ => 2 - (intOf i).toNat)
  case atStart => exact ⟨0, H, L, rfl, by omega, HN.out, HM.out, HGH.out, HGL.out, Keeps.refl _ _⟩
  case round =>
    obtain ⟨t, K, J, rfl, ht, hK, hJ, hg1, hg2, kW⟩ := hrel
    by_cases hlt : t < 2
    · have ht2 : (t : Int) < 2 := by omega
      have HLT := hid hlt
      have HG1 := hid hg1
      have HG2 := hid hg2
      have HK := hid hK
      have HJ := hid hJ
      clear hlt ht hg1 hg2 hK hJ
      have hrbw := kW.at_ HRB.out (fun e => by omega)
      have HRBW := hid hrbw
      have r3 := (cell_at hrbw 3).trans (show _ = some (Value.slice aoH n capH) from rfl)
      clear hrbw
      go_upto_if 35 with fail
      go_cut [10, 11] from 35 to 72 (fun s10 s11 wx => ∃ (K1 J1 : List (List UInt8)), K1.length = n ∧ J1.length = m ∧ wx.heap[gh]? = some (textsC (lentL K1)) ∧ wx.heap[gl]? = some (textsC (lentL J1)) ∧ Keeps (fun q => q = gh ∨ q = gl) w2 wx)
      case first =>
        by_cases ht1 : t = 1
        · have hke : ((t : Int) == 1) = true := by simp [ht1]
          rw [hke]
          clear ht1 hke
          as_aux_lemma =>
            go_wp2_with fail
            go_loopw [10] (fun i wx => ∃ q : Nat, i = .int .i64 (q : Int) ∧ q ≤ n ∧ wx.heap[gh]? = some (textsC (revTo (lentL K) H q)) ∧ Keeps (fun z => z = gh) wr wx) (fun i _ => n - (intOf i).toNat)
            case atStart => exact ⟨0, rfl, Nat.zero_le _, by rw [revTo_zero]; exact HG1.out, Keeps.refl _ _⟩
            case round =>
              obtain ⟨q, rfl, hq, hg, kx⟩ := hrel
              by_cases hlq : q < n
              · obtain ⟨s, hs⟩ : ∃ s, H[n - 1 - q]? = some s := ⟨H[n - 1 - q]'(by have := HN.out; omega), by simp⟩
                obtain ⟨bb, off, e2, hbb, hcw⟩ := HKH.out (n - 1 - q) s hs
                subst e2
                have hbr : bb < rb := by have := HRBE.out; omega
                have h2w := kW.size
                have hcell := (kx.cell (p := ⟨bb, off + (n - 1 - q), none⟩) (by show bb < _; have := kW.size; omega) (show ¬ bb = gh by omega)).trans ((kW.cell (p := ⟨bb, off + (n - 1 - q), none⟩) (by show bb < _; omega) (show ¬ (bb = gh ∨ bb = gl) by omega)).trans ((f2'.cell (p := ⟨bb, off + (n - 1 - q), none⟩) hbb (fun h => h)).trans hcw))
                obtain ⟨s0, hs0⟩ : ∃ s0, (revTo (lentL K) H q)[q]? = some s0 := ⟨(revTo (lentL K) H q)[q]'(by rw [revTo_len (by have := HN.out; omega) (by rw [lentL_len]; have := HN.out; have := HK.out; omega), lentL_len]; have := HK.out; omega), by simp⟩
                have c0 := textsC_cell hg hs0
                have z0 := textsC_free hg q
                have hset := textsC_set hg q s
                rw [revTo_set (by have := HN.out; omega) (by rw [lentL_len]; have := HN.out; have := HK.out; omega) (by rw [HN.out]; exact hs)] at hset
                have kS : Keeps (fun z => z = gh) wr (wr.setCell ⟨gh, q, none⟩ (.string (str s))) := (Keeps.refl (fun z => z = gh) wr).setCell (p := ⟨gh, q, none⟩) (fun _ => rfl) _
                have kx2 := kx.trans kS
                have hrb5 := kx.at_ HRBW.out (fun e => by omega)
                have r3 := (cell_at hrb5 3).trans (show _ = some (Value.slice _ n capH) from rfl)
                obtain ⟨P, hP⟩ : ∃ P, n - 1 - q = P := ⟨_, rfl⟩
                rw [hP] at hcell
                have hPi : (n : Int) - 1 - (q : Int) = (P : Int) := by omega
                have hPn : (P : Int) < (n : Int) := by omega
                have hqn : (q : Int) < (n : Int) := by omega
                have hqn8 : (q : Int) < (n : Int) + 8 := by omega
                have HSET := hid hset
                have HLQ := hid hlq
                clear hset hs hs0 hcw hbb hbr h2w hP hlq hq hg kS hrb5
                go_wp2_with fail
                go_roundw
                case rel => exact ⟨q + 1, by simp, HLQ.out, HSET.out, kx2⟩
                case measure => have := HLQ.out; simp [intOf]; omega
              · have hqe : q = n := by omega
                have hgE : wr.heap[gh]? = some (textsC (lentL H.reverse)) := by rw [hg, hqe, ← HN.out, revTo_fin (by rw [HK.out, HN.out])]
                have HGE1 := hid hgE
                have hqn : ¬ (q : Int) < (n : Int) := by omega
                have hrb5 := kx.at_ HRBW.out (fun e => by omega)
                have HRBW := hid hrb5
                have r3 := (cell_at hrb5 3).trans (show _ = some (Value.slice aoH n capH) from rfl)
                have kW := kW.trans (kx.mono (fun _ _ h => .inl h))
                have HOTHER := hid (kx.at_ HG2.out (by omega))
                clear hgE hg hlq hq hqe hrb5
                go_wp2_with fail
                go_loopw [11] (fun i wx => ∃ q : Nat, i = .int .i64 (q : Int) ∧ q ≤ m ∧ wx.heap[gl]? = some (textsC (revTo (lentL J) L q)) ∧ Keeps (fun z => z = gl) wr wx) (fun i _ => m - (intOf i).toNat)
                case atStart => exact ⟨0, rfl, Nat.zero_le _, by rw [revTo_zero]; exact HOTHER.out, Keeps.refl _ _⟩
                case round =>
                  obtain ⟨q, rfl, hq, hg, kx⟩ := hrel
                  by_cases hlq : q < m
                  · obtain ⟨s, hs⟩ : ∃ s, L[m - 1 - q]? = some s := ⟨L[m - 1 - q]'(by have := HM.out; omega), by simp⟩
                    obtain ⟨bb, off, e2, hbb, hcw⟩ := HKL.out (m - 1 - q) s hs
                    subst e2
                    have hbr : bb < rb := by have := HRBE.out; omega
                    have h2w := kW.size
                    have hcell := (kx.cell (p := ⟨bb, off + (m - 1 - q), none⟩) (by show bb < _; have := kW.size; omega) (show ¬ bb = gl by omega)).trans ((kW.cell (p := ⟨bb, off + (m - 1 - q), none⟩) (by show bb < _; omega) (show ¬ (bb = gh ∨ bb = gl) by omega)).trans ((f2'.cell (p := ⟨bb, off + (m - 1 - q), none⟩) hbb (fun h => h)).trans hcw))
                    obtain ⟨s0, hs0⟩ : ∃ s0, (revTo (lentL J) L q)[q]? = some s0 := ⟨(revTo (lentL J) L q)[q]'(by rw [revTo_len (by have := HM.out; omega) (by rw [lentL_len]; have := HM.out; have := HJ.out; omega), lentL_len]; have := HJ.out; omega), by simp⟩
                    have c0 := textsC_cell hg hs0
                    have z0 := textsC_free hg q
                    have hset := textsC_set hg q s
                    rw [revTo_set (by have := HM.out; omega) (by rw [lentL_len]; have := HM.out; have := HJ.out; omega) (by rw [HM.out]; exact hs)] at hset
                    have kS : Keeps (fun z => z = gl) wr (wr.setCell ⟨gl, q, none⟩ (.string (str s))) := (Keeps.refl (fun z => z = gl) wr).setCell (p := ⟨gl, q, none⟩) (fun _ => rfl) _
                    have kx2 := kx.trans kS
                    have hrb5 := kx.at_ HRBW.out (fun e => by omega)
                    have r3 := (cell_at hrb5 3).trans (show _ = some (Value.slice _ n capH) from rfl)
                    obtain ⟨P, hP⟩ : ∃ P, m - 1 - q = P := ⟨_, rfl⟩
                    rw [hP] at hcell
                    have hPi : (m : Int) - 1 - (q : Int) = (P : Int) := by omega
                    have hPn : (P : Int) < (m : Int) := by omega
                    have hqn : (q : Int) < (m : Int) := by omega
                    have hqn8 : (q : Int) < (m : Int) + 8 := by omega
                    have HSET := hid hset
                    have HLQ := hid hlq
                    clear hset hs hs0 hcw hbb hbr h2w hP hlq hq hg kS hrb5
                    go_wp2_with fail
                    go_roundw
                    case rel => exact ⟨q + 1, by simp, HLQ.out, HSET.out, kx2⟩
                    case measure => have := HLQ.out; simp [intOf]; omega
                  · have hqe : q = m := by omega
                    have hgE : wr.heap[gl]? = some (textsC (lentL L.reverse)) := by rw [hg, hqe, ← HM.out, revTo_fin (by rw [HJ.out, HM.out])]
                    have HGE2 := hid hgE
                    have hqn : ¬ (q : Int) < (m : Int) := by omega
                    have hrb5 := kx.at_ HRBW.out (fun e => by omega)
                    have HRBW := hid hrb5
                    have r3 := (cell_at hrb5 3).trans (show _ = some (Value.slice aoH n capH) from rfl)
                    have kW := kW.trans (kx.mono (fun _ _ h => .inr h))
                    have HOTHER := hid (kx.at_ HGE1.out (by omega))
                    clear hgE hg hlq hq hqe hrb5
                    go_wp2_with fail
                    go_meet
                    case rel => exact ⟨H.reverse, L.reverse, by rw [List.length_reverse]; exact HN.out, by rw [List.length_reverse]; exact HM.out, HOTHER.out, HGE2.out, kW⟩
        · have hke : ((t : Int) == 1) = false := by simpa using (show ¬ (t : Int) = 1 by omega)
          rw [hke]
          clear ht1 hke
          go_wp2_with fail
          go_meet
          case rel => exact ⟨K, J, HK.out, HJ.out, HG1.out, HG2.out, kW⟩
      case rest =>
        obtain ⟨K1, J1, hKA, hJA, hgA, hgB, kW⟩ := hcut
        clear HRBW r3
        have hrbw := kW.at_ HRB.out (fun e => by omega)
        have HRBW := hid hrbw
        have r3 := (cell_at hrbw 3).trans (show _ = some (Value.slice aoH n capH) from rfl)
        have HGA := hid hgA
        have HGB := hid hgB
        have HKA := hid hKA
        have HJA := hid hJA
        clear hgA hgB hKA hJA hrbw HG1 HG2 HK HJ
        as_aux_lemma =>
          have hdr : Dig wc := ⟨(HD.out.fresh f2').tab.keeps kW (fun e => by have := HD.out.room; have := HRBE.out; omega), (HD.out.fresh f2').first.keeps kW (fun e => by have := HD.out.room; have := HRBE.out; omega), Nat.le_trans (HD.out.fresh f2').room kW.size⟩
          have hHat : TextsAt wc (.slice (some ⟨gh, 0, none⟩) n (n + 8)) K1 := by rw [← HKA.out]; exact textsC_at HGA.out (lentL_take K1)
          have hLat : TextsAt wc (.slice (some ⟨gl, 0, none⟩) m (m + 8)) J1 := by rw [← HJA.out]; exact textsC_at HGB.out (lentL_take J1)
          have hsrcH : Src Tryd.prog 1 26 (.slice (some ⟨gh, 0, none⟩) n (n + 8)) n (texts K1) wc := by have := Src.ofTexts (P := Tryd.prog) Tryd.underlying26 hHat; rw [HKA.out] at this; exact this
          go_wp2_with (at_builtin; refine wpList_append_src rfl (.const (.slice none 0 0)) (.tmp 77) 26 26 rfl 9 i0 (.string ⟨#[]⟩) 1 16 Tryd.underlying26 hi hz0 hz1 hz2 rfl (by decide) (World.ownsRow_nil _ _ _ _) _ n (texts K1) (by rfl) (by rfl) hsrcH (by have := HNB.out; unfold maxLen; omega) (by have := HNB.out; omega) ?_)
          intro v6 w6 ha
          replace ha : Appended 9 1 wc w6 (.slice none 0 0) v6 n (texts K1) := ha
          have f6 := fresh_of_append ha
          obtain ⟨ao6, cp6, rfl⟩ := ownsRow_slice ha.row
          have hL6 := hLat.fresh f6
          have hsrcL : Src Tryd.prog 1 26 (.slice (some ⟨gl, 0, none⟩) m (m + 8)) m (texts J1) w6 := by have := Src.ofTexts (P := Tryd.prog) Tryd.underlying26 hL6; rw [HJA.out] at this; exact this
          go_wp2_with (at_builtin; refine wpList_append_src rfl (.const (.slice none 0 0)) (.tmp 82) 26 26 rfl 9 i0 (.string ⟨#[]⟩) 1 16 Tryd.underlying26 hi hz0 hz1 hz2 rfl (by decide) (World.ownsRow_nil _ _ _ _) _ m (texts J1) (by rfl) (by rfl) hsrcL (by have := HMB.out; unfold maxLen; omega) (by have := HMB.out; omega) ?_)
          intro v7 w7 hb
          replace hb : Appended 9 1 w6 w7 (.slice none 0 0) v7 m (texts J1) := hb
          have f7 := fresh_of_append hb
          obtain ⟨ao7, cp7, rfl⟩ := ownsRow_slice hb.row
          have f67 := f6.trans f7
          have hb7 := f67.at_ HRBW.out (fun h => h)
          have HB7 := hid hb7
          clear r3
          have r0 := (cell_at hb7 0).trans (show _ = some (Value.int .i64 sz) from rfl)
          have r1 := (cell_at hb7 1).trans (show _ = some (Value.int .i64 b) from rfl)
          have r2 := (cell_at hb7 2).trans (show _ = some (Value.int .i64 e) from rfl)
          have r3 := (cell_at hb7 3).trans (show _ = some (Value.slice aoH n capH) from rfl)
          have hrb7 := lt_of_block hb7
          have HA := hid ha.row
          have HB := hid hb.row
          have HHAT := hid hHat
          have HLAT := hid hLat
          have HDR := hid hdr
          clear hb7 ha hb hHat hLat hL6 hsrcH hsrcL hdr
          go_wp2_with fail
          go_region
          have fc : Fresh w7 ((w7.alloc (.cells #[.int .i64 sz, .int .i64 b, .int .i64 e, .slice (some ⟨gh, 0, none⟩) n (n + 8)] 41)).drew) := ((Keeps.refl _ _).alloc _).drew
          have hcb : ((w7.alloc (.cells #[.int .i64 sz, .int .i64 b, .int .i64 e, .slice (some ⟨gh, 0, none⟩) n (n + 8)] 41)).drew).heap[w7.heap.size]? = some (.cells #[.int .i64 sz, .int .i64 b, .int .i64 e, .slice (some ⟨gh, 0, none⟩) n (n + 8)] 41 (0, 0)) := heap_alloc_new w7 _
          generalize (w7.alloc (.cells #[.int .i64 sz, .int .i64 b, .int .i64 e, .slice (some ⟨gh, 0, none⟩) n (n + 8)] 41)).drew = wC at fc hcb ⊢
          generalize w7.heap.size = cb at hcb ⊢
          clear r0 r1 r2 r3 hrb7
          have hbc := fc.at_ HB7.out (fun h => h)
          have r0 := (cell_at hbc 0).trans (show _ = some (Value.int .i64 sz) from rfl)
          have r1 := (cell_at hbc 1).trans (show _ = some (Value.int .i64 b) from rfl)
          have r2 := (cell_at hbc 2).trans (show _ = some (Value.int .i64 e) from rfl)
          have HCB := hid hcb
          clear hcb hbc
          go_wp2_with fail
          have fd : Fresh wC (wC.alloc (.cells #[.int .i64 sz, .int .i64 b, .int .i64 e, .slice ao6 n cp6] 41)) := (Keeps.refl _ _).alloc _
          have hdb := heap_alloc_new wC (.cells #[.int .i64 sz, .int .i64 b, .int .i64 e, .slice ao6 n cp6] 41)
          generalize wC.alloc (.cells #[.int .i64 sz, .int .i64 b, .int .i64 e, .slice ao6 n cp6] 41) = wb at fd hdb ⊢
          generalize wC.heap.size = db at hdb ⊢
          have f7b := fc.trans fd
          have fwb := f67.trans f7b
          have HCBD := hid (fd.at_ HCB.out (fun h => h))
          have HDBD := hid hdb
          have hrow6 := ownsRow_keeps (ownsRow_keeps HA.out f7 (fun _ _ h => h)) f7b (fun _ _ h => h)
          have hrow7 := ownsRow_keeps HB.out f7b (fun _ _ h => h)
          have h6t : TextsAt wb (.slice ao6 n cp6) K1 := OwnTexts_at (by rw [HKA.out]; exact hrow6)
          have h7t : TextsAt wb (.slice ao7 m cp7) J1 := OwnTexts_at (by rw [HJA.out]; exact hrow7)
          have hHl : K1.length ≤ 9223372036854775807 := by have := HKA.out; have := HNB.out; omega
          have hLl : J1.length ≤ 9223372036854775807 := by have := HJA.out; have := HMB.out; omega
          have hcap6 := row_le HA.out
          have hcap7 := row_le HB.out
          have hHb : ∀ W, Fresh wb W → TextsAt W (.slice (some ⟨gh, 0, none⟩) n (n + 8)) K1 := fun W f => HHAT.out.fresh (fwb.trans f)
          have hLb : ∀ W, Fresh wb W → TextsAt W (.slice (some ⟨gl, 0, none⟩) m (m + 8)) J1 := fun W f => HLAT.out.fresh (fwb.trans f)
          have hdb' : ∀ W, Fresh wb W → Dig W := fun W f => HDR.out.fresh (fwb.trans f)
          have hrr := fun W (f : Fresh wb W) => rroot_any sz b e (.slice ao6 n cp6) (.slice ao7 m cp7) K1 J1 W (h6t.fresh f) (h7t.fresh f) hHl hLl (fun wb q => listBut_new (h6t.fresh f) rfl hcap6 wb q) (fun wb q => listBut_new (h7t.fresh f) rfl hcap7 wb q)
          have hpr := fun W (f : Fresh wb W) => proot_any sz b e (.slice (some ⟨gh, 0, none⟩) n (n + 8)) (.slice (some ⟨gl, 0, none⟩) m (m + 8)) K1 J1 W (hHb W f) (hLb W f) hHl hLl (hdb' W f) (fun wb q => listBut_new (hHb W f) rfl (by omega) wb q) (fun wb q => listBut_new (hLb W f) rfl (by omega) wb q)
          have hrc := fun rt W (f : Fresh wb W) => rcheck_any sz b e (.slice ao6 n cp6) (.slice ao7 m cp7) K1 J1 rt W (h6t.fresh f) (h7t.fresh f) hHl hLl (fun wb q => listBut_new (h6t.fresh f) rfl hcap6 wb q) (fun wb q => listBut_new (h7t.fresh f) rfl hcap7 wb q)
          have hpc := fun rt W (f : Fresh wb W) => pcheck_any sz b e (.slice (some ⟨gh, 0, none⟩) n (n + 8)) (.slice (some ⟨gl, 0, none⟩) m (m + 8)) K1 J1 rt W (hHb W f) (hLb W f) hHl hLl (hdb' W f) (fun wb q => listBut_new (hHb W f) rfl (by omega) wb q) (fun wb q => listBut_new (hLb W f) rfl (by omega) wb q)
          have hrl := rootOf_len sz b e K1 J1
          generalize rootOf sz b e K1 J1 = RT at hrr hpr hrl
          obtain ⟨RO, ER⟩ := RT
          simp only at hrr hpr hrl
          have hbent := fun W => bent_any RO W (by omega)
          obtain ⟨BT, hBT⟩ : ∃ BT, bentL RO = BT := ⟨_, rfl⟩
          rw [hBT] at hbent
          obtain ⟨ck, hck⟩ : ∃ ck, checkOf sz b e K1 J1 = ck := ⟨_, rfl⟩
          rw [hck] at hrc hpc
          unfold runV at hrr hpr hrc hpc
          have HRR := hid hrr
          have HPR := hid hpr
          have HRC := hid hrc
          have HPC := hid hpc
          have HBENT := hid hbent
          have HKEPT1 := hid (fun W (f : Fresh wb W) => kept_any gh (.slice ao6 n cp6) K1 W ((fwb.trans f).at_ HGA.out (fun h => h)) (h6t.fresh f) (by rw [HKA.out]; exact HNB.out))
          have HKEPT2 := hid (fun W (f : Fresh wb W) => kept_any gl (.slice ao7 m cp7) J1 W ((fwb.trans f).at_ HGB.out (fun h => h)) (h7t.fresh f) (by rw [HJA.out]; exact HMB.out))
          rw [HKA.out] at HKEPT1
          rw [HJA.out] at HKEPT2
          have hq1 : ((str RO).toList != (str RO).toList) = false := by simp
          have hq2 : (ER != ER) = false := by simp
          clear hrr hpr hrc hpc hbent h6t h7t hHb hLb hHl hLl hrow6 hrow7 hcap6 hcap7 hdb hdb' hck hBT hrl r0 r1 r2 f6 f7 f67 fc fd f7b
          have fb := Keeps.refl (fun _ => False) wb
          have hmle : (m : Int) ≤ (m : Int) + 8 := by omega
          have hnle : (n : Int) ≤ (n : Int) + 8 := by omega
          have PK := hid (And.intro HLT (And.intro HGA (And.intro HGB (And.intro HKA (And.intro HJA (And.intro kW (And.intro fwb (And.intro HCBD (And.intro HDBD (And.intro HRR (And.intro HPR (And.intro HRC (And.intro HPC (And.intro HBENT (And.intro HKEPT1 (And.intro HKEPT2 (hne)))))))))))))))))
          clear HLT HGA HGB HKA HJA kW fwb HCBD HDBD HRR HPR HRC HPC HBENT HKEPT1 HKEPT2 hne HLH HLL HKH HKL HN HM HRB HRBE HGH HGL HD hgl1 hgl2 hghl hw2 hrgh hrgl HNB HMB HA HB HHAT HLAT HDR HCB hi hz0 hz1 hz2 HRBW HB7 f2' ht2
          as_aux_lemma =>
            have HCBD := PK.out.2.2.2.2.2.2.2.1
            have HDBD := PK.out.2.2.2.2.2.2.2.2.1
            have hcbW := (fb).at_ HCBD.out (fun h => h)
            have hdbW := (fb).at_ HDBD.out (fun h => h)
            have C0 := (cell_at hcbW 0).trans (show _ = some (Value.int .i64 sz) from rfl)
            have C1 := (cell_at hcbW 1).trans (show _ = some (Value.int .i64 b) from rfl)
            have C2 := (cell_at hcbW 2).trans (show _ = some (Value.int .i64 e) from rfl)
            have C3 := (cell_at hcbW 3).trans (show _ = some (Value.slice (some ⟨gh, 0, none⟩) n (n + 8)) from rfl)
            have D0 := (cell_at hdbW 0).trans (show _ = some (Value.int .i64 sz) from rfl)
            have D1 := (cell_at hdbW 1).trans (show _ = some (Value.int .i64 b) from rfl)
            have D2 := (cell_at hdbW 2).trans (show _ = some (Value.int .i64 e) from rfl)
            have D3 := (cell_at hdbW 3).trans (show _ = some (Value.slice ao6 n cp6) from rfl)
            have CL := lt_of_block hcbW
            have DL := lt_of_block hdbW
            clear hcbW hdbW HCBD HDBD
            have HPR := PK.out.2.2.2.2.2.2.2.2.2.2.1
            go_region_law (first | (go_simp; go_at_call 25; with_reducible refine (HPR.out _ (by first | exact fb.drew | exact fb)).mono ?_; rintro x w19 ⟨rfl, f19⟩; have f19 : Fresh wb w19 := (by first | exact fb.drew.trans f19 | exact fb.trans f19); dsimp only))
            clear HPR
            clear C0 C1 C2 C3 D0 D1 D2 D3 CL DL
            as_aux_lemma =>
              have HCBD := PK.out.2.2.2.2.2.2.2.1
              have HDBD := PK.out.2.2.2.2.2.2.2.2.1
              have hcbW := (f19).at_ HCBD.out (fun h => h)
              have hdbW := (f19).at_ HDBD.out (fun h => h)
              have C0 := (cell_at hcbW 0).trans (show _ = some (Value.int .i64 sz) from rfl)
              have C1 := (cell_at hcbW 1).trans (show _ = some (Value.int .i64 b) from rfl)
              have C2 := (cell_at hcbW 2).trans (show _ = some (Value.int .i64 e) from rfl)
              have C3 := (cell_at hcbW 3).trans (show _ = some (Value.slice (some ⟨gh, 0, none⟩) n (n + 8)) from rfl)
              have D0 := (cell_at hdbW 0).trans (show _ = some (Value.int .i64 sz) from rfl)
              have D1 := (cell_at hdbW 1).trans (show _ = some (Value.int .i64 b) from rfl)
              have D2 := (cell_at hdbW 2).trans (show _ = some (Value.int .i64 e) from rfl)
              have D3 := (cell_at hdbW 3).trans (show _ = some (Value.slice ao6 n cp6) from rfl)
              have CL := lt_of_block hcbW
              have DL := lt_of_block hdbW
              clear hcbW hdbW HCBD HDBD
              have HRR := PK.out.2.2.2.2.2.2.2.2.2.1
              go_wp2_with fail
              refine (HRR.out w19 f19).mono ?_
              rintro x w20 ⟨rfl, f20⟩
              have f20 := f19.trans f20
              clear HRR f19
              clear C0 C1 C2 C3 D0 D1 D2 D3 CL DL
              as_aux_lemma =>
                have HCBD := PK.out.2.2.2.2.2.2.2.1
                have HDBD := PK.out.2.2.2.2.2.2.2.2.1
                have hcbW := (f20).at_ HCBD.out (fun h => h)
                have hdbW := (f20).at_ HDBD.out (fun h => h)
                have C0 := (cell_at hcbW 0).trans (show _ = some (Value.int .i64 sz) from rfl)
                have C1 := (cell_at hcbW 1).trans (show _ = some (Value.int .i64 b) from rfl)
                have C2 := (cell_at hcbW 2).trans (show _ = some (Value.int .i64 e) from rfl)
                have C3 := (cell_at hcbW 3).trans (show _ = some (Value.slice (some ⟨gh, 0, none⟩) n (n + 8)) from rfl)
                have D0 := (cell_at hdbW 0).trans (show _ = some (Value.int .i64 sz) from rfl)
                have D1 := (cell_at hdbW 1).trans (show _ = some (Value.int .i64 b) from rfl)
                have D2 := (cell_at hdbW 2).trans (show _ = some (Value.int .i64 e) from rfl)
                have D3 := (cell_at hdbW 3).trans (show _ = some (Value.slice ao6 n cp6) from rfl)
                have CL := lt_of_block hcbW
                have DL := lt_of_block hdbW
                clear hcbW hdbW HCBD HDBD
                go_wp2_with fail
                have HPC := PK.out.2.2.2.2.2.2.2.2.2.2.2.2.1
                have r20 := Keeps.refl (fun _ => False) w20
                go_region_law (first | (go_simp; go_at_call 31; with_reducible refine (HPC.out root _ (by first | exact (f20).drew | exact f20)).mono ?_; rintro x w21 ⟨rfl, f2x⟩; have g2x : Fresh w20 w21 := (by first | exact r20.drew.trans f2x | exact r20.trans f2x); dsimp only))
                have f21 := (f20).trans g2x
                clear r20 g2x f2x HPC
                clear C0 C1 C2 C3 D0 D1 D2 D3 CL DL
                as_aux_lemma =>
                  have HCBD := PK.out.2.2.2.2.2.2.2.1
                  have HDBD := PK.out.2.2.2.2.2.2.2.2.1
                  have hcbW := (f21).at_ HCBD.out (fun h => h)
                  have hdbW := (f21).at_ HDBD.out (fun h => h)
                  have C0 := (cell_at hcbW 0).trans (show _ = some (Value.int .i64 sz) from rfl)
                  have C1 := (cell_at hcbW 1).trans (show _ = some (Value.int .i64 b) from rfl)
                  have C2 := (cell_at hcbW 2).trans (show _ = some (Value.int .i64 e) from rfl)
                  have C3 := (cell_at hcbW 3).trans (show _ = some (Value.slice (some ⟨gh, 0, none⟩) n (n + 8)) from rfl)
                  have D0 := (cell_at hdbW 0).trans (show _ = some (Value.int .i64 sz) from rfl)
                  have D1 := (cell_at hdbW 1).trans (show _ = some (Value.int .i64 b) from rfl)
                  have D2 := (cell_at hdbW 2).trans (show _ = some (Value.int .i64 e) from rfl)
                  have D3 := (cell_at hdbW 3).trans (show _ = some (Value.slice ao6 n cp6) from rfl)
                  have CL := lt_of_block hcbW
                  have DL := lt_of_block hdbW
                  clear hcbW hdbW HCBD HDBD
                  go_wp2_with fail
                  have HPC := PK.out.2.2.2.2.2.2.2.2.2.2.2.2.1
                  have r20 := Keeps.refl (fun _ => False) w21
                  go_region_law (first | (go_simp; go_at_call 31; with_reducible refine (HPC.out RO _ (by first | exact (f21).drew | exact f21)).mono ?_; rintro x w22 ⟨rfl, f2x⟩; have g2x : Fresh w21 w22 := (by first | exact r20.drew.trans f2x | exact r20.trans f2x); dsimp only))
                  have f22 := (f21).trans g2x
                  clear r20 g2x f2x HPC
                  clear C0 C1 C2 C3 D0 D1 D2 D3 CL DL
                  as_aux_lemma =>
                    have HKEPT1 := PK.out.2.2.2.2.2.2.2.2.2.2.2.2.2.2.1
                    have HKEPT2 := PK.out.2.2.2.2.2.2.2.2.2.2.2.2.2.2.2.1
                    go_wp2_with fail
                    refine (HKEPT1.out w22 f22).mono ?_
                    rintro x w23 ⟨rfl, f23⟩
                    have f23 := f22.trans f23
                    go_wp2_with fail
                    refine (HKEPT2.out w23 f23).mono ?_
                    rintro x w24 ⟨rfl, f24⟩
                    have f24 := f23.trans f24
                    clear HKEPT1 HKEPT2 f23 f22 f21 f20
                    as_aux_lemma =>
                      have HCBD := PK.out.2.2.2.2.2.2.2.1
                      have HDBD := PK.out.2.2.2.2.2.2.2.2.1
                      have hcbW := (f24).at_ HCBD.out (fun h => h)
                      have hdbW := (f24).at_ HDBD.out (fun h => h)
                      have C0 := (cell_at hcbW 0).trans (show _ = some (Value.int .i64 sz) from rfl)
                      have C1 := (cell_at hcbW 1).trans (show _ = some (Value.int .i64 b) from rfl)
                      have C2 := (cell_at hcbW 2).trans (show _ = some (Value.int .i64 e) from rfl)
                      have C3 := (cell_at hcbW 3).trans (show _ = some (Value.slice (some ⟨gh, 0, none⟩) n (n + 8)) from rfl)
                      have D0 := (cell_at hdbW 0).trans (show _ = some (Value.int .i64 sz) from rfl)
                      have D1 := (cell_at hdbW 1).trans (show _ = some (Value.int .i64 b) from rfl)
                      have D2 := (cell_at hdbW 2).trans (show _ = some (Value.int .i64 e) from rfl)
                      have D3 := (cell_at hdbW 3).trans (show _ = some (Value.slice ao6 n cp6) from rfl)
                      have CL := lt_of_block hcbW
                      have DL := lt_of_block hdbW
                      clear hcbW hdbW HCBD HDBD
                      go_wp2_with fail
                      have HK24 := hid (fun W (f : Fresh w24 W) => (⟨f, (f.cell (p := ⟨cb, 0, none⟩) CL (fun h => h)).trans C0, (f.cell (p := ⟨cb, 1, none⟩) CL (fun h => h)).trans C1, (f.cell (p := ⟨cb, 2, none⟩) CL (fun h => h)).trans C2, (f.cell (p := ⟨cb, 3, none⟩) CL (fun h => h)).trans C3⟩ : Fresh w24 W ∧ W.cell? ⟨cb, 0, none⟩ = some (.int .i64 sz) ∧ W.cell? ⟨cb, 1, none⟩ = some (.int .i64 b) ∧ W.cell? ⟨cb, 2, none⟩ = some (.int .i64 e) ∧ W.cell? ⟨cb, 3, none⟩ = some (.slice (some ⟨gh, 0, none⟩) n (n + 8))))
                      have fr0 : Fresh w24 w24.drew := (Keeps.refl _ _).drew
                      clear C0 C1 C2 C3 D0 D1 D2 D3 CL DL
                      have HBENT := PK.out.2.2.2.2.2.2.2.2.2.2.2.2.2.1
                      have HPC := PK.out.2.2.2.2.2.2.2.2.2.2.2.2.1
                      go_region_held_law (fun W => Fresh w24 W ∧ W.cell? ⟨cb, 0, none⟩ = some (.int .i64 sz) ∧ W.cell? ⟨cb, 1, none⟩ = some (.int .i64 b) ∧ W.cell? ⟨cb, 2, none⟩ = some (.int .i64 e) ∧ W.cell? ⟨cb, 3, none⟩ = some (.slice (some ⟨gh, 0, none⟩) n (n + 8))) (first | exact HK24.out _ (by first | assumption | (go_split_ands; assumption))) (first
                        | (go_simp; go_at_call 51; refine (HBENT.out _).mono ?_; rintro x w26 ⟨rfl, fa⟩; have frx : Fresh w24 w26 := Keeps.trans (by (go_split_ands; assumption)) fa; dsimp only)
                        | (go_simp; go_at_call 31; refine (HPC.out BT _ (f24.trans (by (go_split_ands; assumption)))).mono ?_; rintro x w26 ⟨rfl, fa⟩; have frx : Fresh w24 w26 := Keeps.trans (by (go_split_ands; assumption)) fa; dsimp only))
                      as_aux_lemma =>
                        have f26 : Fresh wb w26 := f24.trans frx
                        clear fa frx HK24 f24 fr0
                        have HCBD := PK.out.2.2.2.2.2.2.2.1
                        have HDBD := PK.out.2.2.2.2.2.2.2.2.1
                        have hcbW := (f26).at_ HCBD.out (fun h => h)
                        have hdbW := (f26).at_ HDBD.out (fun h => h)
                        have C0 := (cell_at hcbW 0).trans (show _ = some (Value.int .i64 sz) from rfl)
                        have C1 := (cell_at hcbW 1).trans (show _ = some (Value.int .i64 b) from rfl)
                        have C2 := (cell_at hcbW 2).trans (show _ = some (Value.int .i64 e) from rfl)
                        have C3 := (cell_at hcbW 3).trans (show _ = some (Value.slice (some ⟨gh, 0, none⟩) n (n + 8)) from rfl)
                        have D0 := (cell_at hdbW 0).trans (show _ = some (Value.int .i64 sz) from rfl)
                        have D1 := (cell_at hdbW 1).trans (show _ = some (Value.int .i64 b) from rfl)
                        have D2 := (cell_at hdbW 2).trans (show _ = some (Value.int .i64 e) from rfl)
                        have D3 := (cell_at hdbW 3).trans (show _ = some (Value.slice ao6 n cp6) from rfl)
                        have CL := lt_of_block hcbW
                        have DL := lt_of_block hdbW
                        clear hcbW hdbW HCBD HDBD
                        go_wp2_with fail
                        have hq3 : (ck root != ck root) = false := by simp
                        have hq4 : (ck RO != ck RO) = false := by simp
                        have hq5 : (ck BT != ck BT) = false := by simp
                        clear C0 C1 C2 C3 CL
                        have HRC := PK.out.2.2.2.2.2.2.2.2.2.2.2.1
                        have HBENT := PK.out.2.2.2.2.2.2.2.2.2.2.2.2.2.1
                        refine wp_region_keep 41 (fun w' => Fresh w26 w') (fun _ => True) (fun _ => true) (by kernel_rfl) (by kernel_rfl) ?_
                        (try (change wpKeep _ _ _ _ _ _ _ _ _ _ (World.drew _)))
                        refine wpKeep_takeT (i := 0) (oi := ⟨some 147, _, _, _, _, _⟩) (v := ?_) rfl (by kernel_rfl) (by kernel_rfl) (by kernel_rfl) (by kernel_rfl) (fun _ _ _ h => h) (Or.inl ⟨by rfl, ?_⟩) (Keeps.refl _ _).drew (fun _ => trivial) ?_
                        rotate_left
                        · intro w' hT
                          have ydb0 := (hT.cell (p := ⟨db, 0, none⟩) DL (fun h => h)).trans D0
                          have ydb1 := (hT.cell (p := ⟨db, 1, none⟩) DL (fun h => h)).trans D1
                          have ydb2 := (hT.cell (p := ⟨db, 2, none⟩) DL (fun h => h)).trans D2
                          have ydb3 := (hT.cell (p := ⟨db, 3, none⟩) DL (fun h => h)).trans D3
                          go_simp
                          (try rw [if_pos (by omega)])
                          (try with_reducible rfl)
                        rotate_left
                        (try simp only [Act.put, List.setIfInBounds_toArray, List.set_cons_zero, List.set_cons_succ])
                        refine wpKeep_takeT (i := 1) (oi := ⟨some 148, _, _, _, _, _⟩) (v := ?_) rfl (by kernel_rfl) (by kernel_rfl) (by kernel_rfl) (by kernel_rfl) (fun _ _ _ h => h) (Or.inl ⟨by rfl, ?_⟩) (Keeps.refl _ _).drew (fun _ => trivial) ?_
                        rotate_left
                        · intro w' hT
                          have ydb0 := (hT.cell (p := ⟨db, 0, none⟩) DL (fun h => h)).trans D0
                          have ydb1 := (hT.cell (p := ⟨db, 1, none⟩) DL (fun h => h)).trans D1
                          have ydb2 := (hT.cell (p := ⟨db, 2, none⟩) DL (fun h => h)).trans D2
                          have ydb3 := (hT.cell (p := ⟨db, 3, none⟩) DL (fun h => h)).trans D3
                          go_simp
                          (try rw [if_pos (by omega)])
                          (try with_reducible rfl)
                        rotate_left
                        (try simp only [Act.put, List.setIfInBounds_toArray, List.set_cons_zero, List.set_cons_succ])
                        refine wpKeep_takeT (i := 2) (oi := ⟨some 149, _, _, _, _, _⟩) (v := ?_) rfl (by kernel_rfl) (by kernel_rfl) (by kernel_rfl) (by kernel_rfl) (fun _ _ _ h => h) (Or.inl ⟨by rfl, ?_⟩) (Keeps.refl _ _).drew (fun _ => trivial) ?_
                        rotate_left
                        · intro w' hT
                          have ydb0 := (hT.cell (p := ⟨db, 0, none⟩) DL (fun h => h)).trans D0
                          have ydb1 := (hT.cell (p := ⟨db, 1, none⟩) DL (fun h => h)).trans D1
                          have ydb2 := (hT.cell (p := ⟨db, 2, none⟩) DL (fun h => h)).trans D2
                          have ydb3 := (hT.cell (p := ⟨db, 3, none⟩) DL (fun h => h)).trans D3
                          go_simp
                          (try rw [if_pos (by omega)])
                          (try with_reducible rfl)
                        rotate_left
                        (try simp only [Act.put, List.setIfInBounds_toArray, List.set_cons_zero, List.set_cons_succ])
                        refine wpKeep_takeT (i := 3) (oi := ⟨some 150, _, _, _, _, _⟩) (v := ?_) rfl (by kernel_rfl) (by kernel_rfl) (by kernel_rfl) (by kernel_rfl) (fun _ _ _ h => h) (Or.inl ⟨by rfl, ?_⟩) (Keeps.refl _ _).drew (fun _ => trivial) ?_
                        rotate_left
                        · intro w' hT
                          have ydb0 := (hT.cell (p := ⟨db, 0, none⟩) DL (fun h => h)).trans D0
                          have ydb1 := (hT.cell (p := ⟨db, 1, none⟩) DL (fun h => h)).trans D1
                          have ydb2 := (hT.cell (p := ⟨db, 2, none⟩) DL (fun h => h)).trans D2
                          have ydb3 := (hT.cell (p := ⟨db, 3, none⟩) DL (fun h => h)).trans D3
                          go_simp
                          (try rw [if_pos (by omega)])
                          (try with_reducible rfl)
                        rotate_left
                        (try simp only [Act.put, List.setIfInBounds_toArray, List.set_cons_zero, List.set_cons_succ])
                        refine wpKeep_takeT (i := 4) (oi := ⟨some 151, _, _, _, _, _⟩) (v := ?_) rfl (by kernel_rfl) (by kernel_rfl) (by kernel_rfl) (by kernel_rfl) (fun _ _ _ h => h) (Or.inl ⟨by rfl, ?_⟩) (Keeps.refl _ _).drew (fun _ => trivial) ?_
                        rotate_left
                        · intro w' hT
                          have ydb0 := (hT.cell (p := ⟨db, 0, none⟩) DL (fun h => h)).trans D0
                          have ydb1 := (hT.cell (p := ⟨db, 1, none⟩) DL (fun h => h)).trans D1
                          have ydb2 := (hT.cell (p := ⟨db, 2, none⟩) DL (fun h => h)).trans D2
                          have ydb3 := (hT.cell (p := ⟨db, 3, none⟩) DL (fun h => h)).trans D3
                          go_simp
                          (try rw [if_pos (by omega)])
                          (try with_reducible rfl)
                        rotate_left
                        (try simp only [Act.put, List.setIfInBounds_toArray, List.set_cons_zero, List.set_cons_succ])
                        refine wpKeep_takeT (i := 5) (oi := ⟨some 152, _, _, _, _, _⟩) (v := ?_) rfl (by kernel_rfl) (by kernel_rfl) (by kernel_rfl) (by kernel_rfl) (fun _ _ _ h => h) (Or.inl ⟨by rfl, ?_⟩) (Keeps.refl _ _).drew (fun _ => trivial) ?_
                        rotate_left
                        · intro w' hT
                          have ydb0 := (hT.cell (p := ⟨db, 0, none⟩) DL (fun h => h)).trans D0
                          have ydb1 := (hT.cell (p := ⟨db, 1, none⟩) DL (fun h => h)).trans D1
                          have ydb2 := (hT.cell (p := ⟨db, 2, none⟩) DL (fun h => h)).trans D2
                          have ydb3 := (hT.cell (p := ⟨db, 3, none⟩) DL (fun h => h)).trans D3
                          go_simp
                          (try rw [if_pos (by omega)])
                          (try with_reducible rfl)
                        rotate_left
                        (try simp only [Act.put, List.setIfInBounds_toArray, List.set_cons_zero, List.set_cons_succ])
                        refine wpKeep_takeT (i := 6) (oi := ⟨some 153, _, _, _, _, _⟩) (v := ?_) rfl (by kernel_rfl) (by kernel_rfl) (by kernel_rfl) (by kernel_rfl) (fun _ _ _ h => h) (Or.inl ⟨by rfl, ?_⟩) (Keeps.refl _ _).drew (fun _ => trivial) ?_
                        rotate_left
                        · intro w' hT
                          have ydb0 := (hT.cell (p := ⟨db, 0, none⟩) DL (fun h => h)).trans D0
                          have ydb1 := (hT.cell (p := ⟨db, 1, none⟩) DL (fun h => h)).trans D1
                          have ydb2 := (hT.cell (p := ⟨db, 2, none⟩) DL (fun h => h)).trans D2
                          have ydb3 := (hT.cell (p := ⟨db, 3, none⟩) DL (fun h => h)).trans D3
                          go_simp
                          (try rw [if_pos (by omega)])
                          (try with_reducible rfl)
                        rotate_left
                        (try simp only [Act.put, List.setIfInBounds_toArray, List.set_cons_zero, List.set_cons_succ])
                        as_aux_lemma =>
                          refine wpKeep_takeT (i := 7) (oi := ⟨some 154, _, _, _, _, _⟩) (v := ?_) rfl (by kernel_rfl) (by kernel_rfl) (by kernel_rfl) (by kernel_rfl) (fun _ _ _ h => h) (Or.inl ⟨by rfl, ?_⟩) (Keeps.refl _ _).drew (fun _ => trivial) ?_
                          rotate_left
                          · intro w' hT
                            have ydb0 := (hT.cell (p := ⟨db, 0, none⟩) DL (fun h => h)).trans D0
                            have ydb1 := (hT.cell (p := ⟨db, 1, none⟩) DL (fun h => h)).trans D1
                            have ydb2 := (hT.cell (p := ⟨db, 2, none⟩) DL (fun h => h)).trans D2
                            have ydb3 := (hT.cell (p := ⟨db, 3, none⟩) DL (fun h => h)).trans D3
                            go_simp
                            (try rw [if_pos (by omega)])
                            (try with_reducible rfl)
                          rotate_left
                          (try simp only [Act.put, List.setIfInBounds_toArray, List.set_cons_zero, List.set_cons_succ])
                          refine wpKeep_takeT (i := 8) (oi := ⟨some 155, _, _, _, _, _⟩) (v := ?_) rfl (by kernel_rfl) (by kernel_rfl) (by kernel_rfl) (by kernel_rfl) (fun _ _ _ h => h) (Or.inl ⟨by rfl, ?_⟩) (Keeps.refl _ _).drew (fun _ => trivial) ?_
                          rotate_left
                          · intro w' hT
                            have ydb0 := (hT.cell (p := ⟨db, 0, none⟩) DL (fun h => h)).trans D0
                            have ydb1 := (hT.cell (p := ⟨db, 1, none⟩) DL (fun h => h)).trans D1
                            have ydb2 := (hT.cell (p := ⟨db, 2, none⟩) DL (fun h => h)).trans D2
                            have ydb3 := (hT.cell (p := ⟨db, 3, none⟩) DL (fun h => h)).trans D3
                            go_simp
                            (try rw [if_pos (by omega)])
                            (try with_reducible rfl)
                          rotate_left
                          (try simp only [Act.put, List.setIfInBounds_toArray, List.set_cons_zero, List.set_cons_succ])
                          refine wpKeep_takeT (i := 9) (oi := ⟨some 156, _, _, _, _, _⟩) (v := ?_) rfl (by kernel_rfl) (by kernel_rfl) (by kernel_rfl) (by kernel_rfl) (fun _ _ _ h => h) (Or.inl ⟨by rfl, ?_⟩) (Keeps.refl _ _).drew (fun _ => trivial) ?_
                          rotate_left
                          · intro w' hT
                            have ydb0 := (hT.cell (p := ⟨db, 0, none⟩) DL (fun h => h)).trans D0
                            have ydb1 := (hT.cell (p := ⟨db, 1, none⟩) DL (fun h => h)).trans D1
                            have ydb2 := (hT.cell (p := ⟨db, 2, none⟩) DL (fun h => h)).trans D2
                            have ydb3 := (hT.cell (p := ⟨db, 3, none⟩) DL (fun h => h)).trans D3
                            go_simp
                            (try rw [if_pos (by omega)])
                            (try with_reducible rfl)
                          rotate_left
                          (try simp only [Act.put, List.setIfInBounds_toArray, List.set_cons_zero, List.set_cons_succ])
                          refine wpKeep_takeT (i := 10) (oi := ⟨some 157, _, _, _, _, _⟩) (v := ?_) rfl (by kernel_rfl) (by kernel_rfl) (by kernel_rfl) (by kernel_rfl) (fun _ _ _ h => h) (Or.inl ⟨by rfl, ?_⟩) (Keeps.refl _ _).drew (fun _ => trivial) ?_
                          rotate_left
                          · intro w' hT
                            have ydb0 := (hT.cell (p := ⟨db, 0, none⟩) DL (fun h => h)).trans D0
                            have ydb1 := (hT.cell (p := ⟨db, 1, none⟩) DL (fun h => h)).trans D1
                            have ydb2 := (hT.cell (p := ⟨db, 2, none⟩) DL (fun h => h)).trans D2
                            have ydb3 := (hT.cell (p := ⟨db, 3, none⟩) DL (fun h => h)).trans D3
                            go_simp
                            (try rw [if_pos (by omega)])
                            (try with_reducible rfl)
                          rotate_left
                          (try simp only [Act.put, List.setIfInBounds_toArray, List.set_cons_zero, List.set_cons_succ])
                          refine wpKeep_takeT (i := 11) (oi := ⟨some 158, _, _, _, _, _⟩) (v := ?_) rfl (by kernel_rfl) (by kernel_rfl) (by kernel_rfl) (by kernel_rfl) (fun _ _ _ h => h) (Or.inl ⟨by rfl, ?_⟩) (Keeps.refl _ _).drew (fun _ => trivial) ?_
                          rotate_left
                          · intro w' hT
                            have ydb0 := (hT.cell (p := ⟨db, 0, none⟩) DL (fun h => h)).trans D0
                            have ydb1 := (hT.cell (p := ⟨db, 1, none⟩) DL (fun h => h)).trans D1
                            have ydb2 := (hT.cell (p := ⟨db, 2, none⟩) DL (fun h => h)).trans D2
                            have ydb3 := (hT.cell (p := ⟨db, 3, none⟩) DL (fun h => h)).trans D3
                            go_simp
                            (try rw [if_pos (by omega)])
                            (try with_reducible rfl)
                          rotate_left
                          (try simp only [Act.put, List.setIfInBounds_toArray, List.set_cons_zero, List.set_cons_succ])
                          refine wpKeep_takeT (i := 12) (oi := ⟨some 159, _, _, _, _, _⟩) (v := ?_) rfl (by kernel_rfl) (by kernel_rfl) (by kernel_rfl) (by kernel_rfl) (fun _ _ _ h => h) (Or.inl ⟨by rfl, ?_⟩) (Keeps.refl _ _).drew (fun _ => trivial) ?_
                          rotate_left
                          · intro w' hT
                            have ydb0 := (hT.cell (p := ⟨db, 0, none⟩) DL (fun h => h)).trans D0
                            have ydb1 := (hT.cell (p := ⟨db, 1, none⟩) DL (fun h => h)).trans D1
                            have ydb2 := (hT.cell (p := ⟨db, 2, none⟩) DL (fun h => h)).trans D2
                            have ydb3 := (hT.cell (p := ⟨db, 3, none⟩) DL (fun h => h)).trans D3
                            go_simp
                            (try rw [if_pos (by omega)])
                            (try with_reducible rfl)
                          rotate_left
                          (try simp only [Act.put, List.setIfInBounds_toArray, List.set_cons_zero, List.set_cons_succ])
                          refine wpKeep_takeT (i := 13) (oi := ⟨some 160, _, _, _, _, _⟩) (v := ?_) rfl (by kernel_rfl) (by kernel_rfl) (by kernel_rfl) (by kernel_rfl) (fun _ _ _ h => h) (Or.inl ⟨by rfl, ?_⟩) (Keeps.refl _ _).drew (fun _ => trivial) ?_
                          rotate_left
                          · intro w' hT
                            have ydb0 := (hT.cell (p := ⟨db, 0, none⟩) DL (fun h => h)).trans D0
                            have ydb1 := (hT.cell (p := ⟨db, 1, none⟩) DL (fun h => h)).trans D1
                            have ydb2 := (hT.cell (p := ⟨db, 2, none⟩) DL (fun h => h)).trans D2
                            have ydb3 := (hT.cell (p := ⟨db, 3, none⟩) DL (fun h => h)).trans D3
                            go_simp
                            (try rw [if_pos (by omega)])
                            (try with_reducible rfl)
                          rotate_left
                          (try simp only [Act.put, List.setIfInBounds_toArray, List.set_cons_zero, List.set_cons_succ])
                          as_aux_lemma =>
                            refine wpKeep_takeT (i := 14) (oi := ⟨some 161, _, _, _, _, _⟩) (v := ?_) rfl (by kernel_rfl) (by kernel_rfl) (by kernel_rfl) (by kernel_rfl) (fun _ _ _ h => h) (Or.inl ⟨by rfl, ?_⟩) (Keeps.refl _ _).drew (fun _ => trivial) ?_
                            rotate_left
                            · intro w' hT
                              have ydb0 := (hT.cell (p := ⟨db, 0, none⟩) DL (fun h => h)).trans D0
                              have ydb1 := (hT.cell (p := ⟨db, 1, none⟩) DL (fun h => h)).trans D1
                              have ydb2 := (hT.cell (p := ⟨db, 2, none⟩) DL (fun h => h)).trans D2
                              have ydb3 := (hT.cell (p := ⟨db, 3, none⟩) DL (fun h => h)).trans D3
                              go_simp
                              (try rw [if_pos (by omega)])
                              (try with_reducible rfl)
                            rotate_left
                            (try simp only [Act.put, List.setIfInBounds_toArray, List.set_cons_zero, List.set_cons_succ])
                            refine wpKeep_takeT (i := 15) (oi := ⟨some 162, _, _, _, _, _⟩) (v := ?_) rfl (by kernel_rfl) (by kernel_rfl) (by kernel_rfl) (by kernel_rfl) (fun _ _ _ h => h) (Or.inl ⟨by rfl, ?_⟩) (Keeps.refl _ _).drew (fun _ => trivial) ?_
                            rotate_left
                            · intro w' hT
                              have ydb0 := (hT.cell (p := ⟨db, 0, none⟩) DL (fun h => h)).trans D0
                              have ydb1 := (hT.cell (p := ⟨db, 1, none⟩) DL (fun h => h)).trans D1
                              have ydb2 := (hT.cell (p := ⟨db, 2, none⟩) DL (fun h => h)).trans D2
                              have ydb3 := (hT.cell (p := ⟨db, 3, none⟩) DL (fun h => h)).trans D3
                              go_simp
                              (try rw [if_pos (by omega)])
                              (try with_reducible rfl)
                            rotate_left
                            (try simp only [Act.put, List.setIfInBounds_toArray, List.set_cons_zero, List.set_cons_succ])
                            refine wpKeep_takeT (i := 16) (oi := ⟨some 163, _, _, _, _, _⟩) (v := ?_) rfl (by kernel_rfl) (by kernel_rfl) (by kernel_rfl) (by kernel_rfl) (fun _ _ _ h => h) (Or.inl ⟨by rfl, ?_⟩) (Keeps.refl _ _).drew (fun _ => trivial) ?_
                            rotate_left
                            · intro w' hT
                              have ydb0 := (hT.cell (p := ⟨db, 0, none⟩) DL (fun h => h)).trans D0
                              have ydb1 := (hT.cell (p := ⟨db, 1, none⟩) DL (fun h => h)).trans D1
                              have ydb2 := (hT.cell (p := ⟨db, 2, none⟩) DL (fun h => h)).trans D2
                              have ydb3 := (hT.cell (p := ⟨db, 3, none⟩) DL (fun h => h)).trans D3
                              go_simp
                              (try rw [if_pos (by omega)])
                              (try with_reducible rfl)
                            rotate_left
                            (try simp only [Act.put, List.setIfInBounds_toArray, List.set_cons_zero, List.set_cons_succ])
                            refine wpKeep_takeT (i := 17) (oi := ⟨some 164, _, _, _, _, _⟩) (v := ?_) rfl (by kernel_rfl) (by kernel_rfl) (by kernel_rfl) (by kernel_rfl) (fun _ _ _ h => h) (Or.inl ⟨by rfl, ?_⟩) (Keeps.refl _ _).drew (fun _ => trivial) ?_
                            rotate_left
                            · intro w' hT
                              have ydb0 := (hT.cell (p := ⟨db, 0, none⟩) DL (fun h => h)).trans D0
                              have ydb1 := (hT.cell (p := ⟨db, 1, none⟩) DL (fun h => h)).trans D1
                              have ydb2 := (hT.cell (p := ⟨db, 2, none⟩) DL (fun h => h)).trans D2
                              have ydb3 := (hT.cell (p := ⟨db, 3, none⟩) DL (fun h => h)).trans D3
                              go_simp
                              (try rw [if_pos (by omega)])
                              (try with_reducible rfl)
                            rotate_left
                            (try simp only [Act.put, List.setIfInBounds_toArray, List.set_cons_zero, List.set_cons_succ])
                            refine wpKeep_takeT (i := 18) (oi := ⟨some 165, _, _, _, _, _⟩) (v := ?_) rfl (by kernel_rfl) (by kernel_rfl) (by kernel_rfl) (by kernel_rfl) (fun _ _ _ h => h) (Or.inl ⟨by rfl, ?_⟩) (Keeps.refl _ _).drew (fun _ => trivial) ?_
                            rotate_left
                            · intro w' hT
                              have ydb0 := (hT.cell (p := ⟨db, 0, none⟩) DL (fun h => h)).trans D0
                              have ydb1 := (hT.cell (p := ⟨db, 1, none⟩) DL (fun h => h)).trans D1
                              have ydb2 := (hT.cell (p := ⟨db, 2, none⟩) DL (fun h => h)).trans D2
                              have ydb3 := (hT.cell (p := ⟨db, 3, none⟩) DL (fun h => h)).trans D3
                              go_simp
                              (try rw [if_pos (by omega)])
                              (try with_reducible rfl)
                            rotate_left
                            (try simp only [Act.put, List.setIfInBounds_toArray, List.set_cons_zero, List.set_cons_succ])
                            refine wpKeep_takeT (i := 19) (oi := ⟨some 166, _, _, _, _, _⟩) (v := ?_) rfl (by kernel_rfl) (by kernel_rfl) (by kernel_rfl) (by kernel_rfl) (fun _ _ _ h => h) (Or.inl ⟨by rfl, ?_⟩) (Keeps.refl _ _).drew (fun _ => trivial) ?_
                            rotate_left
                            · intro w' hT
                              have ydb0 := (hT.cell (p := ⟨db, 0, none⟩) DL (fun h => h)).trans D0
                              have ydb1 := (hT.cell (p := ⟨db, 1, none⟩) DL (fun h => h)).trans D1
                              have ydb2 := (hT.cell (p := ⟨db, 2, none⟩) DL (fun h => h)).trans D2
                              have ydb3 := (hT.cell (p := ⟨db, 3, none⟩) DL (fun h => h)).trans D3
                              go_simp
                              (try rw [if_pos (by omega)])
                              (try with_reducible rfl)
                            rotate_left
                            (try simp only [Act.put, List.setIfInBounds_toArray, List.set_cons_zero, List.set_cons_succ])
                            refine wpKeep_takeT (i := 20) (oi := ⟨some 167, _, _, _, _, _⟩) (v := ?_) rfl (by kernel_rfl) (by kernel_rfl) (by kernel_rfl) (by kernel_rfl) (fun _ _ _ h => h) (Or.inl ⟨by rfl, ?_⟩) (Keeps.refl _ _).drew (fun _ => trivial) ?_
                            rotate_left
                            · intro w' hT
                              have ydb0 := (hT.cell (p := ⟨db, 0, none⟩) DL (fun h => h)).trans D0
                              have ydb1 := (hT.cell (p := ⟨db, 1, none⟩) DL (fun h => h)).trans D1
                              have ydb2 := (hT.cell (p := ⟨db, 2, none⟩) DL (fun h => h)).trans D2
                              have ydb3 := (hT.cell (p := ⟨db, 3, none⟩) DL (fun h => h)).trans D3
                              go_simp
                              (try rw [if_pos (by omega)])
                              (try with_reducible rfl)
                            rotate_left
                            (try simp only [Act.put, List.setIfInBounds_toArray, List.set_cons_zero, List.set_cons_succ])
                            as_aux_lemma =>
                              refine wpKeep_ready (rs := [21]) (by kernel_rfl) (by simp) ?_
                              refine AllKeep.cons (o := ⟨some 168, _, _, _, _, _⟩) rfl (fun K hK => ?_) AllKeep.nil
                              go_simp
                              go_at_call 52
                              with_reducible refine (HRC.out root _ (f26.trans ((Keeps.refl (fun _ => False) w26).drew))).mono ?_
                              rintro x wx1 ⟨rfl, x1⟩
                              have x1 : Fresh w26 wx1 := ((Keeps.refl (fun _ => False) w26).drew).trans x1
                              dsimp only
                              refine hK.out _ _ x1 (fun _ => trivial) ?_
                              clear hK K
                              (try simp only [Act.put, List.setIfInBounds_toArray, List.set_cons_zero, List.set_cons_succ])
                              refine wpKeep_takeT (i := 22) (oi := ⟨some 169, _, _, _, _, _⟩) (v := ?_) rfl (by kernel_rfl) (by kernel_rfl) (by kernel_rfl) (by kernel_rfl) (fun _ _ _ h => h) (Or.inl ⟨by rfl, ?_⟩) x1 (fun _ => trivial) ?_
                              rotate_left
                              · intro w' hT
                                have ydb0 := (hT.cell (p := ⟨db, 0, none⟩) DL (fun h => h)).trans D0
                                have ydb1 := (hT.cell (p := ⟨db, 1, none⟩) DL (fun h => h)).trans D1
                                have ydb2 := (hT.cell (p := ⟨db, 2, none⟩) DL (fun h => h)).trans D2
                                have ydb3 := (hT.cell (p := ⟨db, 3, none⟩) DL (fun h => h)).trans D3
                                go_simp
                                (try rw [if_pos (by omega)])
                                (try with_reducible rfl)
                              rotate_left
                              (try simp only [Act.put, List.setIfInBounds_toArray, List.set_cons_zero, List.set_cons_succ])
                              refine wpKeep_takeT (i := 23) (oi := ⟨some 170, _, _, _, _, _⟩) (v := ?_) rfl (by kernel_rfl) (by kernel_rfl) (by kernel_rfl) (by kernel_rfl) (fun _ _ _ h => h) (Or.inl ⟨by rfl, ?_⟩) x1 (fun _ => trivial) ?_
                              rotate_left
                              · intro w' hT
                                have ydb0 := (hT.cell (p := ⟨db, 0, none⟩) DL (fun h => h)).trans D0
                                have ydb1 := (hT.cell (p := ⟨db, 1, none⟩) DL (fun h => h)).trans D1
                                have ydb2 := (hT.cell (p := ⟨db, 2, none⟩) DL (fun h => h)).trans D2
                                have ydb3 := (hT.cell (p := ⟨db, 3, none⟩) DL (fun h => h)).trans D3
                                go_simp
                                (try rw [if_pos (by omega)])
                                (try with_reducible rfl)
                              rotate_left
                              (try simp only [Act.put, List.setIfInBounds_toArray, List.set_cons_zero, List.set_cons_succ])
                              refine wpKeep_takeT (i := 24) (oi := ⟨some 171, _, _, _, _, _⟩) (v := ?_) rfl (by kernel_rfl) (by kernel_rfl) (by kernel_rfl) (by kernel_rfl) (fun _ _ _ h => h) (Or.inl ⟨by rfl, ?_⟩) x1 (fun _ => trivial) ?_
                              rotate_left
                              · intro w' hT
                                have ydb0 := (hT.cell (p := ⟨db, 0, none⟩) DL (fun h => h)).trans D0
                                have ydb1 := (hT.cell (p := ⟨db, 1, none⟩) DL (fun h => h)).trans D1
                                have ydb2 := (hT.cell (p := ⟨db, 2, none⟩) DL (fun h => h)).trans D2
                                have ydb3 := (hT.cell (p := ⟨db, 3, none⟩) DL (fun h => h)).trans D3
                                go_simp
                                (try rw [if_pos (by omega)])
                                (try with_reducible rfl)
                              rotate_left
                              (try simp only [Act.put, List.setIfInBounds_toArray, List.set_cons_zero, List.set_cons_succ])
                              refine wpKeep_takeT (i := 25) (oi := ⟨some 172, _, _, _, _, _⟩) (v := ?_) rfl (by kernel_rfl) (by kernel_rfl) (by kernel_rfl) (by kernel_rfl) (fun _ _ _ h => h) (Or.inl ⟨by rfl, ?_⟩) x1 (fun _ => trivial) ?_
                              rotate_left
                              · intro w' hT
                                have ydb0 := (hT.cell (p := ⟨db, 0, none⟩) DL (fun h => h)).trans D0
                                have ydb1 := (hT.cell (p := ⟨db, 1, none⟩) DL (fun h => h)).trans D1
                                have ydb2 := (hT.cell (p := ⟨db, 2, none⟩) DL (fun h => h)).trans D2
                                have ydb3 := (hT.cell (p := ⟨db, 3, none⟩) DL (fun h => h)).trans D3
                                go_simp
                                (try rw [if_pos (by omega)])
                                (try with_reducible rfl)
                              rotate_left
                              (try simp only [Act.put, List.setIfInBounds_toArray, List.set_cons_zero, List.set_cons_succ])
                              refine wpKeep_takeT (i := 26) (oi := ⟨some 173, _, _, _, _, _⟩) (v := ?_) rfl (by kernel_rfl) (by kernel_rfl) (by kernel_rfl) (by kernel_rfl) (fun _ _ _ h => h) (Or.inl ⟨by rfl, ?_⟩) x1 (fun _ => trivial) ?_
                              rotate_left
                              · intro w' hT
                                have ydb0 := (hT.cell (p := ⟨db, 0, none⟩) DL (fun h => h)).trans D0
                                have ydb1 := (hT.cell (p := ⟨db, 1, none⟩) DL (fun h => h)).trans D1
                                have ydb2 := (hT.cell (p := ⟨db, 2, none⟩) DL (fun h => h)).trans D2
                                have ydb3 := (hT.cell (p := ⟨db, 3, none⟩) DL (fun h => h)).trans D3
                                go_simp
                                (try rw [if_pos (by omega)])
                                (try with_reducible rfl)
                              rotate_left
                              (try simp only [Act.put, List.setIfInBounds_toArray, List.set_cons_zero, List.set_cons_succ])
                              refine wpKeep_takeT (i := 27) (oi := ⟨some 174, _, _, _, _, _⟩) (v := ?_) rfl (by kernel_rfl) (by kernel_rfl) (by kernel_rfl) (by kernel_rfl) (fun _ _ _ h => h) (Or.inl ⟨by rfl, ?_⟩) x1 (fun _ => trivial) ?_
                              rotate_left
                              · intro w' hT
                                have ydb0 := (hT.cell (p := ⟨db, 0, none⟩) DL (fun h => h)).trans D0
                                have ydb1 := (hT.cell (p := ⟨db, 1, none⟩) DL (fun h => h)).trans D1
                                have ydb2 := (hT.cell (p := ⟨db, 2, none⟩) DL (fun h => h)).trans D2
                                have ydb3 := (hT.cell (p := ⟨db, 3, none⟩) DL (fun h => h)).trans D3
                                go_simp
                                (try rw [if_pos (by omega)])
                                (try with_reducible rfl)
                              rotate_left
                              (try simp only [Act.put, List.setIfInBounds_toArray, List.set_cons_zero, List.set_cons_succ])
                              as_aux_lemma =>
                                refine wpKeep_takeT (i := 28) (oi := ⟨some 175, _, _, _, _, _⟩) (v := ?_) rfl (by kernel_rfl) (by kernel_rfl) (by kernel_rfl) (by kernel_rfl) (fun _ _ _ h => h) (Or.inl ⟨by rfl, ?_⟩) x1 (fun _ => trivial) ?_
                                rotate_left
                                · intro w' hT
                                  have ydb0 := (hT.cell (p := ⟨db, 0, none⟩) DL (fun h => h)).trans D0
                                  have ydb1 := (hT.cell (p := ⟨db, 1, none⟩) DL (fun h => h)).trans D1
                                  have ydb2 := (hT.cell (p := ⟨db, 2, none⟩) DL (fun h => h)).trans D2
                                  have ydb3 := (hT.cell (p := ⟨db, 3, none⟩) DL (fun h => h)).trans D3
                                  go_simp
                                  (try rw [if_pos (by omega)])
                                  (try with_reducible rfl)
                                rotate_left
                                (try simp only [Act.put, List.setIfInBounds_toArray, List.set_cons_zero, List.set_cons_succ])
                                refine wpKeep_ready (rs := [29]) (by kernel_rfl) (by simp) ?_
                                refine AllKeep.cons (o := ⟨some 176, _, _, _, _, _⟩) rfl (fun K hK => ?_) AllKeep.nil
                                go_simp
                                go_at_call 52
                                with_reducible refine (HRC.out RO _ (f26.trans (x1))).mono ?_
                                rintro x wx2 ⟨rfl, x2⟩
                                have x2 : Fresh w26 wx2 := (x1).trans x2
                                dsimp only
                                refine hK.out _ _ x2 (fun _ => trivial) ?_
                                clear hK K
                                (try simp only [Act.put, List.setIfInBounds_toArray, List.set_cons_zero, List.set_cons_succ])
                                refine wpKeep_takeT (i := 30) (oi := ⟨some 177, _, _, _, _, _⟩) (v := ?_) rfl (by kernel_rfl) (by kernel_rfl) (by kernel_rfl) (by kernel_rfl) (fun _ _ _ h => h) (Or.inl ⟨by rfl, ?_⟩) x2 (fun _ => trivial) ?_
                                rotate_left
                                · intro w' hT
                                  have ydb0 := (hT.cell (p := ⟨db, 0, none⟩) DL (fun h => h)).trans D0
                                  have ydb1 := (hT.cell (p := ⟨db, 1, none⟩) DL (fun h => h)).trans D1
                                  have ydb2 := (hT.cell (p := ⟨db, 2, none⟩) DL (fun h => h)).trans D2
                                  have ydb3 := (hT.cell (p := ⟨db, 3, none⟩) DL (fun h => h)).trans D3
                                  go_simp
                                  (try rw [if_pos (by omega)])
                                  (try with_reducible rfl)
                                rotate_left
                                (try simp only [Act.put, List.setIfInBounds_toArray, List.set_cons_zero, List.set_cons_succ])
                                refine wpKeep_takeT (i := 31) (oi := ⟨some 178, _, _, _, _, _⟩) (v := ?_) rfl (by kernel_rfl) (by kernel_rfl) (by kernel_rfl) (by kernel_rfl) (fun _ _ _ h => h) (Or.inl ⟨by rfl, ?_⟩) x2 (fun _ => trivial) ?_
                                rotate_left
                                · intro w' hT
                                  have ydb0 := (hT.cell (p := ⟨db, 0, none⟩) DL (fun h => h)).trans D0
                                  have ydb1 := (hT.cell (p := ⟨db, 1, none⟩) DL (fun h => h)).trans D1
                                  have ydb2 := (hT.cell (p := ⟨db, 2, none⟩) DL (fun h => h)).trans D2
                                  have ydb3 := (hT.cell (p := ⟨db, 3, none⟩) DL (fun h => h)).trans D3
                                  go_simp
                                  (try rw [if_pos (by omega)])
                                  (try with_reducible rfl)
                                rotate_left
                                (try simp only [Act.put, List.setIfInBounds_toArray, List.set_cons_zero, List.set_cons_succ])
                                refine wpKeep_takeT (i := 32) (oi := ⟨some 179, _, _, _, _, _⟩) (v := ?_) rfl (by kernel_rfl) (by kernel_rfl) (by kernel_rfl) (by kernel_rfl) (fun _ _ _ h => h) (Or.inl ⟨by rfl, ?_⟩) x2 (fun _ => trivial) ?_
                                rotate_left
                                · intro w' hT
                                  have ydb0 := (hT.cell (p := ⟨db, 0, none⟩) DL (fun h => h)).trans D0
                                  have ydb1 := (hT.cell (p := ⟨db, 1, none⟩) DL (fun h => h)).trans D1
                                  have ydb2 := (hT.cell (p := ⟨db, 2, none⟩) DL (fun h => h)).trans D2
                                  have ydb3 := (hT.cell (p := ⟨db, 3, none⟩) DL (fun h => h)).trans D3
                                  go_simp
                                  (try rw [if_pos (by omega)])
                                  (try with_reducible rfl)
                                rotate_left
                                (try simp only [Act.put, List.setIfInBounds_toArray, List.set_cons_zero, List.set_cons_succ])
                                refine wpKeep_takeT (i := 33) (oi := ⟨some 180, _, _, _, _, _⟩) (v := ?_) rfl (by kernel_rfl) (by kernel_rfl) (by kernel_rfl) (by kernel_rfl) (fun _ _ _ h => h) (Or.inl ⟨by rfl, ?_⟩) x2 (fun _ => trivial) ?_
                                rotate_left
                                · intro w' hT
                                  have ydb0 := (hT.cell (p := ⟨db, 0, none⟩) DL (fun h => h)).trans D0
                                  have ydb1 := (hT.cell (p := ⟨db, 1, none⟩) DL (fun h => h)).trans D1
                                  have ydb2 := (hT.cell (p := ⟨db, 2, none⟩) DL (fun h => h)).trans D2
                                  have ydb3 := (hT.cell (p := ⟨db, 3, none⟩) DL (fun h => h)).trans D3
                                  go_simp
                                  (try rw [if_pos (by omega)])
                                  (try with_reducible rfl)
                                rotate_left
                                (try simp only [Act.put, List.setIfInBounds_toArray, List.set_cons_zero, List.set_cons_succ])
                                refine wpKeep_takeT (i := 34) (oi := ⟨some 181, _, _, _, _, _⟩) (v := ?_) rfl (by kernel_rfl) (by kernel_rfl) (by kernel_rfl) (by kernel_rfl) (fun _ _ _ h => h) (Or.inl ⟨by rfl, ?_⟩) x2 (fun _ => trivial) ?_
                                rotate_left
                                · intro w' hT
                                  have ydb0 := (hT.cell (p := ⟨db, 0, none⟩) DL (fun h => h)).trans D0
                                  have ydb1 := (hT.cell (p := ⟨db, 1, none⟩) DL (fun h => h)).trans D1
                                  have ydb2 := (hT.cell (p := ⟨db, 2, none⟩) DL (fun h => h)).trans D2
                                  have ydb3 := (hT.cell (p := ⟨db, 3, none⟩) DL (fun h => h)).trans D3
                                  go_simp
                                  (try rw [if_pos (by omega)])
                                  (try with_reducible rfl)
                                rotate_left
                                (try simp only [Act.put, List.setIfInBounds_toArray, List.set_cons_zero, List.set_cons_succ])
                                as_aux_lemma =>
                                  refine wpKeep_takeT (i := 35) (oi := ⟨some 182, _, _, _, _, _⟩) (v := ?_) rfl (by kernel_rfl) (by kernel_rfl) (by kernel_rfl) (by kernel_rfl) (fun _ _ _ h => h) (Or.inl ⟨by rfl, ?_⟩) x2 (fun _ => trivial) ?_
                                  rotate_left
                                  · intro w' hT
                                    have ydb0 := (hT.cell (p := ⟨db, 0, none⟩) DL (fun h => h)).trans D0
                                    have ydb1 := (hT.cell (p := ⟨db, 1, none⟩) DL (fun h => h)).trans D1
                                    have ydb2 := (hT.cell (p := ⟨db, 2, none⟩) DL (fun h => h)).trans D2
                                    have ydb3 := (hT.cell (p := ⟨db, 3, none⟩) DL (fun h => h)).trans D3
                                    go_simp
                                    (try rw [if_pos (by omega)])
                                    (try with_reducible rfl)
                                  rotate_left
                                  (try simp only [Act.put, List.setIfInBounds_toArray, List.set_cons_zero, List.set_cons_succ])
                                  refine wpKeep_takeT (i := 36) (oi := ⟨some 183, _, _, _, _, _⟩) (v := ?_) rfl (by kernel_rfl) (by kernel_rfl) (by kernel_rfl) (by kernel_rfl) (fun _ _ _ h => h) (Or.inl ⟨by rfl, ?_⟩) x2 (fun _ => trivial) ?_
                                  rotate_left
                                  · intro w' hT
                                    have ydb0 := (hT.cell (p := ⟨db, 0, none⟩) DL (fun h => h)).trans D0
                                    have ydb1 := (hT.cell (p := ⟨db, 1, none⟩) DL (fun h => h)).trans D1
                                    have ydb2 := (hT.cell (p := ⟨db, 2, none⟩) DL (fun h => h)).trans D2
                                    have ydb3 := (hT.cell (p := ⟨db, 3, none⟩) DL (fun h => h)).trans D3
                                    go_simp
                                    (try rw [if_pos (by omega)])
                                    (try with_reducible rfl)
                                  rotate_left
                                  (try simp only [Act.put, List.setIfInBounds_toArray, List.set_cons_zero, List.set_cons_succ])
                                  refine wpKeep_ready (rs := [37]) (by kernel_rfl) (by simp) ?_
                                  refine AllKeep.cons (o := ⟨some 184, _, _, _, _, _⟩) rfl (fun K hK => ?_) AllKeep.nil
                                  go_simp
                                  go_at_call 51
                                  with_reducible refine (HBENT.out _).mono ?_
                                  rintro x wx3 ⟨rfl, x3⟩
                                  have x3 : Fresh w26 wx3 := x2.trans x3
                                  dsimp only
                                  refine hK.out _ _ x3 (fun _ => trivial) ?_
                                  clear hK K
                                  (try simp only [Act.put, List.setIfInBounds_toArray, List.set_cons_zero, List.set_cons_succ])
                                  refine wpKeep_ready (rs := [38]) (by kernel_rfl) (by simp) ?_
                                  refine AllKeep.cons (o := ⟨some 185, _, _, _, _, _⟩) rfl (fun K hK => ?_) AllKeep.nil
                                  go_simp
                                  go_at_call 52
                                  with_reducible refine (HRC.out BT _ (f26.trans (x3))).mono ?_
                                  rintro x wx4 ⟨rfl, x4⟩
                                  have x4 : Fresh w26 wx4 := (x3).trans x4
                                  dsimp only
                                  refine hK.out _ _ x4 (fun _ => trivial) ?_
                                  clear hK K
                                  (try simp only [Act.put, List.setIfInBounds_toArray, List.set_cons_zero, List.set_cons_succ])
                                  refine wpKeep_takeT (i := 39) (oi := ⟨some 186, _, _, _, _, _⟩) (v := ?_) rfl (by kernel_rfl) (by kernel_rfl) (by kernel_rfl) (by kernel_rfl) (fun _ _ _ h => h) (Or.inl ⟨by rfl, ?_⟩) x4 (fun _ => trivial) ?_
                                  rotate_left
                                  · intro w' hT
                                    have ydb0 := (hT.cell (p := ⟨db, 0, none⟩) DL (fun h => h)).trans D0
                                    have ydb1 := (hT.cell (p := ⟨db, 1, none⟩) DL (fun h => h)).trans D1
                                    have ydb2 := (hT.cell (p := ⟨db, 2, none⟩) DL (fun h => h)).trans D2
                                    have ydb3 := (hT.cell (p := ⟨db, 3, none⟩) DL (fun h => h)).trans D3
                                    go_simp
                                    (try rw [if_pos (by omega)])
                                    (try with_reducible rfl)
                                  rotate_left
                                  (try simp only [Act.put, List.setIfInBounds_toArray, List.set_cons_zero, List.set_cons_succ])
                                  refine wpKeep_takeT (i := 40) (oi := ⟨some 187, _, _, _, _, _⟩) (v := ?_) rfl (by kernel_rfl) (by kernel_rfl) (by kernel_rfl) (by kernel_rfl) (fun _ _ _ h => h) (Or.inl ⟨by rfl, ?_⟩) x4 (fun _ => trivial) ?_
                                  rotate_left
                                  · intro w' hT
                                    have ydb0 := (hT.cell (p := ⟨db, 0, none⟩) DL (fun h => h)).trans D0
                                    have ydb1 := (hT.cell (p := ⟨db, 1, none⟩) DL (fun h => h)).trans D1
                                    have ydb2 := (hT.cell (p := ⟨db, 2, none⟩) DL (fun h => h)).trans D2
                                    have ydb3 := (hT.cell (p := ⟨db, 3, none⟩) DL (fun h => h)).trans D3
                                    go_simp
                                    (try rw [if_pos (by omega)])
                                    (try with_reducible rfl)
                                  rotate_left
                                  (try simp only [Act.put, List.setIfInBounds_toArray, List.set_cons_zero, List.set_cons_succ])
                                  as_aux_lemma =>
                                    refine wpKeep_done (by kernel_rfl) ?_ _
                                    as_aux_lemma =>
                                      have fwb := PK.out.2.2.2.2.2.2.1
                                      have HGA := PK.out.2.1
                                      have HGB := PK.out.2.2.1
                                      have kW := PK.out.2.2.2.2.2.1
                                      have HKA := PK.out.2.2.2.1
                                      have HJA := PK.out.2.2.2.2.1
                                      have HLT := PK.out.1
                                      have fEnd := fwb.trans (f26.trans x4)
                                      have hgA := hid (fEnd.at_ HGA.out (fun h => h))
                                      have hgB := hid (fEnd.at_ HGB.out (fun h => h))
                                      have kEnd := kW.trans (fEnd.mono (fun _ _ h => h.elim))
                                      clear HGA HGB kW fEnd fwb x1 x2 x3 x4 f26 D0 D1 D2 D3 DL HRC HBENT PK
                                      have ht2 : (t : Int) < 2 := by have := HLT.out; omega
                                      have htn : (t : Int) + 1 ≤ 2 := by omega
                                      go_wp2_with fail
                                      as_aux_lemma =>
                                        go_roundw
                                        case rel =>
                                          as_aux_lemma =>
                                            exact ⟨t + 1, K1, J1, by simp, HLT.out, HKA.out, HJA.out, hgA.out, hgB.out, kEnd⟩
                                        case measure =>
                                          as_aux_lemma =>
                                            have := HLT.out
                                            simp [intOf]
                                            omega
    · have ht2 : ¬ (t : Int) < 2 := by omega
      have hrbn : ¬ (rb = gh ∨ rb = gl) := by omega
      have hdr : ∀ W, Fresh wr W → Dig W := fun W f => (⟨(HD.out.fresh f2').tab.keeps kW (fun e => by have := HD.out.room; have := HRBE.out; omega), (HD.out.fresh f2').first.keeps kW (fun e => by have := HD.out.room; have := HRBE.out; omega), Nat.le_trans (HD.out.fresh f2').room kW.size⟩ : Dig wr).fresh f
      have htu := fun W (f : Fresh wr W) => lturned_any sz b e aoH capH gh gl n m K J root W (f.at_ hg1 (fun h => h)) (f.at_ hg2 (fun h => h)) hne hK hJ (hdr W f) (by have := HD.out.room; have := HRBE.out; omega) (by have := HD.out.room; have := HRBE.out; omega) HNB.out HMB.out
      unfold runV at htu
      have HTU := hid htu
      have hrbw := kW.at_ HRB.out hrbn
      have R0 := (cell_at hrbw 0).trans (show _ = some (Value.int .i64 sz) from rfl)
      have R1 := (cell_at hrbw 1).trans (show _ = some (Value.int .i64 b) from rfl)
      have R2 := (cell_at hrbw 2).trans (show _ = some (Value.int .i64 e) from rfl)
      have R3 := (cell_at hrbw 3).trans (show _ = some (Value.slice aoH n capH) from rfl)
      have RL := lt_of_block hrbw
      clear hlt ht hg1 hg2 hK hJ hrbw htu hdr
      as_aux_lemma =>
        go_wp2_with fail
        refine wp_region_keep 9 (fun w' => Keeps (fun q => q = gh ∨ q = gl) wr w') (fun _ => True) (fun _ => true) (by kernel_rfl) (by kernel_rfl) ?_
        (try (change wpKeep _ _ _ _ _ _ _ _ _ _ (World.drew _)))
        refine wpKeep_takeT (i := 0) (oi := ⟨some 188, _, _, _, _, _⟩) (v := ?_) rfl (by kernel_rfl) (by kernel_rfl) (by kernel_rfl) (by kernel_rfl) (fun _ _ _ h => h) (Or.inl ⟨by rfl, ?_⟩) (Keeps.refl _ _).drew (fun _ => trivial) ?_
        rotate_left
        · intro w' hT
          have yR0 := (hT.cell (p := ⟨rb, 0, none⟩) RL hrbn).trans R0
          have yR1 := (hT.cell (p := ⟨rb, 1, none⟩) RL hrbn).trans R1
          have yR2 := (hT.cell (p := ⟨rb, 2, none⟩) RL hrbn).trans R2
          have yR3 := (hT.cell (p := ⟨rb, 3, none⟩) RL hrbn).trans R3
          go_simp
          (try rw [if_pos (by omega)])
          (try with_reducible rfl)
        rotate_left
        (try simp only [Act.put, List.setIfInBounds_toArray, List.set_cons_zero, List.set_cons_succ])
        refine wpKeep_takeT (i := 1) (oi := ⟨some 189, _, _, _, _, _⟩) (v := ?_) rfl (by kernel_rfl) (by kernel_rfl) (by kernel_rfl) (by kernel_rfl) (fun _ _ _ h => h) (Or.inl ⟨by rfl, ?_⟩) (Keeps.refl _ _).drew (fun _ => trivial) ?_
        rotate_left
        · intro w' hT
          have yR0 := (hT.cell (p := ⟨rb, 0, none⟩) RL hrbn).trans R0
          have yR1 := (hT.cell (p := ⟨rb, 1, none⟩) RL hrbn).trans R1
          have yR2 := (hT.cell (p := ⟨rb, 2, none⟩) RL hrbn).trans R2
          have yR3 := (hT.cell (p := ⟨rb, 3, none⟩) RL hrbn).trans R3
          go_simp
          (try rw [if_pos (by omega)])
          (try with_reducible rfl)
        rotate_left
        (try simp only [Act.put, List.setIfInBounds_toArray, List.set_cons_zero, List.set_cons_succ])
        refine wpKeep_takeT (i := 2) (oi := ⟨some 190, _, _, _, _, _⟩) (v := ?_) rfl (by kernel_rfl) (by kernel_rfl) (by kernel_rfl) (by kernel_rfl) (fun _ _ _ h => h) (Or.inl ⟨by rfl, ?_⟩) (Keeps.refl _ _).drew (fun _ => trivial) ?_
        rotate_left
        · intro w' hT
          have yR0 := (hT.cell (p := ⟨rb, 0, none⟩) RL hrbn).trans R0
          have yR1 := (hT.cell (p := ⟨rb, 1, none⟩) RL hrbn).trans R1
          have yR2 := (hT.cell (p := ⟨rb, 2, none⟩) RL hrbn).trans R2
          have yR3 := (hT.cell (p := ⟨rb, 3, none⟩) RL hrbn).trans R3
          go_simp
          (try rw [if_pos (by omega)])
          (try with_reducible rfl)
        rotate_left
        (try simp only [Act.put, List.setIfInBounds_toArray, List.set_cons_zero, List.set_cons_succ])
        refine wpKeep_takeT (i := 3) (oi := ⟨some 191, _, _, _, _, _⟩) (v := ?_) rfl (by kernel_rfl) (by kernel_rfl) (by kernel_rfl) (by kernel_rfl) (fun _ _ _ h => h) (Or.inl ⟨by rfl, ?_⟩) (Keeps.refl _ _).drew (fun _ => trivial) ?_
        rotate_left
        · intro w' hT
          have yR0 := (hT.cell (p := ⟨rb, 0, none⟩) RL hrbn).trans R0
          have yR1 := (hT.cell (p := ⟨rb, 1, none⟩) RL hrbn).trans R1
          have yR2 := (hT.cell (p := ⟨rb, 2, none⟩) RL hrbn).trans R2
          have yR3 := (hT.cell (p := ⟨rb, 3, none⟩) RL hrbn).trans R3
          go_simp
          (try rw [if_pos (by omega)])
          (try with_reducible rfl)
        rotate_left
        (try simp only [Act.put, List.setIfInBounds_toArray, List.set_cons_zero, List.set_cons_succ])
        refine wpKeep_takeT (i := 4) (oi := ⟨some 192, _, _, _, _, _⟩) (v := ?_) rfl (by kernel_rfl) (by kernel_rfl) (by kernel_rfl) (by kernel_rfl) (fun _ _ _ h => h) (Or.inl ⟨by rfl, ?_⟩) (Keeps.refl _ _).drew (fun _ => trivial) ?_
        rotate_left
        · intro w' hT
          have yR0 := (hT.cell (p := ⟨rb, 0, none⟩) RL hrbn).trans R0
          have yR1 := (hT.cell (p := ⟨rb, 1, none⟩) RL hrbn).trans R1
          have yR2 := (hT.cell (p := ⟨rb, 2, none⟩) RL hrbn).trans R2
          have yR3 := (hT.cell (p := ⟨rb, 3, none⟩) RL hrbn).trans R3
          go_simp
          (try rw [if_pos (by omega)])
          (try with_reducible rfl)
        rotate_left
        (try simp only [Act.put, List.setIfInBounds_toArray, List.set_cons_zero, List.set_cons_succ])
        refine wpKeep_takeT (i := 5) (oi := ⟨some 193, _, _, _, _, _⟩) (v := ?_) rfl (by kernel_rfl) (by kernel_rfl) (by kernel_rfl) (by kernel_rfl) (fun _ _ _ h => h) (Or.inl ⟨by rfl, ?_⟩) (Keeps.refl _ _).drew (fun _ => trivial) ?_
        rotate_left
        · intro w' hT
          have yR0 := (hT.cell (p := ⟨rb, 0, none⟩) RL hrbn).trans R0
          have yR1 := (hT.cell (p := ⟨rb, 1, none⟩) RL hrbn).trans R1
          have yR2 := (hT.cell (p := ⟨rb, 2, none⟩) RL hrbn).trans R2
          have yR3 := (hT.cell (p := ⟨rb, 3, none⟩) RL hrbn).trans R3
          go_simp
          (try rw [if_pos (by omega)])
          (try with_reducible rfl)
        rotate_left
        (try simp only [Act.put, List.setIfInBounds_toArray, List.set_cons_zero, List.set_cons_succ])
        refine wpKeep_takeT (i := 6) (oi := ⟨some 194, _, _, _, _, _⟩) (v := ?_) rfl (by kernel_rfl) (by kernel_rfl) (by kernel_rfl) (by kernel_rfl) (fun _ _ _ h => h) (Or.inl ⟨by rfl, ?_⟩) (Keeps.refl _ _).drew (fun _ => trivial) ?_
        rotate_left
        · intro w' hT
          have yR0 := (hT.cell (p := ⟨rb, 0, none⟩) RL hrbn).trans R0
          have yR1 := (hT.cell (p := ⟨rb, 1, none⟩) RL hrbn).trans R1
          have yR2 := (hT.cell (p := ⟨rb, 2, none⟩) RL hrbn).trans R2
          have yR3 := (hT.cell (p := ⟨rb, 3, none⟩) RL hrbn).trans R3
          go_simp
          (try rw [if_pos (by omega)])
          (try with_reducible rfl)
        rotate_left
        (try simp only [Act.put, List.setIfInBounds_toArray, List.set_cons_zero, List.set_cons_succ])
        refine wpKeep_ready (rs := [7]) (by kernel_rfl) (by simp) ?_
        refine AllKeep.cons (o := ⟨some 195, _, _, _, _, _⟩) rfl (fun K hK => ?_) AllKeep.nil
        go_simp
        go_at_call 53
        with_reducible refine (HTU.out _ (Keeps.refl (fun _ => False) wr).drew).mono ?_
        rintro x w9 ⟨rfl, k9⟩
        have k9 : Keeps (fun q => q = gh ∨ q = gl) wr w9 := ((Keeps.refl (fun q => q = gh ∨ q = gl) wr).drew).trans k9
        dsimp only
        refine hK.out _ _ k9 (fun _ => trivial) ?_
        clear hK K
        (try simp only [Act.put, List.setIfInBounds_toArray, List.set_cons_zero, List.set_cons_succ])
        refine wpKeep_takeT (i := 8) (oi := ⟨some 6, _, _, _, _, _⟩) (v := ?_) rfl (by kernel_rfl) (by kernel_rfl) (by kernel_rfl) (by kernel_rfl) (fun _ _ _ h => h) (Or.inl ⟨by rfl, ?_⟩) k9 (fun _ => trivial) ?_
        rotate_left
        · intro w' hT
          have yR0 := (hT.cell (p := ⟨rb, 0, none⟩) RL hrbn).trans R0
          have yR1 := (hT.cell (p := ⟨rb, 1, none⟩) RL hrbn).trans R1
          have yR2 := (hT.cell (p := ⟨rb, 2, none⟩) RL hrbn).trans R2
          have yR3 := (hT.cell (p := ⟨rb, 3, none⟩) RL hrbn).trans R3
          go_simp
          (try rw [if_pos (by omega)])
          (try with_reducible rfl)
        rotate_left
        (try simp only [Act.put, List.setIfInBounds_toArray, List.set_cons_zero, List.set_cons_succ])
        refine wpKeep_done (by kernel_rfl) ?_ _
        go_wp2_with fail
        go_ret
        exact ⟨rfl, f2'.trans' (kW.trans k9) (fun q hq e => by have := HRBE.out; omega)⟩
end Go.Proofs.YtgikabafaocemaaDoor
