/-
  The laws on spans: turned.
-/
import Derived.Test.YtgikabafaocemaaDoorMSpD
import Derived.Test.YtgikabafaocemaaDoorSpCheckP
import Derived.Test.YtgikabafaocemaaDoorSpCheckR
import Derived.Test.YtgikabafaocemaaDoorSpProve
namespace Go.Proofs.YtgikabafaocemaaDoor
open Go.RowKit

def revTo (X M : List (List UInt8)) (i : Nat) : List (List UInt8) := M.reverse.take i ++ X.drop i
theorem revTo_zero (X M : List (List UInt8)) : revTo X M 0 = X := by simp [revTo]
theorem revTo_set {X M : List (List UInt8)} {i : Nat} {s : List UInt8} (hi : i < M.length) (hX : M.length ≤ X.length) (hs : M[M.length - 1 - i]? = some s) : (revTo X M i).set i s = revTo X M (i + 1) := by
  have hl : (M.reverse.take i).length = i := by simp; omega
  have hr : M.reverse[i]? = some s := by rw [List.getElem?_reverse (by omega)]; exact hs
  unfold revTo
  rw [List.set_append_right _ _ (by omega), hl, Nat.sub_self, List.drop_eq_getElem_cons (show i < X.length by omega), List.set_cons_zero, List.take_add_one, hr, List.append_assoc]
  rfl
theorem revTo_len {X M : List (List UInt8)} {i : Nat} (hi : i ≤ M.length) (hX : M.length ≤ X.length) : (revTo X M i).length = X.length := by simp [revTo]; omega
theorem revTo_all (M : List (List UInt8)) : revTo (lentL M) M M.length = lentL M.reverse := by
  unfold revTo lentL
  rw [List.take_of_length_le (by simp), List.drop_left]
theorem listBut_new {w : World} {v : Value} {ao : Option Addr} {n cap : Nat} {l : List (List UInt8)} (h : TextsAt w v l) (hv : v = .slice ao n cap) (hc : n ≤ cap) (wb : Nat) (hw : w.heap.size ≤ wb) : ListBut wb w v l := by
  obtain ⟨ao', cap', e1, hk⟩ := h
  have e2 := e1
  rw [hv] at e1
  simp only [Value.slice.injEq] at e1
  obtain ⟨rfl, rfl, rfl⟩ := e1
  exact ⟨ao, cap, e2, hc, fun k s hs => by
    obtain ⟨bb, off, q1, q2, q3⟩ := hk k s hs
    exact ⟨bb, off, q1, by omega, q2, q3⟩⟩
theorem runV_fold (n b e : Int) (v : Value) : Value.agg #[.int .i64 n, .int .i64 b, .int .i64 e, v] = runV n b e v := rfl
theorem fresh_of_append {e : TypeId} {w w' : World} {v' : Value} {n : Nat} {xs : List Value} (h : Appended e 1 w w' (.slice none 0 0) v' n xs) : Fresh w w' := h.keeps.mono (fun _ _ h => by simp [Value.ownBlock] at h)

set_option maxRecDepth 100000 in
set_option maxHeartbeats 16000000 in
theorem lturned_any (sz b e : Int) (ao : Option Addr) (cap gh gl n m : Nat) (H0 L0 : List (List UInt8)) (root : List UInt8) (w : World) (hgh : w.heap[gh]? = some (textsC (lentL H0))) (hgl : w.heap[gl]? = some (textsC (lentL L0))) (hne : gh ≠ gl) (hH : H0.length = n) (hL : L0.length = m) (hd : Dig w) (h1 : 4 ≤ gh) (h2 : 4 ≤ gl) (hnb : n ≤ 8796093022200) (hmb : m ≤ 8796093022200) :
    Calls Tryd.prog 53 #[runV sz b e (.slice ao n cap), .slice (some ⟨gh, 0, none⟩) (n + 8) (n + 8), .slice (some ⟨gl, 0, none⟩) m (m + 8), .string (str root)] w fun x w' => x = .returned (.bool true) ∧ Keeps (fun q => q = gh ∨ q = gl) w w' := by
  have hghl := lt_of_block hgh
  have hgll := lt_of_block hgl
  have f0 : Fresh w (w.alloc (.cells #[.int .i64 sz, .int .i64 b, .int .i64 e, .slice ao n cap] 41)) := (Keeps.refl _ _).alloc _
  have hrb0 := heap_alloc_new w (.cells #[.int .i64 sz, .int .i64 b, .int .i64 e, .slice ao n cap] 41)
  have r0 := (cell_at hrb0 0).trans (show _ = some (Value.int .i64 sz) from rfl)
  have r1 := (cell_at hrb0 1).trans (show _ = some (Value.int .i64 b) from rfl)
  have r2 := (cell_at hrb0 2).trans (show _ = some (Value.int .i64 e) from rfl)
  have r3 := (cell_at hrb0 3).trans (show _ = some (Value.slice ao n cap) from rfl)
  have HRB0 := hid hrb0
  have hni : (n : Int) + 8 ≤ 9000000000000 := by omega
  have hmi : (m : Int) + 8 ≤ 9000000000000 := by omega
  have HNB := hid hnb
  have HMB := hid hmb
  obtain ⟨i0, hi, hz0, hz1, hz2⟩ := info_parts Tryd.infoText
  have HGH := hid hgh
  have HGL := hid hgl
  clear hnb hmb hrb0 hgh hgl
  unfold runV
  go_enter Tryd.func53, Tryd.ntmps53
  go_wp2_with fail
  generalize w.alloc (.cells #[.int .i64 sz, .int .i64 b, .int .i64 e, .slice ao n cap] 41) = wA at f0 r0 r1 r2 r3 HRB0 ⊢
  have hrbl := lt_of_block HRB0.out
  go_region
  have fW : Fresh w ((wA.alloc (.cells #[.int .i64 sz, .int .i64 b, .int .i64 e, .slice (some ⟨gh, 0, none⟩) n (n + 8)] 41)).drew) := (f0.alloc _).drew
  have hrbW : ((wA.alloc (.cells #[.int .i64 sz, .int .i64 b, .int .i64 e, .slice (some ⟨gh, 0, none⟩) n (n + 8)] 41)).drew).heap[w.heap.size]? = _ := ((Keeps.refl (fun _ => False) wA).alloc _).at_ HRB0.out (fun h => h)
  have hcbW : ((wA.alloc (.cells #[.int .i64 sz, .int .i64 b, .int .i64 e, .slice (some ⟨gh, 0, none⟩) n (n + 8)] 41)).drew).heap[wA.heap.size]? = _ := heap_alloc_new wA (.cells #[.int .i64 sz, .int .i64 b, .int .i64 e, .slice (some ⟨gh, 0, none⟩) n (n + 8)] 41)
  generalize (wA.alloc (.cells #[.int .i64 sz, .int .i64 b, .int .i64 e, .slice (some ⟨gh, 0, none⟩) n (n + 8)] 41)).drew = W at fW hrbW hcbW ⊢
  have hAl := f0.size
  generalize hrbe : w.heap.size = rb at hrbW hghl hgll hAl ⊢
  generalize wA.heap.size = cb at hcbW hAl ⊢
  have HRW := hid hrbW
  have HCW := hid hcbW
  have HDW := hid (hd.fresh fW)
  have HRBE := hid hrbe
  have hghW := fW.at_ HGH.out (fun h => h)
  have hglW := fW.at_ HGL.out (fun h => h)
  have HH0 := hid hH
  have HL0 := hid hL
  clear r0 r1 r2 r3 HRB0 hrbl hrbW hcbW f0 hrbe hH hL
  go_wp2_with fail
  go_loopw [11] (fun i wr => ∃ (k : Nat) (H L : List (List UInt8)), i = .int .i64 (k : Int) ∧ k ≤ 2 ∧ H.length = n ∧ L.length = m ∧ wr.heap[gh]? = some (textsC (lentL H)) ∧ wr.heap[gl]? = some (textsC (lentL L)) ∧ Keeps (fun q => q = gh ∨ q = gl) W wr) (fun i _ => 2 - (intOf i).toNat)
  case atStart => exact ⟨0, H0, L0, rfl, by omega, HH0.out, HL0.out, hghW, hglW, Keeps.refl _ _⟩
  case round =>
    obtain ⟨k, H1, L1, rfl, hk, hH1, hL1, hg1, hg2, kW⟩ := hrel
    by_cases hlt : k < 2
    · have HG1 := hid hg1
      have HG2 := hid hg2
      have hk2 : (k : Int) < 2 := by omega
      have HLT := hid hlt
      have HH1 := hid hH1
      have HL1 := hid hL1
      clear hg1 hg2 hghW hglW hlt hk hH1 hL1
      go_wp2_with fail
      go_loopw [12] (fun i wr => ∃ (t : Nat) (H L : List (List UInt8)), i = .int .i64 (t : Int) ∧ t ≤ 2 ∧ H.length = n ∧ L.length = m ∧ wr.heap[gh]? = some (textsC (lentL H)) ∧ wr.heap[gl]? = some (textsC (lentL L)) ∧ Keeps (fun q => q = gh ∨ q = gl) W wr) (fun i _ => 2 - (intOf i).toNat)
      case atStart => exact ⟨0, H1, L1, rfl, by omega, HH1.out, HL1.out, HG1.out, HG2.out, kW⟩
      case round =>
        obtain ⟨t, H, L, rfl, ht, hHn, hLm, hg1, hg2, kW⟩ := hrel
        by_cases hlt2 : t < 2
        · have hrb1 := kW.at_ HRW.out (fun e => by omega)
          have hcb1 := kW.at_ HCW.out (fun e => by omega)
          have hdr : Dig wr := ⟨HDW.out.tab.keeps kW (fun e => by omega), HDW.out.first.keeps kW (fun e => by omega), Nat.le_trans HDW.out.room kW.size⟩
          have hHat : TextsAt wr (.slice (some ⟨gh, 0, none⟩) n (n + 8)) H := by rw [← hHn]; exact textsC_at hg1 (lentL_take H)
          have hLat : TextsAt wr (.slice (some ⟨gl, 0, none⟩) m (m + 8)) L := by rw [← hLm]; exact textsC_at hg2 (lentL_take L)
          have hsrcH : Src Tryd.prog 1 26 (.slice (some ⟨gh, 0, none⟩) n (n + 8)) n (texts H) wr := by have := Src.ofTexts (P := Tryd.prog) Tryd.underlying26 hHat; rw [hHn] at this; exact this
          have ht2 : (t : Int) < 2 := by omega
          have HT := hid ht
          have HLT2 := hid hlt2
          have HHN := hid hHn
          have HLM := hid hLm
          have HG1 := hid hg1
          have HG2 := hid hg2
          have HRB := hid hrb1
          have HCB := hid hcb1
          clear hg1 hg2 hrb1 hcb1 hlt2 ht hHn hLm
          go_wp2_with (at_builtin; refine wpList_append_src rfl (.const (.slice none 0 0)) (.tmp 47) 26 26 rfl 9 i0 (.string ⟨#[]⟩) 1 16 Tryd.underlying26 hi hz0 hz1 hz2 rfl (by decide) (World.ownsRow_nil _ _ _ _) _ n (texts H) (by rfl) (by rfl) hsrcH (by have := HNB.out; unfold maxLen; omega) (by have := HNB.out; omega) ?_)
          intro v6 w6 ha
          replace ha : Appended 9 1 wr w6 (.slice none 0 0) v6 n (texts H) := ha
          have f6 := fresh_of_append ha
          obtain ⟨ao6, cp6, rfl⟩ := ownsRow_slice ha.row
          have hL6 := hLat.fresh f6
          have hsrcL : Src Tryd.prog 1 26 (.slice (some ⟨gl, 0, none⟩) m (m + 8)) m (texts L) w6 := by have := Src.ofTexts (P := Tryd.prog) Tryd.underlying26 hL6; rw [HLM.out] at this; exact this
          go_wp2_with (at_builtin; refine wpList_append_src rfl (.const (.slice none 0 0)) (.tmp 49) 26 26 rfl 9 i0 (.string ⟨#[]⟩) 1 16 Tryd.underlying26 hi hz0 hz1 hz2 rfl (by decide) (World.ownsRow_nil _ _ _ _) _ m (texts L) (by rfl) (by rfl) hsrcL (by have := HMB.out; unfold maxLen; omega) (by have := HMB.out; omega) ?_)
          intro v7 w7 hb
          replace hb : Appended 9 1 w6 w7 (.slice none 0 0) v7 m (texts L) := hb
          have f7 := fresh_of_append hb
          obtain ⟨ao7, cp7, rfl⟩ := ownsRow_slice hb.row
          have hb7 := (f6.trans f7).at_ HRB.out (fun h => h)
          have r0 := (cell_at hb7 0).trans (show _ = some (Value.int .i64 sz) from rfl)
          have r1 := (cell_at hb7 1).trans (show _ = some (Value.int .i64 b) from rfl)
          have r2 := (cell_at hb7 2).trans (show _ = some (Value.int .i64 e) from rfl)
          have HA := hid ha.row
          have HB := hid hb.row
          have HAO := hid (fun g hg => (ha.own g hg).elim (fun z => nomatch z) (fun z => z.1) : ∀ g, (Value.slice ao6 n cp6).ownBlock = some g → wr.heap.size ≤ g)
          have HBO := hid (fun g hg => (hb.own g hg).elim (fun z => nomatch z) (fun z => Nat.le_trans f6.size z.1) : ∀ g, (Value.slice ao7 m cp7).ownBlock = some g → wr.heap.size ≤ g)
          have HHAT := hid hHat
          have HLAT := hid hLat
          have hn8 : (n : Int) ≤ 9000000000000 := by omega
          clear hb7 ha hb hHat hLat hL6 hsrcH hsrcL
          have f8 : Fresh wr (w7.alloc (.cells #[.int .i64 sz, .int .i64 b, .int .i64 e, .slice ao6 n cp6] 41)) := (f6.trans f7).alloc _
          have hd8 := heap_alloc_new w7 (.cells #[.int .i64 sz, .int .i64 b, .int .i64 e, .slice ao6 n cp6] 41)
          have hHb : ∀ W, Fresh wr W → TextsAt W (.slice (some ⟨gh, 0, none⟩) n (n + 8)) H := fun W f => HHAT.out.fresh f
          have hLb : ∀ W, Fresh wr W → TextsAt W (.slice (some ⟨gl, 0, none⟩) m (m + 8)) L := fun W f => HLAT.out.fresh f
          have f78 := (Keeps.refl (fun _ => False) w7).alloc (.cells #[.int .i64 sz, .int .i64 b, .int .i64 e, .slice ao6 n cp6] 41)
          have hrow6 := ownsRow_keeps (ownsRow_keeps HA.out f7 (fun _ _ h => h)) f78 (fun _ _ h => h)
          have hrow7 := ownsRow_keeps HB.out f78 (fun _ _ h => h)
          have h6t : TextsAt (w7.alloc (.cells #[.int .i64 sz, .int .i64 b, .int .i64 e, .slice ao6 n cp6] 41)) (.slice ao6 n cp6) H := OwnTexts_at (by rw [HHN.out]; exact hrow6)
          have h7t : TextsAt (w7.alloc (.cells #[.int .i64 sz, .int .i64 b, .int .i64 e, .slice ao6 n cp6] 41)) (.slice ao7 m cp7) L := OwnTexts_at (by rw [HLM.out]; exact hrow7)
          have hHl : H.length ≤ 9223372036854775807 := by have := HHN.out; have := HNB.out; omega
          have hLl : L.length ≤ 9223372036854775807 := by have := HLM.out; have := HMB.out; omega
          have hcap6 := row_le HA.out
          have hcap7 := row_le HB.out
          generalize hw8 : w7.alloc (.cells #[.int .i64 sz, .int .i64 b, .int .i64 e, .slice ao6 n cp6] 41) = w8 at f8 hd8 h6t h7t f78
          have hrr := fun W (f : Fresh w8 W) => rroot_any sz b e (.slice ao6 n cp6) (.slice ao7 m cp7) H L W (h6t.fresh f) (h7t.fresh f) hHl hLl (fun wb q => listBut_new (h6t.fresh f) rfl hcap6 wb q) (fun wb q => listBut_new (h7t.fresh f) rfl hcap7 wb q)
          have hpr := fun W (f : Fresh wr W) => proot_any sz b e (.slice (some ⟨gh, 0, none⟩) n (n + 8)) (.slice (some ⟨gl, 0, none⟩) m (m + 8)) H L W (hHb W f) (hLb W f) hHl hLl (hdr.fresh f) (fun wb q => listBut_new (hHb W f) rfl (by omega) wb q) (fun wb q => listBut_new (hLb W f) rfl (by omega) wb q)
          have hrc := fun W (f : Fresh w8 W) => rcheck_any sz b e (.slice ao6 n cp6) (.slice ao7 m cp7) H L root W (h6t.fresh f) (h7t.fresh f) hHl hLl (fun wb q => listBut_new (h6t.fresh f) rfl hcap6 wb q) (fun wb q => listBut_new (h7t.fresh f) rfl hcap7 wb q)
          have hpc := fun W (f : Fresh wr W) => pcheck_any sz b e (.slice (some ⟨gh, 0, none⟩) n (n + 8)) (.slice (some ⟨gl, 0, none⟩) m (m + 8)) H L root W (hHb W f) (hLb W f) hHl hLl (hdr.fresh f) (fun wb q => listBut_new (hHb W f) rfl (by omega) wb q) (fun wb q => listBut_new (hLb W f) rfl (by omega) wb q)
          generalize rootOf sz b e H L = RT at hrr hpr
          generalize checkOf sz b e H L root = CK at hrc hpc
          unfold runV at hrr hpr hrc hpc
          have HRR := hid hrr
          have HPR := hid hpr
          have HRC := hid hrc
          have HPC := hid hpc
          have H6T := hid h6t
          have H7T := hid h7t
          have HD8 := hid hd8
          have HW8 := hid hw8
          clear hrr hpr hrc hpc h6t h7t hHb hLb hHl hLl hrow6 hrow7 hcap6 hcap7 hd8 hw8 f78
          by_cases hk0 : k = 0
          · have hke : ((k : Int) == 0) = true := by simp [hk0]
            have HK0 := hid hk0
            clear hk0
            go_wp2_with fail
            rw [HW8.out]
            refine (HRR.out w8 (Keeps.refl _ _)).mono ?_
            rintro x w9 ⟨rfl, f9⟩
            have f9' := f8.trans f9
            have hcb9 := f9'.at_ HCB.out (fun h => h)
            have y0 := (cell_at hcb9 0).trans (show _ = some (Value.int .i64 sz) from rfl)
            have y1 := (cell_at hcb9 1).trans (show _ = some (Value.int .i64 b) from rfl)
            have y2 := (cell_at hcb9 2).trans (show _ = some (Value.int .i64 e) from rfl)
            have y3 := (cell_at hcb9 3).trans (show _ = some (Value.slice (some ⟨gh, 0, none⟩) n (n + 8)) from rfl)
            clear hcb9
            go_wp2_with fail
            refine (HPR.out w9 f9').mono ?_
            rintro x wz ⟨rfl, f10⟩
            have fz := f9'.trans f10
            have f8z := f9.trans f10
            have hq1 : ((str RT.fst).toList == (str RT.fst).toList) = true := by simp
            have hq2 : (RT.snd == RT.snd) = true := by simp
            clear y0 y1 y2 y3 r0 r1 r2
            go_wp2_with fail
            clear hq2 hke f9 f9' f10 f8 f6 f7
            have hghz : gh < wr.heap.size := lt_of_block HG1.out
            have hglz : gl < wr.heap.size := lt_of_block HG2.out
            have hz1 := fz.at_ HG1.out (fun h => h)
            have HZ2 := hid (fz.at_ HG2.out (fun h => h))
            have hzs := fz.size
            have H6 := hid (H6T.out.fresh f8z)
            have H7 := hid (H7T.out.fresh f8z)
            go_loopw [22] (fun i wx => ∃ q : Nat, i = .int .i64 (q : Int) ∧ q ≤ n ∧ wx.heap[gh]? = some (textsC (revTo (lentL H) H q)) ∧ Keeps (fun z => z = gh) wz wx) (fun i _ => n - (intOf i).toNat)
            case atStart => exact ⟨0, rfl, Nat.zero_le _, by rw [revTo_zero]; exact hz1, Keeps.refl _ _⟩
            case round =>
              obtain ⟨q, rfl, hq, hg, kx⟩ := hrel
              by_cases hlq : q < n
              · obtain ⟨s, hs⟩ : ∃ s, H[n - 1 - q]? = some s := ⟨H[n - 1 - q]'(by have := HHN.out; omega), by simp⟩
                obtain ⟨ao', cap', e1, hk6⟩ := H6.out
                obtain ⟨bb, off, e2, hbb, hcw⟩ := hk6 (n - 1 - q) s hs
                simp only [Value.slice.injEq] at e1
                obtain ⟨e3, -, -⟩ := e1
                rw [← e3] at e2
                subst e2
                have hbw := HAO.out bb rfl
                have hcell := (kx.cell (p := ⟨bb, off + (n - 1 - q), none⟩) hbb (show ¬ bb = gh by omega)).trans hcw
                obtain ⟨s0, hs0⟩ : ∃ s0, (revTo (lentL H) H q)[q]? = some s0 := ⟨(revTo (lentL H) H q)[q]'(by rw [revTo_len (by have := HHN.out; omega) (by rw [lentL_len]; omega), lentL_len]; have := HHN.out; omega), by simp⟩
                have c0 := textsC_cell hg hs0
                have z0 := textsC_free hg q
                have hset := textsC_set hg q s
                rw [revTo_set (by have := HHN.out; omega) (by rw [lentL_len]; omega) (by rw [HHN.out]; exact hs)] at hset
                have kS : Keeps (fun z => z = gh) wr (wr.setCell ⟨gh, q, none⟩ (.string (str s))) := (Keeps.refl (fun z => z = gh) wr).setCell (p := ⟨gh, q, none⟩) (fun _ => rfl) _
                have kx2 := kx.trans kS
                obtain ⟨P, hP⟩ : ∃ P, n - 1 - q = P := ⟨_, rfl⟩
                rw [hP] at hcell
                have hPi : (n : Int) - 1 - (q : Int) = (P : Int) := by omega
                have hPn : (P : Int) < (n : Int) := by omega
                have hqn : (q : Int) < (n : Int) := by omega
                have hqn8 : (q : Int) < (n : Int) + 8 := by omega
                have HSET := hid hset
                have HLQ := hid hlq
                clear hset hs hs0 hcw hk6 hbb hP hlq hq hg kS hbw e3
                go_wp2_with fail
                go_roundw
                case rel => exact ⟨q + 1, by simp, HLQ.out, HSET.out, kx2⟩
                case measure => have := HLQ.out; simp [intOf]; omega
              · have hqe : q = n := by omega
                have hgE : wr.heap[gh]? = some (textsC (lentL H.reverse)) := by rw [hg, hqe, ← HHN.out, revTo_all]
                have HGE := hid hgE
                have hqn : ¬ (q : Int) < (n : Int) := by omega
                clear hgE hg hlq hq hqe hz1
                go_wp2_with fail
                have hy2 := kx.at_ HZ2.out (fun e => hne e.symm)
                go_loopw [23] (fun i wy => ∃ q : Nat, i = .int .i64 (q : Int) ∧ q ≤ m ∧ wy.heap[gl]? = some (textsC (revTo (lentL L) L q)) ∧ Keeps (fun z => z = gl) wr wy) (fun i _ => m - (intOf i).toNat)
                case atStart => exact ⟨0, rfl, Nat.zero_le _, by rw [revTo_zero]; exact hy2, Keeps.refl _ _⟩
                case round =>
                  obtain ⟨q, rfl, hq, hg, ky⟩ := hrel
                  by_cases hlq : q < m
                  · obtain ⟨s, hs⟩ : ∃ s, L[m - 1 - q]? = some s := ⟨L[m - 1 - q]'(by have := HLM.out; omega), by simp⟩
                    obtain ⟨ao', cap', e1, hk6⟩ := H7.out
                    obtain ⟨bb, off, e2, hbb, hcw⟩ := hk6 (m - 1 - q) s hs
                    simp only [Value.slice.injEq] at e1
                    obtain ⟨e3, -, -⟩ := e1
                    rw [← e3] at e2
                    subst e2
                    have hbw := HBO.out bb rfl
                    have hcell := (ky.cell (p := ⟨bb, off + (m - 1 - q), none⟩) (show bb < _ by have := kx.size; omega) (show ¬ bb = gl by omega)).trans ((kx.cell (p := ⟨bb, off + (m - 1 - q), none⟩) hbb (show ¬ bb = gh by omega)).trans hcw)
                    obtain ⟨s0, hs0⟩ : ∃ s0, (revTo (lentL L) L q)[q]? = some s0 := ⟨(revTo (lentL L) L q)[q]'(by rw [revTo_len (by have := HLM.out; omega) (by rw [lentL_len]; omega), lentL_len]; have := HLM.out; omega), by simp⟩
                    have c0 := textsC_cell hg hs0
                    have z0 := textsC_free hg q
                    have hset := textsC_set hg q s
                    rw [revTo_set (by have := HLM.out; omega) (by rw [lentL_len]; omega) (by rw [HLM.out]; exact hs)] at hset
                    have kS : Keeps (fun z => z = gl) wr (wr.setCell ⟨gl, q, none⟩ (.string (str s))) := (Keeps.refl (fun z => z = gl) wr).setCell (p := ⟨gl, q, none⟩) (fun _ => rfl) _
                    have ky2 := ky.trans kS
                    obtain ⟨P, hP⟩ : ∃ P, m - 1 - q = P := ⟨_, rfl⟩
                    rw [hP] at hcell
                    have hPi : (m : Int) - 1 - (q : Int) = (P : Int) := by omega
                    have hPn : (P : Int) < (m : Int) := by omega
                    have hqn : (q : Int) < (m : Int) := by omega
                    have HSET := hid hset
                    have HLQ := hid hlq
                    clear hset hs hs0 hcw hk6 hbb hP hlq hq hg kS hbw e3 hy2
                    go_wp2_with fail
                    go_roundw
                    case rel => exact ⟨q + 1, by simp, HLQ.out, HSET.out, ky2⟩
                    case measure => have := HLQ.out; simp [intOf]; omega
                  · have hqe : q = m := by omega
                    have hgE : wr.heap[gl]? = some (textsC (lentL L.reverse)) := by rw [hg, hqe, ← HLM.out, revTo_all]
                    have HGL2 := hid hgE
                    have HGH2 := hid (ky.at_ HGE.out hne)
                    have hqn : ¬ (q : Int) < (m : Int) := by omega
                    have kEnd : Keeps (fun q => q = gh ∨ q = gl) W wr := ((kW.trans (fz.mono (fun _ _ h => h.elim))).trans (kx.mono (fun _ _ h => .inl h))).trans (ky.mono (fun _ _ h => .inr h))
                    have HRL := hid (show H.reverse.length = n by rw [List.length_reverse]; exact HHN.out)
                    have HRM := hid (show L.reverse.length = m by rw [List.length_reverse]; exact HLM.out)
                    clear hgE hg hlq hq hqe hy2
                    go_wp2_with fail
                    go_roundw
                    case rel => exact ⟨t + 1, H.reverse, L.reverse, by simp, HLT2.out, HRL.out, HRM.out, HGH2.out, HGL2.out, kEnd⟩
                    case measure => have := HLT2.out; simp [intOf]; omega
          · have hke : ((k : Int) == 0) = false := by simpa using hk0
            have HK0 := hid hk0
            clear hk0
            go_wp2_with fail
            rw [HW8.out]
            refine (HRC.out w8 (Keeps.refl _ _)).mono ?_
            rintro x w9 ⟨rfl, f9⟩
            have f9' := f8.trans f9
            have hcb9 := f9'.at_ HCB.out (fun h => h)
            have y0 := (cell_at hcb9 0).trans (show _ = some (Value.int .i64 sz) from rfl)
            have y1 := (cell_at hcb9 1).trans (show _ = some (Value.int .i64 b) from rfl)
            have y2 := (cell_at hcb9 2).trans (show _ = some (Value.int .i64 e) from rfl)
            have y3 := (cell_at hcb9 3).trans (show _ = some (Value.slice (some ⟨gh, 0, none⟩) n (n + 8)) from rfl)
            clear hcb9
            go_wp2_with fail
            refine (HPC.out w9 f9').mono ?_
            rintro x wz ⟨rfl, f10⟩
            have fz := f9'.trans f10
            have f8z := f9.trans f10
            have hq2 : (CK == CK) = true := by simp
            clear y0 y1 y2 y3 r0 r1 r2
            go_wp2_with fail
            clear hq2 hke f9 f9' f10 f8 f6 f7
            have hghz : gh < wr.heap.size := lt_of_block HG1.out
            have hglz : gl < wr.heap.size := lt_of_block HG2.out
            have hz1 := fz.at_ HG1.out (fun h => h)
            have HZ2 := hid (fz.at_ HG2.out (fun h => h))
            have hzs := fz.size
            have H6 := hid (H6T.out.fresh f8z)
            have H7 := hid (H7T.out.fresh f8z)
            go_loopw [22] (fun i wx => ∃ q : Nat, i = .int .i64 (q : Int) ∧ q ≤ n ∧ wx.heap[gh]? = some (textsC (revTo (lentL H) H q)) ∧ Keeps (fun z => z = gh) wz wx) (fun i _ => n - (intOf i).toNat)
            case atStart => exact ⟨0, rfl, Nat.zero_le _, by rw [revTo_zero]; exact hz1, Keeps.refl _ _⟩
            case round =>
              obtain ⟨q, rfl, hq, hg, kx⟩ := hrel
              by_cases hlq : q < n
              · obtain ⟨s, hs⟩ : ∃ s, H[n - 1 - q]? = some s := ⟨H[n - 1 - q]'(by have := HHN.out; omega), by simp⟩
                obtain ⟨ao', cap', e1, hk6⟩ := H6.out
                obtain ⟨bb, off, e2, hbb, hcw⟩ := hk6 (n - 1 - q) s hs
                simp only [Value.slice.injEq] at e1
                obtain ⟨e3, -, -⟩ := e1
                rw [← e3] at e2
                subst e2
                have hbw := HAO.out bb rfl
                have hcell := (kx.cell (p := ⟨bb, off + (n - 1 - q), none⟩) hbb (show ¬ bb = gh by omega)).trans hcw
                obtain ⟨s0, hs0⟩ : ∃ s0, (revTo (lentL H) H q)[q]? = some s0 := ⟨(revTo (lentL H) H q)[q]'(by rw [revTo_len (by have := HHN.out; omega) (by rw [lentL_len]; omega), lentL_len]; have := HHN.out; omega), by simp⟩
                have c0 := textsC_cell hg hs0
                have z0 := textsC_free hg q
                have hset := textsC_set hg q s
                rw [revTo_set (by have := HHN.out; omega) (by rw [lentL_len]; omega) (by rw [HHN.out]; exact hs)] at hset
                have kS : Keeps (fun z => z = gh) wr (wr.setCell ⟨gh, q, none⟩ (.string (str s))) := (Keeps.refl (fun z => z = gh) wr).setCell (p := ⟨gh, q, none⟩) (fun _ => rfl) _
                have kx2 := kx.trans kS
                obtain ⟨P, hP⟩ : ∃ P, n - 1 - q = P := ⟨_, rfl⟩
                rw [hP] at hcell
                have hPi : (n : Int) - 1 - (q : Int) = (P : Int) := by omega
                have hPn : (P : Int) < (n : Int) := by omega
                have hqn : (q : Int) < (n : Int) := by omega
                have hqn8 : (q : Int) < (n : Int) + 8 := by omega
                have HSET := hid hset
                have HLQ := hid hlq
                clear hset hs hs0 hcw hk6 hbb hP hlq hq hg kS hbw e3
                go_wp2_with fail
                go_roundw
                case rel => exact ⟨q + 1, by simp, HLQ.out, HSET.out, kx2⟩
                case measure => have := HLQ.out; simp [intOf]; omega
              · have hqe : q = n := by omega
                have hgE : wr.heap[gh]? = some (textsC (lentL H.reverse)) := by rw [hg, hqe, ← HHN.out, revTo_all]
                have HGE := hid hgE
                have hqn : ¬ (q : Int) < (n : Int) := by omega
                clear hgE hg hlq hq hqe hz1
                go_wp2_with fail
                have hy2 := kx.at_ HZ2.out (fun e => hne e.symm)
                go_loopw [23] (fun i wy => ∃ q : Nat, i = .int .i64 (q : Int) ∧ q ≤ m ∧ wy.heap[gl]? = some (textsC (revTo (lentL L) L q)) ∧ Keeps (fun z => z = gl) wr wy) (fun i _ => m - (intOf i).toNat)
                case atStart => exact ⟨0, rfl, Nat.zero_le _, by rw [revTo_zero]; exact hy2, Keeps.refl _ _⟩
                case round =>
                  obtain ⟨q, rfl, hq, hg, ky⟩ := hrel
                  by_cases hlq : q < m
                  · obtain ⟨s, hs⟩ : ∃ s, L[m - 1 - q]? = some s := ⟨L[m - 1 - q]'(by have := HLM.out; omega), by simp⟩
                    obtain ⟨ao', cap', e1, hk6⟩ := H7.out
                    obtain ⟨bb, off, e2, hbb, hcw⟩ := hk6 (m - 1 - q) s hs
                    simp only [Value.slice.injEq] at e1
                    obtain ⟨e3, -, -⟩ := e1
                    rw [← e3] at e2
                    subst e2
                    have hbw := HBO.out bb rfl
                    have hcell := (ky.cell (p := ⟨bb, off + (m - 1 - q), none⟩) (show bb < _ by have := kx.size; omega) (show ¬ bb = gl by omega)).trans ((kx.cell (p := ⟨bb, off + (m - 1 - q), none⟩) hbb (show ¬ bb = gh by omega)).trans hcw)
                    obtain ⟨s0, hs0⟩ : ∃ s0, (revTo (lentL L) L q)[q]? = some s0 := ⟨(revTo (lentL L) L q)[q]'(by rw [revTo_len (by have := HLM.out; omega) (by rw [lentL_len]; omega), lentL_len]; have := HLM.out; omega), by simp⟩
                    have c0 := textsC_cell hg hs0
                    have z0 := textsC_free hg q
                    have hset := textsC_set hg q s
                    rw [revTo_set (by have := HLM.out; omega) (by rw [lentL_len]; omega) (by rw [HLM.out]; exact hs)] at hset
                    have kS : Keeps (fun z => z = gl) wr (wr.setCell ⟨gl, q, none⟩ (.string (str s))) := (Keeps.refl (fun z => z = gl) wr).setCell (p := ⟨gl, q, none⟩) (fun _ => rfl) _
                    have ky2 := ky.trans kS
                    obtain ⟨P, hP⟩ : ∃ P, m - 1 - q = P := ⟨_, rfl⟩
                    rw [hP] at hcell
                    have hPi : (m : Int) - 1 - (q : Int) = (P : Int) := by omega
                    have hPn : (P : Int) < (m : Int) := by omega
                    have hqn : (q : Int) < (m : Int) := by omega
                    have HSET := hid hset
                    have HLQ := hid hlq
                    clear hset hs hs0 hcw hk6 hbb hP hlq hq hg kS hbw e3 hy2
                    go_wp2_with fail
                    go_roundw
                    case rel => exact ⟨q + 1, by simp, HLQ.out, HSET.out, ky2⟩
                    case measure => have := HLQ.out; simp [intOf]; omega
                  · have hqe : q = m := by omega
                    have hgE : wr.heap[gl]? = some (textsC (lentL L.reverse)) := by rw [hg, hqe, ← HLM.out, revTo_all]
                    have HGL2 := hid hgE
                    have HGH2 := hid (ky.at_ HGE.out hne)
                    have hqn : ¬ (q : Int) < (m : Int) := by omega
                    have kEnd : Keeps (fun q => q = gh ∨ q = gl) W wr := ((kW.trans (fz.mono (fun _ _ h => h.elim))).trans (kx.mono (fun _ _ h => .inl h))).trans (ky.mono (fun _ _ h => .inr h))
                    have HRL := hid (show H.reverse.length = n by rw [List.length_reverse]; exact HHN.out)
                    have HRM := hid (show L.reverse.length = m by rw [List.length_reverse]; exact HLM.out)
                    clear hgE hg hlq hq hqe hy2
                    go_wp2_with fail
                    go_roundw
                    case rel => exact ⟨t + 1, H.reverse, L.reverse, by simp, HLT2.out, HRL.out, HRM.out, HGH2.out, HGL2.out, kEnd⟩
                    case measure => have := HLT2.out; simp [intOf]; omega
        · have ht2 : ¬ (t : Int) < 2 := by omega
          have HG1 := hid hg1
          have HG2 := hid hg2
          have HHN := hid hHn
          have HLM := hid hLm
          clear hg1 hg2 hlt2 ht hHn hLm
          go_wp2_with fail
          go_roundw
          case rel => exact ⟨k + 1, H, L, by simp, HLT.out, HHN.out, HLM.out, HG1.out, HG2.out, kW⟩
          case measure => have := HLT.out; simp [intOf]; omega
    · have hk2 : ¬ (k : Int) < 2 := by omega
      clear hlt hg1 hg2 hghW hglW hk hH1 hL1
      go_wp2_with fail
      go_ret
      exact ⟨rfl, (fW.mono (fun _ _ h => h.elim)).trans kW⟩
end Go.Proofs.YtgikabafaocemaaDoor
