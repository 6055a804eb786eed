/-
  The law's first calls: known.
-/
import Derived.Test.YtbhienlalpbflaaDvPend
import Derived.Test.YtbhienlalpbflaaMDvB
import Derived.Deep.RegionHeldLaw
namespace Go.Proofs.Ytbhienlalpbflaa
open Go.RowKit Go.Maps

theorem nought_get (j : Nat) (hj : j < nought256.length) : nought256[j] = 0 := List.getElem_replicate ..
theorem newErr_four : newErr 4 = 0 := by decide
def onePend (s : List UInt8) : Int → Option (List UInt8) := fun q => if q = 2 then some s else none
theorem onePend_keys (s : List UInt8) : intKeys ((DataW.map [] : DD).put (pkey 2) (.lit (.string s))) = [2] := rfl
theorem onePend_size (s : List UInt8) : Maps.size ((DataW.map [] : DD).put (pkey 2) (.lit (.string s))) = 1 := rfl
theorem onePend_list (s : List UInt8) : pendList ((DataW.map [] : DD).put (pkey 2) (.lit (.string s))) (onePend s) = [(2, s)] := by
  rw [pendList, onePend_keys]
  simp [onePend]

set_option maxRecDepth 100000 in
set_option maxHeartbeats 4000000 in
theorem known_any (w : World) : Calls Try.prog 6 #[] w fun e w' => e = .returned (.bool true) ∧ Fresh w w' := by
  have hnew := dnew_any 4 w
  rw [newErr_four] at hnew
  have HNEW := hid hnew
  obtain ⟨j0, hj, hy0, hy1, hy2⟩ := info_parts Try.infoByte
  clear hnew
  go_enter Try.func6, Try.ntmps6
  go_wp2_with fail
  refine HNEW.out.mono ?_
  rintro e w1 ⟨q, rfl, f1, hld⟩
  obtain ⟨d, rfl, hd, hdev⟩ : ∃ d, q = some ⟨d, 0, none⟩ ∧ w.heap.size ≤ d ∧ Dev (fun q => w.heap.size ≤ q) w1 d (List.replicate 4 nought256) (.map []) 0 false 0 := by
    rcases hld with ⟨h, _⟩ | ⟨_, d, h1, h2, h3⟩
    · exact absurd rfl h
    · exact ⟨d, h1, h2, h3.mono (fun _ h => h.1)⟩
  clear hld HNEW
  have hlen : (List.replicate 4 nought256).length = 4 := List.length_replicate
  have hp2 : (List.replicate 4 nought256)[2]? = some nought256 := rfl
  obtain ⟨l, hl⟩ : ∃ l, List.replicate 4 nought256 = l := ⟨_, rfl⟩
  rw [hl] at hdev hlen hp2
  clear hl
  obtain ⟨s, hs⟩ : ∃ s, pageOf 5 = s := ⟨_, rfl⟩
  have hsl : s.length = 256 := by rw [← hs]; exact pageOf_len 5
  have hpage := fun W => page_any 5 W
  rw [hs] at hpage
  have HPAGE := hid hpage
  have HLEN := hid hlen
  have HP2 := hid hp2
  clear hpage hs hlen hp2
  go_wp2_with fail
  refine (HPAGE.out _).mono ?_
  rintro e w2 ⟨rfl, f2⟩
  have hdev := hdev.fresh f2
  have f12 := f1.trans f2
  have hwr := write_ok (fun q => w.heap.size ≤ q) d l (.map []) 0 2 s w2 hdev (by omega) (by omega) (by rw [HLEN.out]; omega) (by rw [HLEN.out]; omega) hsl
  have HWR := hid hwr
  clear hwr f1 f2
  go_wp2_with fail
  refine HWR.out.mono ?_
  rintro e w3 ⟨rfl, hdev, k3⟩
  have f3 : Fresh w w3 := f12.trans' k3 (fun i hi h => by have h : w.heap.size ≤ i := h; omega)
  have hP : Pends ((DataW.map [] : DD).put (pkey 2) (.lit (.string s))) (onePend s) := Pends.empty.put 2 s
  have hsize := onePend_size s
  have hkeys := onePend_keys s
  have hlist := onePend_list s
  obtain ⟨D, hD⟩ : ∃ D, (DataW.map [] : DD).put (pkey 2) (.lit (.string s)) = D := ⟨_, rfl⟩
  rw [hD] at hdev hP hsize hkeys hlist
  have hrd := read_pends (fun q => w.heap.size ≤ q) d l D 1 0 2 s (onePend s) w3 hdev hP (by simp [onePend]) (by omega) (by rw [HLEN.out]; omega) (by rw [HLEN.out]; omega)
  have hpd := fun W hW => pending_any (fun q => w.heap.size ≤ q) d l D 1 false 0 (onePend s) W hW hP (by omega) (fun p hp => by rw [hkeys] at hp; simp at hp; omega)
  rw [hlist] at hpd
  have hpg := fun W hW => pages_any (fun q => w.heap.size ≤ q) d l D 1 false 0 W hW (by rw [HLEN.out]; omega)
  have hsz := fun W hW => size_any (fun q => w.heap.size ≤ q) d l D 1 false 0 W hW
  have hde := fun W hW => dead_any (fun q => w.heap.size ≤ q) d l D 1 false 0 W hW
  rw [HLEN.out] at hsz
  have HRD := hid hrd
  have HPD := hid hpd
  have HPG := hid hpg
  have HSZ := hid hsz
  have HDE := hid hde
  clear hrd hpd hpg hsz hde hP hsize hkeys hlist hD k3 f12 HWR
  go_wp2_with fail
  refine HRD.out.mono ?_
  rintro e w4 ⟨rfl, fa⟩
  have hdev := hdev.fresh fa
  have fr := f3.trans fa
  go_wp2_with fail
  refine (HPD.out _ hdev).mono ?_
  rintro e w5 ⟨v5, rfl, hv5, fb⟩
  have hdev := hdev.fresh fb
  have fr := fr.trans fb
  obtain ⟨ao5, cp5, rfl, hc5⟩ := hv5
  obtain ⟨b5, rfl, hb5, x0, x1⟩ := hc5 0 (2, s) rfl
  simp only at x0 x1
  go_wp2_with fail
  refine (HPG.out _ hdev).mono ?_
  rintro e w6 ⟨v6, rfl, hv6, fc⟩
  have hdev := hdev.fresh fc
  have fr := fr.trans fc
  obtain ⟨ao6, cp6, rfl, hc6⟩ := hv6
  obtain ⟨b6, o6, rfl, hb6, y0⟩ := hc6 2 nought256 HP2.out
  rw [HLEN.out]
  have x0 := (fc.cell (p := ⟨b5, 2 * 0, none⟩) hb5 (fun h => h)).trans x0
  have x1 := (fc.cell (p := ⟨b5, 2 * 0 + 1, none⟩) hb5 (fun h => h)).trans x1
  simp at x0 x1
  have hb56 : b5 < w6.heap.size := Nat.lt_of_lt_of_le hb5 fc.size
  clear fa fb fc hc5 hc6
  go_wp2_with fail
  obtain ⟨MB, hmk, hcv⟩ : ∃ MB, (∀ W, (Instr.makeSlice 63 (.int .i64 256) (.int .i64 256)).run Try.prog W = .ok (.slice (some ⟨W.heap.size, 0, none⟩) 256 256) (W.alloc (.cells MB 5))) ∧ ∀ W : World, (convert 63 9 (.slice (some ⟨W.heap.size, 0, none⟩) 256 256)).run Try.prog (W.alloc (.cells MB 5)) = .ok (.string (str nought256)) (W.alloc (.cells MB 5)) := by
    refine ⟨madeCells #[.int .u8 0] 256, fun W => ?_, fun W => ?_⟩
    · have := run_make W 63 5 j0 (.int .u8 0) Try.underlying63 hj hy0 .i64 .i64 256 256 (by omega) (by omega) (by rw [hy2]; omega) (by omega)
      rw [hy1] at this
      exact this
    · have hb := heap_alloc_new W (.cells (madeCells #[.int .u8 0] 256) 5)
      have := run_convert_bytes_back (W.alloc (.cells (madeCells #[.int .u8 0] 256) 5)) 63 9 5 ⟨W.heap.size, 0, none⟩ 256 nought256 Try.underlying63 Try.underlying5 Try.underlying9 (fun j hj => by
        rw [addr_add0, cell_at hb, ← Array.getElem?_toList, made_list]
        have hj : j < 256 := by rw [← nought256_len]; exact hj
        rw [List.getElem?_replicate, if_pos hj]
        rw [nought_get]; rfl)
      rw [nought256_len] at this
      exact this
  have X0 := hid (show w6.drew.cell? ⟨b5, 0, none⟩ = _ from x0)
  have X1 := hid (show w6.drew.cell? ⟨b5, 1, none⟩ = _ from x1)
  have Y0 := hid (show w6.drew.cell? ⟨b6, o6 + 2, none⟩ = _ from y0)
  have x0 := X0.out
  have x1 := X1.out
  have y0 := Y0.out
  have hdev0 := hdev.fresh ((Keeps.refl (fun _ => False) w6).drew)
  have hb56 : b5 < w6.drew.heap.size := hb56
  have hb6 : b6 < w6.drew.heap.size := hb6
  have HKEEP : Hid (∀ W, Fresh w6.drew W → (Fresh w6.drew W ∧ Dev (fun q => w.heap.size ≤ q) W d l D 1 false 0 ∧ W.cell? ⟨b5, 0, none⟩ = some (.int .i64 2) ∧ W.cell? ⟨b5, 1, none⟩ = some (.string (str s)) ∧ W.cell? ⟨b6, o6 + 2, none⟩ = some (.string (str nought256)))) := hid (fun W f => ⟨f, hdev0.fresh f, (f.cell (p := ⟨b5, 0, none⟩) hb56 (fun h => h)).trans X0.out, (f.cell (p := ⟨b5, 1, none⟩) hb56 (fun h => h)).trans X1.out, (f.cell (p := ⟨b6, o6 + 2, none⟩) hb6 (fun h => h)).trans Y0.out⟩)
  have fr0 : Fresh w6.drew w6.drew := Keeps.refl _ _
  clear x0 x1 y0 hdev
  go_region_held_law (fun W => Fresh w6.drew W ∧ Dev (fun q => w.heap.size ≤ q) W d l D 1 false 0 ∧ W.cell? ⟨b5, 0, none⟩ = some (.int .i64 2) ∧ W.cell? ⟨b5, 1, none⟩ = some (.string (str s)) ∧ W.cell? ⟨b6, o6 + 2, none⟩ = some (.string (str nought256))) (first | exact HKEEP.out _ (by first | assumption | (go_split_ands; first | assumption | (refine Keeps.alloc ?_ _; assumption)))) (first
    | (go_simp; go_at_call 10; refine (HPAGE.out _).mono ?_; rintro e w7 ⟨rfl, fa⟩; have frx : Fresh w6.drew w7 := Keeps.trans (by (go_split_ands; assumption)) fa; dsimp only)
    | (go_simp; go_at_call 13; refine (HSZ.out _ (by (go_split_ands; assumption))).mono ?_; rintro e w7 ⟨rfl, fa⟩; have frx : Fresh w6.drew w7 := Keeps.trans (by (go_split_ands; assumption)) fa; dsimp only)
    | (go_simp; go_at_call 14; refine (HDE.out _ (by (go_split_ands; assumption))).mono ?_; rintro e w7 ⟨rfl, fa⟩; have frx : Fresh w6.drew w7 := Keeps.trans (by (go_split_ands; assumption)) fa; dsimp only))
  all_goals
    go_wp2
    go_ret
    exact ⟨by simp, (fr.trans ((Keeps.refl _ _).drew)).trans (by (go_split_ands; assumption))⟩
end Go.Proofs.Ytbhienlalpbflaa
