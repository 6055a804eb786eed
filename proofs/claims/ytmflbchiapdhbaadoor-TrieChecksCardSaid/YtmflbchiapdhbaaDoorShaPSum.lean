/-
  The program's digest of some texts, one behind the other.
-/
import Derived.Test.YtmflbchiapdhbaaDoorShaHSum
namespace Go.Proofs.YtmflbchiapdhbaaDoor
open Go.RowKit

/-- a list of texts in memory -/
def TextsAt (w : World) (v : Value) (l : List (List UInt8)) : Prop :=
  ∃ ao cap, v = .slice ao l.length cap ∧ ∀ (k : Nat) (s : List UInt8), l[k]? = some s → ∃ bb off, ao = some ⟨bb, off, none⟩ ∧ bb < w.heap.size ∧ w.cell? ⟨bb, off + k, none⟩ = some (.string (str s))
theorem take_more {α : Type} {l : List (List α)} {k : Nat} {s : List α} (h : l[k]? = some s) : (l.take (k + 1)).flatten = (l.take k).flatten ++ s := by
  rw [List.take_add_one, h]
  simp
theorem flat_le {α : Type} (l : List (List α)) (k : Nat) : (l.take k).flatten.length ≤ l.flatten.length := by
  have h : l.flatten = (l.take k).flatten ++ (l.drop k).flatten := by rw [← List.flatten_append, List.take_append_drop]
  rw [h, List.length_append]
  omega

set_option maxRecDepth 100000 in
set_option maxHeartbeats 1000000 in
theorem psum_any (v : Value) (l : List (List UInt8)) (w : World) (hl : TextsAt w v l) (hT : TabLaid w) (hF : FirstLaid w) (hng : 3 ≤ w.heap.size) (hn : l.length ≤ 9223372036854775807) (hb : l.flatten.length ≤ 70368744177000) :
    Calls Tryd.prog 15 #[v] w fun e w' => e = .returned (.string (str (sha l.flatten))) ∧ Fresh w w' := by
  obtain ⟨ao, cap, rfl, hc⟩ := hl
  have HC := hid hc
  clear hc
  go_enter Tryd.func15, Tryd.ntmps15
  go_wp2_with fail
  refine (pnew_any w hF).mono ?_
  rintro e w1 ⟨rfl, f1, hg1⟩
  go_wp2
  go_loopw [9] (fun i wr => ∃ (k : Nat) (v : Eight) (rest : List UInt8), i = .int .i64 (k : Int) ∧ k ≤ l.length ∧ Hashed ((l.take k).flatten) v rest ∧ v.ok ∧
    wr.heap[w.heap.size]? = some (.cells (hcells v rest ((l.take k).flatten.length : Int)) 102 (0, 0)) ∧ Fresh w wr) (fun i _ => l.length - (intOf i).toNat)
  case atStart => exact ⟨0, eight0, rest0, rfl, by omega, Hashed.start rest0 (by simp [rest0]), eight0_ok, by simpa using hg1, f1⟩
  case round =>
    clear hg1 f1
    obtain ⟨k, v, rest, rfl, hk, hH, hv, hg, hf⟩ := hrel
    by_cases hlt : k < l.length
    · obtain ⟨s, hs⟩ : ∃ s, l[k]? = some s := ⟨l[k], by simp [hlt]⟩
      obtain ⟨bb, off, hao, hbb, hcw⟩ := HC.out k s hs
      have hcell := (hf.cell (p := ⟨bb, off + k, none⟩) hbb (fun h => h)).trans hcw
      have hm := take_more hs
      have hle := flat_le l (k + 1)
      have hlen : (l.take k).flatten.length + s.length ≤ 70368744177664 := by rw [hm, List.length_append] at hle; omega
      have hTr := hT.keeps hf (fun h => h)
      have HM := hid hm
      subst hao
      clear hs hcw hm hle
      go_wp2_with fail
      refine (write_any _ v rest s w.heap.size wr hTr hng hH hv hlen hg).mono ?_
      rintro e w2 ⟨rfl, hk2, v2, rest2, hH2, hv2, hg2⟩
      rw [← HM.out] at hH2 hg2
      clear hcell
      go_wp2
      go_roundw
      case rel => exact ⟨k + 1, v2, rest2, by go_num, by omega, hH2, hv2, hg2, hf.trans' hk2 fun i hi h => by omega⟩
      case measure => simp [intOf]; omega
    · have hke : k = l.length := by omega
      rw [hke, List.take_length] at hH hg
      have hTr := hT.keeps hf (fun h => h)
      clear hke
      go_wp2_with fail
      refine (hsum_any _ v rest w.heap.size wr hTr hng hH hv hb hg).mono ?_
      rintro e w2 ⟨rfl, hf2⟩
      go_wp2
      go_ret
      exact ⟨rfl, hf.trans hf2⟩
end Go.Proofs.YtmflbchiapdhbaaDoor
