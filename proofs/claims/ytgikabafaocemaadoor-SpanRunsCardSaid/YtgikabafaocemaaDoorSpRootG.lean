/-
  The program's span: Root of what is right in its form.
-/
import Derived.Test.YtgikabafaocemaaDoorSpRoot
namespace Go.Proofs.YtgikabafaocemaaDoor
open Go.RowKit

set_option maxRecDepth 100000 in
set_option maxHeartbeats 4000000 in
theorem proot_good (n b e : Nat) (vh vl : Value) (H L : List (List UInt8)) (w : World) (hbe : b < e) (hen : e ≤ n) (hn : n ≤ 1099511627776) (hH : TextsAt w vh H) (hL : TextsAt w vl L) (hHn : H.length ≤ 9223372036854775807)
    (h1 : ¬ 4096 < L.length) (h2 : (L.length : Int) = (e : Int) - (b : Int)) (h3 : all32P L) (h4 : all32P H) (hd : Dig w) (hHB : ∀ wb, w.heap.size ≤ wb → ListBut wb w vh H) (hLB : ∀ wb, w.heap.size ≤ wb → ListBut wb w vl L) :
    Calls Tryd.prog 25 #[runV n b e vh, vl] w fun x w' => x = .returned (if (toldF 40 b e 0 n).length = H.length then .tuple #[.string (str (walkF 40 b e 0 n H L).1), .int .i64 0] else .tuple #[.string (str []), .int .i64 141]) ∧ Fresh w w' := by
  have hLn : L.length ≤ 9223372036854775807 := by omega
  have HH := hH
  have HL := hL
  obtain ⟨ao, cap, rfl, -⟩ := hH
  obtain ⟨al, cal, rfl, -⟩ := hL
  have f0 : Fresh w (w.alloc (.cells #[.int .i64 (n : Int), .int .i64 (b : Int), .int .i64 (e : Int), .slice ao H.length cap] 41)) := (Keeps.refl _ _).alloc _
  have f1 := f0.alloc (.cells #[.int .i64 (b : Int), .int .i64 (e : Int)] 24)
  have hr0 := ((Keeps.refl (fun _ => False) _).alloc (.cells #[.int .i64 (b : Int), .int .i64 (e : Int)] 24)).at_ (heap_alloc_new w (.cells #[.int .i64 (n : Int), .int .i64 (b : Int), .int .i64 (e : Int), .slice ao H.length cap] 41)) (fun h => h)
  have hb0 := heap_alloc_new (w.alloc (.cells #[.int .i64 (n : Int), .int .i64 (b : Int), .int .i64 (e : Int), .slice ao H.length cap] 41)) (.cells #[.int .i64 (b : Int), .int .i64 (e : Int)] 24)
  rw [World.size_alloc] at hb0
  have hi := isRun_any n b e ((w.alloc (.cells #[.int .i64 (n : Int), .int .i64 (b : Int), .int .i64 (e : Int), .slice ao H.length cap] 41)).alloc (.cells #[.int .i64 (b : Int), .int .i64 (e : Int)] 24))
  rw [decide_eq_true (show (0 ≤ (b : Int) ∧ (b : Int) < e ∧ (e : Int) ≤ n) by omega)] at hi
  have HI := hid hi
  clear hi f0
  unfold runV
  have DL := decide_eq_true h3
  have DH := decide_eq_true h4
  have hrg := fun w => run_good n b e hbe hen hn w
  obtain ⟨T, hT⟩ : ∃ T, toldF 40 b e 0 n = T := ⟨_, rfl⟩
  rw [hT] at hrg ⊢
  have HRG := hid hrg
  clear hrg
  unfold spanV at HRG
  go_enter Tryd.func25, Tryd.ntmps25
  go_wp2_with fail
  refine HI.out.mono ?_
  rintro x w1 ⟨rfl, fa⟩
  have f2 := f1.trans fa
  have hb1 := fa.at_ hb0 (fun h => h)
  have hr1 := fa.at_ hr0 (fun h => h)
  have c0 := cell_at hb1 0
  have c1 := cell_at hb1 1
  have d0 := cell_at hr1 0
  have d3 := cell_at hr1 3
  simp at c0 c1 d0 d3
  clear fa hb0 hr0 f1
  go_wp2_with fail
  refine (all_any _ L w1 (HL.fresh f2) hLn).mono ?_
  rintro x w2 ⟨rfl, fb⟩
  have f3 := f2.trans fb
  rw [DL]
  have hb2 := fb.at_ hb1 (fun h => h)
  have hr2 := fb.at_ hr1 (fun h => h)
  clear c0 c1 d0 d3
  have c0 := cell_at hb2 0
  have c1 := cell_at hb2 1
  have d0 := cell_at hr2 0
  have d3 := cell_at hr2 3
  simp at c0 c1 d0 d3
  go_wp2_with fail
  refine (all_any _ H w2 (HH.fresh f3) hHn).mono ?_
  rintro x w3 ⟨rfl, fc⟩
  rw [DH]
  have f4 := f3.trans fc
  have hb3 := fc.at_ hb2 (fun h => h)
  have hr3 := fc.at_ hr2 (fun h => h)
  clear c0 c1 d0 d3
  have c0 := cell_at hb3 0
  have c1 := cell_at hb3 1
  have d0 := cell_at hr3 0
  have d3 := cell_at hr3 3
  simp at c0 c1 d0 d3
  go_wp2_with fail
  refine (HRG.out w3).mono ?_
  rintro x w4 ⟨vt, rfl, ht, fd⟩
  obtain ⟨at', ct, rfl, hct, -⟩ := ht
  have f5 := f4.trans fd
  have hb4 := fd.at_ hb3 (fun h => h)
  have hr4 := fd.at_ hr3 (fun h => h)
  clear c0 c1 d0 d3
  have c0 := cell_at hb4 0
  have c1 := cell_at hb4 1
  have d0 := cell_at hr4 0
  have d3 := cell_at hr4 3
  simp at c0 c1 d0 d3
  have hsz := f5.size
  have fW := f5.alloc (walkC b e (.slice ao H.length cap) (.slice al L.length cal))
  have hWA : WalkAt (w4.alloc (walkC b e (.slice ao H.length cap) (.slice al L.length cal))) w4.heap.size b e H L :=
    ⟨⟨_, _, heap_alloc_new _ _, (hHB _ hsz).keeps (fW.mono (fun _ _ h => h.elim)), (hLB _ hsz).keeps (fW.mono (fun _ _ h => h.elim))⟩, hd.fresh fW, by have := hd.room; omega⟩
  by_cases hq : T.length = H.length
  · have hph := phash_any b e w4.heap.size hbe 40 0 n H L _ (by omega) (by omega) (by omega) hWA (by rw [hT]; omega) (by unfold inRun; omega) h4 h3
    have HPH := hid hph
    have HQ := hid hq
    clear hph hWA
    have hr5 := ((Keeps.refl (fun _ => False) w4).alloc (walkC b e (.slice ao H.length cap) (.slice al L.length cal))).at_ hr4 (fun h => h)
    unfold walkC at HPH fW hr5
    unfold spanV at HPH
    have q0 := cell_at hr5 0
    rw [show (#[Value.int .i64 (n : Int), .int .i64 (b : Int), .int .i64 (e : Int), .slice ao H.length cap] : Array Value)[0]? = some (.int .i64 (n : Int)) from rfl] at q0
    go_wp2_with fail
    refine HPH.out.mono ?_
    rintro x w6 ⟨rfl, k6, -⟩
    go_wp2_with fail
    go_ret2
    exact ⟨by first | rfl | (rw [if_pos HQ.out]; rfl), fW.trans' k6 (fun q hq h => by omega)⟩
  · have HQ := hid hq
    clear hWA
    go_wp2_with fail
    go_ret2
    exact ⟨by first | rfl | (rw [if_neg HQ.out]; rfl), f5⟩
end Go.Proofs.YtgikabafaocemaaDoor
