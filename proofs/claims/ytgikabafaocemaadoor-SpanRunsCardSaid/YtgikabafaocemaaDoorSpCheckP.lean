/-
  The program's span: Check is checkOf.
-/
import Derived.Test.YtgikabafaocemaaDoorSpRootA
namespace Go.Proofs.YtgikabafaocemaaDoor
open Go.RowKit

set_option maxRecDepth 100000 in
set_option maxHeartbeats 2000000 in
theorem pcheck_any (n b e : Int) (vh vl : Value) (H L : List (List UInt8)) (root : List UInt8) (w : World) (hH : TextsAt w vh H) (hL : TextsAt w vl L) (hHn : H.length ≤ 9223372036854775807) (hLn : L.length ≤ 9223372036854775807) (hd : Dig w) (hHB : ∀ wb, w.heap.size ≤ wb → ListBut wb w vh H) (hLB : ∀ wb, w.heap.size ≤ wb → ListBut wb w vl L) :
    Calls Tryd.prog 31 #[runV n b e vh, vl, .string (str root)] w fun x w' => x = .returned (.int .i64 (checkOf n b e H L root)) ∧ Fresh w w' := by
  have f0 : Fresh w (w.alloc (.cells #[.int .i64 n, .int .i64 b, .int .i64 e, vh] 41)) := (Keeps.refl _ _).alloc _
  have hr := proot_any n b e vh vl H L _ (hH.fresh f0) (hL.fresh f0) hHn hLn (hd.fresh f0) (fun wb h => (hHB wb (Nat.le_trans f0.size h)).keeps (f0.mono (fun _ _ h => h.elim))) (fun wb h => (hLB wb (Nat.le_trans f0.size h)).keeps (f0.mono (fun _ _ h => h.elim)))
  have hck : Hid (checkOf n b e H L root = if (rootOf n b e H L).2 ≠ 0 then (rootOf n b e H L).2 else if (rootOf n b e H L).1 = root then 0 else 142) := rfl
  generalize checkOf n b e H L root = ck at hck ⊢
  generalize rootOf n b e H L = R at hr hck
  have HR := hid hr
  clear hr
  obtain ⟨ao, cap, rfl, -⟩ := hH
  obtain ⟨al, cal, rfl, -⟩ := hL
  unfold runV at *
  by_cases h1 : R.2 = 0
  · by_cases h2 : R.1 = root
    · have hc : ck = 0 := by rw [hck.out, if_neg (by simpa using h1), if_pos h2]
      subst hc
      rw [h1, h2] at HR
      clear hck
      go_enter Tryd.func31, Tryd.ntmps31
      go_wp2_with fail
      refine HR.out.mono ?_
      rintro x w1 ⟨rfl, fa⟩
      go_wp2_with fail
      go_ret
      exact ⟨rfl, f0.trans fa⟩
    · have hc : ck = 142 := by rw [hck.out, if_neg (by simpa using h1), if_neg h2]
      subst hc
      rw [h1] at HR
      have hne : ((str R.1).toList == (str root).toList) = false := by rw [str_toList, str_toList]; simp [h2]
      clear hck
      go_enter Tryd.func31, Tryd.ntmps31
      go_wp2_with fail
      refine HR.out.mono ?_
      rintro x w1 ⟨rfl, fa⟩
      go_wp2_with fail
      go_ret
      exact ⟨rfl, f0.trans fa⟩
  · have hc : ck = R.2 := by rw [hck.out, if_pos h1]
    subst hc
    clear hck
    have hne : (R.2 == 0) = false := by simpa using h1
    go_enter Tryd.func31, Tryd.ntmps31
    go_wp2_with fail
    refine HR.out.mono ?_
    rintro x w1 ⟨rfl, fa⟩
    go_wp2_with fail
    go_ret
    exact ⟨rfl, f0.trans fa⟩
end Go.Proofs.YtgikabafaocemaaDoor
