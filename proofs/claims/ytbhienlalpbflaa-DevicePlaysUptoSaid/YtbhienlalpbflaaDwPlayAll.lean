/-
  The law's step, any. Printed by gen_dwlaw.py.
-/
import Derived.Test.YtbhienlalpbflaaMDwP
import Derived.Test.YtbhienlalpbflaaMDwQ
import Derived.Test.YtbhienlalpbflaaDwPlayI
import Derived.Test.YtbhienlalpbflaaDwPlayJ
import Derived.Test.YtbhienlalpbflaaDwPlayK
namespace Go.Proofs.Ytbhienlalpbflaa
open Go.RowKit Go.Maps

set_option maxRecDepth 100000 in
set_option maxHeartbeats 4000000 in
theorem play_make (B ob n N : Nat) (w : World) (k on m : Int) (s : List UInt8) (ko : Option Addr) (kn kc : Nat)
    (hmk : ∀ W, Fresh w W → Calls Try.prog 35 #[.pointer (some ⟨ob, 0, none⟩), opV k on m s (.slice ko kn kc)] W fun e w' => e = .returned (.tuple #[.bool true, .bool true]) ∧ Aft B w' ob n N ∧ Keeps (fun q => B ≤ q) W w') :
    Calls Try.prog 18 #[.pointer (some ⟨ob, 0, none⟩), opV k on m s (.slice ko kn kc)] w fun e w' => e = .returned (.bool true) ∧ Aft B w' ob (n + 1) (N + 2) ∧ Keeps (fun q => B ≤ q) w w' := by
  have HMK := hid hmk
  have f1 : Fresh w (w.alloc (.cells #[.int .i64 k, .int .i64 on, .int .i64 m, .string (str s), .slice ko kn kc] 51)) := (Keeps.refl _ _).alloc _
  have HF1 := hid f1
  clear hmk f1
  unfold opV at *
  go_enter Try.func18, Try.ntmps18
  go_wp2_with fail
  refine (HMK.out _ HF1.out).mono ?_
  rintro e w2 ⟨rfl, ha, k2⟩
  have HA := hid (And.intro (ha.more (Nat.le_succ n) (show N ≤ N + 2 by omega)) ((HF1.out.mono fun _ _ h => h.elim).trans k2))
  clear ha k2 HMK HF1
  go_wp2_with fail
  go_ret
  exact ⟨by first | rfl | simp, HA.out.1, HA.out.2⟩

theorem play_any (B ob n N : Nat) (w : World) (h : Aft B w ob n N) (k on m : Int) (s : List UInt8) (ko : Option Addr) (kc : Nat) (ks : List (Int × Int)) (hp : PlayIn B n N w on m s ko kc ks) :
    Calls Try.prog 18 #[.pointer (some ⟨ob, 0, none⟩), opV k on m s (.slice ko ks.length kc)] w fun e w' => e = .returned (.bool true) ∧ Aft B w' ob (n + 1) (N + 2) ∧ Keeps (fun q => B ≤ q) w w' := by
  obtain ⟨c, v, f, h⟩ := h
  by_cases o1 : k = 1
  · subst o1; exact play_read B ob n N c w v f h on m s ko kc ks hp
  by_cases o2 : k = 2
  · subst o2; exact play_write B ob n N c w v f h on m s ko kc ks hp
  by_cases o3 : k = 3
  · subst o3; exact play_page B ob n N c w v f h on m s ko kc ks hp
  by_cases o4 : k = 4
  · subst o4; exact play_flush B ob n N c w v f h on m s ko kc ks hp
  by_cases o5 : k = 5
  · subst o5; exact play_arm B ob n N c w v f h on m s ko kc ks hp
  by_cases o6 : k = 6
  · subst o6; exact play_pending B ob n N c w v f h on m s ko kc ks hp
  by_cases o7 : k = 7
  · subst o7; exact play_pages B ob n N c w v f h on m s ko kc ks hp
  by_cases o8 : k = 8
  · subst o8; exact play_crash B ob n N c w v f h on m s ko kc ks hp
  by_cases o9 : k = 9
  · subst o9; exact play_keeps B ob n N c w v f h on m s ko kc ks hp
  by_cases o10 : k = 10
  · subst o10; exact play_reload B ob n N c w v f h on m s ko kc ks hp
  by_cases o12 : k = 12
  · subst o12; exact play_make B ob n N w 12 on m s ko ks.length kc fun W g => makes_new B ob n N c W v f (h.fresh g) on m s ko ks.length kc
  by_cases o11 : k = 11
  · subst o11; exact play_make B ob n N w 11 on m s ko ks.length kc fun W g => makes_load B ob n N c W v f (h.fresh g) on m s ko ks.length kc hp.hon hp.hon2 hp.hm hp.hm2 hp.hs
  exact play_other B ob n N c w v f h k on m s ko kc ks hp o1 o2 o3 o4 o5 o6 o7 o8 o9 o10 o12 o11
end Go.Proofs.Ytbhienlalpbflaa
