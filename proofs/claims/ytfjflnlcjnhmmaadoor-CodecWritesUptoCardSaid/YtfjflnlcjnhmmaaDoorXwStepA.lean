/-
  One step of the two writers: Byte, Num, Text, Raw, nothing.
-/
import Derived.Test.YtfjflnlcjnhmmaaDoorXwRun
import Derived.BigQuiet
namespace Go.Proofs.YtfjflnlcjnhmmaaDoor
open Go.RowKit

set_option maxRecDepth 100000 in
set_option maxHeartbeats 1000000 in
theorem step0_any (S : Nat → Prop) (a c : Nat) (A X : List UInt8 × Int) (v0 v1 v3 v4 v5 v6 v7 : Value) (k : Int) (w : World) (hw : WRep S w a A) (hx : XRep w c X) (hS : ¬ S c) (hl : Laid w) (hal : Alike A X)
    (hk : k < 1 ∨ 7 < k) :
    Calls Tryd.prog 17 #[.agg #[.pointer (some ⟨a, 0, none⟩), .pointer (some ⟨c, 0, none⟩)], .agg #[v0, v1, .int .i64 k, v3, v4, v5, v6, v7]] w
      fun e w' => e = .returned (.bool true) ∧ Stepped S a c w w' (A) (X) := by
  have hk1 : (k == 1) = false := by simp; omega
  have hk2 : (k == 2) = false := by simp; omega
  have hk3 : (k == 3) = false := by simp; omega
  have hk4 : (k == 4) = false := by simp; omega
  have hk5 : (k == 5) = false := by simp; omega
  have hk6 : (k == 6) = false := by simp; omega
  have hk7 : (k == 7) = false := by simp; omega
  have R := Run.start hw hx hS hl #[v0, v1, .int .i64 k, v3, v4, v5, v6, v7]
  have HAL := hid hal
  clear hk
  clear hw hx hS hl hal
  go_enter Tryd.func17, Tryd.ntmps17
  go_wp2
  go_ret
  exact ⟨rfl, R.stepped⟩

set_option maxRecDepth 100000 in
set_option maxHeartbeats 1000000 in
theorem step1_any (S : Nat → Prop) (a c : Nat) (A X : List UInt8 × Int) (v0 v1 v4 v5 v6 v7 : Value) (n : Int) (w : World) (hw : WRep S w a A) (hx : XRep w c X) (hS : ¬ S c) (hl : Laid w) (hal : Alike A X)
    (hA : A.1.length < 70368744177664) (hX : X.1.length < 70368744177664) :
    Calls Tryd.prog 17 #[.agg #[.pointer (some ⟨a, 0, none⟩), .pointer (some ⟨c, 0, none⟩)], .agg #[v0, v1, .int .i64 1, .int .i64 n, v4, v5, v6, v7]] w
      fun e w' => e = .returned (.bool true) ∧ Stepped S a c w w' (wByte A n) (wByte X n) := by
  have R := Run.start hw hx hS hl #[v0, v1, .int .i64 1, .int .i64 n, v4, v5, v6, v7]
  have HAL := hid hal
  clear hw hx hS hl hal
  go_enter Tryd.func17, Tryd.ntmps17
  go_wp2_with fail
  refine (wbyte_any _ a A n _ R.wr hA).mono ?_
  rintro e w1 ⟨rfl, S1, hg1, hk1, hr1⟩
  replace R := R.pstep hg1 hk1 hr1
  obtain ⟨p0, p1⟩ := R.box1s
  obtain ⟨q1, q2, q3, q4, q5, q6, q7⟩ := R.box2s
  go_wp2_with fail
  refine (xbyte_any c X n _ R.xr hX).mono ?_
  rintro e w2 ⟨rfl, hk2, hr2⟩
  replace R := R.xstep hk2 hr2
  obtain ⟨p0, p1⟩ := R.box1s
  obtain ⟨q1, q2, q3, q4, q5, q6, q7⟩ := R.box2s
  have hd := (HAL.out.byte n).done
  go_wp2_with fail
  refine (wdone2_any _ a _ _ R.laid R.wr).mono ?_
  rw [hd]
  rintro e w8 ⟨rfl, hf8⟩
  replace R := R.fresh hf8
  obtain ⟨p0, p1⟩ := R.box1s
  go_wp2_with fail
  refine (xdone_any c _ _ R.xr).mono ?_
  rintro e w9 ⟨rfl, hf9⟩
  replace R := R.fresh hf9
  clear hd
  go_wp2
  go_ret
  exact ⟨rfl, R.stepped⟩

set_option maxRecDepth 100000 in
set_option maxHeartbeats 1000000 in
theorem step2_any (S : Nat → Prop) (a c : Nat) (A X : List UInt8 × Int) (v0 v1 v4 v5 v6 v7 : Value) (n : Int) (w : World) (hw : WRep S w a A) (hx : XRep w c X) (hS : ¬ S c) (hl : Laid w) (hal : Alike A X)
    (hA : A.1.length < 70368744177664) (hX : X.1.length < 70368744177664) :
    Calls Tryd.prog 17 #[.agg #[.pointer (some ⟨a, 0, none⟩), .pointer (some ⟨c, 0, none⟩)], .agg #[v0, v1, .int .i64 2, .int .i64 n, v4, v5, v6, v7]] w
      fun e w' => e = .returned (.bool true) ∧ Stepped S a c w w' (wNum A n) (wNum X n) := by
  have R := Run.start hw hx hS hl #[v0, v1, .int .i64 2, .int .i64 n, v4, v5, v6, v7]
  have HAL := hid hal
  clear hw hx hS hl hal
  go_enter Tryd.func17, Tryd.ntmps17
  go_wp2_with fail
  refine (wnum_any _ a A n _ R.wr hA).mono ?_
  rintro e w1 ⟨rfl, S1, hg1, hk1, hr1⟩
  replace R := R.pstep hg1 hk1 hr1
  obtain ⟨p0, p1⟩ := R.box1s
  obtain ⟨q1, q2, q3, q4, q5, q6, q7⟩ := R.box2s
  go_wp2_with fail
  refine (xnum_any c X n _ R.xr hX).mono ?_
  rintro e w2 ⟨rfl, hk2, hr2⟩
  replace R := R.xstep hk2 hr2
  obtain ⟨p0, p1⟩ := R.box1s
  obtain ⟨q1, q2, q3, q4, q5, q6, q7⟩ := R.box2s
  have hd := (HAL.out.num n).done
  go_wp2_with fail
  refine (wdone2_any _ a _ _ R.laid R.wr).mono ?_
  rw [hd]
  rintro e w8 ⟨rfl, hf8⟩
  replace R := R.fresh hf8
  obtain ⟨p0, p1⟩ := R.box1s
  go_wp2_with fail
  refine (xdone_any c _ _ R.xr).mono ?_
  rintro e w9 ⟨rfl, hf9⟩
  replace R := R.fresh hf9
  clear hd
  go_wp2
  go_ret
  exact ⟨rfl, R.stepped⟩

set_option maxRecDepth 100000 in
set_option maxHeartbeats 1000000 in
theorem step4_any (S : Nat → Prop) (a c : Nat) (A X : List UInt8 × Int) (v0 v1 v4 v6 v7 : Value) (n : Int) (s : List UInt8) (w : World) (hw : WRep S w a A) (hx : XRep w c X) (hS : ¬ S c) (hl : Laid w) (hal : Alike A X)
    (hA : A.1.length + s.length + 10 < 70368744177664) (hX : X.1.length + s.length + 10 < 70368744177664) :
    Calls Tryd.prog 17 #[.agg #[.pointer (some ⟨a, 0, none⟩), .pointer (some ⟨c, 0, none⟩)], .agg #[v0, v1, .int .i64 4, .int .i64 n, v4, .string (str s), v6, v7]] w
      fun e w' => e = .returned (.bool true) ∧ Stepped S a c w w' (wText A s n) (wText X s n) := by
  have R := Run.start hw hx hS hl #[v0, v1, .int .i64 4, .int .i64 n, v4, .string (str s), v6, v7]
  have HAL := hid hal
  clear hw hx hS hl hal
  go_enter Tryd.func17, Tryd.ntmps17
  go_wp2_with fail
  refine (wtext_any _ a A (str s) n _ R.wr (by rw [str_size]; exact hA)).mono ?_
  rw [str_data]
  rintro e w1 ⟨rfl, S1, hg1, hk1, hr1⟩
  replace R := R.pstep hg1 hk1 hr1
  obtain ⟨p0, p1⟩ := R.box1s
  obtain ⟨q1, q2, q3, q4, q5, q6, q7⟩ := R.box2s
  go_wp2_with fail
  refine (xtext_any c X s n _ R.xr (by omega) hX).mono ?_
  rintro e w2 ⟨rfl, hk2, hr2⟩
  replace R := R.xstep hk2 hr2
  obtain ⟨p0, p1⟩ := R.box1s
  obtain ⟨q1, q2, q3, q4, q5, q6, q7⟩ := R.box2s
  have hd := (HAL.out.text s n).done
  go_wp2_with fail
  refine (wdone2_any _ a _ _ R.laid R.wr).mono ?_
  rw [hd]
  rintro e w8 ⟨rfl, hf8⟩
  replace R := R.fresh hf8
  obtain ⟨p0, p1⟩ := R.box1s
  go_wp2_with fail
  refine (xdone_any c _ _ R.xr).mono ?_
  rintro e w9 ⟨rfl, hf9⟩
  replace R := R.fresh hf9
  clear hd
  go_wp2
  go_ret
  exact ⟨rfl, R.stepped⟩

set_option maxRecDepth 100000 in
set_option maxHeartbeats 1000000 in
theorem step7_any (S : Nat → Prop) (a c : Nat) (A X : List UInt8 × Int) (v0 v1 v3 v4 v6 v7 : Value) (s : List UInt8) (w : World) (hw : WRep S w a A) (hx : XRep w c X) (hS : ¬ S c) (hl : Laid w) (hal : Alike A X)
    (hA : A.1.length + s.length ≤ 70368744177664) (hX : X.1.length + s.length ≤ 70368744177664) :
    Calls Tryd.prog 17 #[.agg #[.pointer (some ⟨a, 0, none⟩), .pointer (some ⟨c, 0, none⟩)], .agg #[v0, v1, .int .i64 7, v3, v4, .string (str s), v6, v7]] w
      fun e w' => e = .returned (.bool true) ∧ Stepped S a c w w' (wRaw A s) (wRaw X s) := by
  have R := Run.start hw hx hS hl #[v0, v1, .int .i64 7, v3, v4, .string (str s), v6, v7]
  have HAL := hid hal
  clear hw hx hS hl hal
  go_enter Tryd.func17, Tryd.ntmps17
  go_wp2_with fail
  refine (wraw_any _ a A (str s) _ R.wr (by rw [str_size]; exact hA)).mono ?_
  rw [str_data]
  rintro e w1 ⟨rfl, S1, hg1, hk1, hr1⟩
  replace R := R.pstep hg1 hk1 hr1
  obtain ⟨p0, p1⟩ := R.box1s
  obtain ⟨q1, q2, q3, q4, q5, q6, q7⟩ := R.box2s
  go_wp2_with fail
  refine (xraw_any c X s _ R.xr hX).mono ?_
  rintro e w2 ⟨rfl, hk2, hr2⟩
  replace R := R.xstep hk2 hr2
  obtain ⟨p0, p1⟩ := R.box1s
  obtain ⟨q1, q2, q3, q4, q5, q6, q7⟩ := R.box2s
  have hd := (HAL.out.raw s).done
  go_wp2_with fail
  refine (wdone2_any _ a _ _ R.laid R.wr).mono ?_
  rw [hd]
  rintro e w8 ⟨rfl, hf8⟩
  replace R := R.fresh hf8
  obtain ⟨p0, p1⟩ := R.box1s
  go_wp2_with fail
  refine (xdone_any c _ _ R.xr).mono ?_
  rintro e w9 ⟨rfl, hf9⟩
  replace R := R.fresh hf9
  clear hd
  go_wp2
  go_ret
  exact ⟨rfl, R.stepped⟩

end Go.Proofs.YtfjflnlcjnhmmaaDoor
