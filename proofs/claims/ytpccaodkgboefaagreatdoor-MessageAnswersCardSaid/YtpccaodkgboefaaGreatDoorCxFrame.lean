/-
  Frame and Unframe, of package codec and of the reference.
-/
import Derived.Test.YtpccaodkgboefaaGreatDoorMCxE
import Derived.Test.YtpccaodkgboefaaGreatDoorCxFrameP
import Derived.Test.YtpccaodkgboefaaGreatDoorMCxL
namespace Go.Proofs.YtpccaodkgboefaaGreatDoor
open Go.RowKit
set_option maxRecDepth 100000 in
set_option maxHeartbeats 1000000 in
theorem refframe_any (s : List UInt8) (w : World) (hs : s.length ≤ 9223372036854775807) :
    Calls Tryz.prog 38 #[.string (str s)] w fun e w' => e = .returned (.tuple #[.string (str (framed s).1), .int .i64 (framed s).2]) ∧ Fresh w w' := by
  have hsz := str_size s
  by_cases hbig : 1048576 < s.length
  · have HF : Hid (framed s = ([], 22)) := by simp [Hid, framed, hbig]
    go_enter Tryz.func38, Tryz.ntmps38
    go_wp2
    rw [HF.out]
    go_ret2
    exact ⟨rfl, Keeps.refl _ _⟩
  · have HF : Hid (framed s = (digs s.length ++ s, 0)) := by simp [Hid, framed, hbig]
    have hcat := str_append
    have hdl := digs_len10 (n := s.length) (by omega)
    go_enter Tryz.func38, Tryz.ntmps38
    go_wp2_with fail
    refine (refdigits_any s.length w (by omega)).mono ?_
    rintro e w1 ⟨rfl, hf⟩
    have hsz2 := str_size (digs s.length)
    generalize digs s.length = d at *
    go_wp2
    rw [HF.out]
    go_ret2
    exact ⟨rfl, hf⟩

theorem textAt_zero (s : List UInt8) : textAt s 0 1048576 = match pText 1048576 s with | .error e => ([], 0, e) | .ok (t, l) => (t, ((s.length - l.length : Nat) : Int), 0) := rfl

set_option maxRecDepth 100000 in
set_option maxHeartbeats 1000000 in
theorem refunframe_any (s : List UInt8) (w : World) (hs : s.length ≤ 9223372036854775807) :
    Calls Tryz.prog 81 #[.string (str s)] w fun e w' => e = .returned (.tuple #[.string (str (unframed s).1), .string (str (unframed s).2.1), .int .i64 (unframed s).2.2]) ∧ Fresh w w' := by
  have hsz := str_size s
  have hU : Hid (unframed s = match pText 1048576 s with | .error e => ([], [], e) | .ok (t, l) => (t, l, 0)) := rfl
  have hT := hid (textAt_zero s)
  go_enter Tryz.func81, Tryz.ntmps81
  go_wp2_with fail
  refine (reftext_any s 0 1048576 w (by omega) hs).mono ?_
  rintro e w1 ⟨rfl, rfl⟩
  cases hp : pText 1048576 s with
  | error f =>
    have hU2 := hU.out
    have hT2 := hT.out
    rw [hp] at hU2 hT2
    simp only at hU2 hT2
    have hf0 : (f == 0) = false := by simpa using pText_error hp
    have HU := hid hU2
    clear hU hT hp hU2
    rw [hT2]
    go_wp2
    rw [HU.out]
    go_ret3
    exact ⟨rfl, Keeps.refl _ _⟩
  | ok x =>
    obtain ⟨t, l⟩ := x
    have hU2 := hU.out
    have hT2 := hT.out
    have hd := pText_drop hp
    rw [hp] at hU2 hT2
    simp only at hU2 hT2
    obtain ⟨q, hq⟩ : ∃ q : Nat, q = s.length - l.length := ⟨_, rfl⟩
    rw [← hq] at hT2 hd
    have hqs : q ≤ s.length := by omega
    have hfrom : (str s).extract q s.length = str l := by rw [str_from, ← hd]
    have HU := hid hU2
    clear hU hT hp hU2 hq hd
    rw [hT2]
    go_wp2
    go_quiet (fail)
    go_wp2
    rw [HU.out]
    go_ret3
    exact ⟨rfl, (Keeps.refl _ _).drewN _⟩
end Go.Proofs.YtpccaodkgboefaaGreatDoor
