/-
  Frame and Unframe, of package codec.
-/
import Derived.Test.YtpccaodkgboefaaGreatDoorMCxE
import Derived.Test.YtpccaodkgboefaaGreatDoorMCxL
namespace Go.Proofs.YtpccaodkgboefaaGreatDoor
open Go.RowKit


/-- a payload with its length ahead -/
def framed (s : List UInt8) : List UInt8 × Int := if 1048576 < s.length then ([], 22) else (digs s.length ++ s, 0)

/-- the payload of a frame, and what stands behind it -/
def unframed (s : List UInt8) : List UInt8 × List UInt8 × Int :=
  match pText 1048576 s with
  | .error e => ([], [], e)
  | .ok (t, l) => (t, l, 0)

theorem Fresh.trans {a b c : World} (h : Fresh a b) (k : Fresh b c) : Fresh a c := Keeps.trans h k

set_option maxRecDepth 100000 in
set_option maxHeartbeats 1000000 in
theorem frame_any (s : List UInt8) (w : World) (hs : s.length ≤ 9223372036854775807) :
    Calls Tryz.prog 70 #[.string (str s)] w fun e w' => e = .returned (.tuple #[.string (str (framed s).1), .int .i64 (framed s).2]) ∧ Fresh w w' := by
  have hsz := str_size s
  by_cases hbig : 1048576 < s.length
  · have HF : Hid (framed s = ([], 22)) := by simp [Hid, framed, hbig]
    go_enter Tryz.func70, Tryz.ntmps70
    go_wp2
    rw [HF.out]
    go_ret2
    exact ⟨rfl, Keeps.refl _ _⟩
  · have HF : Hid (framed s = (digs s.length ++ s, 0)) := by simp [Hid, framed, hbig]
    have hcat := str_append
    have hdl := digs_len10 (n := s.length) (by omega)
    go_enter Tryz.func70, Tryz.ntmps70
    go_wp2_with fail
    refine (digits_u64 _ 0 [] s.length w (by omega) (by omega) (World.ownsRow_nil _ _ _ _)).mono ?_
    rintro e w1 ⟨v, rfl, ha⟩
    have hrow : w1.ownsRow 0 5 1 v (digs s.length).length (u8s (digs s.length)) := by simpa using ha.row
    have hf : Fresh w w1 := ha.keeps.mono fun _ _ h => (by cases h)
    obtain ⟨ao, cp, rfl⟩ := ownsRow_slice hrow
    have hcv : (convert 96 9 (.slice ao (digs s.length).length cp)).run Tryz.prog w1 = .ok (.string (str (digs s.length))) w1 := run_text_of_row 96 9 Tryz.underlying96 Tryz.underlying5 Tryz.underlying9 hrow
    have hsz2 := str_size (digs s.length)
    clear ha hrow
    generalize digs s.length = d at *
    go_wp2
    rw [HF.out]
    go_ret2
    exact ⟨rfl, hf⟩

theorem pTextM_pos {n : Int} (h : 0 ≤ n) : pTextM n = pText n := by funext l; simp [pTextM]; omega

set_option maxRecDepth 100000 in
set_option maxHeartbeats 1000000 in
theorem unframe_any (s : List UInt8) (w : World) (hl : Laid w) (hs : s.length ≤ 9223372036854775807) :
    Calls Tryz.prog 85 #[.string (str s)] w fun e w' => e = .returned (.tuple #[.string (str (unframed s).1), .string (str (unframed s).2.1), .int .i64 (unframed s).2.2]) ∧ Fresh w w' := by
  have hU : Hid (unframed s = match pText 1048576 s with | .error e => ([], [], e) | .ok (t, l) => (t, l, 0)) := rfl
  go_enter Tryz.func85, Tryz.ntmps85
  go_wp2_with fail
  refine (newReader_any (str s) w hl (by rw [str_size]; exact hs)).mono ?_
  rintro e w1 ⟨b, rfl, hf1, hb, hr1⟩
  rw [str_data] at hr1
  go_wp2_with fail
  refine (rtxt_any _ b _ 1048576 w1 hr1).mono ?_
  rintro e w2 ⟨rfl, S2, hg2, hk2, hr2⟩
  have hf2 : Fresh w w2 := hf1.trans' hk2 fun i hi h => by omega
  have hl2 := hl.keeps hf2 (fun h => h)
  have hrd : rd (pTextM 1048576) [] (s, 0, 0) = match pText 1048576 s with | .error e => ([], (s, 0, e)) | .ok (t, l) => (t, (l, 0 + (s.length - l.length), 0)) := by
    rw [pTextM_pos (by omega)]; unfold rd; rw [if_neg (by simp)]; cases pText 1048576 s <;> rfl
  cases hp : pText 1048576 s with
  | error f =>
    have hU2 := hU.out
    rw [hp] at hrd hU2
    simp only at hrd hU2
    rw [hrd] at hr2
    have hf0 : f ≠ 0 := pText_error hp
    have HU := hid hU2
    have HR := hid hrd
    clear hU hp hU2 hrd
    obtain ⟨ev, c0, c1, c2, _, _, _, hbl, he, _⟩ := hr2.cells
    obtain ⟨k, ck⟩ := hr2.err hf0
    have hev : ev = .iface 133 (.pointer (some ⟨k, 0, none⟩)) := by rw [c2] at ck; exact Option.some.inj ck
    subst hev
    rw [HR.out]
    go_wp2_with fail
    refine (told_any S2 _ f w2 hl2 he).mono ?_
    rintro e w3 ⟨rfl, hf3⟩
    go_wp2
    rw [HU.out]
    go_ret3
    exact ⟨rfl, hf2.trans hf3⟩
  | ok x =>
    obtain ⟨t, l⟩ := x
    have hU2 := hU.out
    rw [hp] at hrd hU2
    simp only at hrd hU2
    rw [hrd] at hr2
    have HU := hid hU2
    have HR := hid hrd
    clear hU hp hU2 hrd
    obtain ⟨ev, c0, c1, c2, _, _, _, hbl, he, _⟩ := hr2.cells
    have c2' := hr2.fine rfl
    clear he c2
    rw [HR.out]
    go_wp2
    go_quiet (fail)
    go_wp2
    rw [HU.out]
    go_ret3
    exact ⟨rfl, hf2.drewN _⟩
end Go.Proofs.YtpccaodkgboefaaGreatDoor
