/-
  The law CodecFrames: its walk.
-/
import Derived.Test.YtfjflnlcjnhmmaaDoorCxKnown
namespace Go.Proofs.YtfjflnlcjnhmmaaDoor
open Go.RowKit

set_option maxRecDepth 100000 in
set_option maxHeartbeats 2000000 in
theorem codecFrames_walk (p s : List UInt8) (w : World) (hl : Laid w) (hp : p.length ≤ 9223372036854775807) (hs : s.length ≤ 9223372036854775807) :
    Calls Tryd.prog 3 #[.string (str p), .string (str s)] w fun e w' => e = .returned (.bool true) ∧ Fresh w w' := by
  go_enter Tryd.func3, Tryd.ntmps3
  go_wp2_with fail
  refine (known_any w hl).mono ?_
  rintro e w1 ⟨rfl, f1⟩
  go_wp2_with fail
  refine (frame_any p w1 hp).mono ?_
  rintro e w2 ⟨rfl, f2⟩
  go_wp2_with fail
  refine (refframe_any p w2 hp).mono ?_
  rintro e w3 ⟨rfl, f3⟩
  have f13 := (f1.trans f2).trans f3
  have hl3 := hl.keeps f13 (fun h => h)
  go_wp2_with fail
  refine (unframe_any s w3 hl3 (by omega)).mono ?_
  rintro e w4 ⟨rfl, f4⟩
  go_wp2_with fail
  refine (refunframe_any s w4 hs).mono ?_
  rintro e w5 ⟨rfl, f5⟩
  have f15 := (f13.trans f4).trans f5
  generalize framed p = a at *
  generalize unframed s = b at *
  clear f1 f2 f3 f4 f5 f13 hl3
  go_wp2
  go_ret
  exact ⟨rfl, f15⟩
end Go.Proofs.YtfjflnlcjnhmmaaDoor
