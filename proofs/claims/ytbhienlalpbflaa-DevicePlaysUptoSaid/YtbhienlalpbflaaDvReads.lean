/-
  The device: Read of what lasts.
-/
import Derived.Test.YtbhienlalpbflaaDvCrash
namespace Go.Proofs.Ytbhienlalpbflaa
open Go.RowKit Go.Maps

set_option maxRecDepth 100000 in
set_option maxHeartbeats 1000000 in
theorem read_last (B : Nat → Prop) (d : Nat) (l : List (List UInt8)) (D : DD) (n : Nat) (armed : Int) (p : Nat) (s : List UInt8) (f : Int → Option (List UInt8)) (w : World) (h : Dev B w d l D n false armed) (hP : Pends D f) (hf : f (p : Int) = none) (hs : l[p]? = some s) (hll : l.length ≤ 4096) :
    Calls Try.prog 27 #[.pointer (some ⟨d, 0, none⟩), .int .i64 (p : Int)] w fun e w' => e = .returned (.tuple #[.string (str s), .int .i64 0]) ∧ Fresh w w' := by
  have hp : p < l.length := (List.getElem?_eq_some_iff.1 hs).1
  have hask := asked_ok B d l D n armed p w h (by omega) (by omega)
  have HASK := hid hask
  have HD := hid h
  have HS := hid hs
  clear hask h hs
  go_enter Try.func27, Try.ntmps27
  go_wp2_with fail
  refine HASK.out.mono ?_
  rintro e w1 ⟨rfl, fa⟩
  obtain ⟨pv, mb, h1, h2, h3, -⟩ := (HD.out.fresh fa).ex
  obtain ⟨g, cap, rfl, -, hgc, -⟩ := row_here h2.1 hp rfl
  rw [(List.getElem_eq_iff hp).2 HS.out] at hgc
  have c0 := cell_at h1 0
  have c1 := cell_at h1 1
  simp at c0 c1
  have hlook := look_ok_text h3 hP (p : Int) (WalkArith.wf_i64 (by omega))
  rw [hf] at hlook
  simp only [Option.getD_none, Option.isSome_none] at hlook
  have hp0 : (p : Int) < (l.length : Int) := by omega
  clear h1 h2 h3 HASK
  go_wp2_with fail
  go_ret2
  exact ⟨rfl, fa⟩
/-- what is read of a page -/
def readOf (l : List (List UInt8)) (f : Int → Option (List UInt8)) (p : Nat) : List UInt8 := (f (p : Int)).getD ((l[p]?).getD [])
theorem read_any (B : Nat → Prop) (d : Nat) (l : List (List UInt8)) (D : DD) (n : Nat) (armed : Int) (p : Nat) (f : Int → Option (List UInt8)) (w : World) (h : Dev B w d l D n false armed) (hP : Pends D f) (hp : p < l.length) (hll : l.length ≤ 4096) :
    Calls Try.prog 27 #[.pointer (some ⟨d, 0, none⟩), .int .i64 (p : Int)] w fun e w' => e = .returned (.tuple #[.string (str (readOf l f p)), .int .i64 0]) ∧ Fresh w w' := by
  unfold readOf
  cases hf : f (p : Int) with
  | some s => exact read_pends B d l D n armed (p : Int) s f w h hP hf (by omega) (by omega) hll
  | none =>
    rw [List.getElem?_eq_getElem hp]
    exact read_last B d l D n armed p _ f w h hP hf (List.getElem?_eq_getElem hp) hll
end Go.Proofs.Ytbhienlalpbflaa
