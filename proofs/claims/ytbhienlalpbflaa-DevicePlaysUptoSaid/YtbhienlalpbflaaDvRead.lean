/-
  The device: Read of what is pending; Pages.
-/
import Derived.Test.YtbhienlalpbflaaDvWrite
namespace Go.Proofs.Ytbhienlalpbflaa
open Go.RowKit Go.Maps

theorem Try.zeroText (w : World) : (zeroValue 9).run Try.prog w = .ok (.string ⟨#[]⟩) w := by kernel_rfl
theorem text_inv {v : Value} {s : List UInt8} {ps : List MemPlace} (h : plainElem (H := Unit) Try.prog 9 v = some (.lit (.string s), ps)) : v = .string (str s) := by
  obtain ⟨b, rfl, hz⟩ := plainElem_string_inv Try.underlying9 h
  simp only [Prod.mk.injEq, DataW.lit.injEq, Lit.string.injEq] at hz
  rw [hz.1.1]
  rfl
theorem look_ok_text {w : World} {mb n : Nat} {D : DD} {f : Int → Option (List UInt8)} (hown : w.ownsMap Try.prog 3 (plainElem Try.prog 9) mb n D) (hP : Pends D f) (p : Int) (hp : (Lit.int .i64 p).wf = true) :
    (Instr.lookup 80 (.map (some mb)) (.int .i64 p) true).run Try.prog w = .ok (.tuple #[.string (str ((f p).getD [])), .bool (f p).isSome]) w := by
  have hz := string_elem [] (by simp)
  obtain ⟨v, ps, hrun, hv⟩ := hown.look_ok Try.intKeyed Try.underlying80 (Try.zeroText w) hz (keyOf_int_mk Try.underlying3 hp)
  have h2 := hP.2 p
  rw [show (Lit.int .i64 p) = pkey p from rfl, show (DataW.lit (Lit.string []) : DD) = pz from rfl, h2.2] at hv
  rw [hrun, text_inv hv, show (Lit.int .i64 p) = pkey p from rfl, h2.1]
theorem look_text {w : World} {mb n : Nat} {D : DD} {f : Int → Option (List UInt8)} (hown : w.ownsMap Try.prog 3 (plainElem Try.prog 9) mb n D) (hP : Pends D f) (p : Int) (hp : (Lit.int .i64 p).wf = true) :
    (Instr.lookup 80 (.map (some mb)) (.int .i64 p) false).run Try.prog w = .ok (.string (str ((f p).getD []))) w := by
  have hz := string_elem [] (by simp)
  have h2 := (hP.2 p).2
  obtain ⟨es, clock, hb, F, _, rfl⟩ := hown
  rcases Maps.fit_look false Try.intKeyed Try.underlying80 (Try.zeroText w) hb F (keyOf_int_mk Try.underlying3 hp) with ⟨hrun, _, hat⟩ | ⟨e0, y, _, _, hrun, hRv, hat, _⟩
  · have h3 := hat pz
    rw [show (Lit.int .i64 p) = pkey p from rfl, h2] at h3
    simp only [pz, DataW.lit.injEq, Lit.string.injEq] at h3
    rw [hrun, h3]
    rfl
  · have h3 := hat pz
    rw [show (Lit.int .i64 p) = pkey p from rfl, h2] at h3
    obtain ⟨y1, y2⟩ := y
    simp only at h3
    rw [← h3] at hRv
    rw [hrun, text_inv hRv]
    rfl

set_option maxRecDepth 100000 in
set_option maxHeartbeats 1000000 in
theorem read_pends (B : Nat → Prop) (d : Nat) (l : List (List UInt8)) (D : DD) (n : Nat) (armed : Int) (p : Int) (s : List UInt8) (f : Int → Option (List UInt8)) (w : World) (h : Dev B w d l D n false armed) (hP : Pends D f) (hf : f p = some s) (hp : 0 ≤ p) (hp2 : p < l.length) (hll : l.length ≤ 4096) :
    Calls Try.prog 27 #[.pointer (some ⟨d, 0, none⟩), .int .i64 p] w fun e w' => e = .returned (.tuple #[.string (str s), .int .i64 0]) ∧ Fresh w w' := by
  have hask := asked_ok B d l D n armed p w h hp hp2
  have HASK := hid hask
  have HD := hid h
  clear hask h
  go_enter Try.func27, Try.ntmps27
  go_wp2_with fail
  refine HASK.out.mono ?_
  rintro e w1 ⟨rfl, fa⟩
  obtain ⟨pv, mb, h1, h2, h3, -⟩ := (HD.out.fresh fa).ex
  have c1 := cell_at h1 1
  simp at c1
  have hlook := look_ok_text h3 hP p (WalkArith.wf_i64 (by omega))
  rw [hf] at hlook
  simp only [Option.getD_some, Option.isSome_some] at hlook
  clear h1 h2 h3 HASK
  go_wp2_with fail
  go_ret2
  exact ⟨rfl, fa⟩

set_option maxRecDepth 100000 in
theorem clip_any (ao : Option Addr) (n cap : Nat) (w : World) (h : n ≤ cap) (_hn : cap ≤ 9223372036854775807) (h0 : ao = none → n = 0) :
    Calls Try.prog 32 #[.slice ao n cap] w fun e w' => e = .returned (.slice ao n n) ∧ Fresh w w' := by
  go_enter Try.func32, Try.ntmps32
  cases ao with
  | none =>
    have := h0 rfl
    subst this
    go_wp2_with fail
    go_ret
    exact ⟨by simp, Keeps.refl _ _⟩
  | some a =>
    go_wp2_with fail
    go_ret
    exact ⟨by simp, Keeps.refl _ _⟩

set_option maxRecDepth 100000 in
set_option maxHeartbeats 1000000 in
theorem pages_any (B : Nat → Prop) (d : Nat) (l : List (List UInt8)) (D : DD) (n : Nat) (dead : Bool) (armed : Int) (w : World) (h : Dev B w d l D n dead armed) (hll : l.length ≤ 4096) :
    Calls Try.prog 16 #[.pointer (some ⟨d, 0, none⟩)] w fun e w' => ∃ v, e = .returned v ∧ TextsAt w' v l ∧ Fresh w w' := by
  obtain ⟨pv, mb, h1, h2, -⟩ := h.ex
  have hclone := clone_any pv l w h2.at_ (by omega)
  obtain ⟨ao, cp, rfl⟩ := ownsRow_slice h2.1
  have c0 := cell_at h1 0
  simp at c0
  have HC := hid hclone
  clear h1 h2 h hclone
  go_enter Try.func16, Try.ntmps16
  go_wp2_with fail
  refine HC.out.mono ?_
  rintro e w1 ⟨v1, rfl, hown, f1⟩
  have hcap : ∃ ao1 c1, v1 = .slice ao1 l.length c1 ∧ l.length ≤ c1 ∧ c1 ≤ 9223372036854775807 ∧ (ao1 = none → l.length = 0) := by
    rcases hown.1.2 with ⟨rfl, h0⟩ | ⟨g, cap, cur, rfl, _, _, h2, h3, _, _⟩
    · rw [h0]; exact ⟨none, 0, rfl, by omega, by omega, fun _ => rfl⟩
    · exact ⟨_, cap, rfl, h2, by unfold maxLen at h3; omega, fun e => nomatch e⟩
  obtain ⟨ao1, c1, rfl, k1, k2, k3⟩ := hcap
  have hclip := clip_any ao1 l.length c1 w1 k1 k2 k3
  have HCL := hid hclip
  clear hclip HC
  go_wp2_with fail
  refine HCL.out.mono ?_
  rintro e w2 ⟨rfl, f2⟩
  go_wp2_with fail
  go_ret
  refine ⟨_, rfl, ?_, f1.trans f2⟩
  obtain ⟨ao3, c3, he, hc⟩ := hown.at_.fresh f2
  simp only [Value.slice.injEq] at he
  obtain ⟨rfl, -, -⟩ := he
  exact ⟨ao1, l.length, rfl, hc⟩
end Go.Proofs.Ytbhienlalpbflaa
