/-
  The device: Size, Dead, asked, Write.
-/
import Derived.Test.YtbhienlalpbflaaMDvB
import Derived.Defers
namespace Go.Proofs.Ytbhienlalpbflaa
open Go.RowKit Go.Maps

theorem Try.intKeyed : Keyed Try.prog 3 := int_keyed Try.underlying3

theorem string_elem (s : List UInt8) (hs : s.length ≤ 9223372036854775807) : plainElem (H := Unit) Try.prog 9 (.string (str s)) = some (.lit (.string s), []) := by
  unfold plainElem
  rw [Try.underlying9]
  have : (str s).size ≤ maxLen := by rw [str_size]; unfold maxLen; omega
  simp only [this, if_true]
  rfl

set_option maxRecDepth 100000 in
theorem size_any (B : Nat → Prop) (d : Nat) (l : List (List UInt8)) (D : DD) (n : Nat) (dead : Bool) (armed : Int) (w : World) (h : Dev B w d l D n dead armed) :
    Calls Try.prog 13 #[.pointer (some ⟨d, 0, none⟩)] w fun e w' => e = .returned (.int .i64 (l.length : Int)) ∧ Fresh w w' := by
  obtain ⟨pv, mb, h1, h2, -⟩ := h.ex
  obtain ⟨ao, cp, rfl⟩ := ownsRow_slice h2.1
  have c0 := cell_at h1 0
  simp at c0
  clear h1 h2 h
  go_enter Try.func13, Try.ntmps13
  go_wp2_with fail
  go_ret
  exact ⟨rfl, Keeps.refl _ _⟩
set_option maxRecDepth 100000 in
theorem dead_any (B : Nat → Prop) (d : Nat) (l : List (List UInt8)) (D : DD) (n : Nat) (dead : Bool) (armed : Int) (w : World) (h : Dev B w d l D n dead armed) :
    Calls Try.prog 14 #[.pointer (some ⟨d, 0, none⟩)] w fun e w' => e = .returned (.bool dead) ∧ Fresh w w' := by
  obtain ⟨pv, mb, h1, h2, -⟩ := h.ex
  have c2 := cell_at h1 2
  simp at c2
  clear h1 h2 h
  go_enter Try.func14, Try.ntmps14
  go_wp2_with fail
  go_ret
  exact ⟨rfl, Keeps.refl _ _⟩
set_option maxRecDepth 100000 in
theorem asked_ok (B : Nat → Prop) (d : Nat) (l : List (List UInt8)) (D : DD) (n : Nat) (armed : Int) (p : Int) (w : World) (h : Dev B w d l D n false armed) (hp : 0 ≤ p) (hp2 : p < l.length) :
    Calls Try.prog 49 #[.pointer (some ⟨d, 0, none⟩), .int .i64 p] w fun e w' => e = .returned (.int .i64 0) ∧ Fresh w w' := by
  obtain ⟨pv, mb, h1, h2, -⟩ := h.ex
  obtain ⟨ao, cp, rfl⟩ := ownsRow_slice h2.1
  have c0 := cell_at h1 0
  have c2 := cell_at h1 2
  simp at c0 c2
  have e1 : ¬ p < 0 := by omega
  have e2 : ¬ (l.length : Int) ≤ p := by omega
  clear h1 h2 h
  go_enter Try.func49, Try.ntmps49
  go_wp2_with fail
  go_ret
  exact ⟨rfl, Keeps.refl _ _⟩

set_option maxRecDepth 100000 in
set_option maxHeartbeats 1000000 in
theorem write1_any (bs bx bp d mb n : Nat) (D : DD) (s : List UInt8) (p : Int) (w : World) (hs : w.cell? ⟨bs, 0, none⟩ = some (.string (str s))) (hx : w.cell? ⟨bx, 0, none⟩ = some (.pointer (some ⟨d, 0, none⟩))) (hp : w.cell? ⟨bp, 0, none⟩ = some (.int .i64 p))
    (hm : w.cell? ⟨d, 1, none⟩ = some (.map (some mb))) (hown : w.ownsMap Try.prog 3 (plainElem Try.prog 9) mb n D) (hn : n ≤ 1000000000000000000) (hsl : s.length ≤ 9223372036854775807) (hpw : (Lit.int .i64 p).wf = true) :
    Calls Try.prog 50 #[.pointer (some ⟨bs, 0, none⟩), .pointer (some ⟨bx, 0, none⟩), .pointer (some ⟨bp, 0, none⟩)] w fun e w' => e = .returned (.tuple #[]) ∧ w'.ownsMap Try.prog 3 (plainElem Try.prog 9) mb (n + 1) (D.put (pkey p) (.lit (.string s))) ∧ Keeps (fun q => q = mb) w w' := by
  have hs' : w.drew.cell? ⟨bs, 0, none⟩ = some (.string (str s)) := hs
  have hx' : w.drew.cell? ⟨bx, 0, none⟩ = some (.pointer (some ⟨d, 0, none⟩)) := hx
  have hp' : w.drew.cell? ⟨bp, 0, none⟩ = some (.int .i64 p) := hp
  have hm' : w.drew.cell? ⟨d, 1, none⟩ = some (.map (some mb)) := hm
  have hown' := map_keeps hown ((Keeps.refl (fun _ => False) w).drew) (fun h => h)
  have hkey : keyOf Try.prog 3 (.int .i64 p) = some (pkey p) := keyOf_int_mk Try.underlying3 hpw
  have hel := string_elem s hsl
  obtain ⟨w5, hrun, hown5, hgr5⟩ := hown'.update Try.intKeyed Try.underlying80 (by unfold maxLen; omega) hkey hel
  go_enter Try.func50, Try.ntmps50
  go_wp2_with fail
  go_region
  all_goals
    go_wp2
    go_end0
    exact ⟨rfl, hown5, ((Keeps.refl _ w).drew).grown hgr5 (fun k h _ => by cases h; rfl)⟩
end Go.Proofs.Ytbhienlalpbflaa
