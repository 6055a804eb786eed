/-
  pick, of the law's package.
-/
import Derived.Test.YtpccaodkgboefaaDoorMMsH
namespace Go.Proofs.YtpccaodkgboefaaDoor
open Go.RowKit

set_option maxRecDepth 100000 in
theorem pick_any (x : Int) (n : Nat) (w : World) (hn : 0 < n) (hn2 : n ≤ 9223372036854775807) (hx : -9223372036854775808 ≤ x) (hx2 : x ≤ 9223372036854775807) :
    Calls Tryd.prog 11 #[.int .i64 x, .int .i64 (n : Int)] w fun e w' => ∃ r : Nat, e = .returned (.int .i64 (r : Int)) ∧ r < n ∧ w = w' := by
  have fin : ∀ y : Int, 0 ≤ y → ∃ r : Nat, y.tmod (n : Int) = (r : Int) ∧ r < n := fun y hy => by
    have h1 := Int.tmod_nonneg (n : Int) hy
    have h2 := Int.tmod_lt_of_pos y (show (0 : Int) < (n : Int) by omega)
    exact ⟨(y.tmod (n : Int)).toNat, by omega, by omega⟩
  have hn0 : ¬ (n : Int) = 0 := by omega
  by_cases h : x < 0
  · obtain ⟨r, hr, hlt⟩ := fin (-(x + 1)) (by omega)
    go_enter Tryd.func11, Tryd.ntmps11
    go_wp2_with fail
    go_ret
    exact ⟨r, by rw [← hr]; rfl, hlt, rfl⟩
  · obtain ⟨r, hr, hlt⟩ := fin x (by omega)
    go_enter Tryd.func11, Tryd.ntmps11
    go_wp2_with fail
    go_ret
    exact ⟨r, by rw [← hr]; rfl, hlt, rfl⟩
end Go.Proofs.YtpccaodkgboefaaDoor
