/-
  The law's step: Prove.
-/
import Derived.Test.YtmflbchiapdhbaaGreatDoorTpPlayD
import Derived.Test.YtmflbchiapdhbaaGreatDoorTpPlayF
namespace Go.Proofs.YtmflbchiapdhbaaGreatDoor
open Go.RowKit

theorem play_prove (B ob N M : Nat) (c : Nat → Nat) (w : World) (kp : Bool) (m y n : Nat → Nat) (t : Nat → Tr) (dv : Nat → Value) (L : Nat → List Ent) (lv fv wv : Value) (A F Wv : List Value) (C : List Texts) (h : TW B c w ob kp m y t n dv L lv fv wv A F Wv C N) (hh : ∀ k, k < 2 → Has (t k) (L k)) (hn : ∀ k, k < 2 → n k ≤ M) (hM : M ≤ 900) (hN : N ≤ 900) (hd : Dig w) (hgB : 3 ≤ B)
    (oo kb : Bool) (key val : List UInt8) (hkey : key.length ≤ 9223372036854775807) (hval : val.length ≤ 9223372036854775807) :
    Calls Tryz.prog 7 #[.pointer (some ⟨ob, 0, none⟩), .agg #[.bool oo, .bool kb, .int .i64 6, .string (str key), .string (str val)]] w fun e w' => e = .returned (.bool true) ∧ After B w' ob (N + 2) (M + 1) ∧ Keeps (fun q => B ≤ q) w w' := by
  cases oo with
  | true => exact play_prove_t B ob N M c w kp m y n t dv L lv fv wv A F Wv C h hh hn hM hN hd hgB true kb key val hkey hval rfl
  | false => exact play_prove_f B ob N M c w kp m y n t dv L lv fv wv A F Wv C h hh hn hM hN hd hgB false kb key val hkey hval rfl
end Go.Proofs.YtmflbchiapdhbaaGreatDoor
