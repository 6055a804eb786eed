/-
  The program's span: Root is rootOf.
-/
import Derived.Test.YtgikabafaocemaaDoorSpRootG
namespace Go.Proofs.YtgikabafaocemaaDoor
open Go.RowKit

theorem proot_any (n b e : Int) (vh vl : Value) (H L : List (List UInt8)) (w : World) (hH : TextsAt w vh H) (hL : TextsAt w vl L) (hHn : H.length ≤ 9223372036854775807) (hLn : L.length ≤ 9223372036854775807) (hd : Dig w) (hHB : ∀ wb, w.heap.size ≤ wb → ListBut wb w vh H) (hLB : ∀ wb, w.heap.size ≤ wb → ListBut wb w vl L) :
    Calls Tryd.prog 25 #[runV n b e vh, vl] w fun x w' => x = .returned (.tuple #[.string (str (rootOf n b e H L).1), .int .i64 (rootOf n b e H L).2]) ∧ Fresh w w' := by
  by_cases h : n < 1 ∨ 1099511627776 < n ∨ b < 0 ∨ e ≤ b ∨ n < e
  · have h1 : rootOf n b e H L = ([], 140) := by rw [rootOf, if_pos h]
    rw [h1]
    exact proot_range n b e vh vl H L w h hH hL
  obtain ⟨n', rfl⟩ : ∃ n' : Nat, n = n' := ⟨n.toNat, by omega⟩
  obtain ⟨b', rfl⟩ : ∃ b' : Nat, b = b' := ⟨b.toNat, by omega⟩
  obtain ⟨e', rfl⟩ : ∃ e' : Nat, e = e' := ⟨e.toNat, by omega⟩
  by_cases hf : 4096 < L.length ∨ (L.length : Int) ≠ (e' : Int) - (b' : Int) ∨ ¬ all32P L ∨ ¬ all32P H
  · have h1 : rootOf n' b' e' H L = ([], 141) := by
      rw [rootOf, if_neg h, if_pos]
      rcases hf with hf | hf | hf | hf
      · exact .inl hf
      · exact .inr (.inl hf)
      · exact .inr (.inr (.inl hf))
      · exact .inr (.inr (.inr (.inl hf)))
    rw [h1]
    exact proot_form n' b' e' vh vl H L w (by omega) (by omega) (by omega) hH hL hHn hLn hf
  · have f1 : ¬ 4096 < L.length := fun q => hf (.inl q)
    have f2 : (L.length : Int) = (e' : Int) - (b' : Int) := Classical.byContradiction fun q => hf (.inr (.inl q))
    have f3 : all32P L := Classical.byContradiction fun q => hf (.inr (.inr (.inl q)))
    have f4 : all32P H := Classical.byContradiction fun q => hf (.inr (.inr (.inr q)))
    refine (proot_good n' b' e' vh vl H L w (by omega) (by omega) (by omega) hH hL hHn f1 f2 f3 f4 hd hHB hLB).mono ?_
    rintro x w' ⟨rfl, fr⟩
    refine ⟨?_, fr⟩
    rw [rootOf, if_neg h]
    by_cases hq : (toldF 40 b' e' 0 n').length = H.length
    · rw [if_pos hq, if_neg]
      · simp
      · rintro (q | q | q | q | q)
        · exact f1 q
        · exact q f2
        · exact q f3
        · exact q f4
        · exact q (by simpa using hq)
    · rw [if_neg hq, if_pos]
      exact .inr (.inr (.inr (.inr (by simpa using hq))))
end Go.Proofs.YtgikabafaocemaaDoor
