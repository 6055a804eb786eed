/-
  The program's digest, of one text or three, laid in a block of their own.
-/
import Derived.Test.YtmflbchiapdhbaaGreatDoorMShaC
namespace Go.Proofs.YtmflbchiapdhbaaGreatDoor
open Go.RowKit

/-- what digest.Sum asks of the world -/
structure Dig (w : World) : Prop where
  tab : TabLaid w
  first : FirstLaid w
  room : 3 ≤ w.heap.size
theorem Dig.fresh {w w' : World} (h : Dig w) (f : Fresh w w') : Dig w' := ⟨h.tab.keeps f (fun h => h), h.first.keeps f (fun h => h), Nat.le_trans h.room f.size⟩
theorem Dig.drew {w : World} (h : Dig w) : Dig w.drew := h.fresh (Keeps.refl _ _).drew
theorem Dig.alloc {w : World} (h : Dig w) (o : Obj) : Dig (w.alloc o) := h.fresh ((Keeps.refl _ _).alloc o)

theorem Dig.keepsOut {B h : Nat} {w w' : World} (d : Dig w) (k : Keeps (fun q => q = h ∨ B ≤ q) w w') (h1 : 3 ≤ h) (h2 : 3 ≤ B) : Dig w' :=
  ⟨d.tab.keeps k (fun e => by omega), d.first.keeps k (fun e => by omega), Nat.le_trans d.room k.size⟩

theorem psum_one (bb : Nat) (s : List UInt8) (w : World) (hb : w.heap[bb]? = some (.cells #[.string (str s)] 9 (0, 0))) (hd : Dig w) (hs : s.length ≤ 70368744170000) :
    Calls Tryz.prog 15 #[.slice (some ⟨bb, 0, none⟩) 1 1] w fun e w' => e = .returned (.string (str (sha s))) ∧ Fresh w w' := by
  have hp := psum_any (.slice (some ⟨bb, 0, none⟩) 1 1) [s] w ⟨_, _, rfl, fun j x hx => ⟨bb, 0, rfl, lt_of_block hb, by
      rw [cell_at hb]
      match j, hx with
      | 0, hx => simp at hx; subst hx; rfl
      | (j + 1), hx => simp at hx⟩⟩ hd.tab hd.first hd.room (by simp) (by simp; omega)
  simpa using hp
theorem psum_three (bb : Nat) (a b c : List UInt8) (w : World) (hb : w.heap[bb]? = some (.cells #[.string (str a), .string (str b), .string (str c)] 9 (0, 0))) (hd : Dig w) (hs : a.length + b.length + c.length ≤ 70368744170000) :
    Calls Tryz.prog 15 #[.slice (some ⟨bb, 0, none⟩) 3 3] w fun e w' => e = .returned (.string (str (sha (a ++ (b ++ c))))) ∧ Fresh w w' := by
  have hp := psum_any (.slice (some ⟨bb, 0, none⟩) 3 3) [a, b, c] w ⟨_, _, rfl, fun j x hx => ⟨bb, 0, rfl, lt_of_block hb, by
      rw [cell_at hb]
      match j, hx with
      | 0, hx => simp at hx; subst hx; rfl
      | 1, hx => simp at hx; subst hx; rfl
      | 2, hx => simp at hx; subst hx; rfl
      | (j + 3), hx => simp at hx⟩⟩ hd.tab hd.first hd.room (by simp) (by simp; omega)
  simpa using hp
end Go.Proofs.YtmflbchiapdhbaaGreatDoor
