/-
  The trie: what Check answers, in plain words.
-/
import Derived.Test.YtmflbchiapdhbaaDoorTrForm
namespace Go.Proofs.YtmflbchiapdhbaaDoor
open Go.RowKit

/-- from the hash of what is under place d, with the sides from there on, to the hash at place d -/
def rung (k : List UInt8) (d : Nat) (s h : List UInt8) : List UInt8 := if bitAt k d = 0 then sha (3 :: (h ++ s)) else sha (3 :: (s ++ h))
def climb (k : List UInt8) : Nat → List (List UInt8) → List UInt8 → List UInt8
  | _, [], h => h
  | d, s :: r, h => rung k d s (climb k (d + 1) r h)
def ground (pt : Bool) (pk pv : List UInt8) : List UInt8 := if pt then sha (2 :: (pk ++ pv)) else nought32
/-- may this be a proof for this key and value? -/
def fits (l : List (List UInt8)) (pt : Bool) (pk pv key value : List UInt8) (there : Bool) : Bool :=
  formOf l pt pk pv (sha key) && (if there then pt && decide (pk = sha key) && decide (pv = sha value) else !(pt && decide (pk = sha key)))
def tooLong (key value : List UInt8) (there : Bool) : Bool := decide (200 < key.length) || (there && decide (1000 < value.length))
def checkOf (l : List (List UInt8)) (pt : Bool) (pk pv key value : List UInt8) (there : Bool) (root : List UInt8) : Int :=
  if tooLong key value there = true then 242
  else if fits l pt pk pv key value there = false then 240
  else if climb (sha key) 0 l (ground pt pk pv) = root then 0 else 241

theorem rung_length (k : List UInt8) (d : Nat) (s h : List UInt8) : (rung k d s h).length = 32 := by
  unfold rung; split <;> exact sha_len _
theorem ground_length (pt : Bool) (pk pv : List UInt8) : (ground pt pk pv).length = 32 := by
  unfold ground; split
  · exact sha_len _
  · simp [nought32]
theorem climb_length (k : List UInt8) (l : List (List UInt8)) (h : List UInt8) (hh : h.length = 32) (d : Nat) : (climb k d l h).length = 32 := by
  cases l with
  | nil => exact hh
  | cons s r => exact rung_length _ _ _ _
theorem every32_mem {l : List (List UInt8)} (h : every32 l = true) : ∀ s ∈ l, s.length = 32 := by
  induction l with
  | nil => intro s hs; cases hs
  | cons x r ih =>
    simp only [every32, Bool.and_eq_true, decide_eq_true_eq] at h
    intro s hs
    rcases List.mem_cons.1 hs with rfl | hs
    · exact h.1
    · exact ih h.2 s hs
end Go.Proofs.YtmflbchiapdhbaaDoor
