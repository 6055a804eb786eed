/-
  The program's trie: Prove of any map and any key.
-/
import Derived.Test.YtmflbchiapdhbaaGreatDoorMTrI
import Derived.Test.YtmflbchiapdhbaaGreatDoorTrProveN
namespace Go.Proofs.YtmflbchiapdhbaaGreatDoor
open Go.RowKit

/-- what Prove tells: the sides, the words, the error -/
def Tr.proof (key : List UInt8) (t : Tr) : List (List UInt8) × (Bool × List UInt8 × List UInt8) × Int := if 200 < key.length then ([], (false, [], []), 242) else ((t.dig (sha key) 0).2, (t.dig (sha key) 0).1.told, 0)
theorem prove_map (b c : Nat) (t : Tr) (key : List UInt8) (w : World) (h : Map w b t c) (hd : Dig w) (hkey : key.length ≤ 9223372036854775807) :
    Calls Tryz.prog 13 #[.pointer (some ⟨b, 0, none⟩), .string (str key)] w fun e w' => ∃ v, e = .returned (.tuple #[lookupVal v (t.proof key).2.1, .int .i64 (t.proof key).2.2]) ∧ Fresh w w' ∧ OwnTexts w.heap.size w' v (t.proof key).1 := by
  unfold Tr.proof
  by_cases hl : 200 < key.length
  · simp only [if_pos hl]
    exact (prove_long b key w hl hkey).mono fun e w' ⟨he, hf⟩ => ⟨_, he, hf, World.ownsRow_nil _ _ _ _, fun _ h => nomatch h⟩
  · simp only [if_neg hl]
    exact prove_any b t c key w h.at_ h.good hd (by omega)
theorem proof_short {t : Tr} (hg : Tr.Good (fun _ => 0) 0 t) (key : List UInt8) : (t.proof key).1.length ≤ 256 := by
  unfold Tr.proof
  split
  · simp
  · exact Good.deep hg _
end Go.Proofs.YtmflbchiapdhbaaGreatDoor
