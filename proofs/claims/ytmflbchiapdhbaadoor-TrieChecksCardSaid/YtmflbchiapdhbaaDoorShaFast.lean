/-
  SHA-256 reckoned: the schedule as a list, so that digests of given texts can be told.
-/
import Derived.Test.YtmflbchiapdhbaaDoorShaPlain
namespace Go.Proofs.YtmflbchiapdhbaaDoor
open Go.RowKit

/-- the schedule's next word, of those before, the newest first -/
def nextWord (l : List Nat) : Nat := (small1 (l.getD 1 0) + l.getD 6 0 + small0 (l.getD 14 0) + l.getD 15 0) % 4294967296
def sched (b : List UInt8) : Nat → List Nat
  | 0 => ((List.range 16).map (be32 b)).reverse
  | n + 1 => nextWord (sched b n) :: sched b n
theorem sched_len (b : List UInt8) : ∀ n, (sched b n).length = 16 + n
  | 0 => by simp [sched]
  | n + 1 => by simp [sched, sched_len b n]; omega
theorem sched_at (b : List UInt8) : ∀ n i, i < 16 + n → (sched b n).getD i 0 = word b (15 + n - i)
  | 0, i, h => by
    have : (((List.range 16).map (be32 b)).reverse).getD i 0 = be32 b (15 - i) := by
      rw [List.getD, List.getElem?_reverse (by simpa using h)]
      simp [show 16 - 1 - i < 16 by omega]
    simp only [sched, this, Nat.add_zero]
    rw [word_first (by omega)]
  | n + 1, 0, h => by
    have ih := sched_at b n
    simp only [sched, List.getD_cons_zero, nextWord]
    rw [ih 1 (by omega), ih 6 (by omega), ih 14 (by omega), ih 15 (by omega), word_next (t := 15 + (n + 1) - 0) (by omega)]
    rw [show 15 + (n + 1) - 0 - 2 = 15 + n - 1 by omega, show 15 + (n + 1) - 0 - 7 = 15 + n - 6 by omega, show 15 + (n + 1) - 0 - 15 = 15 + n - 14 by omega, show 15 + (n + 1) - 0 - 16 = 15 + n - 15 by omega]
  | n + 1, i + 1, h => by
    simp only [sched, List.getD_cons_succ]
    rw [sched_at b n i (by omega)]
    congr 1
    omega
/-- t rounds by a list of words, the oldest first -/
def runs (ws : List Nat) : Nat → Nat → Eight → Eight
  | _, 0, v => v
  | t, n + 1, v => runs ws (t + 1) n (v.next (kAt t) (ws.getD t 0))
theorem runs_eq (b : List UInt8) (ws : List Nat) (h : ∀ t, t < 64 → ws.getD t 0 = word b t) : ∀ n t v, t + n ≤ 64 → runs ws t n (roundsOf b v t) = roundsOf b v (t + n)
  | 0, _, _, _ => rfl
  | n + 1, t, v, hle => by
    rw [runs, h t (by omega)]
    have := runs_eq b ws h n (t + 1) v (by omega)
    rw [roundsOf] at this
    rw [this, show t + 1 + n = t + (n + 1) by omega]
theorem block_fast (v : Eight) (b : List UInt8) : shaBlock v b = v.add (runs (sched b 48).reverse 0 64 v) := by
  have h : ∀ t, t < 64 → (sched b 48).reverse.getD t 0 = word b t := fun t ht => by
    rw [List.getD, List.getElem?_reverse (by rw [sched_len]; omega), sched_len]
    have := sched_at b 48 (16 + 48 - 1 - t) (by omega)
    rw [List.getD] at this
    rw [this]
    congr 1
    omega
  rw [shaBlock, ← runs_eq b _ h 64 0 v (by omega)]
  rfl
theorem sha_short (s : List UInt8) (h : s.length < 56) : sha s = (eight0.add (runs (sched (filledUp s) 48).reverse 0 64 eight0)).list.flatMap (fun x => bigEnd x 4) := by
  have hl : (filledUp s).length = 64 := by
    simp only [filledUp, List.length_append, List.length_cons, List.length_replicate, bigEnd_len, noughts]
    omega
  rw [sha, shaBlocks, dif_neg (by omega), List.take_of_length_le (by omega), shaBlocks, dif_pos (by simp; omega), block_fast]
set_option maxRecDepth 100000 in
theorem sha_one : (sha [49]).take 2 = [107, 134] := by
  rw [sha_short _ (by decide)]
  decide +kernel
set_option maxRecDepth 100000 in
theorem sha_two : (sha [50]).take 2 = [212, 115] := by
  rw [sha_short _ (by decide)]
  decide +kernel
end Go.Proofs.YtmflbchiapdhbaaDoor
