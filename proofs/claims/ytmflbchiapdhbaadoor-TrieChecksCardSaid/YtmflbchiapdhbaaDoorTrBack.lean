/-
  slices.Backward over a list of texts: what its iterator hands out.
-/
import Derived.RangeFuncNested
import Derived.RangeFuncBound
import Derived.RangeFuncCalls
import Derived.RangeFuncLeaves
import Derived.Shelf.RegionOpen
import Derived.Shelf.Abstract
import Derived.WalkKit
import Derived.OwnWalkIn
import Derived.TacticsInMore
import Derived.LoopNIn
import Derived.LoopIn
import Derived.Test.YtmflbchiapdhbaaDoorTrSums
namespace Go.Proofs.YtmflbchiapdhbaaDoor
open Go.RowKit Go.Shelf

attribute [local go_sem] Oper.semAt_some

/-- an element and its place, within what a proof may have -/
abbrev Place := { x : Nat × List UInt8 // x.1 < 256 ∧ x.2.length = 32 }
def pad32 (s : List UInt8) : List UInt8 := if s.length = 32 then s else nought32
theorem pad32_len (s : List UInt8) : (pad32 s).length = 32 := by
  unfold pad32
  split
  · assumption
  · simp [nought32]
/-- what comes in round j -/
def fromEnd (l : List (List UInt8)) (j : Nat) : Place := ⟨((l.length - 1 - j) % 256, pad32 (l.getD (l.length - 1 - j) [])), Nat.mod_lt _ (by decide), pad32_len _⟩
def upto {α : Type} (f : Nat → α) (k : Nat) : List α := (List.range k).map f
theorem upto_succ {α : Type} (f : Nat → α) (k : Nat) : upto f (k + 1) = upto f k ++ [f k] := by simp [upto, List.range_succ]
theorem upto_length {α : Type} (f : Nat → α) (k : Nat) : (upto f k).length = k := by simp [upto]

theorem fromEnd_eq (l : List (List UInt8)) (m : Nat) (s : List UInt8) (hm : m < l.length) (h256 : l.length ≤ 256) (hs : l[m]? = some s) (h32 : s.length = 32) : (fromEnd l (l.length - 1 - m)).1 = (m, s) := by
  have e : l.length - 1 - (l.length - 1 - m) = m := by omega
  simp only [fromEnd, e]
  rw [List.getD_eq_getElem?_getD, hs, Option.getD_some, pad32, if_pos h32, Nat.mod_eq_of_lt (by omega)]

set_option maxRecDepth 100000 in
set_option maxHeartbeats 2000000 in
theorem back1_in (F : Fence) (n : Nat) (h7 : F.fn 46) (hro : F.round = none) (hn : 1 ≤ n) (l Bs : Nat) (ao : Option Addr) (cap : Nat) (ls : List (List UInt8)) (h256 : ls.length ≤ 256) (h32 : ∀ s ∈ ls, s.length = 32) (S : Nat → Prop)
    (J Jx : List Place → World → Prop)
    (hY : ∀ pre (x : Place) W, J pre W → pre.length < ls.length → YieldAt F (n - 1) Tryd.prog l #[.int .i64 (x.1.1 : Int), .string (str x.1.2)] W fun e W' =>
      (e = .returned (.bool true) ∧ J (pre ++ [x]) W' ∧ Keeps S W W') ∨ (e = .returned (.bool false) ∧ Jx (pre ++ [x]) W'))
    (W : World) (hBl : Bs < W.heap.size) (hBS : ¬ S Bs) (hBs : W.cell? ⟨Bs, 0, none⟩ = some (.slice ao ls.length cap))
    (hc : ∀ (k : Nat) (s : List UInt8), ls[k]? = some s → ∃ bb off, ao = some ⟨bb, off, none⟩ ∧ bb < W.heap.size ∧ ¬ S bb ∧ W.cell? ⟨bb, off + k, none⟩ = some (.string (str s))) (h0 : J [] W) :
    CallsIn F n Tryd.prog 46 #[.func (.yield l) #[] #[], .pointer (some ⟨Bs, 0, none⟩)] W fun e W' => (∃ v, e = .returned v) ∧
      ((∃ ys, ys = upto (fromEnd ls) ls.length ∧ J ys W') ∨ (∃ pre, True ∧ Jx pre W')) := by
  have HC := hid hc
  have H32 := hid h32
  clear hc h32
  refine callsIn_of_wp Tryd.func46 rfl h7 ?_ hro
  simp only [Tryd.ntmps46, List.size_toArray, List.length_cons, List.length_nil, Nat.reduceAdd, Nat.reduceSub, Array.replicate_succ, Array.replicate_zero, List.push_toArray, List.append_toArray, List.nil_append, List.cons_append]
  gi_wp2
  gi_loopw [3] (fun i wr => ∃ k : Nat, k ≤ ls.length ∧ i = .int .i64 ((k : Int) - 1) ∧ J (upto (fromEnd ls) (ls.length - k)) wr ∧ Keeps S W wr)
    (fun i _ => (intOf i + 1).toNat)
  case atStart => exact ⟨ls.length, Nat.le_refl _, rfl, by rw [Nat.sub_self]; exact h0, Keeps.refl _ _⟩
  case round =>
    obtain ⟨k, hk, rfl, hJs, hnx⟩ := hrel
    have hbx := (hnx.cell (p := ⟨Bs, 0, none⟩) hBl hBS).trans hBs
    cases k with
    | zero =>
      gi_wp2
      go_end0
      exact ⟨⟨_, rfl⟩, .inl ⟨_, rfl, hJs⟩⟩
    | succ m =>
      obtain ⟨s, hs⟩ : ∃ s, ls[m]? = some s := ⟨ls[m], by first | (simp; omega) | simp⟩
      obtain ⟨bb, off, hao, hbb, hbS, hcw⟩ := HC.out m s hs
      have hcell := (hnx.cell (p := ⟨bb, off + m, none⟩) hbb hbS).trans hcw
      have hpl := fromEnd_eq ls m s (by omega) h256 hs (H32.out s (List.mem_of_getElem? hs))
      obtain ⟨fn, tmps, assign, body, hy, hR⟩ := hY _ (fromEnd ls (ls.length - 1 - m)) wr hJs (by rw [upto_length]; omega)
      rw [hpl] at hy
      dsimp only at hy
      have hmi : (((m + 1 : Nat) : Int) - 1) = (m : Int) := by omega
      rw [hmi]
      subst hao
      clear hpl hs hcw hmi
      gi_wp2
      refine hR.mono ?_
      rintro e W3 (⟨rfl, hJ3, hk3⟩ | ⟨rfl, hJx3⟩)
      · gi_wp2
        go_roundw
        case rel => exact ⟨m, by omega, rfl, by rw [show ls.length - m = (ls.length - (m + 1)) + 1 by omega, upto_succ]; rw [show ls.length - 1 - m = ls.length - (m + 1) by omega] at hJ3; exact hJ3, hnx.trans hk3⟩
        case measure => simp [intOf] <;> omega
      · gi_wp2
        refine bodyPost_ret (results_none rfl _ _ _) rfl ?_
        exact ⟨⟨_, rfl⟩, .inr ⟨_, trivial, hJx3⟩⟩
end Go.Proofs.YtmflbchiapdhbaaDoor
