/-
  The law's step: what comes in.
-/
import Derived.Test.YtbhienlalpbflaaDwMakes
import Derived.Test.YtbhienlalpbflaaDwCrash
import Derived.Test.YtbhienlalpbflaaDwOut
namespace Go.Proofs.Ytbhienlalpbflaa
open Go.RowKit Go.Maps

structure PlayIn (B n N : Nat) (w : World) (on m : Int) (s : List UInt8) (ko : Option Addr) (kc : Nat) (ks : List (Int × Int)) : Prop where
  hn : n ≤ 80000
  hN : N ≤ 900
  hks : KeepsAt w (.slice ko ks.length kc) ks
  hkB : 0 < ks.length → ∀ a, ko = some a → a.block < B
  hkl : ks.length ≤ 10000000
  hkw : ∀ k ∈ ks, (Lit.int .i64 k.1).wf = true ∧ (Lit.int .i64 k.2).wf = true
  hon : -9223372036854775808 ≤ on
  hon2 : on ≤ 9223372036854775807
  hm : -9223372036854775808 ≤ m
  hm2 : m ≤ 9223372036854775807
  hs : s.length ≤ 9223372036854775807
theorem pick_same (x : Int) (n : Nat) (hn : 0 < n) (hn2 : n ≤ 1000000) (hx : -9223372036854775808 ≤ x) (hx2 : x ≤ 9223372036854775807) : ∃ r : Nat, r < n ∧ ∀ W, Calls Try.prog 9 #[.int .i64 x, .int .i64 (n : Int)] W fun e w' => e = .returned (.int .i64 (r : Int)) ∧ W = w' := by
  obtain ⟨r, hr, hr2⟩ := picked x n hn
  refine ⟨r, hr2, fun W => ?_⟩
  have := pick_any x n W hn hn2 hx hx2
  rwa [hr] at this
theorem clip_texts {w : World} {v y : Value} {l : Texts} (c : Clip v y) (h : w.ownsRow 0 9 1 y l.length (texts l)) : TextsAt w v l := by
  obtain ⟨ao, n, cap, cap', rfl, rfl, -⟩ := c
  obtain ⟨ao2, cap2, e, hc⟩ := OwnTexts_at h
  simp only [Value.slice.injEq] at e
  obtain ⟨rfl, rfl, rfl⟩ := e
  exact ⟨ao, cap, rfl, hc⟩
theorem same_same (v1 v2 : Value) (l : Texts) (w : World) (y1 y2 : Value) (c1 : Clip v1 y1) (c2 : Clip v2 y2) (h1 : w.ownsRow 0 9 1 y1 l.length (texts l)) (h2 : w.ownsRow 0 9 1 y2 l.length (texts l)) (hl : l.length ≤ 9223372036854775807) :
    Calls Try.prog 15 #[v1, v2] w fun e w' => e = .returned (.bool true) ∧ Fresh w w' := by
  have := sameTexts_any v1 v2 l l w (clip_texts c1 h1) (clip_texts c2 h2) hl hl
  rwa [decide_eq_true (rfl : l = l)] at this
theorem NobT.of_row {c : Nat → Nat} {w : World} {v : Value} {l : Texts} (h : w.ownsRow 0 9 1 v l.length (texts l)) (hc : ∀ g, v.ownBlock = some g → c g = 0) : NobT c w v l := by
  obtain ⟨ao, cap, rfl, hcc⟩ := OwnTexts_at h
  refine ⟨ao, cap, rfl, fun k t ht => ?_⟩
  obtain ⟨bb, off, rfl, e2, e3⟩ := hcc k t ht
  rcases h.2 with ⟨e, h0⟩ | ⟨g', cap', cur, e, -⟩
  · simp at e
  · simp only [Value.slice.injEq, Option.some.injEq, Addr.mk.injEq, and_true] at e
    obtain ⟨⟨rfl, rfl⟩, -⟩ := e
    exact ⟨bb, 0, rfl, e2, hc bb rfl, e3⟩
end Go.Proofs.Ytbhienlalpbflaa
