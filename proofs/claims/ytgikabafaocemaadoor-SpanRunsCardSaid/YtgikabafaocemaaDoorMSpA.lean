/-
  Runs of a tree's leaves: where a tree is split, which subtrees are told, and what told hashes and leaves come to. Plain.
  Where a span is cut: the program's, the document's; does a subtree have leaves of a run?
  Is a span a run of a tree? The program's, the document's.
  Are all texts of a list of 32 bytes? The program's, the document's.
  The program's shape: the look at a subtree; what is none of a run's, from the left.
  The program's shape: rest, its iterator.
  The program's shape: what rest tells, collected.
  The program's shape: AppendSeq, Collect, Clip over what rest tells.
  Of a run few subtrees are told. Plain.
-/
import Derived.Test.YtgikabafaocemaaDoorMShaA
import Derived.Test.YtgikabafaocemaaDoorChecked
import Derived.Handy
import Derived.BigQuiet
import Derived.Test.YtgikabafaocemaaDoorRowT
import Derived.RangeFuncNested
import Derived.RangeFuncBound
import Derived.RangeFuncCalls
import Derived.RangeFuncLeaves
import Derived.Shelf.RegionOpen
import Derived.Shelf.Abstract
import Derived.WalkKit
import Derived.OwnWalkIn
import Derived.TacticsInMore
import Derived.LoopNIn
import Derived.LoopIn
namespace Go.Proofs.YtgikabafaocemaaDoor
open Go.RowKit

/-- the hash of two -/
def nodeH (a b : List UInt8) : List UInt8 := sha (1 :: (a ++ b))
/-- the greatest power of two below n -/
def splitN (n : Nat) : Nat := 2 ^ Nat.log2 (n - 1)
theorem splitN_facts {n : Nat} (h : 2 ≤ n) : 0 < splitN n ∧ splitN n < n ∧ n ≤ 2 * splitN n := by
  have h1 := Nat.log2_self_le (n := n - 1) (by omega)
  have h2 := Nat.lt_log2_self (n := n - 1)
  rw [Nat.pow_succ] at h2
  unfold splitN
  have h3 : 0 < 2 ^ Nat.log2 (n - 1) := Nat.pow_pos (by omega)
  omega
theorem pow_between {i j : Nat} (h1 : 2 ^ i < 2 * 2 ^ j) (h2 : 2 ^ j < 2 * 2 ^ i) : i = j := by
  rw [← Nat.pow_succ'] at h1 h2
  have h3 := (Nat.pow_lt_pow_iff_right (a := 2) (by omega)).1 h1
  have h4 := (Nat.pow_lt_pow_iff_right (a := 2) (by omega)).1 h2
  omega
theorem splitN_unique {n j : Nat} (h1 : 2 ^ j < n) (h2 : n ≤ 2 * 2 ^ j) : 2 ^ j = splitN n := by
  have h0 : 0 < 2 ^ j := Nat.pow_pos (by omega)
  obtain ⟨g1, g2, g3⟩ := splitN_facts (n := n) (by omega)
  unfold splitN at g1 g2 g3 ⊢
  rw [pow_between (i := j) (j := Nat.log2 (n - 1)) (by omega) (by omega)]
theorem splitN_le {n f : Nat} (h : 2 ≤ n) (hf : n ≤ 2 ^ (f + 1)) : splitN n ≤ 2 ^ f := by
  obtain ⟨-, g2, -⟩ := splitN_facts h
  unfold splitN at g2 ⊢
  have h1 : 2 ^ Nat.log2 (n - 1) < 2 ^ (f + 1) := by omega
  exact Nat.pow_le_pow_right (by omega) (by have := (Nat.pow_lt_pow_iff_right (a := 2) (by omega)).1 h1; omega)

/-- the subtrees of [b, e) that are told of the run [rb, re), from the left; 2 ^ f is no less than the subtree -/
def toldF : Nat → Nat → Nat → Nat → Nat → List (Nat × Nat)
  | 0, rb, re, b, e => if re ≤ b ∨ e ≤ rb then [(b, e)] else []
  | f + 1, rb, re, b, e => if re ≤ b ∨ e ≤ rb then [(b, e)] else if rb ≤ b ∧ e ≤ re then [] else toldF f rb re b (b + splitN (e - b)) ++ toldF f rb re (b + splitN (e - b)) e
theorem toldF_len : ∀ (f rb re b e : Nat), (toldF f rb re b e).length ≤ 2 ^ f
  | 0, rb, re, b, e => by
    unfold toldF
    split <;> simp
  | f + 1, rb, re, b, e => by
    have h1 := toldF_len f rb re b (b + splitN (e - b))
    have h2 := toldF_len f rb re (b + splitN (e - b)) e
    have h3 : 0 < 2 ^ f := Nat.pow_pos (by omega)
    rw [toldF, Nat.pow_succ]
    split
    · simp; omega
    · split
      · simp
      · rw [List.length_append]; omega
/-- of the run so many leaves lie in [b, e) -/
def inRun (rb re b e : Nat) : Nat := min re e - max rb b
/-- what a subtree comes to; the told hashes, the leaves that are left -/
def walkF : Nat → Nat → Nat → Nat → Nat → List (List UInt8) → List (List UInt8) → List UInt8 × List (List UInt8) × List (List UInt8)
  | 0, rb, re, b, e, H, L => if re ≤ b ∨ e ≤ rb then (H.headD [], H.tail, L) else (L.headD [], H, L.tail)
  | f + 1, rb, re, b, e, H, L =>
    if re ≤ b ∨ e ≤ rb then (H.headD [], H.tail, L)
    else if e - b = 1 then (L.headD [], H, L.tail)
    else
      let x := walkF f rb re b (b + splitN (e - b)) H L
      let y := walkF f rb re (b + splitN (e - b)) e x.2.1 x.2.2
      (nodeH x.1 y.1, y.2)
/-- of a run that is told: which of the two parts has what -/
theorem toldF_walk {f rb re b e : Nat} (h1 : ¬ (re ≤ b ∨ e ≤ rb)) : (toldF (f + 1) rb re b e).length = (if rb ≤ b ∧ e ≤ re then 0 else (toldF f rb re b (b + splitN (e - b))).length + (toldF f rb re (b + splitN (e - b)) e).length) := by
  rw [toldF, if_neg h1]
  split
  · rfl
  · rw [List.length_append]
/-- wholly in the run: nothing is told -/
theorem toldF_in : ∀ (f rb re b e : Nat), rb ≤ b → e ≤ re → b < e → toldF f rb re b e = []
  | 0, rb, re, b, e, h1, h2, h3 => by rw [toldF, if_neg (by omega)]
  | f + 1, rb, re, b, e, h1, h2, h3 => by rw [toldF, if_neg (by omega), if_pos ⟨h1, h2⟩]
theorem inRun_split {rb re b k e : Nat} (h1 : b ≤ k) (h2 : k ≤ e) : inRun rb re b e = inRun rb re b k + inRun rb re k e := by
  unfold inRun
  omega
/-- what is taken: enough is there, and so much is left -/
theorem walkF_left : ∀ (f rb re b e : Nat) (H L : List (List UInt8)), b < e → e - b ≤ 2 ^ f → rb < re → (toldF f rb re b e).length ≤ H.length → inRun rb re b e ≤ L.length →
    (walkF f rb re b e H L).2.1 = H.drop (toldF f rb re b e).length ∧ (walkF f rb re b e H L).2.2 = L.drop (inRun rb re b e)
  | 0, rb, re, b, e, H, L, h1, h2, h3, h4, h5 => by
    have : e = b + 1 := by simp at h2; omega
    subst this
    unfold walkF toldF
    by_cases hc : re ≤ b ∨ b + 1 ≤ rb
    · rw [if_pos hc, if_pos hc]
      exact ⟨by simp, by rw [show inRun rb re b (b + 1) = 0 by unfold inRun; omega]; rfl⟩
    · rw [if_neg hc, if_neg hc]
      exact ⟨rfl, by rw [show inRun rb re b (b + 1) = 1 by unfold inRun; omega]; simp⟩
  | f + 1, rb, re, b, e, H, L, h1, h2, h3, h4, h5 => by
    by_cases hc : re ≤ b ∨ e ≤ rb
    · rw [walkF, if_pos hc, toldF, if_pos hc]
      exact ⟨by simp, by rw [show inRun rb re b e = 0 by unfold inRun; omega]; rfl⟩
    · rw [walkF, if_neg hc]
      by_cases h6 : e - b = 1
      · have : e = b + 1 := by omega
        subst this
        rw [if_pos h6, toldF, if_neg hc, if_pos (by omega)]
        exact ⟨rfl, by rw [show inRun rb re b (b + 1) = 1 by unfold inRun; omega]; simp⟩
      · rw [if_neg h6]
        obtain ⟨g1, g2, g3⟩ := splitN_facts (n := e - b) (by omega)
        have g4 := splitN_le (n := e - b) (f := f) (by omega) h2
        have hin := inRun_split (rb := rb) (re := re) (b := b) (k := b + splitN (e - b)) (e := e) (by omega) (by omega)
        have hto : (toldF (f + 1) rb re b e).length = (toldF f rb re b (b + splitN (e - b))).length + (toldF f rb re (b + splitN (e - b)) e).length := by
          rw [toldF_walk hc]
          split
          · rename_i hw
            rw [toldF_in f rb re b _ hw.1 (by omega) (by omega), toldF_in f rb re _ e (by omega) hw.2 (by omega)]
            rfl
          · rfl
        rw [hto] at h4
        obtain ⟨p1, p2⟩ := walkF_left f rb re b (b + splitN (e - b)) H L (by omega) (by omega) h3 (by omega) (by omega)
        obtain ⟨q1, q2⟩ := walkF_left f rb re (b + splitN (e - b)) e (walkF f rb re b (b + splitN (e - b)) H L).2.1 (walkF f rb re b (b + splitN (e - b)) H L).2.2 (by omega) (by omega) h3 (by rw [p1, List.length_drop]; omega) (by rw [p2, List.length_drop]; omega)
        refine ⟨?_, ?_⟩
        · show (walkF f rb re (b + splitN (e - b)) e _ _).2.1 = _
          rw [q1, p1, List.drop_drop, hto]
        · show (walkF f rb re (b + splitN (e - b)) e _ _).2.2 = _
          rw [q2, p2, List.drop_drop, hin]
theorem nodeH_len (a b : List UInt8) : (nodeH a b).length = 32 := sha_len _
theorem mem_tail_of {α : Type} {l : List α} {x : α} (h : x ∈ l.tail) : x ∈ l := List.mem_of_mem_tail h
theorem walkF_all : ∀ (f rb re b e : Nat) (H L : List (List UInt8)), b < e → e - b ≤ 2 ^ f → rb < re → (toldF f rb re b e).length ≤ H.length → inRun rb re b e ≤ L.length → (∀ x ∈ H, x.length = 32) → (∀ x ∈ L, x.length = 32) → (walkF f rb re b e H L).1.length = 32
  | 0, rb, re, b, e, H, L, h1, h2, h3, h4, h5, hH, hL => by
    have : e = b + 1 := by simp at h2; omega
    subst this
    unfold walkF
    by_cases hc : re ≤ b ∨ b + 1 ≤ rb
    · rw [if_pos hc]
      rw [toldF, if_pos hc] at h4
      cases H with
      | nil => simp at h4
      | cons x H => exact hH x (by simp)
    · rw [if_neg hc]
      cases L with
      | nil => simp [inRun] at h5; omega
      | cons x L => exact hL x (by simp)
  | f + 1, rb, re, b, e, H, L, h1, h2, h3, h4, h5, hH, hL => by
    rw [walkF]
    by_cases hc : re ≤ b ∨ e ≤ rb
    · rw [if_pos hc]
      rw [toldF, if_pos hc] at h4
      cases H with
      | nil => simp at h4
      | cons x H => exact hH x (by simp)
    · rw [if_neg hc]
      by_cases h6 : e - b = 1
      · rw [if_pos h6]
        cases L with
        | nil => simp [inRun] at h5; omega
        | cons x L => exact hL x (by simp)
      · rw [if_neg h6]
        exact nodeH_len _ _
def all32P (l : List (List UInt8)) : Prop := ∀ x ∈ l, x.length = 32
instance (l : List (List UInt8)) : Decidable (all32P l) := inferInstanceAs (Decidable (∀ x ∈ l, x.length = 32))
/-- the root to which a run leads; what is wrong -/
def rootOf (size b e : Int) (H L : List (List UInt8)) : List UInt8 × Int :=
  if size < 1 ∨ 1099511627776 < size ∨ b < 0 ∨ e ≤ b ∨ size < e then ([], 140)
  else if 4096 < L.length ∨ (L.length : Int) ≠ e - b ∨ ¬ all32P L ∨ ¬ all32P H ∨ (toldF 40 b.toNat e.toNat 0 size.toNat).length ≠ H.length then ([], 141)
  else ((walkF 40 b.toNat e.toNat 0 size.toNat H L).1, 0)
def checkOf (size b e : Int) (H L : List (List UInt8)) (root : List UInt8) : Int :=
  if (rootOf size b e H L).2 ≠ 0 then (rootOf size b e H L).2 else if (rootOf size b e H L).1 = root then 0 else 142
end Go.Proofs.YtgikabafaocemaaDoor

namespace Go.Proofs.YtgikabafaocemaaDoor
open Go.RowKit

theorem results_two {P : Program} {fn : Func} {p q : Tmp} {ty tq : TypeId} (h : fn.results = #[.cell p ty, .cell q tq]) (tmps : Array Value) (w : World) (g g' : Nat) (t t' : TypeId) (cs cs' : Array Value) (fr fr' : Nat × Nat) (d d' : TypeDesc)
    (hp : tmps.getD p undef = .pointer (some ⟨g, 0, none⟩)) (hg : w.heap[g]? = some (.cells cs t fr)) (hq : tmps.getD q undef = .pointer (some ⟨g', 0, none⟩)) (hg' : w.heap[g']? = some (.cells cs' t' fr'))
    (hu : P.underlying ty = some d) (hd : (match d with | .struct _ | .array _ _ => true | _ => false) = true) (hi : (P.info? ty).map (·.size) = some cs.size)
    (hu' : P.underlying tq = some d') (hd' : (match d' with | .struct _ | .array _ _ => true | _ => false) = true) (hi' : (P.info? tq).map (·.size) = some cs'.size) :
    (results fn tmps).run P w = .ok (.tuple #[.agg cs, .agg cs']) w := by
  have hp' : tmps[p]?.getD undef = .pointer (some ⟨g, 0, none⟩) := by simpa using hp
  have hq' : tmps[q]?.getD undef = .pointer (some ⟨g', 0, none⟩) := by simpa using hq
  simp [results, h, hp', hq', asAddr, run_loadVar_row w g t ty cs fr d hg hu hd hi, run_loadVar_row w g' t' tq cs' fr' d' hg' hu' hd' hi']
theorem results_row2 {P : Program} {fn : Func} {p t2 : Tmp} {ty : TypeId} (h : fn.results = #[.cell p ty, .tmp t2]) (tmps : Array Value) (w : World) (g : Nat) (t : TypeId) (cs : Array Value) (fr : Nat × Nat) (d : TypeDesc)
    (hp : tmps.getD p undef = .pointer (some ⟨g, 0, none⟩)) (hg : w.heap[g]? = some (.cells cs t fr))
    (hu : P.underlying ty = some d) (hd : (match d with | .struct _ | .array _ _ => true | _ => false) = true) (hi : (P.info? ty).map (·.size) = some cs.size) :
    (results fn tmps).run P w = .ok (.tuple #[.agg cs, tmps.getD t2 undef]) w := by
  have hp' : tmps[p]?.getD undef = .pointer (some ⟨g, 0, none⟩) := by simpa using hp
  simp [results, h, hp', asAddr, run_loadVar_row w g t ty cs fr d hg hu hd hi]

/-- a span as a value -/
def spanV (x : Nat × Nat) : Value := .agg #[.int .i64 (x.1 : Int), .int .i64 (x.2 : Int)]
def spanC (b e : Int) : Obj := .cells #[.int .i64 b, .int .i64 e] 24

set_option maxRecDepth 100000 in
set_option maxHeartbeats 1000000 in
theorem middle_any (b e : Nat) (h1 : b + 2 ≤ e) (h2 : e ≤ 2199023255552) (w : World) :
    Calls Tryd.prog 123 #[spanV (b, e)] w fun x w' => x = .returned (.int .i64 ((b + splitN (e - b) : Nat) : Int)) ∧ Fresh w w' := by
  have f0 : Fresh w (w.alloc (spanC b e)) := (Keeps.refl _ _).alloc _
  have hb := heap_alloc_new w (spanC b e)
  unfold spanC at hb f0
  have hU := fun j => splitN_unique (n := e - b) (j := j)
  have HU := hid hU
  clear hU
  unfold spanV
  go_enter Tryd.func123, Tryd.ntmps123
  go_wp2_with fail
  have hbl : w.heap.size < (w.alloc (.cells #[.int .i64 (b : Int), .int .i64 (e : Int)] 24)).heap.size := by simp
  generalize w.alloc (.cells #[.int .i64 (b : Int), .int .i64 (e : Int)] 24) = W at f0 hb hbl ⊢
  generalize w.heap.size = p at hb hbl ⊢
  have c0 := cell_at hb 0
  simp at c0
  go_loopw [4] (fun k wr => ∃ K : Nat, k = .int .i64 (K : Int) ∧ Hid (∃ j, K = 2 ^ j) ∧ 0 < K ∧ K < e - b ∧ Fresh W wr) (fun k _ => e - b - (intOf k).toNat)
  case atStart => exact ⟨1, rfl, ⟨0, rfl⟩, by omega, by omega, Keeps.refl _ _⟩
  case round =>
    obtain ⟨K, rfl, hK, hK0, hKn, fr⟩ := hrel
    have c0 := (fr.cell (p := ⟨p, 0, none⟩) hbl (fun h => h)).trans c0
    by_cases hlt : 2 * K < e - b
    · go_wp2_with fail
      go_roundw
      case rel => exact ⟨K * 2, by simp, by obtain ⟨j, rfl⟩ := hK.out; exact ⟨j + 1, rfl⟩, by omega, by omega, fr⟩
      case measure => simp [intOf]; omega
    · have hsp : K = splitN (e - b) := by
        obtain ⟨j, rfl⟩ := hK.out
        exact HU.out j (by omega) (by omega)
      have HSP := hid hsp
      clear hsp HU hK
      go_wp2_with fail
      go_ret
      exact ⟨by rw [← HSP.out]; simp, f0.trans fr⟩

set_option maxRecDepth 100000 in
set_option maxHeartbeats 1000000 in
theorem split_any (n : Nat) (h1 : 2 ≤ n) (h2 : n ≤ 2199023255552) (w : World) :
    Calls Tryd.prog 88 #[.int .i64 (n : Int)] w fun x w' => x = .returned (.int .i64 (splitN n : Int)) ∧ Fresh w w' := by
  have hU := fun j => splitN_unique (n := n) (j := j)
  have HU := hid hU
  clear hU
  go_enter Tryd.func88, Tryd.ntmps88
  go_wp2_with fail
  go_loopw [3] (fun k wr => ∃ K : Nat, k = .int .i64 (K : Int) ∧ Hid (∃ j, K = 2 ^ j) ∧ 0 < K ∧ K < n ∧ Fresh w wr) (fun k _ => n - (intOf k).toNat)
  case atStart => exact ⟨1, rfl, ⟨0, rfl⟩, by omega, by omega, Keeps.refl _ _⟩
  case round =>
    obtain ⟨K, rfl, hK, hK0, hKn, fr⟩ := hrel
    by_cases hlt : 2 * K < n
    · go_wp2_with fail
      go_roundw
      case rel => exact ⟨2 * K, by simp, by obtain ⟨j, rfl⟩ := hK.out; exact ⟨j + 1, by rw [Nat.pow_succ, Nat.mul_comm]⟩, by omega, by omega, fr⟩
      case measure => simp [intOf]; omega
    · have hsp : K = splitN n := by
        obtain ⟨j, rfl⟩ := hK.out
        exact HU.out j (by omega) (by omega)
      have HSP := hid hsp
      clear hsp HU hK
      go_wp2_with fail
      go_ret
      exact ⟨by rw [← HSP.out]; rfl, fr⟩

set_option maxRecDepth 100000 in
set_option maxHeartbeats 1000000 in
theorem halves_any (b e : Nat) (h1 : b + 2 ≤ e) (h2 : e ≤ 2199023255552) (w : World) :
    Calls Tryd.prog 104 #[spanV (b, e)] w fun x w' => x = .returned (.tuple #[spanV (b, b + splitN (e - b)), spanV (b + splitN (e - b), e)]) ∧ Fresh w w' := by
  have f0 : Fresh w (((w.alloc (spanC b e)).alloc (spanC 0 0)).alloc (spanC 0 0)) := (((Keeps.refl _ _).alloc _).alloc _).alloc _
  have hb := ((Keeps.refl (fun _ => False) (w.alloc (spanC b e))).alloc (spanC 0 0)).alloc (spanC 0 0) |>.at_ (heap_alloc_new w (spanC b e)) (fun h => h)
  have hm := middle_any b e h1 h2 (((w.alloc (spanC b e)).alloc (spanC 0 0)).alloc (spanC 0 0))
  have h2' := ((Keeps.refl (fun _ => False) ((w.alloc (spanC b e)).alloc (spanC 0 0))).alloc (spanC 0 0)).at_ (heap_alloc_new (w.alloc (spanC b e)) (spanC 0 0)) (fun h => h)
  have h3' := heap_alloc_new ((w.alloc (spanC b e)).alloc (spanC 0 0)) (spanC 0 0)
  simp only [World.size_alloc] at h2' h3'
  obtain ⟨M, hM⟩ : ∃ M, b + splitN (e - b) = M := ⟨_, rfl⟩
  rw [hM] at hm ⊢
  have HM := hid hm
  clear hm hM
  unfold spanC spanV at *
  go_enter Tryd.func104, Tryd.ntmps104
  go_wp2_with fail
  refine HM.out.mono ?_
  rintro x w1 ⟨rfl, fa⟩
  have hb := fa.at_ hb (fun h => h)
  have h2' := fa.at_ h2' (fun h => h)
  have h3' := fa.at_ h3' (fun h => h)
  have f0 := f0.trans fa
  clear fa HM
  have c0 := cell_at hb 0
  have c1 := cell_at hb 1
  simp at c0 c1
  go_wp2_with fail
  have z2 := free_at h2' 0
  have z2' := free_at h2' 1
  have z3 := free_at h3' 0
  have z3' := free_at h3' 1
  have y2 := cell_at h2' 0
  have y2' := cell_at h2' 1
  have y3 := cell_at h3' 0
  have y3' := cell_at h3' 1
  simp at y2 y2' y3 y3'
  go_region
  go_wp2
  have k : Keeps (fun q => q = w.heap.size + 1 ∨ q = w.heap.size + 1 + 1) w1 ((((w1.setCell ⟨w.heap.size + 1, 0, none⟩ (.int .i64 (b : Int))).setCell ⟨w.heap.size + 1, 1, none⟩ (.int .i64 (M : Int))).setCell ⟨w.heap.size + 1 + 1, 0, none⟩ (.int .i64 (M : Int))).setCell ⟨w.heap.size + 1 + 1, 1, none⟩ (.int .i64 (e : Int))) :=
    ((((Keeps.refl _ w1).setCell (fun _ => .inl rfl) _).setCell (fun _ => .inl rfl) _).setCell (fun _ => .inr rfl) _).setCell (fun _ => .inr rfl) _
  have r2 := heap_setCell_at (heap_setCell_at h2' 0 (.int .i64 (b : Int))) 1 (.int .i64 (M : Int))
  have r3 : ((w1.setCell ⟨w.heap.size + 1, 0, none⟩ (.int .i64 (b : Int))).setCell ⟨w.heap.size + 1, 1, none⟩ (.int .i64 (M : Int))).heap[w.heap.size + 1 + 1]? = _ := (heap_setCell_ne _ _ _ _ (by simp)).trans ((heap_setCell_ne _ _ _ _ (by simp)).trans h3')
  have r3 := heap_setCell_at (heap_setCell_at r3 0 (.int .i64 (M : Int))) 1 (.int .i64 (e : Int))
  have r2 : ((((w1.setCell ⟨w.heap.size + 1, 0, none⟩ (.int .i64 (b : Int))).setCell ⟨w.heap.size + 1, 1, none⟩ (.int .i64 (M : Int))).setCell ⟨w.heap.size + 1 + 1, 0, none⟩ (.int .i64 (M : Int))).setCell ⟨w.heap.size + 1 + 1, 1, none⟩ (.int .i64 (e : Int))).heap[w.heap.size + 1]? = _ := (heap_setCell_ne _ _ _ _ (by simp)).trans ((heap_setCell_ne _ _ _ _ (by simp)).trans r2)
  refine bodyPost_ret (results_two rfl _ _ (w.heap.size + 1) (w.heap.size + 1 + 1) 24 24 _ _ (0, 0) (0, 0) _ _ rfl (by exact r2) rfl (by exact r3) Tryd.underlying24 rfl (by kernel_rfl) Tryd.underlying24 rfl (by kernel_rfl)) rfl ?_
  exact ⟨rfl, (f0.trans' k (fun q hq h => by omega)).drew⟩
end Go.Proofs.YtgikabafaocemaaDoor

namespace Go.Proofs.YtgikabafaocemaaDoor
open Go.RowKit

set_option maxRecDepth 100000 in
set_option maxHeartbeats 1000000 in
theorem isRun_any (n b e : Int) (w : World) :
    Calls Tryd.prog 39 #[.int .i64 n, .agg #[.int .i64 b, .int .i64 e]] w fun x w' => x = .returned (.bool (decide (0 ≤ b ∧ b < e ∧ e ≤ n))) ∧ Fresh w w' := by
  have f0 : Fresh w (w.alloc (spanC b e)) := (Keeps.refl _ _).alloc _
  unfold spanC at f0
  by_cases h1 : 0 ≤ b
  · by_cases h2 : b < e
    · by_cases h3 : e ≤ n
      · have hd : Hid (decide (0 ≤ b ∧ b < e ∧ e ≤ n) = true) := decide_eq_true ⟨h1, h2, h3⟩
        go_enter Tryd.func39, Tryd.ntmps39
        go_wp2_with fail
        go_ret
        exact ⟨by first | (rw [hd.out]; rfl) | simp [h1, h2, h3], f0⟩
      · have hd : Hid (decide (0 ≤ b ∧ b < e ∧ e ≤ n) = false) := decide_eq_false (by omega)
        go_enter Tryd.func39, Tryd.ntmps39
        go_wp2_with fail
        go_ret
        exact ⟨by first | (rw [hd.out]; rfl) | (simp; omega), f0⟩
    · have hd : Hid (decide (0 ≤ b ∧ b < e ∧ e ≤ n) = false) := decide_eq_false (by omega)
      go_enter Tryd.func39, Tryd.ntmps39
      go_wp2_with fail
      go_ret
      exact ⟨by first | (rw [hd.out]; rfl) | (simp; omega), f0⟩
  · have hd : Hid (decide (0 ≤ b ∧ b < e ∧ e ≤ n) = false) := decide_eq_false (by omega)
    go_enter Tryd.func39, Tryd.ntmps39
    go_wp2_with fail
    go_ret
    exact ⟨by first | (rw [hd.out]; rfl) | (simp; omega), f0⟩

set_option maxRecDepth 100000 in
set_option maxHeartbeats 1000000 in
theorem refrun_any (n b e : Int) (w : World) :
    Calls Tryd.prog 42 #[.int .i64 n, .agg #[.int .i64 b, .int .i64 e]] w fun x w' => x = .returned (.bool (decide (0 ≤ b ∧ b < e ∧ e ≤ n))) ∧ Fresh w w' := by
  have f0 : Fresh w (w.alloc (spanC b e)) := (Keeps.refl _ _).alloc _
  unfold spanC at f0
  by_cases h1 : 0 ≤ b
  · by_cases h2 : b < e
    · by_cases h3 : e ≤ n
      · have hd : Hid (decide (0 ≤ b ∧ b < e ∧ e ≤ n) = true) := decide_eq_true ⟨h1, h2, h3⟩
        go_enter Tryd.func42, Tryd.ntmps42
        go_wp2_with fail
        go_ret
        exact ⟨by first | (rw [hd.out]; rfl) | simp [h1, h2, h3], f0⟩
      · have hd : Hid (decide (0 ≤ b ∧ b < e ∧ e ≤ n) = false) := decide_eq_false (by omega)
        go_enter Tryd.func42, Tryd.ntmps42
        go_wp2_with fail
        go_ret
        exact ⟨by first | (rw [hd.out]; rfl) | (simp; omega), f0⟩
    · have hd : Hid (decide (0 ≤ b ∧ b < e ∧ e ≤ n) = false) := decide_eq_false (by omega)
      go_enter Tryd.func42, Tryd.ntmps42
      go_wp2_with fail
      go_ret
      exact ⟨by first | (rw [hd.out]; rfl) | (simp; omega), f0⟩
  · have hd : Hid (decide (0 ≤ b ∧ b < e ∧ e ≤ n) = false) := decide_eq_false (by omega)
    go_enter Tryd.func42, Tryd.ntmps42
    go_wp2_with fail
    go_ret
    exact ⟨by first | (rw [hd.out]; rfl) | (simp; omega), f0⟩

end Go.Proofs.YtgikabafaocemaaDoor

namespace Go.Proofs.YtgikabafaocemaaDoor
open Go.RowKit

theorem all32_take_succ {l : List (List UInt8)} {k : Nat} {s : List UInt8} (hs : l[k]? = some s) (h : all32P (l.take k)) (h32 : s.length = 32) : all32P (l.take (k + 1)) := by
  intro x hx
  rw [List.take_add_one, hs] at hx
  simp at hx
  rcases hx with hx | rfl
  · exact h x hx
  · exact h32

set_option maxRecDepth 100000 in
set_option maxHeartbeats 1000000 in
theorem notHash_any (s : List UInt8) (w : World) :
    Calls Tryd.prog 99 #[.string (str s)] w fun x w' => x = .returned (.bool (!decide (s.length = 32))) ∧ w = w' := by
  have hl := str_size s
  have hi : Calls Tryd.prog 100 #[.string (str s)] w fun x w' => x = .returned (.bool (decide (s.length = 32))) ∧ w = w' := by
    by_cases h : s.length = 32
    · have hd : Hid (decide (s.length = 32) = true) := by simp [Hid, h]
      go_enter Tryd.func100, Tryd.ntmps100
      go_wp2_with fail
      go_ret
      exact ⟨by simp [h], rfl⟩
    · go_enter Tryd.func100, Tryd.ntmps100
      go_wp2_with fail
      go_ret
      exact ⟨by simp [h]; omega, rfl⟩
  have HI := hid hi
  clear hi
  go_enter Tryd.func99, Tryd.ntmps99
  go_wp2_with fail
  refine HI.out.mono ?_
  rintro x w1 ⟨rfl, rfl⟩
  go_wp2_with fail
  go_ret
  exact ⟨by simp, rfl⟩

set_option maxRecDepth 100000 in
set_option maxHeartbeats 2000000 in
theorem refhashes_any (v : Value) (l : List (List UInt8)) (w : World) (hl : TextsAt w v l) (hn : l.length ≤ 9223372036854775807) :
    Calls Tryd.prog 91 #[v] w fun x w' => x = .returned (.bool (decide (all32P l))) ∧ Fresh w w' := by
  obtain ⟨ao, cap, rfl, hc⟩ := hl
  have HC := hid hc
  clear hc
  go_enter Tryd.func91, Tryd.ntmps91
  go_wp2_with fail
  go_loopw [3] (fun i wr => ∃ k : Nat, i = .int .i64 (k : Int) ∧ k ≤ l.length ∧ Hid (all32P (l.take k)) ∧ Fresh w wr) (fun i _ => l.length - (intOf i).toNat)
  case atStart => exact ⟨0, rfl, Nat.zero_le _, by intro x hx; simp at hx, Keeps.refl _ _⟩
  case round =>
    obtain ⟨k, rfl, hk, h32, fr⟩ := hrel
    by_cases hlt : k < l.length
    · obtain ⟨s, hs⟩ : ∃ s, l[k]? = some s := ⟨l[k], by simp [hlt]⟩
      obtain ⟨bb, off, rfl, hbb, hcw⟩ := HC.out k s hs
      have hcell := (fr.cell (p := ⟨bb, off + k, none⟩) hbb (fun h => h)).trans hcw
      have hsz := str_size s
      have HS := hid hs
      clear hcw hs
      by_cases h : s.length = 32
      · have hz : (str s).size = 32 := by omega
        go_wp2_with fail
        go_roundw
        case rel => exact ⟨k + 1, by simp, by omega, all32_take_succ HS.out h32.out h, fr⟩
        case measure => simp [intOf]; omega
      · have hz : (str s).size ≠ 32 := by omega
        go_wp2_with fail
        go_ret
        exact ⟨by rw [decide_eq_false (fun ha => h (ha s (List.mem_of_getElem? HS.out)))]; rfl, fr⟩
    · have hke : k = l.length := by omega
      have ha : all32P l := by
        have := h32.out
        rw [hke, List.take_length] at this
        exact this
      have HA := hid (decide_eq_true ha)
      clear ha h32 hke
      go_wp2_with fail
      go_ret
      exact ⟨by rw [HA.out]; rfl, fr⟩

set_option maxRecDepth 100000 in
set_option maxHeartbeats 2000000 in
theorem indexNot_any (v : Value) (l : List (List UInt8)) (w : World) (hl : TextsAt w v l) (hn : l.length ≤ 9223372036854775807) :
    Calls Tryd.prog 105 #[v, .func (.func 99) #[] #[]] w fun x w' => (∃ i : Int, x = .returned (.int .i64 i) ∧ Hid (if all32P l then i = -1 else 0 ≤ i)) ∧ Fresh w w' := by
  obtain ⟨ao, cap, rfl, hc⟩ := hl
  have HC := hid hc
  clear hc
  go_enter Tryd.func105, Tryd.ntmps105
  go_wp2_with fail
  go_loopw [8] (fun i wr => ∃ k : Nat, i = .int .i64 (k : Int) ∧ k ≤ l.length ∧ Hid (all32P (l.take k)) ∧ Fresh w wr) (fun i _ => l.length - (intOf i).toNat)
  case atStart => exact ⟨0, rfl, Nat.zero_le _, by intro x hx; simp at hx, Keeps.refl _ _⟩
  case round =>
    obtain ⟨k, rfl, hk, h32, fr⟩ := hrel
    by_cases hlt : k < l.length
    · obtain ⟨s, hs⟩ : ∃ s, l[k]? = some s := ⟨l[k], by simp [hlt]⟩
      obtain ⟨bb, off, rfl, hbb, hcw⟩ := HC.out k s hs
      have hcell := (fr.cell (p := ⟨bb, off + k, none⟩) hbb (fun h => h)).trans hcw
      have hcall := notHash_any s wr
      have HS := hid hs
      clear hcw hs
      by_cases h : s.length = 32
      · have hd : (!decide (s.length = 32)) = false := by simp [h]
        rw [hd] at hcall
        have HCL := hid hcall
        clear hcall hd
        go_wp2_with fail
        refine HCL.out.mono ?_
        rintro x w1 ⟨rfl, rfl⟩
        go_wp2_with fail
        go_roundw
        case rel => exact ⟨k + 1, by simp, by omega, all32_take_succ HS.out h32.out h, fr⟩
        case measure => simp [intOf]; omega
      · have hd : (!decide (s.length = 32)) = true := by simp [h]
        rw [hd] at hcall
        have HCL := hid hcall
        clear hcall hd
        have HN := hid (show ¬ all32P l from fun ha => h (ha s (List.mem_of_getElem? HS.out)))
        go_wp2_with fail
        refine HCL.out.mono ?_
        rintro x w1 ⟨rfl, rfl⟩
        go_wp2_with fail
        go_ret
        exact ⟨⟨(k : Int), rfl, by unfold Hid; first | omega | (rw [if_neg HN.out]; omega)⟩, fr⟩
    · have hke : k = l.length := by omega
      have ha : all32P l := by
        have := h32.out
        rw [hke, List.take_length] at this
        exact this
      have HA := hid ha
      clear ha h32 hke
      go_wp2_with fail
      go_ret
      exact ⟨⟨-1, rfl, by unfold Hid; first | rfl | rw [if_pos HA.out]⟩, fr⟩

set_option maxRecDepth 100000 in
set_option maxHeartbeats 1000000 in
theorem all_any (v : Value) (l : List (List UInt8)) (w : World) (hl : TextsAt w v l) (hn : l.length ≤ 9223372036854775807) :
    Calls Tryd.prog 60 #[v] w fun x w' => x = .returned (.bool (decide (all32P l))) ∧ Fresh w w' := by
  have hi := indexNot_any v l w hl hn
  have hcn : Calls Tryd.prog 69 #[v, .func (.func 99) #[] #[]] w fun x w' => x = .returned (.bool (!decide (all32P l))) ∧ Fresh w w' := by
    have HI := hid hi
    clear hi
    obtain ⟨ao, cap, rfl, -⟩ := hl
    go_enter Tryd.func69, Tryd.ntmps69
    go_wp2_with fail
    refine HI.out.mono ?_
    rintro x w1 ⟨⟨i, rfl, hi⟩, f1⟩
    have HH := hi
    clear hi
    by_cases ha : all32P l
    · have hi : i = -1 := by have := HH.out; rwa [if_pos ha] at this
      subst hi
      have HA := hid (decide_eq_true ha)
      clear ha HH
      go_wp2_with fail
      go_ret
      exact ⟨by rw [HA.out]; rfl, f1⟩
    · have hi : 0 ≤ i := by have := HH.out; rwa [if_neg ha] at this
      have HA := hid (decide_eq_false ha)
      clear ha HH
      go_wp2_with fail
      go_ret
      exact ⟨by rw [HA.out]; simp, f1⟩
  obtain ⟨ao, cap, rfl, -⟩ := hl
  have HC := hid hcn
  clear hcn hi
  go_enter Tryd.func60, Tryd.ntmps60
  go_wp2_with fail
  refine HC.out.mono ?_
  rintro x w1 ⟨rfl, f1⟩
  go_wp2_with fail
  go_ret
  exact ⟨by simp, f1⟩
end Go.Proofs.YtgikabafaocemaaDoor

namespace Go.Proofs.YtgikabafaocemaaDoor
open Go.RowKit Go.Shelf

attribute [local go_sem] Oper.semAt_some

/-- none of the run's, some, all -/
def lookOf (rb re b e : Nat) : Int := if e ≤ rb ∨ re ≤ b then 0 else if rb ≤ b ∧ e ≤ re then 2 else 1

set_option maxRecDepth 100000 in
set_option maxHeartbeats 1000000 in
theorem look_any (rb re b e sp : Nat) (w : World) (hs : w.heap[sp]? = some (spanC rb re)) :
    Calls Tryd.prog 65 #[spanV (b, e), .pointer (some ⟨sp, 0, none⟩)] w fun x w' => x = .returned (.int .i64 (lookOf rb re b e)) ∧ Fresh w w' := by
  have f0 : Fresh w (w.alloc (spanC b e)) := (Keeps.refl _ _).alloc _
  have hb := heap_alloc_new w (spanC b e)
  have hs0 := f0.at_ hs (fun h => h)
  unfold spanC at hb f0 hs0
  have c0 := cell_at hs0 0
  have c1 := cell_at hs0 1
  simp at c0 c1
  obtain ⟨L, hL⟩ : ∃ L, lookOf rb re b e = L := ⟨_, rfl⟩
  rw [hL]
  have HL : Hid ((if e ≤ rb ∨ re ≤ b then 0 else if rb ≤ b ∧ e ≤ re then 2 else 1) = L) := hL
  clear hL
  unfold spanV
  by_cases h1 : e ≤ rb
  · have hL : L = 0 := by rw [← HL.out, if_pos (.inl h1)]
    subst hL
    clear HL
    go_enter Tryd.func65, Tryd.ntmps65
    go_wp2_with fail
    go_ret
    exact ⟨rfl, f0⟩
  by_cases h2 : re ≤ b
  · have hL : L = 0 := by rw [← HL.out, if_pos (.inr h2)]
    subst hL
    clear HL
    go_enter Tryd.func65, Tryd.ntmps65
    go_wp2_with fail
    go_ret
    exact ⟨rfl, f0⟩
  by_cases h3 : rb ≤ b
  · by_cases h4 : e ≤ re
    · have hL : L = 2 := by rw [← HL.out, if_neg (by omega), if_pos ⟨h3, h4⟩]
      subst hL
      clear HL
      go_enter Tryd.func65, Tryd.ntmps65
      go_wp2_with fail
      go_ret
      exact ⟨rfl, f0⟩
    · have hL : L = 1 := by rw [← HL.out, if_neg (by omega), if_neg (by omega)]
      subst hL
      clear HL
      go_enter Tryd.func65, Tryd.ntmps65
      go_wp2_with fail
      go_ret
      exact ⟨rfl, f0⟩
  · have hL : L = 1 := by rw [← HL.out, if_neg (by omega), if_neg (by omega)]
    subst hL
    clear HL
    go_enter Tryd.func65, Tryd.ntmps65
    go_wp2_with fail
    go_ret
    exact ⟨rfl, f0⟩
/-- what a round keeps; what the iterator may count on -/
structure Guards (Kp : World → World → Prop) (Inv : World → Prop) (Safe : World → Nat → Prop) : Prop where
  keep : ∀ {A B : World} {q : Nat}, Inv A → Kp A B → Safe A q → B.heap[q]? = A.heap[q]? ∧ Safe B q
  inv : ∀ {A B : World}, Inv A → Kp A B → Inv B
  fresh : ∀ {A B : World} {q : Nat}, Inv A → Fresh A B → Safe A q → Safe B q
  invF : ∀ {A B : World}, Inv A → Fresh A B → Inv B
  new : ∀ {A B : World} {q : Nat} {c : Array Value} {e : TypeId} {fr : Nat × Nat}, Inv A → Fresh A B → A.heap.size ≤ q → B.heap[q]? = some (.cells c e fr) → Safe B q
  lt : ∀ {A : World} {q : Nat}, Safe A q → q < A.heap.size
def SafeKeep (Safe : World → Nat → Prop) (W W' : World) : Prop := ∀ q, Safe W q → W'.heap[q]? = W.heap[q]? ∧ Safe W' q
theorem SafeKeep.trans {Safe : World → Nat → Prop} {A B C : World} (h : SafeKeep Safe A B) (k : SafeKeep Safe B C) : SafeKeep Safe A C := fun q hq => ⟨(k q (h q hq).2).1.trans (h q hq).1, (k q (h q hq).2).2⟩
theorem Guards.kept {Kp : World → World → Prop} {Inv : World → Prop} {Safe : World → Nat → Prop} (G : Guards Kp Inv Safe) {A B : World} (hi : Inv A) (h : Kp A B) : SafeKeep Safe A B := fun _ hq => G.keep hi h hq
theorem Guards.freshK {Kp : World → World → Prop} {Inv : World → Prop} {Safe : World → Nat → Prop} (G : Guards Kp Inv Safe) {A B : World} (hi : Inv A) (h : Fresh A B) : SafeKeep Safe A B := fun q hq => ⟨h.block q (G.lt hq) (fun h => h), G.fresh hi h hq⟩
theorem Keeps.grownNone {w w' : World} (h : Keeps (fun _ => False) w w') : w.grownBy w' none := ⟨h.os, h.tape, h.output, h.size, fun i hi _ => h.block i hi (fun h => h)⟩
/-- the boxes that the iterator has -/
structure Boxes (Safe : World → Nat → Prop) (W : World) (l rb re sp lk yk wk : Nat) : Prop where
  s1 : Safe W sp
  s2 : Safe W lk
  s3 : Safe W yk
  s4 : Safe W wk
  b1 : W.heap[sp]? = some (spanC rb re)
  b2 : W.heap[lk]? = some (.cells #[.func (.func 65) #[] #[.pointer (some ⟨sp, 0, none⟩)]] 116 (0, 0))
  b3 : W.heap[yk]? = some (.cells #[.func (.yield l) #[] #[]] 142 (0, 0))
  b4 : W.heap[wk]? = some (.cells #[.func (.func 103) #[] #[.pointer (some ⟨lk, 0, none⟩), .pointer (some ⟨yk, 0, none⟩), .pointer (some ⟨wk, 0, none⟩)]] 142 (0, 0))
theorem Boxes.kept {Safe : World → Nat → Prop} {W W' : World} {l rb re sp lk yk wk : Nat} (h : Boxes Safe W l rb re sp lk yk wk) (k : SafeKeep Safe W W') : Boxes Safe W' l rb re sp lk yk wk :=
  ⟨(k _ h.s1).2, (k _ h.s2).2, (k _ h.s3).2, (k _ h.s4).2, (k _ h.s1).1.trans h.b1, (k _ h.s2).1.trans h.b2, (k _ h.s3).1.trans h.b3, (k _ h.s4).1.trans h.b4⟩

set_option maxRecDepth 100000 in
set_option maxHeartbeats 2000000 in
theorem walk_out (l rb re sp lk yk wk : Nat) (Kp : World → World → Prop) (Inv : World → Prop) (Safe : World → Nat → Prop) (G : Guards Kp Inv Safe) (J' Jx' : World → Prop) (b e n : Nat) (W : World) (hI : Inv W) (hB : Boxes Safe W l rb re sp lk yk wk) (hout : e ≤ rb ∨ re ≤ b)
    (hY : ∀ W1, W.grownBy W1 none → YieldAt Fence.wide (n - 1) Tryd.prog l #[spanV (b, e)] W1 fun e W' => (e = .returned (.bool true) ∧ J' W' ∧ Kp W1 W') ∨ (e = .returned (.bool false) ∧ Jx' W')) :
      CallsIn Fence.wide n Tryd.prog 103 #[spanV (b, e), .pointer (some ⟨lk, 0, none⟩), .pointer (some ⟨yk, 0, none⟩), .pointer (some ⟨wk, 0, none⟩)] W fun x W' =>
        (x = .returned (.bool true) ∧ J' W' ∧ Inv W' ∧ SafeKeep Safe W W') ∨ (x = .returned (.bool false) ∧ Jx' W') := by
  have f0 : Fresh W (W.alloc (spanC b e)) := (Keeps.refl _ _).alloc _
  have hb := heap_alloc_new W (spanC b e)
  have hB1 := hB.kept (G.freshK hI f0)
  have hlook := look_any rb re b e sp (W.alloc (spanC b e)) hB1.b1
  have c2 := cell_at hB1.b2 0
  simp at c2
  have hlo : lookOf rb re b e = 0 := by rw [lookOf, if_pos hout]
  rw [hlo] at hlook
  have HL := hid hlook
  clear hlook hB1
  unfold spanC at HL c2 hb f0
  unfold spanV at hY HL ⊢
  refine callsIn_of_wp Tryd.func103 rfl trivial ?_ rfl
  simp only [Tryd.ntmps103, List.size_toArray, List.length_cons, List.length_nil, Nat.reduceAdd, Nat.reduceSub, Array.replicate_succ, Array.replicate_zero, List.push_toArray, List.append_toArray, List.nil_append, List.cons_append]
  gi_wp2
  refine ⟨trivial, fun h => (by cases h), ?_⟩
  refine (callsIn_wide.2 HL.out).mono ?_
  rintro x w1 ⟨rfl, fa⟩
  have hb := fa.at_ hb (fun h => h)
  have f1 := f0.trans fa
  have hB2 := hB.kept (G.freshK hI f1)
  have hI2 := G.invF hI f1
  have c0 := cell_at hb 0
  have c1 := cell_at hb 1
  have c3 := cell_at hB2.b3 0
  simp at c0 c1 c3
  obtain ⟨fn, tmps, assign, body, hy, hR⟩ := hY w1 f1.grownNone
  clear fa f0 c2 HL
  gi_wp2
  refine ⟨fun h => (by cases h), ?_⟩
  refine hR.mono ?_
  rintro x W3 (⟨rfl, hJ3, hk3⟩ | ⟨rfl, hJx3⟩)
  · gi_wp2
    go_ret
    exact .inl ⟨rfl, hJ3, G.inv hI2 hk3, (G.freshK hI f1).trans (G.kept hI2 hk3)⟩
  · gi_wp2
    go_ret
    exact .inr ⟨rfl, hJx3⟩

set_option maxRecDepth 100000 in
set_option maxHeartbeats 2000000 in
theorem walk_every (l rb re sp lk yk wk : Nat) (Kp : World → World → Prop) (Inv : World → Prop) (Safe : World → Nat → Prop) (G : Guards Kp Inv Safe) (b e n : Nat) (W : World) (hI : Inv W) (hB : Boxes Safe W l rb re sp lk yk wk) (hout : ¬ (e ≤ rb ∨ re ≤ b)) (hin : rb ≤ b ∧ e ≤ re) :
      CallsIn Fence.wide n Tryd.prog 103 #[spanV (b, e), .pointer (some ⟨lk, 0, none⟩), .pointer (some ⟨yk, 0, none⟩), .pointer (some ⟨wk, 0, none⟩)] W fun x W' =>
        x = .returned (.bool true) ∧ Fresh W W' := by
  have f0 : Fresh W (W.alloc (spanC b e)) := (Keeps.refl _ _).alloc _
  have hb := heap_alloc_new W (spanC b e)
  have hB1 := hB.kept (G.freshK hI f0)
  have hlook := look_any rb re b e sp (W.alloc (spanC b e)) hB1.b1
  have c2 := cell_at hB1.b2 0
  simp at c2
  have hlo : lookOf rb re b e = 2 := by rw [lookOf, if_neg hout, if_pos hin]
  rw [hlo] at hlook
  have HL := hid hlook
  clear hlook hB1
  unfold spanC at HL c2 hb f0
  unfold spanV at HL ⊢
  refine callsIn_of_wp Tryd.func103 rfl trivial ?_ rfl
  simp only [Tryd.ntmps103, List.size_toArray, List.length_cons, List.length_nil, Nat.reduceAdd, Nat.reduceSub, Array.replicate_succ, Array.replicate_zero, List.push_toArray, List.append_toArray, List.nil_append, List.cons_append]
  gi_wp2
  refine ⟨trivial, fun h => (by cases h), ?_⟩
  refine (callsIn_wide.2 HL.out).mono ?_
  rintro x w1 ⟨rfl, fa⟩
  gi_wp2
  go_ret
  exact ⟨rfl, f0.trans fa⟩

set_option maxRecDepth 100000 in
set_option maxHeartbeats 4000000 in
theorem walk_in (l rb re sp lk yk wk N : Nat) (Kp : World → World → Prop) (Inv : World → Prop) (Safe : World → Nat → Prop) (G : Guards Kp Inv Safe) (J Jx : List (Nat × Nat) → World → Prop)
    (hJ : ∀ s W W', J s W → W.grownBy W' none → J s W')
    (hY : ∀ m pre (x : Nat × Nat) W, J pre W → pre.length < N → YieldAt Fence.wide m Tryd.prog l #[spanV x] W fun e W' => (e = .returned (.bool true) ∧ J (pre ++ [x]) W' ∧ Kp W W') ∨ (e = .returned (.bool false) ∧ Jx (pre ++ [x]) W')) :
    ∀ (f b e n : Nat) (pre : List (Nat × Nat)) (W : World), b < e → e - b ≤ 2 ^ f → e ≤ 2199023255552 → pre.length + (toldF f rb re b e).length ≤ N → J pre W → Inv W → Boxes Safe W l rb re sp lk yk wk →
      CallsIn Fence.wide n Tryd.prog 103 #[spanV (b, e), .pointer (some ⟨lk, 0, none⟩), .pointer (some ⟨yk, 0, none⟩), .pointer (some ⟨wk, 0, none⟩)] W fun x W' =>
        (x = .returned (.bool true) ∧ J (pre ++ toldF f rb re b e) W' ∧ Inv W' ∧ SafeKeep Safe W W') ∨ (x = .returned (.bool false) ∧ ∃ q, Jx q W') := by
  intro f
  induction f with
  | zero =>
    intro b e n pre W hbe hf he hN hJp hI hB
    have : e = b + 1 := by simp at hf; omega
    subst this
    by_cases hout : b + 1 ≤ rb ∨ re ≤ b
    · have ht : toldF 0 rb re b (b + 1) = [(b, b + 1)] := by rw [toldF, if_pos (by omega)]
      rw [ht] at hN ⊢
      refine (walk_out l rb re sp lk yk wk Kp Inv Safe G (J (pre ++ [(b, b + 1)])) (Jx (pre ++ [(b, b + 1)])) b (b + 1) n W hI hB hout (fun W1 hg => hY _ pre (b, b + 1) W1 (hJ _ _ _ hJp hg) (by simp at hN; omega))).mono ?_
      rintro x W' (h | ⟨h1, h2⟩)
      · exact .inl h
      · exact .inr ⟨h1, _, h2⟩
    · have ht : toldF 0 rb re b (b + 1) = [] := by rw [toldF, if_neg (by omega)]
      rw [ht]
      refine (walk_every l rb re sp lk yk wk Kp Inv Safe G b (b + 1) n W hI hB hout (by omega)).mono ?_
      rintro x W' ⟨rfl, f1⟩
      exact .inl ⟨rfl, by simpa using hJ _ _ _ hJp f1.grownNone, G.invF hI f1, G.freshK hI f1⟩
  | succ f ih =>
    intro b e n pre W hbe hf he hN hJp hI hB
    by_cases hout : e ≤ rb ∨ re ≤ b
    · have ht : toldF (f + 1) rb re b e = [(b, e)] := by rw [toldF, if_pos (by omega)]
      rw [ht] at hN ⊢
      refine (walk_out l rb re sp lk yk wk Kp Inv Safe G (J (pre ++ [(b, e)])) (Jx (pre ++ [(b, e)])) b e n W hI hB hout (fun W1 hg => hY _ pre (b, e) W1 (hJ _ _ _ hJp hg) (by simp at hN; omega))).mono ?_
      rintro x W' (h | ⟨h1, h2⟩)
      · exact .inl h
      · exact .inr ⟨h1, _, h2⟩
    by_cases hin : rb ≤ b ∧ e ≤ re
    · have ht : toldF (f + 1) rb re b e = [] := by rw [toldF, if_neg (by omega), if_pos hin]
      rw [ht]
      refine (walk_every l rb re sp lk yk wk Kp Inv Safe G b e n W hI hB hout hin).mono ?_
      rintro x W' ⟨rfl, f1⟩
      exact .inl ⟨rfl, by simpa using hJ _ _ _ hJp f1.grownNone, G.invF hI f1, G.freshK hI f1⟩
    have hbe2 : b + 2 ≤ e := by omega
    obtain ⟨g1, g2, g3⟩ := splitN_facts (n := e - b) (by omega)
    have g4 := splitN_le (n := e - b) (f := f) (by omega) hf
    have ht : toldF (f + 1) rb re b e = toldF f rb re b (b + splitN (e - b)) ++ toldF f rb re (b + splitN (e - b)) e := by rw [toldF, if_neg (by omega), if_neg hin]
    rw [ht] at hN ⊢
    rw [List.length_append] at hN
    have f0 : Fresh W (W.alloc (spanC b e)) := (Keeps.refl _ _).alloc _
    have hb := heap_alloc_new W (spanC b e)
    have hB1 := hB.kept (G.freshK hI f0)
    have hlook := look_any rb re b e sp (W.alloc (spanC b e)) hB1.b1
    have c2 := cell_at hB1.b2 0
    simp at c2
    have hlo : lookOf rb re b e = 1 := by rw [lookOf, if_neg hout, if_neg hin]
    rw [hlo] at hlook
    have hhalf := fun w => halves_any b e hbe2 he w
    obtain ⟨M, hM⟩ : ∃ M, b + splitN (e - b) = M := ⟨_, rfl⟩
    rw [hM] at hN hhalf ⊢
    have HL := hid hlook
    have HH := hid hhalf
    have IH := hid ih
    clear hlook hB1 hhalf ih
    unfold spanC at HL c2 hb f0
    unfold spanV at HL HH ⊢
    refine callsIn_of_wp Tryd.func103 rfl trivial ?_ rfl
    simp only [Tryd.ntmps103, List.size_toArray, List.length_cons, List.length_nil, Nat.reduceAdd, Nat.reduceSub, Array.replicate_succ, Array.replicate_zero, List.push_toArray, List.append_toArray, List.nil_append, List.cons_append]
    gi_wp2
    refine ⟨trivial, fun h => (by cases h), ?_⟩
    refine (callsIn_wide.2 HL.out).mono ?_
    rintro x w1 ⟨rfl, fa⟩
    have hb := fa.at_ hb (fun h => h)
    have f1 := f0.trans fa
    have c0 := cell_at hb 0
    have c1 := cell_at hb 1
    simp at c0 c1
    clear fa f0 c2 HL
    gi_wp2
    refine ⟨trivial, fun h => (by cases h), ?_⟩
    refine (callsIn_wide.2 (HH.out w1)).mono ?_
    rintro x w2 ⟨rfl, fa⟩
    have f2 := f1.trans fa
    have hB2 := hB.kept (G.freshK hI f2)
    have hwk := G.lt hB2.s4
    have c3 := cell_at hB2.b4 0
    simp at c3
    clear fa f1 c0 c1 HH
    gi_wp2
    have f3 : Fresh W ((w2.alloc (.cells #[.int .i64 (b : Int), .int .i64 (M : Int)] 24)).alloc (.cells #[.int .i64 (M : Int), .int .i64 (e : Int)] 24)) := (f2.alloc _).alloc _
    have hb7 := heap_alloc_new (w2.alloc (.cells #[.int .i64 (b : Int), .int .i64 (M : Int)] 24)) (.cells #[.int .i64 (M : Int), .int .i64 (e : Int)] 24)
    rw [World.size_alloc] at hb7
    have hsz2 := f2.size
    generalize (w2.alloc (.cells #[.int .i64 (b : Int), .int .i64 (M : Int)] 24)).alloc (.cells #[.int .i64 (M : Int), .int .i64 (e : Int)] 24) = W3 at f3 hb7 ⊢
    have hI3 := G.invF hI f3
    have hB3 := hB.kept (G.freshK hI f3)
    have h7s := G.new hI f3 (by omega) hb7
    have hc := IH.out b M (n - 1) pre W3 (by omega) (by omega) (by omega) (by omega) (hJ _ _ _ hJp f3.grownNone) hI3 hB3
    refine ⟨trivial, fun h => (by cases h), ?_⟩
    refine hc.mono ?_
    clear hc hB2 hwk c3 hb
    rintro x w4 (⟨rfl, hJ4, hI4, k4⟩ | ⟨rfl, q, hx⟩)
    · have hB4 := hB3.kept k4
      have hb4 := (k4 _ h7s).1.trans hb7
      have c7 := cell_at hb4 0
      have c7' := cell_at hb4 1
      have c3 := cell_at hB4.b4 0
      simp at c3 c7 c7'
      clear hb7 hb4 hB3
      gi_wp2
      refine ⟨trivial, fun h => (by cases h), ?_⟩
      refine (IH.out M e (n - 1) _ w4 (by omega) (by omega) (by omega) (by rw [List.length_append]; omega) hJ4 hI4 hB4).mono ?_
      rintro x w5 (⟨rfl, hJ5, hI5, k5⟩ | ⟨rfl, q, hx⟩)
      · gi_wp2
        go_ret
        exact .inl ⟨rfl, by rw [← List.append_assoc]; exact hJ5, hI5, (G.freshK hI f3).trans (k4.trans k5)⟩
      · gi_wp2
        go_ret
        exact .inr ⟨rfl, q, hx⟩
    · gi_wp2
      refine ⟨fun _ h => (by cases h), ?_⟩
      gi_wp2
      go_ret
      exact .inr ⟨rfl, q, hx⟩
end Go.Proofs.YtgikabafaocemaaDoor

namespace Go.Proofs.YtgikabafaocemaaDoor
open Go.RowKit Go.Shelf

attribute [local go_sem] Oper.semAt_some

theorem run_store_func {P : Program} {w : World} {a : Addr} {m : Mode} (f : Fn) (ts cs : Array Value) : (store a (.func f ts cs) m).run P w = stored P w a (.func f ts cs) m := run_store P w a _ m rfl
attribute [local go_sem] run_store_func

set_option maxRecDepth 100000 in
set_option maxHeartbeats 1000000 in
theorem rest_any (b e sp : Nat) (w : World) :
    Calls Tryd.prog 64 #[spanV (b, e), .func (.func 65) #[] #[.pointer (some ⟨sp, 0, none⟩)]] w fun x w' =>
      x = .returned (.func (.func 102) #[] #[.pointer (some ⟨w.heap.size + 1, 0, none⟩), .pointer (some ⟨w.heap.size, 0, none⟩)]) ∧
        w' = (w.alloc (spanC b e)).alloc (.cells #[.func (.func 65) #[] #[.pointer (some ⟨sp, 0, none⟩)]] 116) := by
  unfold spanV spanC
  go_enter Tryd.func64, Tryd.ntmps64
  go_wp2_with fail
  go_ret
  exact ⟨rfl, rfl⟩

set_option maxRecDepth 100000 in
set_option maxHeartbeats 2000000 in
theorem rest1_in (l rb re b e sp lk xk N f n : Nat) (Kp : World → World → Prop) (Inv : World → Prop) (Safe : World → Nat → Prop) (G : Guards Kp Inv Safe) (J Jx : List (Nat × Nat) → World → Prop)
    (hJ : ∀ s W W', J s W → W.grownBy W' none → J s W')
    (hY : ∀ m pre (x : Nat × Nat) W, J pre W → pre.length < N → YieldAt Fence.wide m Tryd.prog l #[spanV x] W fun e W' => (e = .returned (.bool true) ∧ J (pre ++ [x]) W' ∧ Kp W W') ∨ (e = .returned (.bool false) ∧ Jx (pre ++ [x]) W'))
    (W : World) (hbe : b < e) (hf : e - b ≤ 2 ^ f) (he : e ≤ 2199023255552) (hN : (toldF f rb re b e).length ≤ N) (hJp : J [] W) (hI : Inv W)
    (s1 : Safe W sp) (s2 : Safe W lk) (b1 : W.heap[sp]? = some (spanC rb re))
    (b2 : W.heap[lk]? = some (.cells #[.func (.func 65) #[] #[.pointer (some ⟨sp, 0, none⟩)]] 116 (0, 0)))
    (b3 : W.heap[xk]? = some (spanC b e)) :
      CallsIn Fence.wide n Tryd.prog 102 #[.func (.yield l) #[] #[], .pointer (some ⟨lk, 0, none⟩), .pointer (some ⟨xk, 0, none⟩)] W fun x W' =>
        (∃ v, x = .returned v) ∧ ((∃ ys, ys = toldF f rb re b e ∧ J ys W') ∨ (∃ pre, True ∧ Jx pre W')) := by
  have hxl := lt_of_block b3
  have x0 := cell_at b3 0
  have x1 := cell_at b3 1
  simp at x0 x1
  refine callsIn_of_wp Tryd.func102 rfl trivial ?_ rfl
  simp only [Tryd.ntmps102, List.size_toArray, List.length_cons, List.length_nil, Nat.reduceAdd, Nat.reduceSub, Array.replicate_succ, Array.replicate_zero, List.push_toArray, List.append_toArray, List.nil_append, List.cons_append]
  gi_wp2
  have fy : Fresh W (W.alloc (.cells #[.func (.yield l) #[] #[]] 142)) := (Keeps.refl _ _).alloc _
  have hy := heap_alloc_new W (.cells #[.func (.yield l) #[] #[]] 142)
  have hy := ((Keeps.refl (fun _ => False) _).alloc (.cells #[.func (.func 103) #[] #[.pointer (some ⟨lk, 0, none⟩), .pointer (some ⟨W.heap.size, 0, none⟩), .pointer (some ⟨W.heap.size + 1, 0, none⟩)]] 142)).at_ hy (fun h => h)
  have hw := heap_alloc_new (W.alloc (.cells #[.func (.yield l) #[] #[]] 142)) (.cells #[.func (.func 103) #[] #[.pointer (some ⟨lk, 0, none⟩), .pointer (some ⟨W.heap.size, 0, none⟩), .pointer (some ⟨W.heap.size + 1, 0, none⟩)]] 142)
  rw [World.size_alloc] at hw
  have f3 := fy.alloc (.cells #[.func (.func 103) #[] #[.pointer (some ⟨lk, 0, none⟩), .pointer (some ⟨W.heap.size, 0, none⟩), .pointer (some ⟨W.heap.size + 1, 0, none⟩)]] 142)
  generalize (W.alloc (.cells #[.func (.yield l) #[] #[]] 142)).alloc (.cells #[.func (.func 103) #[] #[.pointer (some ⟨lk, 0, none⟩), .pointer (some ⟨W.heap.size, 0, none⟩), .pointer (some ⟨W.heap.size + 1, 0, none⟩)]] 142) = W3 at hy hw f3 ⊢
  have k3 := G.freshK hI f3
  have hB : Boxes Safe W3 l rb re sp lk W.heap.size (W.heap.size + 1) := ⟨(k3 _ s1).2, (k3 _ s2).2, G.new hI f3 (Nat.le_refl _) hy, G.new hI f3 (by omega) hw, (k3 _ s1).1.trans b1, (k3 _ s2).1.trans b2, hy, hw⟩
  refine ⟨trivial, fun h => (by cases h), ?_⟩
  refine (walk_in l rb re sp lk W.heap.size (W.heap.size + 1) N Kp Inv Safe G J Jx hJ hY f b e (n - 1) [] W3 hbe hf he (by simpa using hN) (hJ _ _ _ hJp f3.grownNone) (G.invF hI f3) hB).mono ?_
  rintro x w4 (⟨rfl, hJ4, -, -⟩ | ⟨rfl, q, hx⟩)
  · gi_wp2
    go_end0
    exact ⟨⟨_, rfl⟩, .inl ⟨_, rfl, by simpa using hJ4⟩⟩
  · gi_wp2
    go_end0
    exact ⟨⟨_, rfl⟩, .inr ⟨q, trivial, hx⟩⟩
end Go.Proofs.YtgikabafaocemaaDoor

namespace Go.Proofs.YtgikabafaocemaaDoor
open Go.RowKit Go.Shelf

attribute [local go_sem] Oper.semAt_some

theorem wide_room (k : Nat) : Fence.wide.room k := fun d h => by cases h
theorem yield_any {m : Nat} (m' : Nat) {P : Program} {l : Nat} {args : Array Value} {W : World} {R : Ending → World → Prop} (h : YieldAt Fence.wide m P l args W R) : YieldAt Fence.wide m' P l args W R := by
  obtain ⟨fn, tmps, assign, body, hy, hR⟩ := h
  exact ⟨fn, tmps, assign, body, hy, hR.1, fun c cs _ => hR.2 c cs (wide_room _)⟩

def spanCells (l : List (Nat × Nat)) : List Value := l.flatMap fun x => [.int .i64 (x.1 : Int), .int .i64 (x.2 : Int)]
theorem spanCells_snoc (l : List (Nat × Nat)) (x : Nat × Nat) : spanCells (l ++ [x]) = spanCells l ++ [.int .i64 (x.1 : Int), .int .i64 (x.2 : Int)] := by simp [spanCells]

/-- the box of the list that is collected -/
def OutBox (hn : Nat) (W : World) (v : Value) : Prop := W.heap[hn]? = some (.cells #[v] 60 (0, 0))
def OwnsB (hn : Nat) (W : World) (q : Nat) : Prop := ∃ v, OutBox hn W v ∧ v.ownBlock = some q
def InvB (hn : Nat) (W : World) : Prop := (∃ v, OutBox hn W v) ∧ ∀ q, OwnsB hn W q → q < W.heap.size
def SafeB (hn : Nat) (W : World) (q : Nat) : Prop := q ≠ hn ∧ ¬ OwnsB hn W q ∧ ∃ c e fr, W.heap[q]? = some (.cells c e fr)
def KpB (hn : Nat) (A B : World) : Prop := InvB hn A → A.heap.size ≤ B.heap.size ∧ InvB hn B ∧ (∀ q c e fr, q ≠ hn → ¬ OwnsB hn A q → A.heap[q]? = some (.cells c e fr) → B.heap[q]? = some (.cells c e fr)) ∧ ∀ q, OwnsB hn B q → OwnsB hn A q ∨ A.heap.size ≤ q
theorem OutBox.fun_ {hn : Nat} {W : World} {v v' : Value} (h : OutBox hn W v) (h' : OutBox hn W v') : v = v' := by
  unfold OutBox at h h'
  rw [h] at h'
  simpa using h'
theorem ownsB_same {hn : Nat} {A B : World} (h : B.heap[hn]? = A.heap[hn]?) (q : Nat) : OwnsB hn B q ↔ OwnsB hn A q := by
  unfold OwnsB OutBox
  rw [h]
theorem InvB.same {hn : Nat} {A B : World} (h : B.heap[hn]? = A.heap[hn]?) (hs : A.heap.size ≤ B.heap.size) (hi : InvB hn A) : InvB hn B := by
  refine ⟨?_, fun q hq => Nat.lt_of_lt_of_le (hi.2 q ((ownsB_same h q).1 hq)) hs⟩
  obtain ⟨v, hv⟩ := hi.1
  exact ⟨v, h.trans hv⟩
theorem InvB.lt {hn : Nat} {A : World} (hi : InvB hn A) : hn < A.heap.size := by
  obtain ⟨v, hv⟩ := hi.1
  exact lt_of_block hv
theorem kpB_fresh {hn : Nat} {A B : World} (f : Fresh A B) : KpB hn A B := fun hi => by
  have h := f.block hn hi.lt (fun h => h)
  exact ⟨f.size, hi.same h f.size, fun q c e fr _ _ hq => f.at_ hq (fun h => h), fun q hq => .inl ((ownsB_same h q).1 hq)⟩
theorem kpB_trans {hn : Nat} {A B C : World} (h : KpB hn A B) (k : KpB hn B C) : KpB hn A C := fun hi => by
  obtain ⟨h1, h2, h3, h4⟩ := h hi
  obtain ⟨k1, k2, k3, k4⟩ := k h2
  refine ⟨Nat.le_trans h1 k1, k2, fun q c e fr hq hn hc => k3 q c e fr hq (fun ho => ?_) (h3 q c e fr hq hn hc), fun q hq => ?_⟩
  · rcases h4 q ho with h5 | h5
    · exact hn h5
    · have := lt_of_block hc; omega
  · rcases k4 q hq with h5 | h5
    · exact h4 q h5
    · exact .inr (by omega)
theorem guardsB (hn : Nat) : Guards (KpB hn) (InvB hn) (SafeB hn) where
  keep := fun hi hk hs => by
    obtain ⟨h1, h2, c, e, fr, h3⟩ := hs
    obtain ⟨k1, k2, k3, k4⟩ := hk hi
    have := k3 _ c e fr h1 h2 h3
    refine ⟨this.trans h3.symm, h1, fun ho => ?_, c, e, fr, this⟩
    rcases k4 _ ho with h5 | h5
    · exact h2 h5
    · have := lt_of_block h3; omega
  inv := fun hi hk => (hk hi).2.1
  fresh := fun hi f hs => by
    obtain ⟨h1, h2, c, e, fr, h3⟩ := hs
    exact ⟨h1, fun ho => h2 ((ownsB_same (f.block hn hi.lt (fun h => h)) _).1 ho), c, e, fr, f.at_ h3 (fun h => h)⟩
  invF := fun hi f => hi.same (f.block hn hi.lt (fun h => h)) f.size
  new := fun hi f hq hc => ⟨fun e => by have := hi.lt; omega, fun ho => by have := hi.2 _ ((ownsB_same (f.block hn hi.lt (fun h => h)) _).1 ho); omega, _, _, _, hc⟩
  lt := fun hs => by
    obtain ⟨_, _, c, e, fr, h3⟩ := hs
    exact lt_of_block h3

theorem restSeq (rb re b e sp lk xk f n hn : Nat) (W0 : World) (hbe : b < e) (hf : e - b ≤ 2 ^ f) (he : e ≤ 2199023255552) (hI : InvB hn W0)
    (s1 : SafeB hn W0 sp) (s2 : SafeB hn W0 lk) (b1 : W0.heap[sp]? = some (spanC rb re))
    (b2 : W0.heap[lk]? = some (.cells #[.func (.func 65) #[] #[.pointer (some ⟨sp, 0, none⟩)]] 116 (0, 0)))
    (b3 : W0.heap[xk]? = some (spanC b e)) :
    SeqStopsK Fence.wide n Tryd.prog 102 #[.pointer (some ⟨lk, 0, none⟩), .pointer (some ⟨xk, 0, none⟩)] (fun x : Nat × Nat => #[spanV x]) (KpB hn)
      (fun ys => ys = toldF f rb re b e) (fun _ => True) (toldF f rb re b e).length W0 := fun l J Jx W hW hJ _ hY h0 => by
  have fr : Fresh W0 W := (Keeps.of_below hW).mono (fun i hi h => by omega)
  have G := guardsB hn
  exact rest1_in l rb re b e sp lk xk _ f n (KpB hn) (InvB hn) (SafeB hn) G J Jx (fun s A B h1 h2 => hJ s A B none h1 h2 (fun r e => by cases e)) (fun m pre x W1 h1 h2 => yield_any m (hY pre x W1 h1 h2)) W hbe hf he (Nat.le_refl _) h0
    (G.invF hI fr) (G.fresh hI fr s1) (G.fresh hI fr s2) (fr.at_ b1 (fun h => h)) (fr.at_ b2 (fun h => h)) (fr.at_ b3 (fun h => h))
end Go.Proofs.YtgikabafaocemaaDoor

namespace Go.Proofs.YtgikabafaocemaaDoor
open Go.RowKit Go.Shelf

attribute [local go_sem] Oper.semAt_some

theorem wpListIn_pushN {F : Fence} {nF : Nat} {P : Program} {ops : Array Oper} {rest : List Oper} {o : Oper} {a : Act} {Q : Exit → Act → World → Prop} (hgd : o.guard = none) (s x : Operand) (t : TypeId)
    (ho : o.op = .call { callee := .builtin .append, args := #[s, x], argTypes := #[t, t] })
    (e : TypeId) (i : TypeInfo) (z : Value) (size bytes : Nat) (ht : P.underlying t = some (.slice e)) (hi : P.info? e = some i) (hz : i.zero = some z) (hsize : i.size = size) (hby : i.bytes = bytes) (hzs : z.cells.size = size) (hsz : 0 < size)
    {v : Value} {n : Nat} {xs : List Value} (w0 : World) (hown : w0.ownsRow 0 e size v n xs) (us : Array Value) (hul : us.size = size) (hs : a.eval s = v) (hx : a.eval x = .slice (some ⟨w0.heap.size, 0, none⟩) 1 1) (hone : ∀ u ∈ us.toList, u.oneCell' = true)
    (hb : (n + 1) * bytes ≤ 140737488355328) (hn : n + 1 ≤ maxLen)
    (h : ∀ v' w', Appended e size w0 w' v v' (n + 1) (xs ++ us.toList) → wpListIn F nF P ops Q rest (a.put o.dst v') w') : wpListIn F nF P ops Q (o :: rest) a (w0.alloc (.cells us e)) := by
  refine wpListIn_plain hgd fun K hK => ?_
  have hnew := heap_alloc_new w0 (.cells us e)
  have hsrc : Src P size t (.slice (some ⟨w0.heap.size, 0, none⟩) 1 1) 1 us.toList (w0.alloc (.cells us e)) := Src.ofSlice _ ht _ 1 1 us.toList (by simp; omega) (fun j y hj => by
    rw [addr_add0, cell_at hnew]
    simpa using hj) (fun y hy => hone y hy)
  obtain ⟨v', w', hr, ⟨h1, h2, h3⟩, h4⟩ := run_append_row (P := P) (w0.alloc (.cells us e)) t t o.type e i z size bytes ht hi hz hsize hby hzs hsz v n xs (hown.alloc _) _ 1 us.toList hsrc hn hb
  unfold Oper.wpIn
  refine ⟨by simp [Oper.about, ho, resolve, Target.leads, Sem.run_pure], ?_⟩
  rw [Oper.semAt_plain F _ _ (by rw [ho]; intro c hc'; cases hc')]
  simp [execOp, ho, resolve, invoke, builtin, hs, hx, hr, Result.andThen]
  refine hK _ _ (h v' w' ⟨h1, ((Keeps.refl _ w0).alloc _).trans h2, fun g hg => ?_⟩)
  rcases h3 g hg with h | h
  · exact .inl h
  · have := h.1; simp at this; exact .inr ⟨by omega, h.2⟩

theorem ownsRow_grown {w w' : World} {row : Option Nat} {base : Nat} {e : TypeId} {size : Nat} {v : Value} {n : Nat} {xs : List Value} (h : w.ownsRow base e size v n xs) (hg : w.grownBy w' row) (hr : ∀ r, row = some r → ∃ o : Obj, w.heap[r]? = some o ∧ o.isCells = false) : w'.ownsRow base e size v n xs := by
  refine ⟨h.1, ?_⟩
  rcases h.2 with h2 | ⟨g, cap, cur, rfl, hb, hgc, r⟩
  · exact .inl h2
  · refine .inr ⟨g, cap, cur, rfl, hb, (hg.block g (lt_of_block hgc) (fun e => ?_)).trans hgc, r⟩
    obtain ⟨o, ho, hn⟩ := hr g e.symm
    rw [hgc] at ho
    cases ho
    cases hn
theorem heap_grown {w w' : World} {row : Option Nat} {k : Nat} {c : Array Value} {e : TypeId} {fr : Nat × Nat} (h : w.heap[k]? = some (.cells c e fr)) (hg : w.grownBy w' row) (hr : ∀ r, row = some r → ∃ o : Obj, w.heap[r]? = some o ∧ o.isCells = false) : w'.heap[k]? = some (.cells c e fr) := by
  refine (hg.block k (lt_of_block h) (fun e => ?_)).trans h
  obtain ⟨o, ho, hn⟩ := hr k e.symm
  rw [h] at ho
  cases ho
  cases hn

theorem row_own_cells {w : World} {base : Nat} {e : TypeId} {size : Nat} {v : Value} {n : Nat} {xs : List Value} {g : Nat} (h : w.ownsRow base e size v n xs) (hg : v.ownBlock = some g) : ∃ cur, w.heap[g]? = some (.cells cur e (0, 0)) := by
  obtain ⟨_, ⟨rfl, _⟩ | ⟨g', cap, cur, rfl, _, hb, _⟩⟩ := h
  · simp [Value.ownBlock] at hg
  · simp [Value.ownBlock] at hg
    subst hg
    exact ⟨cur, hb⟩

theorem Tryd.infoSpan : (Tryd.prog.info? 24).map (fun i => (i.zero, i.size, i.bytes)) = some (some (.agg #[.int .i64 0, .int .i64 0]), 2, 16) := by kernel_rfl

set_option maxRecDepth 100000 in
set_option maxHeartbeats 4000000 in
theorem appendSeq_any (rb re b e sp lk xk f : Nat) (w : World) (hbe : b < e) (hf : e - b ≤ 2 ^ f) (he : e ≤ 2199023255552) (hlen : (toldF f rb re b e).length ≤ 1000000)
    (b1 : w.heap[sp]? = some (spanC rb re))
    (b2 : w.heap[lk]? = some (.cells #[.func (.func 65) #[] #[.pointer (some ⟨sp, 0, none⟩)]] 116 (0, 0)))
    (b3 : w.heap[xk]? = some (spanC b e)) :
    Calls Tryd.prog 101 #[.slice none 0 0, .func (.func 102) #[] #[.pointer (some ⟨lk, 0, none⟩), .pointer (some ⟨xk, 0, none⟩)]] w fun x w' =>
      ∃ v, x = .returned v ∧ w'.ownsRow 0 24 2 v (toldF f rb re b e).length (spanCells (toldF f rb re b e)) ∧ (∀ g, v.ownBlock = some g → w.heap.size ≤ g) ∧ Fresh w w' := by
  obtain ⟨i0, hi, hz0, hz1, hz2⟩ := info_parts Tryd.infoSpan
  obtain ⟨L, hL⟩ : ∃ L, toldF f rb re b e = L := ⟨_, rfl⟩
  rw [hL] at hlen ⊢
  refine (callsIn_wide (n := 9)).1 (callsIn_of_wp_marks Tryd.func101 rfl trivial ?_ rfl)
  refine wpIn_wide.2 ?_
  simp only [Tryd.ntmps101, List.size_toArray, List.length_cons, List.length_nil, Nat.reduceAdd, Nat.reduceSub, Array.replicate_succ, Array.replicate_zero, List.push_toArray, List.append_toArray, List.nil_append, List.cons_append]
  go_wp2_with fail
  have f6 : Fresh w (w.alloc (.cells #[.slice none 0 0] 60)) := (Keeps.refl _ _).alloc _
  have hbox : OutBox w.heap.size (w.alloc (.cells #[.slice none 0 0] 60)) (.slice none 0 0) := heap_alloc_new w _
  have hs6 : (w.alloc (.cells #[.slice none 0 0] 60)).heap.size = w.heap.size + 1 := by simp
  have l1 := lt_of_block b1
  have l2 := lt_of_block b2
  have l3 := lt_of_block b3
  have b1 := f6.at_ b1 (fun h => h)
  have b2 := f6.at_ b2 (fun h => h)
  have b3 := f6.at_ b3 (fun h => h)
  generalize w.alloc (.cells #[.slice none 0 0] 60) = W6 at f6 hbox hs6 b1 b2 b3 ⊢
  obtain ⟨hn, hhn⟩ : ∃ hn, w.heap.size = hn := ⟨_, rfl⟩
  rw [hhn] at hbox hs6 l1 l2 l3 ⊢
  have hno : ∀ q, ¬ OwnsB hn W6 q := fun q ⟨v, h1, h2⟩ => by
    have := hbox.fun_ h1
    subst this
    simp [Value.ownBlock] at h2
  have hI : InvB hn W6 := ⟨⟨_, hbox⟩, fun q h => absurd h (hno q)⟩
  have hseq := restSeq rb re b e sp lk xk f (9 - 1) hn W6 hbe hf he hI ⟨by omega, hno _, _, _, _, b1⟩ ⟨by omega, hno _, _, _, _, b2⟩ b1 b2 b3
  rw [hL] at hseq
  clear hno b1 b2 b3 l1 l2 l3 hL
  refine (wpIn_wide (n := 9)).1 ?_
  apply wpIn_rangeFunc_ownH (F := Fence.wide) (n := 9) (P := Tryd.prog) (α := Nat × Nat) rfl (by decide) (gf := 102) (lb := #[.pointer (some ⟨lk, 0, none⟩), .pointer (some ⟨xk, 0, none⟩)]) rfl trivial (enters_of Tryd.func102 (by kernel_rfl) rfl)
    hseq (fun h k => kpB_trans h k) (fun W' ll o o' hl ho hcc _ => ?hkb) (Below.refl _ _) (fun _ => rfl)
    (fun pre W' => ∃ v, OutBox hn W' v ∧ W'.ownsRow 0 24 2 v pre.length (spanCells pre) ∧ (∀ g, v.ownBlock = some g → hn < g) ∧ Keeps (fun q => hn ≤ q) W6 W') (fun _ _ _ => False)
    (fun pre A B row hs hg hr => by
      obtain ⟨v, h1, h2, h3, h4⟩ := hs
      exact ⟨v, heap_grown h1 hg (fun r e => (hr r e).2), ownsRow_grown h2 hg (fun r e => (hr r e).2), h3, h4.grown hg (fun q e _ => by have := (hr q e).1; omega)⟩)
    (fun _ _ _ _ _ hs _ _ => hs)
    ⟨_, hbox, World.ownsRow_nil _ _ _ _, fun g h => by simp [Value.ownBlock] at h, Keeps.refl _ _⟩
    (fun x a' W' => ∃ Bx, hn < Bx ∧ W'.heap[Bx]? = some (spanC x.1 x.2) ∧ a' = { tmps := #[.slice none 0 0, .func (.func 102) #[] #[.pointer (some ⟨lk, 0, none⟩), .pointer (some ⟨xk, 0, none⟩)], .pointer (some ⟨hn, 0, none⟩), undef, .slice none 0 0, .pointer (some ⟨Bx, 0, none⟩), .func (.func 102) #[] #[.pointer (some ⟨lk, 0, none⟩), .pointer (some ⟨xk, 0, none⟩)], spanV x, undef, undef, undef, undef, undef], defers := [] })
    (fun x a' _ A B row hs hg hr => by
      obtain ⟨Bx, h1, h2, h3⟩ := hs
      exact ⟨Bx, h1, heap_grown h2 hg (fun r e => (hr r e).2), h3⟩)
  case hkb =>
    intro hI'
    have hne : ll ≠ hn := by omega
    have hsame : (W'.putObj ll o').heap[hn]? = W'.heap[hn]? := World.putObj_heap_other (fun e => hne e.symm)
    refine ⟨by simp, hI'.same hsame (by simp), fun q c e fr _ _ hq => ?_, fun q hq => .inl ((ownsB_same hsame q).1 hq)⟩
    refine (World.putObj_heap_other (fun e => ?_)).trans hq
    subst e
    rw [hq] at ho
    cases ho
    cases hcc
  case hassign =>
    rintro ll pre x W' K ⟨v, h1, h2, h3, h4⟩ hK
    unfold spanV spanC at hK
    unfold spanV
    gi_wp2
    have fx : Fresh W' (W'.alloc (.cells #[.int .i64 (x.1 : Int), .int .i64 (x.2 : Int)] 24)) := (Keeps.refl _ _).alloc _
    refine hK _ _ ((KeepsOthers.alloc _ _).from _) (kpB_fresh fx) ⟨v, fx.at_ h1 (fun h => h), h2.alloc _, h3, h4.alloc _⟩ ⟨W'.heap.size, by have := h4.size; omega, heap_alloc_new _ _, rfl⟩
  case hbody =>
    rintro ll pre x a' W' hl hr ⟨v, h1, h2, h3, h4⟩ ⟨Bx, hBx, hx, rfl⟩ hlt
    have hbl := lt_of_block h1
    have c0 := cell_at h1 0
    have z0 := free_at h1 0
    have x0 := cell_at hx 0
    have x1 := cell_at hx 1
    simp at c0
    simp at x0 x1
    obtain ⟨ao, cap, rfl⟩ := ownsRow_slice h2
    unfold spanV
    gi_wp2_with (gi_at_builtin; refine wpListIn_pushN rfl (.tmp 8) (.tmp 10) 60 rfl 24 i0 (.agg #[.int .i64 0, .int .i64 0]) 2 16 Tryd.underlying60 hi hz0 hz1 hz2 rfl (by decide) W' h2 #[.int .i64 (x.1 : Int), .int .i64 (x.2 : Int)] rfl rfl rfl (fun u hu => by simp at hu; rcases hu with rfl | rfl <;> rfl) (by omega) (by unfold maxLen; omega) ?_; intro v' w' ha; obtain ⟨ao', cap', rfl⟩ := ownsRow_slice ha.row; have hb' := ha.keeps.at_ h1 (fun e => by have := h3 hn e; omega); have c1 := cell_at hb' 0; have z1 := free_at hb' 0; simp at c1)
    have hset : OutBox hn (w'.setCell ⟨hn, 0, none⟩ (.slice ao' (pre.length + 1) cap')) (.slice ao' (pre.length + 1) cap') := by
      unfold OutBox
      have := heap_setCell_at hb' 0 (.slice ao' (pre.length + 1) cap')
      simpa using this
    have hrow' : (w'.setCell ⟨hn, 0, none⟩ (.slice ao' (pre.length + 1) cap')).ownsRow 0 24 2 (.slice ao' (pre.length + 1) cap') (pre.length + 1) (spanCells pre ++ [.int .i64 (x.1 : Int), .int .i64 (x.2 : Int)]) := ownsRow_setCell_ne ha.row (fun e => by
      rcases ha.own _ e with h5 | h5
      · have := h3 _ h5; simp only at this; omega
      · have := h5.1; simp only at this; omega) _
    have hown' : ∀ g, (Value.slice ao' (pre.length + 1) cap').ownBlock = some g → hn < g := fun g hg => by
      rcases ha.own g hg with h5 | h5
      · exact h3 g h5
      · have := h5.1; omega
    refine ⟨((KeepsOthers.mk ha.keeps.size (fun q o ho hnc => ha.keeps.at_ ho (fun e => ?_))).trans (KeepsOthers.setCell _ _ _)).from _, fun hi => ⟨by simpa using ha.keeps.size, ⟨⟨_, hset⟩, fun q hq => ?_⟩, fun q c e fr hq hno hc => ?_, fun q hq => ?_⟩, _, hset, by rw [spanCells_snoc, List.length_append]; exact hrow', hown', ?_⟩
    · obtain ⟨cur, hcur⟩ := row_own_cells h2 e
      rw [hcur] at ho
      cases ho
      cases hnc
    · obtain ⟨u, hu, hq⟩ := hq
      have := hset.fun_ hu
      subst this
      obtain ⟨cur, hcur⟩ := row_own_cells hrow' hq
      exact lt_of_block hcur
    · rw [heap_setCell_ne _ _ _ _ (by simpa using hq)]
      exact ha.keeps.at_ hc (fun e => hno ⟨_, h1, e⟩)
    · obtain ⟨u, hu, hq⟩ := hq
      have := hset.fun_ hu
      subst this
      rcases ha.own q hq with h5 | h5
      · exact .inl ⟨_, h1, h5⟩
      · exact .inr h5.1
    · exact Keeps.setCell (S := fun q => hn ≤ q) (h4.trans (ha.keeps.mono (fun q _ h => by have := h3 q h; omega))) (p := ⟨hn, 0, none⟩) (fun _ => Nat.le_refl _) _
  case hdone =>
    rintro D ys W' hD rfl ⟨v, h1, h2, h3, h4⟩ hDD
    have c0 := cell_at h1 0
    simp at c0
    have fin : Fresh w (W'.putObj D (.deferred none)) := by
      have k7 : Keeps (fun q => hn ≤ q) W' (W'.putObj D (.deferred none)) := ⟨rfl, rfl, rfl, by simp, fun q hq hnq => World.putObj_heap_other (fun e => hnq (by omega))⟩
      exact (f6.mono (S' := fun q => hn ≤ q) (fun _ _ h => h.elim)).trans (h4.trans k7) |>.mono (fun i hi h => by omega)
    obtain ⟨ao, cap, rfl⟩ := ownsRow_slice h2
    clear hseq
    go_wp2_with fail
    refine ⟨by simp, .inl ⟨_, _, rfl, run_takeDeferred hDD, ?_⟩⟩
    exact ⟨_, results_tmp rfl _ _ _, _, rfl, ownsRow_putObj h2 _ hDD rfl, fun g hg => by have := h3 g hg; omega, fin⟩
  case hstop =>
    intro D c pre W' _ _ h _
    exact h.elim
end Go.Proofs.YtgikabafaocemaaDoor

namespace Go.Proofs.YtgikabafaocemaaDoor
open Go.RowKit

theorem toldF_out {f rb re b e : Nat} (h : re ≤ b ∨ e ≤ rb) : toldF f rb re b e = [(b, e)] := by
  cases f <;> rw [toldF, if_pos h]
theorem toldF_cut {f rb re b e : Nat} (h : ¬ (re ≤ b ∨ e ≤ rb)) (h2 : ¬ (rb ≤ b ∧ e ≤ re)) : toldF (f + 1) rb re b e = toldF f rb re b (b + splitN (e - b)) ++ toldF f rb re (b + splitN (e - b)) e := by
  rw [toldF, if_neg h, if_neg h2]
theorem toldF_left : ∀ (f rb re b e : Nat), rb ≤ b → b < e → (toldF f rb re b e).length ≤ f + 1
  | 0, rb, re, b, e, _, _ => by
    rw [toldF]
    split <;> simp
  | f + 1, rb, re, b, e, h, hbe => by
    by_cases h1 : re ≤ b ∨ e ≤ rb
    · rw [toldF_out h1]; simp
    by_cases h2 : rb ≤ b ∧ e ≤ re
    · rw [toldF_in _ rb re b e h2.1 h2.2 hbe]; simp
    rw [toldF_cut h1 h2, List.length_append]
    obtain ⟨g1, g2, g3⟩ := splitN_facts (n := e - b) (by omega)
    by_cases h3 : re ≤ b + splitN (e - b)
    · rw [toldF_out (f := f) (b := b + splitN (e - b)) (.inl h3)]
      have := toldF_left f rb re b (b + splitN (e - b)) h (by omega)
      simp
      omega
    · rw [toldF_in f rb re b (b + splitN (e - b)) h (by omega) (by omega)]
      have := toldF_left f rb re (b + splitN (e - b)) e (by omega) (by omega)
      simp
      omega
theorem toldF_right : ∀ (f rb re b e : Nat), e ≤ re → b < e → (toldF f rb re b e).length ≤ f + 1
  | 0, rb, re, b, e, _, _ => by
    rw [toldF]
    split <;> simp
  | f + 1, rb, re, b, e, h, hbe => by
    by_cases h1 : re ≤ b ∨ e ≤ rb
    · rw [toldF_out h1]; simp
    by_cases h2 : rb ≤ b ∧ e ≤ re
    · rw [toldF_in _ rb re b e h2.1 h2.2 hbe]; simp
    rw [toldF_cut h1 h2, List.length_append]
    obtain ⟨g1, g2, g3⟩ := splitN_facts (n := e - b) (by omega)
    by_cases h3 : b + splitN (e - b) ≤ rb
    · rw [toldF_out (f := f) (b := b) (.inr h3)]
      have := toldF_right f rb re (b + splitN (e - b)) e h (by omega)
      simp
      omega
    · rw [toldF_in f rb re (b + splitN (e - b)) e (by omega) h (by omega)]
      have := toldF_right f rb re b (b + splitN (e - b)) (by omega) (by omega)
      simp
      omega
theorem toldF_few : ∀ (f rb re b e : Nat), b < e → (toldF f rb re b e).length ≤ 2 * f + 1
  | 0, rb, re, b, e, _ => by
    rw [toldF]
    split <;> simp
  | f + 1, rb, re, b, e, hbe => by
    by_cases h1 : re ≤ b ∨ e ≤ rb
    · rw [toldF_out h1]; simp
    by_cases h2 : rb ≤ b ∧ e ≤ re
    · rw [toldF_in _ rb re b e h2.1 h2.2 hbe]; simp
    rw [toldF_cut h1 h2, List.length_append]
    obtain ⟨g1, g2, g3⟩ := splitN_facts (n := e - b) (by omega)
    by_cases h3 : re ≤ b + splitN (e - b)
    · rw [toldF_out (f := f) (b := b + splitN (e - b)) (.inl h3)]
      have := toldF_few f rb re b (b + splitN (e - b)) (by omega)
      simp
      omega
    by_cases h4 : b + splitN (e - b) ≤ rb
    · rw [toldF_out (f := f) (b := b) (.inr h4)]
      have := toldF_few f rb re (b + splitN (e - b)) e (by omega)
      simp
      omega
    · have a1 := toldF_right f rb re b (b + splitN (e - b)) (by omega) (by omega)
      have a2 := toldF_left f rb re (b + splitN (e - b)) e (by omega) (by omega)
      omega
/-- what is told lies within the tree -/
theorem toldF_within : ∀ (f rb re b e : Nat), b < e → e - b ≤ 2 ^ f → ∀ x ∈ toldF f rb re b e, b ≤ x.1 ∧ x.1 < x.2 ∧ x.2 ≤ e
  | 0, rb, re, b, e, h, _, x, hx => by
    rw [toldF] at hx
    split at hx
    · simp at hx; subst hx; exact ⟨Nat.le_refl _, h, Nat.le_refl _⟩
    · simp at hx
  | f + 1, rb, re, b, e, h, hf, x, hx => by
    by_cases h1 : re ≤ b ∨ e ≤ rb
    · rw [toldF_out h1] at hx
      simp at hx; subst hx; exact ⟨Nat.le_refl _, h, Nat.le_refl _⟩
    by_cases h2 : rb ≤ b ∧ e ≤ re
    · rw [toldF_in _ rb re b e h2.1 h2.2 h] at hx
      simp at hx
    rw [toldF_cut h1 h2, List.mem_append] at hx
    obtain ⟨g1, g2, g3⟩ := splitN_facts (n := e - b) (by omega)
    have g4 := splitN_le (n := e - b) (f := f) (by omega) hf
    rcases hx with hx | hx
    · have := toldF_within f rb re b (b + splitN (e - b)) (by omega) (by omega) x hx
      omega
    · have := toldF_within f rb re (b + splitN (e - b)) e (by omega) (by omega) x hx
      omega
end Go.Proofs.YtgikabafaocemaaDoor
