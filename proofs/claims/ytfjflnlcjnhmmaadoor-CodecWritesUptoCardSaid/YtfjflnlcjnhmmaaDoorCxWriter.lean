/-
  Package codec: the Writer's methods, one contract each: what its bytes and its first wrong are behind the call.
-/
import Derived.Test.YtfjflnlcjnhmmaaDoorCxDigits
namespace Go.Proofs.YtfjflnlcjnhmmaaDoor
open Go.RowKit

def wRefuse (st : List UInt8 × Int) (f : Int) : List UInt8 × Int := (st.1, first st.2 f)
def wByte (st : List UInt8 × Int) (n : Int) : List UInt8 × Int := if n < 0 ∨ 255 < n then wRefuse st 20 else (st.1 ++ [UInt8.ofNat n.toNat], st.2)
def wNum (st : List UInt8 × Int) (n : Int) : List UInt8 × Int := if n < 0 ∨ 4611686018427387904 < n then wRefuse st 20 else (st.1 ++ digs n.toNat, st.2)

/-- the parts of a Writer in memory that a walk reads -/
theorem WRep.cells {S : Nat → Prop} {w : World} {b : Nat} {st : List UInt8 × Int} (h : WRep S w b st) :
    ∃ v ev, w.cell? ⟨b, 0, none⟩ = some v ∧ w.cell? ⟨b, 1, none⟩ = some ev ∧ w.frozen? ⟨b, 0, none⟩ = false ∧ w.frozen? ⟨b, 1, none⟩ = false ∧ b < w.heap.size ∧
      w.ownsRow 0 5 1 v st.1.length (u8s st.1) ∧ v.ownBlock ≠ some b ∧ ErrAt S w ev st.2 := by
  obtain ⟨_, hlt, v, ev, hb, hrow, _, he⟩ := h
  refine ⟨v, ev, cell_at hb 0, cell_at hb 1, free_at hb 0, free_at hb 1, lt_of_block hb, hrow, fun h => ?_, he⟩
  rcases hrow.2 with ⟨rfl, _⟩ | ⟨g, cap, cur, rfl, _, hg, _⟩
  · cases h
  · simp [Value.ownBlock] at h
    subst h; rw [hg] at hb; cases hb

/-- behind an append the Writer's own block is as it was -/
theorem WRep.behind {w w1 : World} {b : Nat} {v v' : Value} {n : Nat} {xs : List Value} {e : TypeId} {size : Nat} (ha : Appended e size w w1 v v' n xs) (hb : b < w.heap.size) (hv : v.ownBlock ≠ some b) (o : Nat) :
    w1.cell? ⟨b, o, none⟩ = w.cell? ⟨b, o, none⟩ ∧ w1.frozen? ⟨b, o, none⟩ = w.frozen? ⟨b, o, none⟩ :=
  ⟨ha.keeps.cell (p := ⟨b, o, none⟩) hb hv, ha.keeps.frozen (p := ⟨b, o, none⟩) hb hv⟩

/-- the new bytes are stored back -/
theorem WRep.put {S : Nat → Prop} {w w1 : World} {b : Nat} {st : List UInt8 × Int} {v v' : Value} {bs : List UInt8} (h : WRep S w b st) (hc : w.cell? ⟨b, 0, none⟩ = some v)
    (ha : Appended 5 1 w w1 v v' bs.length (u8s bs)) : Acts S w (w1.setCell ⟨b, 0, none⟩ v') fun S' => WRep S' (w1.setCell ⟨b, 0, none⟩ v') b (bs, st.2) := by
  obtain ⟨v0, _, hc', _, _, _, _, _, hne, _⟩ := h.cells
  obtain ⟨hS, hlt, v1, ev, hb, hrow, hown, he⟩ := h
  have e0 : v0 = v := by rw [hc] at hc'; exact (Option.some.inj hc').symm
  have e1 : v1 = v := by rw [cell_at hb 0] at hc; simpa using hc
  subst e0; subst e1
  have hk : Keeps S w w1 := ha.keeps.mono fun i _ h => hown i h
  have hsz := ha.keeps.size
  have hb1 : w1.heap[b]? = _ := ha.keeps.at_ hb hne
  have hne' : v'.ownBlock ≠ some b := fun e => by
    rcases ha.own b e with h | h
    · exact hne h
    · have := lt_of_block hb; omega
  refine ⟨fun k => S k ∨ (w.heap.size ≤ k ∧ k < w1.heap.size), fun k h => orr h fun h => ⟨h.1, by simpa using h.2⟩, hk.setCell (fun _ => hS) _, .inl hS, hlt.grows hS (by simpa using hsz) (fun k h => orr h fun h => ⟨h.1, by simpa using h.2⟩), v', ev, heap_setCell_at hb1 0 v', ownsRow_setCell_ne ha.row hne' _, fun g hg => ?_, ?_⟩
  · rcases ha.own g hg with h | h
    · exact .inl (hown g h)
    · exact .inr h
  · rcases he with h | ⟨h0, k, hk', h1, h2⟩
    · exact .inl h
    · refine .inr ⟨h0, k, .inl hk', h1, ?_⟩
      rw [heap_setCell_ne _ _ _ _ (fun e => by subst e; rw [hb] at h2; cases h2)]
      refine ha.keeps.at_ h2 fun hg => ?_
      rcases hrow.2 with ⟨rfl, _⟩ | ⟨g, cap, cur, rfl, _, hgg, _⟩
      · cases hg
      · simp [Value.ownBlock] at hg
        subst hg; rw [hgg] at h2; cases h2

theorem u8s_snoc (l : List UInt8) (n : Nat) (h : n ≤ 255) : u8s l ++ [Value.int .u8 (n : Int)] = u8s (l ++ [UInt8.ofNat n]) := by
  have : (n : Int) % 256 = n := by omega
  simp [u8s, this]
theorem u8s_append (l m : List UInt8) : u8s (l ++ m) = u8s l ++ u8s m := by simp [u8s]

set_option maxRecDepth 100000 in
set_option maxHeartbeats 400000 in
theorem wbyte_any (S : Nat → Prop) (b : Nat) (st : List UInt8 × Int) (n : Int) (w : World) (h : WRep S w b st) (hlen : st.1.length < 70368744177664) :
    Calls Tryd.prog 22 #[.pointer (some ⟨b, 0, none⟩), .int .i64 n] w fun e w' => e = .returned (.tuple #[]) ∧ Acts S w w' fun S' => WRep S' w' b (wByte st n) := by
  obtain ⟨i0, hi, hz0, hz1, hz2⟩ := info_parts Tryd.infoU8
  obtain ⟨v, ev, c0, c1, f0, f1, hb, hrow, hne, he⟩ := h.cells
  by_cases hn : n < 0 ∨ 255 < n
  · have hfin : wByte st n = (st.1, first st.2 20) := by simp [wByte, hn, wRefuse]
    rw [hfin]
    clear hfin
    rcases hn with hn | hn
    all_goals
      go_enter Tryd.func22, Tryd.ntmps22
      go_wp2_with (go_at_call 52; refine (refuse_any S b st 20 _ (by decide) h).mono ?_; rintro e w' ⟨rfl, hA⟩)
      first | go_end0 | refine bodyPost_ret (results_none rfl _ _ _) rfl ?_
      exact ⟨rfl, hA⟩
  · have hfin : wByte st n = (st.1 ++ [UInt8.ofNat n.toNat], st.2) := by simp [wByte, hn]
    rw [hfin]
    clear hfin
    obtain ⟨m, rfl⟩ := Int.eq_ofNat_of_zero_le (show 0 ≤ n by omega)
    have hm : m ≤ 255 := by omega
    have hn1 : ¬ ((m : Int) < 0) := by omega
    have hn2 : ¬ (255 < (m : Int)) := by omega
    clear hn
    go_enter Tryd.func22, Tryd.ntmps22
    go_wp2_with (at_builtin; refine wpList_push rfl (.tmp 16) (.tmp 19) 30 rfl 5 i0 (.int .u8 0) 1 Tryd.underlying30 hi hz0 hz1 hz2 rfl w hrow _ (by rfl) (by rfl) rfl (by omega) (by unfold maxLen; omega) ?_)
    intro v' w' ha
    obtain ⟨ao, cp, rfl⟩ := ownsRow_slice ha.row
    have hp := WRep.put h c0 (bs := st.1 ++ [UInt8.ofNat m]) (by rw [u8s_snoc _ _ hm] at ha; simpa using ha)
    obtain ⟨k0, g0⟩ := WRep.behind ha hb hne 0
    rw [c0] at k0
    rw [f0] at g0
    clear ha
    go_wp2
    go_end0
    exact ⟨rfl, hp⟩

set_option maxRecDepth 100000 in
set_option maxHeartbeats 400000 in
theorem wnum_any (S : Nat → Prop) (b : Nat) (st : List UInt8 × Int) (n : Int) (w : World) (h : WRep S w b st) (hlen : st.1.length < 70368744177664) :
    Calls Tryd.prog 24 #[.pointer (some ⟨b, 0, none⟩), .int .i64 n] w fun e w' => e = .returned (.tuple #[]) ∧ Acts S w w' fun S' => WRep S' w' b (wNum st n) := by
  obtain ⟨v, ev, c0, c1, f0, f1, hb, hrow, hne, he⟩ := h.cells
  by_cases hn : n < 0 ∨ 4611686018427387904 < n
  · have hfin : wNum st n = (st.1, first st.2 20) := by simp [wNum, hn, wRefuse]
    rw [hfin]
    clear hfin
    rcases hn with hn | hn
    all_goals
      go_enter Tryd.func24, Tryd.ntmps24
      go_wp2_with (go_at_call 52; refine (refuse_any S b st 20 _ (by decide) h).mono ?_; rintro e w' ⟨rfl, hA⟩)
      first | go_end0 | refine bodyPost_ret (results_none rfl _ _ _) rfl ?_
      exact ⟨rfl, hA⟩
  · have hfin : wNum st n = (st.1 ++ digs n.toNat, st.2) := by simp [wNum, hn]
    rw [hfin]
    clear hfin
    obtain ⟨m, rfl⟩ := Int.eq_ofNat_of_zero_le (show 0 ≤ n by omega)
    have hm : m ≤ 9223372036854775807 := by omega
    have hn1 : ¬ ((m : Int) < 0) := by omega
    have hn2 : ¬ (4611686018427387904 < (m : Int)) := by omega
    clear hn
    go_enter Tryd.func24, Tryd.ntmps24
    go_wp2_with fail
    refine (digits_int v _ _ m w hm hlen hrow).mono ?_
    rintro e w' ⟨v', rfl, ha⟩
    obtain ⟨ao, cp, rfl⟩ := ownsRow_slice ha.row
    have hp := WRep.put h c0 (bs := st.1 ++ digs m) (by rw [← u8s_append] at ha; simpa using ha)
    obtain ⟨k0, g0⟩ := WRep.behind ha hb hne 0
    rw [c0] at k0
    rw [f0] at g0
    clear ha
    go_wp2
    go_end0
    exact ⟨rfl, hp⟩
end Go.Proofs.YtfjflnlcjnhmmaaDoor
