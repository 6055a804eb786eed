/-
  Package codec: how a Writer lies in memory, and what 'refuse' does to it.
  Package codec: 'digits' at int and at uint64: the digits of a number are appended, by sevens of bits from below.
  Package codec: the Writer's methods, one contract each: what its bytes and its first wrong are behind the call.
  Package codec: the Writer's methods that write bytes and texts, and what is handed out at the end.
-/
import Derived.Test.YtpccaodkgboefaaGreatDoorMShaA
import Derived.Test.YtpccaodkgboefaaGreatDoorProg
namespace Go.Proofs.YtpccaodkgboefaaGreatDoor
open Go.RowKit

/-- What is wrong, as an error in memory: nil where e is 0, else a *refusal of the object's own. -/
def ErrAt (S : Nat → Prop) (w : World) (ev : Value) (e : Int) : Prop :=
  (e = 0 ∧ ev = .nilIface) ∨
  (e ≠ 0 ∧ ∃ k, S k ∧ ev = .iface 133 (.pointer (some ⟨k, 0, none⟩)) ∧ w.heap[k]? = some (.cells #[.int .i64 e] 135 (0, 0)))

/-- A Writer at block b: bytes and what was wrong first. -/
def WRep (S : Nat → Prop) (w : World) (b : Nat) (st : List UInt8 × Int) : Prop :=
  S b ∧ Lives S w ∧ ∃ v ev, w.heap[b]? = some (.cells #[v, ev] 100 (0, 0)) ∧
    w.ownsRow 0 5 1 v st.1.length (u8s st.1) ∧ (∀ g, v.ownBlock = some g → S g) ∧ ErrAt S w ev st.2

/-- an error that is there stays where nothing of the object's is written -/
theorem ErrAt.keeps {S S' T : Nat → Prop} {w w' : World} {ev : Value} {e : Int} (h : ErrAt S w ev e) (hk : Keeps T w w') (hn : ∀ k, S k → ¬ T k) (hs : ∀ k, S k → S' k) : ErrAt S' w' ev e := by
  rcases h with h | ⟨h0, k, hk', h1, h2⟩
  · exact .inl h
  · exact .inr ⟨h0, k, hs k hk', h1, hk.at_ h2 (hn k hk')⟩
theorem WRep.keeps {S T : Nat → Prop} {w w' : World} {b : Nat} {st : List UInt8 × Int} (h : WRep S w b st) (hk : Keeps T w w') (hn : ∀ k, S k → ¬ T k) : WRep S w' b st := by
  obtain ⟨hS, hlt, v, ev, hb, hrow, hown, he⟩ := h
  exact ⟨hS, hlt.keeps hk, v, ev, hk.at_ hb (hn b hS), ownsRow_keeps hrow hk (fun g hg => hn g (hown g hg)), hown, he.keeps hk hn (fun _ h => h)⟩

set_option maxHeartbeats 400000 in
theorem refuse_any (S : Nat → Prop) (b : Nat) (st : List UInt8 × Int) (f : Int) (w : World) (hf : f ≠ 0) (h : WRep S w b st) :
    Calls Tryz.prog 63 #[.pointer (some ⟨b, 0, none⟩), .int .i64 f] w fun e w' => e = .returned (.tuple #[]) ∧ Acts S w w' fun S' => WRep S' w' b (st.1, first st.2 f) := by
  obtain ⟨hS, hlt, v, ev, hb, hrow, hown, he⟩ := h
  have c0 := cell_at hb 0
  have c1 := cell_at hb 1
  have f1 := free_at hb 1
  have hbl := lt_of_block hb
  simp at c0 c1
  rcases he with ⟨h0, rfl⟩ | ⟨h0, k, hk, rfl, hkk⟩
  · go_enter Tryz.func63, Tryz.ntmps63
    go_wp2
    go_end0
    refine ⟨rfl, fun k => S k ∨ k = w.heap.size, fun k h => orr h fun h => by subst h; simp, ((Keeps.refl S w).setCell (fun _ => hS) _).alloc _, .inl hS, hlt.grows hS (by simp) (fun k h => orr h fun h => by subst h; simp), v, _, ?_, ?_, fun g hg => .inl (hown g hg), .inr ⟨?_, w.heap.size, .inr rfl, rfl, ?_⟩⟩
    · rw [Below.heap_alloc _ _ _ (by simpa using hbl)]; exact heap_setCell_at hb 1 _
    · refine (ownsRow_setCell_ne hrow (fun h => ?_) _).alloc _
      rcases hrow.2 with ⟨rfl, _⟩ | ⟨g, cap, cur, rfl, _, hg, _⟩
      · cases h
      · simp [Value.ownBlock] at h
        subst h; rw [hg] at hb; cases hb
    · simpa [first, h0] using hf
    · have := heap_size_alloc (w.setCell ⟨b, 1, none⟩ (.iface 133 (.pointer (some ⟨w.heap.size, 0, none⟩)))) (.cells #[Value.int IntKind.i64 f] 135)
      simp only [World.size_setCell] at this
      simpa [first, h0] using this
  · go_enter Tryz.func63, Tryz.ntmps63
    go_wp2
    go_end0
    exact ⟨rfl, .same ⟨hS, hlt, v, _, hb, hrow, hown, by simp only [first, if_neg h0]; exact .inr ⟨h0, k, hk, rfl, hkk⟩⟩⟩
end Go.Proofs.YtpccaodkgboefaaGreatDoor

namespace Go.Proofs.YtpccaodkgboefaaGreatDoor
open Go.RowKit

/-- A number's digits. -/
def digs (n : Nat) : List UInt8 := if _h : 127 < n then UInt8.ofNat (n % 128 + 128) :: digs (n / 128) else [UInt8.ofNat n]
termination_by n
decreasing_by omega

theorem digs_more {n : Nat} (h : 127 < n) : digs n = UInt8.ofNat (n % 128 + 128) :: digs (n / 128) := by rw [digs, dif_pos h]
theorem digs_last {n : Nat} (h : n ≤ 127) : digs n = [UInt8.ofNat n] := by rw [digs, dif_neg (by omega)]
theorem digs_len (k : Nat) : ∀ n, n < 128 ^ (k + 1) → (digs n).length ≤ k + 1 := by
  induction k with
  | zero => intro n h; rw [digs_last (by omega)]; simp
  | succ k ih =>
    intro n h
    by_cases hn : 127 < n
    · rw [digs_more hn]
      have := ih (n / 128) (by rw [Nat.pow_succ] at h; omega)
      simp; omega
    · rw [digs_last (by omega)]; simp

theorem Tryz.infoU8 : (Tryz.prog.info? 5).map (fun i => (i.zero, i.size, i.bytes)) = some (some (.int .u8 0), 1, 1) := by kernel_rfl

theorem or128 (j : Nat) : bits BinOp.or IntKind.u8 ((j : Int) % 128) 128 = ((UInt8.ofNat (j % 128 + 128)).toNat : Int) := by
  have h : ∀ x : Fin 128, bits BinOp.or IntKind.u8 ((x.val : Nat) : Int) 128 = ((UInt8.ofNat (x.val + 128)).toNat : Int) := by decide
  have := h ⟨j % 128, by omega⟩
  simpa using this
theorem digs_pos (n : Nat) : 0 < (digs n).length := by
  by_cases h : 127 < n
  · rw [digs_more h]; simp
  · rw [digs_last (by omega)]; simp

set_option maxRecDepth 100000 in
set_option maxHeartbeats 400000 in
theorem digits_int (v : Value) (n : Nat) (xs : List Value) (m : Nat) (w : World) (hm : m ≤ 9223372036854775807) (hn : n < 70368744177664) (hrow : w.ownsRow 0 5 1 v n xs) :
    Calls Tryz.prog 110 #[v, .int .i64 m] w fun e w' => ∃ v', e = .returned v' ∧ Appended 5 1 w w' v v' (n + (digs m).length) (xs ++ u8s (digs m)) := by
  obtain ⟨i0, hi, hz0, hz1, hz2⟩ := info_parts Tryz.infoU8
  go_enter Tryz.func110, Tryz.ntmps110
  go_wp2
  go_loopw [0, 1] (fun s i wr => ∃ (j : Nat) (pre : List UInt8), i = .int .i64 j ∧ j ≤ 9223372036854775807 ∧ pre.length ≤ 9 ∧ Hid (pre ++ digs j = digs m) ∧ Appended 5 1 w wr v s (n + pre.length) (xs ++ u8s pre)) (fun _ i _ => (intOf i).toNat)
  case atStart => exact ⟨m, [], rfl, hm, by simp, rfl, by simpa [u8s] using hrow, Keeps.refl _ _, fun g h => .inl h⟩
  case round =>
    obtain ⟨j, pre, rfl, hj, hpre, HD, hown⟩ := hrel
    by_cases hlt : 127 < j
    · go_wp2_with (at_builtin; go_loud (refine wpList_push rfl (.tmp 7) (.tmp 12) 96 rfl 5 i0 (.int .u8 0) 1 Tryz.underlying96 hi hz0 hz1 hz2 rfl wr hown.row _ (by rfl) (by rfl) rfl (by omega) (by unfold maxLen; omega) ?_))
      intro v' w' ha
      go_wp2
      have hr := hown.trans ha
      go_roundw
      case rel =>
        refine ⟨j / 128, pre ++ [UInt8.ofNat (j % 128 + 128)], by go_num, by omega, ?_, ?_, ?_⟩
        · have h2 := congrArg List.length HD.out
          rw [digs_more hlt] at h2
          have := digs_pos (j / 128)
          have := digs_len 9 m (by omega)
          simp at h2 ⊢; omega
        · show _ = _
          rw [← HD.out, digs_more hlt]; simp
        · have e : xs ++ u8s pre ++ [Value.int .u8 (bits BinOp.or IntKind.u8 ((j : Int) % 128) 128)] = xs ++ u8s (pre ++ [UInt8.ofNat (j % 128 + 128)]) := by
            rw [or128]; simp [u8s]
          rw [List.append_assoc] at e
          rw [e] at hr
          simpa [Nat.add_assoc] using hr
      case measure => simp [intOf]; omega
    · go_wp2_with (at_builtin; refine wpList_push rfl (.tmp 16) (.tmp 19) 96 rfl 5 i0 (.int .u8 0) 1 Tryz.underlying96 hi hz0 hz1 hz2 rfl wr hown.row _ (by rfl) (by rfl) rfl (by omega) (by unfold maxLen; omega) ?_)
      intro v' w' ha
      have hr := hown.trans ha
      go_wp2
      go_ret
      refine ⟨v', rfl, ?_⟩
      have e : digs m = pre ++ [UInt8.ofNat j] := by rw [← HD.out, digs_last (by omega)]
      have h256 : (j : Int) % 256 = j := by omega
      rw [e]
      simpa [u8s, Nat.add_assoc, h256] using hr

set_option maxRecDepth 100000 in
set_option maxHeartbeats 400000 in
theorem digits_u64 (v : Value) (n : Nat) (xs : List Value) (m : Nat) (w : World) (hm : m ≤ 9223372036854775807) (hn : n < 70368744177664) (hrow : w.ownsRow 0 5 1 v n xs) :
    Calls Tryz.prog 113 #[v, .int .u64 m] w fun e w' => ∃ v', e = .returned v' ∧ Appended 5 1 w w' v v' (n + (digs m).length) (xs ++ u8s (digs m)) := by
  obtain ⟨i0, hi, hz0, hz1, hz2⟩ := info_parts Tryz.infoU8
  go_enter Tryz.func113, Tryz.ntmps113
  go_wp2
  go_loopw [0, 1] (fun s i wr => ∃ (j : Nat) (pre : List UInt8), i = .int .u64 j ∧ j ≤ 9223372036854775807 ∧ pre.length ≤ 9 ∧ Hid (pre ++ digs j = digs m) ∧ Appended 5 1 w wr v s (n + pre.length) (xs ++ u8s pre)) (fun _ i _ => (intOf i).toNat)
  case atStart => exact ⟨m, [], rfl, hm, by simp, rfl, by simpa [u8s] using hrow, Keeps.refl _ _, fun g h => .inl h⟩
  case round =>
    obtain ⟨j, pre, rfl, hj, hpre, HD, hown⟩ := hrel
    by_cases hlt : 127 < j
    · go_wp2_with (at_builtin; go_loud (refine wpList_push rfl (.tmp 7) (.tmp 12) 96 rfl 5 i0 (.int .u8 0) 1 Tryz.underlying96 hi hz0 hz1 hz2 rfl wr hown.row _ (by rfl) (by rfl) rfl (by omega) (by unfold maxLen; omega) ?_))
      intro v' w' ha
      go_wp2
      have hr := hown.trans ha
      go_roundw
      case rel =>
        refine ⟨j / 128, pre ++ [UInt8.ofNat (j % 128 + 128)], by go_num, by omega, ?_, ?_, ?_⟩
        · have h2 := congrArg List.length HD.out
          rw [digs_more hlt] at h2
          have := digs_pos (j / 128)
          have := digs_len 9 m (by omega)
          simp at h2 ⊢; omega
        · show _ = _
          rw [← HD.out, digs_more hlt]; simp
        · have e : xs ++ u8s pre ++ [Value.int .u8 (bits BinOp.or IntKind.u8 ((j : Int) % 128) 128)] = xs ++ u8s (pre ++ [UInt8.ofNat (j % 128 + 128)]) := by
            rw [or128]; simp [u8s]
          rw [List.append_assoc] at e
          rw [e] at hr
          simpa [Nat.add_assoc] using hr
      case measure => simp [intOf]; omega
    · go_wp2_with (at_builtin; refine wpList_push rfl (.tmp 16) (.tmp 19) 96 rfl 5 i0 (.int .u8 0) 1 Tryz.underlying96 hi hz0 hz1 hz2 rfl wr hown.row _ (by rfl) (by rfl) rfl (by omega) (by unfold maxLen; omega) ?_)
      intro v' w' ha
      have hr := hown.trans ha
      go_wp2
      go_ret
      refine ⟨v', rfl, ?_⟩
      have e : digs m = pre ++ [UInt8.ofNat j] := by rw [← HD.out, digs_last (by omega)]
      have h256 : (j : Int) % 256 = j := by omega
      rw [e]
      simpa [u8s, Nat.add_assoc, h256] using hr
end Go.Proofs.YtpccaodkgboefaaGreatDoor

namespace Go.Proofs.YtpccaodkgboefaaGreatDoor
open Go.RowKit

def wRefuse (st : List UInt8 × Int) (f : Int) : List UInt8 × Int := (st.1, first st.2 f)
def wByte (st : List UInt8 × Int) (n : Int) : List UInt8 × Int := if n < 0 ∨ 255 < n then wRefuse st 20 else (st.1 ++ [UInt8.ofNat n.toNat], st.2)
def wNum (st : List UInt8 × Int) (n : Int) : List UInt8 × Int := if n < 0 ∨ 4611686018427387904 < n then wRefuse st 20 else (st.1 ++ digs n.toNat, st.2)

/-- the parts of a Writer in memory that a walk reads -/
theorem WRep.cells {S : Nat → Prop} {w : World} {b : Nat} {st : List UInt8 × Int} (h : WRep S w b st) :
    ∃ v ev, w.cell? ⟨b, 0, none⟩ = some v ∧ w.cell? ⟨b, 1, none⟩ = some ev ∧ w.frozen? ⟨b, 0, none⟩ = false ∧ w.frozen? ⟨b, 1, none⟩ = false ∧ b < w.heap.size ∧
      w.ownsRow 0 5 1 v st.1.length (u8s st.1) ∧ v.ownBlock ≠ some b ∧ ErrAt S w ev st.2 := by
  obtain ⟨_, hlt, v, ev, hb, hrow, _, he⟩ := h
  refine ⟨v, ev, cell_at hb 0, cell_at hb 1, free_at hb 0, free_at hb 1, lt_of_block hb, hrow, fun h => ?_, he⟩
  rcases hrow.2 with ⟨rfl, _⟩ | ⟨g, cap, cur, rfl, _, hg, _⟩
  · cases h
  · simp [Value.ownBlock] at h
    subst h; rw [hg] at hb; cases hb

/-- behind an append the Writer's own block is as it was -/
theorem WRep.behind {w w1 : World} {b : Nat} {v v' : Value} {n : Nat} {xs : List Value} {e : TypeId} {size : Nat} (ha : Appended e size w w1 v v' n xs) (hb : b < w.heap.size) (hv : v.ownBlock ≠ some b) (o : Nat) :
    w1.cell? ⟨b, o, none⟩ = w.cell? ⟨b, o, none⟩ ∧ w1.frozen? ⟨b, o, none⟩ = w.frozen? ⟨b, o, none⟩ :=
  ⟨ha.keeps.cell (p := ⟨b, o, none⟩) hb hv, ha.keeps.frozen (p := ⟨b, o, none⟩) hb hv⟩

/-- the new bytes are stored back -/
theorem WRep.put {S : Nat → Prop} {w w1 : World} {b : Nat} {st : List UInt8 × Int} {v v' : Value} {bs : List UInt8} (h : WRep S w b st) (hc : w.cell? ⟨b, 0, none⟩ = some v)
    (ha : Appended 5 1 w w1 v v' bs.length (u8s bs)) : Acts S w (w1.setCell ⟨b, 0, none⟩ v') fun S' => WRep S' (w1.setCell ⟨b, 0, none⟩ v') b (bs, st.2) := by
  obtain ⟨v0, _, hc', _, _, _, _, _, hne, _⟩ := h.cells
  obtain ⟨hS, hlt, v1, ev, hb, hrow, hown, he⟩ := h
  have e0 : v0 = v := by rw [hc] at hc'; exact (Option.some.inj hc').symm
  have e1 : v1 = v := by rw [cell_at hb 0] at hc; simpa using hc
  subst e0; subst e1
  have hk : Keeps S w w1 := ha.keeps.mono fun i _ h => hown i h
  have hsz := ha.keeps.size
  have hb1 : w1.heap[b]? = _ := ha.keeps.at_ hb hne
  have hne' : v'.ownBlock ≠ some b := fun e => by
    rcases ha.own b e with h | h
    · exact hne h
    · have := lt_of_block hb; omega
  refine ⟨fun k => S k ∨ (w.heap.size ≤ k ∧ k < w1.heap.size), fun k h => orr h fun h => ⟨h.1, by simpa using h.2⟩, hk.setCell (fun _ => hS) _, .inl hS, hlt.grows hS (by simpa using hsz) (fun k h => orr h fun h => ⟨h.1, by simpa using h.2⟩), v', ev, heap_setCell_at hb1 0 v', ownsRow_setCell_ne ha.row hne' _, fun g hg => ?_, ?_⟩
  · rcases ha.own g hg with h | h
    · exact .inl (hown g h)
    · exact .inr h
  · rcases he with h | ⟨h0, k, hk', h1, h2⟩
    · exact .inl h
    · refine .inr ⟨h0, k, .inl hk', h1, ?_⟩
      rw [heap_setCell_ne _ _ _ _ (fun e => by subst e; rw [hb] at h2; cases h2)]
      refine ha.keeps.at_ h2 fun hg => ?_
      rcases hrow.2 with ⟨rfl, _⟩ | ⟨g, cap, cur, rfl, _, hgg, _⟩
      · cases hg
      · simp [Value.ownBlock] at hg
        subst hg; rw [hgg] at h2; cases h2

theorem u8s_snoc (l : List UInt8) (n : Nat) (h : n ≤ 255) : u8s l ++ [Value.int .u8 (n : Int)] = u8s (l ++ [UInt8.ofNat n]) := by
  have : (n : Int) % 256 = n := by omega
  simp [u8s, this]
theorem u8s_append (l m : List UInt8) : u8s (l ++ m) = u8s l ++ u8s m := by simp [u8s]

set_option maxRecDepth 100000 in
set_option maxHeartbeats 400000 in
theorem wbyte_any (S : Nat → Prop) (b : Nat) (st : List UInt8 × Int) (n : Int) (w : World) (h : WRep S w b st) (hlen : st.1.length < 70368744177664) :
    Calls Tryz.prog 30 #[.pointer (some ⟨b, 0, none⟩), .int .i64 n] w fun e w' => e = .returned (.tuple #[]) ∧ Acts S w w' fun S' => WRep S' w' b (wByte st n) := by
  obtain ⟨i0, hi, hz0, hz1, hz2⟩ := info_parts Tryz.infoU8
  obtain ⟨v, ev, c0, c1, f0, f1, hb, hrow, hne, he⟩ := h.cells
  by_cases hn : n < 0 ∨ 255 < n
  · have hfin : wByte st n = (st.1, first st.2 20) := by simp [wByte, hn, wRefuse]
    rw [hfin]
    clear hfin
    rcases hn with hn | hn
    all_goals
      go_enter Tryz.func30, Tryz.ntmps30
      go_wp2_with (go_at_call 63; refine (refuse_any S b st 20 _ (by decide) h).mono ?_; rintro e w' ⟨rfl, hA⟩)
      first | go_end0 | refine bodyPost_ret (results_none rfl _ _ _) rfl ?_
      exact ⟨rfl, hA⟩
  · have hfin : wByte st n = (st.1 ++ [UInt8.ofNat n.toNat], st.2) := by simp [wByte, hn]
    rw [hfin]
    clear hfin
    obtain ⟨m, rfl⟩ := Int.eq_ofNat_of_zero_le (show 0 ≤ n by omega)
    have hm : m ≤ 255 := by omega
    have hn1 : ¬ ((m : Int) < 0) := by omega
    have hn2 : ¬ (255 < (m : Int)) := by omega
    clear hn
    go_enter Tryz.func30, Tryz.ntmps30
    go_wp2_with (at_builtin; refine wpList_push rfl (.tmp 16) (.tmp 19) 96 rfl 5 i0 (.int .u8 0) 1 Tryz.underlying96 hi hz0 hz1 hz2 rfl w hrow _ (by rfl) (by rfl) rfl (by omega) (by unfold maxLen; omega) ?_)
    intro v' w' ha
    obtain ⟨ao, cp, rfl⟩ := ownsRow_slice ha.row
    have hp := WRep.put h c0 (bs := st.1 ++ [UInt8.ofNat m]) (by rw [u8s_snoc _ _ hm] at ha; simpa using ha)
    obtain ⟨k0, g0⟩ := WRep.behind ha hb hne 0
    rw [c0] at k0
    rw [f0] at g0
    clear ha
    go_wp2
    go_end0
    exact ⟨rfl, hp⟩

set_option maxRecDepth 100000 in
set_option maxHeartbeats 400000 in
theorem wnum_any (S : Nat → Prop) (b : Nat) (st : List UInt8 × Int) (n : Int) (w : World) (h : WRep S w b st) (hlen : st.1.length < 70368744177664) :
    Calls Tryz.prog 64 #[.pointer (some ⟨b, 0, none⟩), .int .i64 n] w fun e w' => e = .returned (.tuple #[]) ∧ Acts S w w' fun S' => WRep S' w' b (wNum st n) := by
  obtain ⟨v, ev, c0, c1, f0, f1, hb, hrow, hne, he⟩ := h.cells
  by_cases hn : n < 0 ∨ 4611686018427387904 < n
  · have hfin : wNum st n = (st.1, first st.2 20) := by simp [wNum, hn, wRefuse]
    rw [hfin]
    clear hfin
    rcases hn with hn | hn
    all_goals
      go_enter Tryz.func64, Tryz.ntmps64
      go_wp2_with (go_at_call 63; refine (refuse_any S b st 20 _ (by decide) h).mono ?_; rintro e w' ⟨rfl, hA⟩)
      first | go_end0 | refine bodyPost_ret (results_none rfl _ _ _) rfl ?_
      exact ⟨rfl, hA⟩
  · have hfin : wNum st n = (st.1 ++ digs n.toNat, st.2) := by simp [wNum, hn]
    rw [hfin]
    clear hfin
    obtain ⟨m, rfl⟩ := Int.eq_ofNat_of_zero_le (show 0 ≤ n by omega)
    have hm : m ≤ 9223372036854775807 := by omega
    have hn1 : ¬ ((m : Int) < 0) := by omega
    have hn2 : ¬ (4611686018427387904 < (m : Int)) := by omega
    clear hn
    go_enter Tryz.func64, Tryz.ntmps64
    go_wp2_with fail
    refine (digits_int v _ _ m w hm hlen hrow).mono ?_
    rintro e w' ⟨v', rfl, ha⟩
    obtain ⟨ao, cp, rfl⟩ := ownsRow_slice ha.row
    have hp := WRep.put h c0 (bs := st.1 ++ digs m) (by rw [← u8s_append] at ha; simpa using ha)
    obtain ⟨k0, g0⟩ := WRep.behind ha hb hne 0
    rw [c0] at k0
    rw [f0] at g0
    clear ha
    go_wp2
    go_end0
    exact ⟨rfl, hp⟩
end Go.Proofs.YtpccaodkgboefaaGreatDoor

namespace Go.Proofs.YtpccaodkgboefaaGreatDoor
open Go.RowKit

def wRaw (st : List UInt8 × Int) (s : List UInt8) : List UInt8 × Int := (st.1 ++ s, st.2)
def wText (st : List UInt8 × Int) (s : List UInt8) (most : Int) : List UInt8 × Int :=
  if most < 0 then wRefuse st 1 else if most < s.length then wRefuse st 22 else (st.1 ++ digs s.length ++ s, st.2)

theorem byteCells_u8s (s : ByteArray) : byteCells s = u8s s.data.toList := rfl
theorem size_toList (s : ByteArray) : s.data.toList.length = s.size := by rw [Array.length_toList]; rfl

set_option maxRecDepth 100000 in
set_option maxHeartbeats 400000 in
theorem wraw_any (S : Nat → Prop) (b : Nat) (st : List UInt8 × Int) (s : ByteArray) (w : World) (h : WRep S w b st) (hlen : st.1.length + s.size ≤ 70368744177664) :
    Calls Tryz.prog 131 #[.pointer (some ⟨b, 0, none⟩), .string s] w fun e w' => e = .returned (.tuple #[]) ∧ Acts S w w' fun S' => WRep S' w' b (wRaw st s.data.toList) := by
  obtain ⟨i0, hi, hz0, hz1, hz2⟩ := info_parts Tryz.infoU8
  obtain ⟨v, ev, c0, c1, f0, f1, hb, hrow, hne, he⟩ := h.cells
  go_enter Tryz.func131, Tryz.ntmps131
  go_wp2_with (at_builtin; refine wpList_append_src rfl (.tmp 8) (.tmp 9) 96 9 rfl 5 i0 (.int .u8 0) 1 1 Tryz.underlying96 hi hz0 hz1 hz2 rfl (by decide) hrow (.string s) s.size (byteCells s) (by rfl) (by rfl) (Src.ofString _ Tryz.underlying9 s) (by unfold maxLen; omega) (by omega) ?_)
  intro v' w' ha
  obtain ⟨ao, cp, rfl⟩ := ownsRow_slice ha.row
  have hp := WRep.put h c0 (bs := st.1 ++ s.data.toList) (by rw [byteCells_u8s, ← u8s_append] at ha; simpa [size_toList] using ha)
  obtain ⟨k0, g0⟩ := WRep.behind ha hb hne 0
  rw [c0] at k0
  rw [f0] at g0
  clear ha
  go_wp2
  go_end0
  exact ⟨rfl, hp⟩

theorem digs_len10 {n : Nat} (h : n ≤ 9223372036854775807) : (digs n).length ≤ 10 := digs_len 9 n (by omega)

set_option maxRecDepth 100000 in
set_option maxHeartbeats 400000 in
theorem wtext_any (S : Nat → Prop) (b : Nat) (st : List UInt8 × Int) (s : ByteArray) (most : Int) (w : World) (h : WRep S w b st) (hlen : st.1.length + s.size + 10 < 70368744177664) :
    Calls Tryz.prog 111 #[.pointer (some ⟨b, 0, none⟩), .string s, .int .i64 most] w fun e w' => e = .returned (.tuple #[]) ∧ Acts S w w' fun S' => WRep S' w' b (wText st s.data.toList most) := by
  by_cases h1 : most < 0
  · have hfin : Hid (wText st s.data.toList most = (st.1, first st.2 1)) := by simp [Hid, wText, h1, wRefuse]
    go_enter Tryz.func111, Tryz.ntmps111
    go_wp2_with (go_at_call 63; refine (refuse_any S b st 1 _ (by decide) h).mono ?_; rintro e w' ⟨rfl, hA⟩)
    go_end0
    rw [hfin.out]
    exact ⟨rfl, hA⟩
  · by_cases h2 : most < s.size
    · have hfin : Hid (wText st s.data.toList most = (st.1, first st.2 22)) := by simp [Hid, wText, h1, h2, wRefuse]
      go_enter Tryz.func111, Tryz.ntmps111
      go_wp2_with (go_at_call 63; refine (refuse_any S b st 22 _ (by decide) h).mono ?_; rintro e w' ⟨rfl, hA⟩)
      go_end0
      rw [hfin.out]
      exact ⟨rfl, hA⟩
    · have hfin : Hid (wText st s.data.toList most = wRaw (wNum st s.size) s.data.toList) := by
        have e : ¬ ((s.size : Int) < 0 ∨ 4611686018427387904 < (s.size : Int)) := by omega
        simp only [Hid, wText, h1, h2, wRaw, wNum, size_toList, e, if_false]
        simp
      have hl : (wNum st s.size).1.length ≤ st.1.length + 10 := by
        have e : ¬ ((s.size : Int) < 0 ∨ 4611686018427387904 < (s.size : Int)) := by omega
        have := digs_len10 (n := s.size) (by omega)
        simp only [wNum, e, if_false, Int.toNat_natCast, List.length_append]
        omega
      go_enter Tryz.func111, Tryz.ntmps111
      go_wp2_with (go_at_call 64; refine (wnum_any S b st s.size _ h (by omega)).mono ?_; rintro e w1 ⟨rfl, S1, hg1, hk1, hw1⟩)
      refine (wraw_any S1 b _ s _ hw1 (by omega)).mono ?_
      rintro e w2 ⟨rfl, hA⟩
      go_wp2
      go_end0
      rw [hfin.out]
      exact ⟨rfl, .after hg1 hk1 hA⟩
end Go.Proofs.YtpccaodkgboefaaGreatDoor
