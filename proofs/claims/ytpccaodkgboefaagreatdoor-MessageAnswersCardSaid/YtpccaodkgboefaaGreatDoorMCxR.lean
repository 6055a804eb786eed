/-
  Package codec: how a Reader lies in memory; 'refuse' and 'take'.
  Package codec: a Reader's 'num': which number the bytes begin with, or what is wrong with it.
  Package codec: a Reader's 'count' and 'text'.
  Package codec: a Reader's 'read': a call that is made whole or not at all, whatever closure is handed in.
  Package codec: the Reader's methods that tell one thing: Byte, Num, Text.
  Package codec: the Reader's methods that tell a text: Text, Raw; what is left; what is told at the end; a new Reader, a new Writer.
-/
import Derived.Test.YtpccaodkgboefaaGreatDoorCxTold
import Derived.BigRegion
import Derived.BigQuiet
import Derived.Deep.QuietTactic
namespace Go.Proofs.YtpccaodkgboefaaGreatDoor
open Go.RowKit

/-- A Reader: what is left, how many are taken, what is wrong. -/
abbrev RSt := List UInt8 × Nat × Int

def RRep (S : Nat → Prop) (w : World) (b : Nat) (r : RSt) : Prop :=
  S b ∧ Lives S w ∧ r.2.1 + r.1.length ≤ 9223372036854775807 ∧ ∃ ev, w.heap[b]? = some (.cells #[.string (str r.1), .int .i64 (r.2.1 : Int), ev] 118 (0, 0)) ∧ ErrAt S w ev r.2.2

theorem RRep.keeps {S T : Nat → Prop} {w w' : World} {b : Nat} {r : RSt} (h : RRep S w b r) (hk : Keeps T w w') (hn : ∀ k, S k → ¬ T k) : RRep S w' b r := by
  obtain ⟨hS, hlt, hle, ev, hb, he⟩ := h
  exact ⟨hS, hlt.keeps hk, hle, ev, hk.at_ hb (hn b hS), he.keeps hk hn (fun _ h => h)⟩
theorem RRep.fresh {S : Nat → Prop} {w w' : World} {b : Nat} {r : RSt} (h : RRep S w b r) (hk : Fresh w w') : RRep S w' b r := h.keeps hk fun _ _ h => h

theorem RRep.cells {S : Nat → Prop} {w : World} {b : Nat} {r : RSt} (h : RRep S w b r) :
    ∃ ev, w.cell? ⟨b, 0, none⟩ = some (.string (str r.1)) ∧ w.cell? ⟨b, 1, none⟩ = some (.int .i64 (r.2.1 : Int)) ∧ w.cell? ⟨b, 2, none⟩ = some ev ∧
      w.frozen? ⟨b, 0, none⟩ = false ∧ w.frozen? ⟨b, 1, none⟩ = false ∧ w.frozen? ⟨b, 2, none⟩ = false ∧ b < w.heap.size ∧ ErrAt S w ev r.2.2 ∧ r.2.1 + r.1.length ≤ 9223372036854775807 := by
  obtain ⟨_, hlt, hle, ev, hb, he⟩ := h
  exact ⟨ev, cell_at hb 0, cell_at hb 1, cell_at hb 2, free_at hb 0, free_at hb 1, free_at hb 2, lt_of_block hb, he, hle⟩

/-- what is left and what is taken are stored -/
theorem RRep.moved {S : Nat → Prop} {w : World} {b : Nat} {r : RSt} (h : RRep S w b r) (l : List UInt8) (t : Nat) (ht : t + l.length ≤ 9223372036854775807) :
    Acts S w ((w.setCell ⟨b, 0, none⟩ (.string (str l))).setCell ⟨b, 1, none⟩ (.int .i64 (t : Int))) fun S' => RRep S' ((w.setCell ⟨b, 0, none⟩ (.string (str l))).setCell ⟨b, 1, none⟩ (.int .i64 (t : Int))) b (l, t, r.2.2) := by
  obtain ⟨hS, hlt, hle, ev, hb, he⟩ := h
  refine ⟨S, fun _ h => .inl h, ((Keeps.refl S w).setCell (fun _ => hS) _).setCell (fun _ => hS) _, hS, fun k hk => by simpa using hlt k hk, ht, ev, heap_setCell_at (heap_setCell_at hb 0 _) 1 _, ?_⟩
  rcases he with h | ⟨h0, k, hk, h1, h2⟩
  · exact .inl h
  · have hne : k ≠ b := fun e => by subst e; rw [hb] at h2; cases h2
    exact .inr ⟨h0, k, hk, h1, by rw [heap_setCell_ne _ _ _ _ hne, heap_setCell_ne _ _ _ _ hne]; exact h2⟩
theorem RRep.moved_drew {S : Nat → Prop} {w : World} {b : Nat} {r : RSt} (h : RRep S w b r) (l : List UInt8) (t : Nat) (ht : t + l.length ≤ 9223372036854775807) :
    Acts S w ((w.setCell ⟨b, 0, none⟩ (.string (str l))).setCell ⟨b, 1, none⟩ (.int .i64 ((t : Nat) : Int))).drew fun S' => RRep S' ((w.setCell ⟨b, 0, none⟩ (.string (str l))).setCell ⟨b, 1, none⟩ (.int .i64 ((t : Nat) : Int))).drew b (l, t, r.2.2) := by
  obtain ⟨S', h1, h2, h3⟩ := h.moved l t ht
  exact ⟨S', h1, h2.drew, h3⟩

def rRefuse (r : RSt) (f : Int) : RSt := (r.1, r.2.1, first r.2.2 f)

set_option maxHeartbeats 400000 in
theorem rrefuse_any (S : Nat → Prop) (b : Nat) (r : RSt) (f : Int) (w : World) (hf : f ≠ 0) (h : RRep S w b r) :
    Calls Tryz.prog 122 #[.pointer (some ⟨b, 0, none⟩), .int .i64 f] w fun e w' => e = .returned (.tuple #[]) ∧ Acts S w w' fun S' => RRep S' w' b (rRefuse r f) := by
  obtain ⟨ev, c0, c1, c2, f0, f1, f2, hbl, he, hle⟩ := h.cells
  obtain ⟨hS, hlt, _, ev', hb, _⟩ := h
  have e1 : ev' = ev := by rw [cell_at hb 2] at c2; simpa using c2
  subst e1
  rcases he with ⟨h0, rfl⟩ | ⟨h0, k, hk, rfl, hkk⟩
  · go_enter Tryz.func122, Tryz.ntmps122
    go_wp2
    go_end0
    refine ⟨rfl, fun k => S k ∨ k = w.heap.size, fun k h => orr h fun h => by subst h; simp, ((Keeps.refl S w).setCell (fun _ => hS) _).alloc _, .inl hS, hlt.grows hS (by simp) (fun k h => orr h fun h => by subst h; simp), hle, _, ?_, .inr ⟨?_, w.heap.size, .inr rfl, rfl, ?_⟩⟩
    · rw [Below.heap_alloc _ _ _ (by simpa using hbl)]; exact heap_setCell_at hb 2 _
    · simpa [rRefuse, first, h0] using hf
    · have := heap_size_alloc (w.setCell ⟨b, 2, none⟩ (.iface 133 (.pointer (some ⟨w.heap.size, 0, none⟩)))) (.cells #[Value.int IntKind.i64 f] 135)
      simp only [World.size_setCell] at this
      simpa [rRefuse, first, h0] using this
  · go_enter Tryz.func122, Tryz.ntmps122
    go_wp2
    go_end0
    exact ⟨rfl, .same ⟨hS, hlt, hle, _, hb, by simp only [rRefuse, first, if_neg h0]; exact .inr ⟨h0, k, hk, rfl, hkk⟩⟩⟩

/-- take -/
def rTake (r : RSt) (n : Nat) : List UInt8 × RSt :=
  if r.2.2 ≠ 0 then ([], r) else if r.1.length < n then ([], rRefuse r 21) else (r.1.take n, (r.1.drop n, r.2.1 + n, r.2.2))

set_option maxRecDepth 100000 in
set_option maxHeartbeats 1000000 in
theorem rtake_any (S : Nat → Prop) (b : Nat) (r : RSt) (n : Nat) (w : World) (hn : n ≤ 4611686018427387904) (h : RRep S w b r) :
    Calls Tryz.prog 91 #[.pointer (some ⟨b, 0, none⟩), .int .i64 n] w fun e w' => e = .returned (.string (str (rTake r n).1)) ∧ Acts S w w' fun S' => RRep S' w' b (rTake r n).2 := by
  obtain ⟨ev, c0, c1, c2, f0, f1, f2, hbl, he, hle⟩ := h.cells
  have hsz := str_size r.1
  by_cases h0 : r.2.2 = 0
  · have hev : ev = .nilIface := by
      rcases he with ⟨_, h⟩ | ⟨h1, _⟩
      · exact h
      · exact absurd h0 h1
    subst hev
    clear he
    have H0 : Hid (r.2.2 = 0) := h0
    clear h0
    by_cases h1 : r.1.length < n
    · have hfin : Hid (rTake r n = ([], rRefuse r 21)) := by simp [Hid, rTake, H0.out, h1]
      go_enter Tryz.func91, Tryz.ntmps91
      go_wp2_with (go_at_call 122; refine (rrefuse_any S b r 21 _ (by decide) h).mono ?_; rintro e w' ⟨rfl, hA⟩)
      go_ret
      rw [hfin.out]
      exact ⟨rfl, hA⟩
    · have hfin : Hid (rTake r n = (r.1.take n, (r.1.drop n, r.2.1 + n, r.2.2))) := by simp [Hid, rTake, H0.out, h1]
      have ht := str_to r.1 n
      have hf := str_from r.1 n
      have hnl : n ≤ r.1.length := by omega
      go_enter Tryz.func91, Tryz.ntmps91
      go_wp2
      go_region
      go_wp2
      go_ret
      rw [hfin.out]
      exact ⟨rfl, RRep.moved_drew h _ (r.2.1 + n) (by simp; omega)⟩
  · have hfin : Hid (rTake r n = ([], r)) := by simp [Hid, rTake, h0]
    obtain ⟨k, hk, rfl, hkk⟩ : ∃ k, S k ∧ ev = .iface 133 (.pointer (some ⟨k, 0, none⟩)) ∧ w.heap[k]? = some (.cells #[.int .i64 r.2.2] 135 (0, 0)) := by
      rcases he with ⟨h1, _⟩ | ⟨_, h⟩
      · exact absurd h1 h0
      · exact h
    go_enter Tryz.func91, Tryz.ntmps91
    go_wp2
    go_ret
    rw [hfin.out]
    exact ⟨rfl, .same h⟩
end Go.Proofs.YtpccaodkgboefaaGreatDoor

namespace Go.Proofs.YtpccaodkgboefaaGreatDoor
open Go.RowKit

/-- The number whose further digits these bytes begin with: i digits are taken, n is their worth. -/
def pNum : Nat → Nat → List UInt8 → Except Int (Nat × List UInt8)
  | _, _, [] => .error 21
  | i, n, c :: l =>
    if i = 8 ∧ 127 < c.toNat then .error 20
    else if 127 < c.toNat then pNum (i + 1) (n + c.toNat % 128 * 128 ^ i) l
    else if c.toNat = 0 ∧ 0 < i then .error 23
    else if 4611686018427387904 < n + c.toNat * 128 ^ i then .error 20
    else .ok (n + c.toNat * 128 ^ i, l)

theorem sh_eq (d k : Nat) (hd : d < 128) (hk : k ≤ 8) : wrap64 ((d : Int) * 2 ^ (7 * k)) = ((d * 128 ^ k : Nat) : Int) := by
  have e : (128 : Nat) ^ k = 2 ^ (7 * k) := by rw [Nat.pow_mul]
  have h1 : (128 : Nat) ^ k ≤ 128 ^ 8 := Nat.pow_le_pow_right (by decide) hk
  have h2 : d * 128 ^ k ≤ 127 * 128 ^ 8 := Nat.mul_le_mul (by omega) h1
  have e2 : ((d : Int) * 2 ^ (7 * k)) = ((d * 128 ^ k : Nat) : Int) := by rw [e]; simp
  rw [e2]
  refine IntWalk.wrap64_in _ ⟨by omega, by omega⟩
theorem wraps_i64' (n : Int) (h₀ : 0 ≤ n) (h₁ : n < 2 ^ 63) : IntKind.i64.wrap n = n := by rw [IntKind.wrap_i64]; omega
theorem or_eq (m d k : Nat) (hm : m < 128 ^ k) (hd : d < 128) (hk : k ≤ 8) : bits BinOp.or IntKind.i64 (m : Int) ((d * 128 ^ k : Nat) : Int) = ((m + d * 128 ^ k : Nat) : Int) := by
  have e : (128 : Nat) ^ k = 2 ^ (7 * k) := by rw [Nat.pow_mul]
  have h1 : (128 : Nat) ^ k ≤ 128 ^ 8 := Nat.pow_le_pow_right (by decide) hk
  have h2 : d * 128 ^ k ≤ 127 * 128 ^ 8 := Nat.mul_le_mul (by omega) h1
  have hc : bits BinOp.or IntKind.i64 (m : Int) ((d * 128 ^ k : Nat) : Int) = bits BinOp.or IntKind.i64 ((d * 128 ^ k : Nat) : Int) (m : Int) := by simp only [bits, BitVec.or_comm]
  rw [hc, bits_join .i64 63 (by decide) wraps_i64' (7 * k) _ _ (by omega) (by rw [e]; simp) (by omega) (by omega) (by rw [e] at hm; exact_mod_cast hm) (by omega)]
  omega
theorem and127 (c : UInt8) : bits BinOp.and IntKind.u8 (c.toNat : Int) 127 = ((c.toNat % 128 : Nat) : Int) := by
  have := bits_mask .u8 8 (by decide) wraps_u8 7 (by decide) (c.toNat : Int) (by omega) (by have := c.toNat_lt; omega)
  rw [show ((2 : Int) ^ 7 - 1) = 127 by decide] at this
  rw [this]; simp
/-- what the walk reads of a byte and of what it adds -/
theorem byte_facts (c : UInt8) (m k : Nat) (hm : m < 128 ^ k) (hk : k ≤ 8) : ∃ d q p : Nat, d = c.toNat % 128 ∧ q = d * 128 ^ k ∧ p = m + q ∧ d < 128 ∧ p < 128 ^ (k + 1) ∧ bits BinOp.and IntKind.u8 (c.toNat : Int) 127 = (d : Int) ∧
    wrap64 ((d : Int) * 2 ^ (7 * k)) = (q : Int) ∧ bits BinOp.or IntKind.i64 (m : Int) (q : Int) = (p : Int) := by
  refine ⟨_, _, _, rfl, rfl, rfl, by omega, ?_, and127 c, sh_eq _ _ (by omega) hk, or_eq _ _ _ hm (by omega) hk⟩
  have : c.toNat % 128 * 128 ^ k ≤ 127 * 128 ^ k := Nat.mul_le_mul_right _ (by omega)
  rw [Nat.pow_succ]; omega
theorem str_one (c : UInt8) : ∀ h : 0 < (str [c]).size, (str [c])[0]'h = c := fun _ => rfl

/-- what a part of a call has told and left: where it fails, only what is wrong is of interest -/
def Parsed {α : Type} (r : RSt) (p : Except Int (α × List UInt8)) (v : Value) (enc : α → Value) (zero : Value) (r' : RSt) : Prop :=
  match p with
  | .error e => v = zero ∧ r'.2.2 = e ∧ e ≠ 0
  | .ok (a, l) => v = enc a ∧ r' = (l, r.2.1 + (r.1.length - l.length), 0) ∧ l.length ≤ r.1.length

/-- one byte is taken, and there is one -/
theorem rtake_cons (S : Nat → Prop) (b : Nat) (c : UInt8) (l : List UInt8) (t : Nat) (w : World) (h : RRep S w b (c :: l, t, 0)) :
    Calls Tryz.prog 91 #[.pointer (some ⟨b, 0, none⟩), .int .i64 1] w fun e w' => e = .returned (.string (str [c])) ∧ ∃ S', Grows S S' w w' ∧ Keeps S w w' ∧ RRep S' w' b (l, t + 1, 0) ∧ w'.cell? ⟨b, 2, none⟩ = some .nilIface := by
  refine (rtake_any S b (c :: l, t, 0) 1 _ (by omega) h).mono ?_
  have hA : rTake (c :: l, t, 0) 1 = ([c], (l, t + 1, 0)) := by simp [rTake]
  rw [hA]
  rintro e w1 ⟨rfl, S1, hg1, hk1, hr1⟩
  obtain ⟨ev, c0, c1, c2, f0, f1, f2, hbl, he, hle⟩ := hr1.cells
  rcases he with ⟨_, h1⟩ | ⟨h1, _⟩
  · subst h1; exact ⟨rfl, S1, hg1, hk1, hr1, c2⟩
  · exact absurd rfl h1

set_option maxRecDepth 100000 in
set_option maxHeartbeats 1000000 in
theorem num_any (S : Nat → Prop) (b : Nat) (r : RSt) (w : World) (h : RRep S w b r) (h0 : r.2.2 = 0) :
    Calls Tryz.prog 126 #[.pointer (some ⟨b, 0, none⟩)] w fun e w' => ∃ v r', e = .returned v ∧ Parsed r (pNum 0 0 r.1) v (fun n => .int .i64 (n : Int)) (.int .i64 0) r' ∧ Acts S w w' fun S' => RRep S' w' b r' := by
  obtain ⟨rest, t, e⟩ := r
  simp only at h0
  subst h0
  go_enter Tryz.func126, Tryz.ntmps126
  go_wp2
  go_loopw [3, 4] (fun n i wr => ∃ (k m : Nat) (l : List UInt8) (t' : Nat) (S' : Nat → Prop), i = .int .i64 (k : Int) ∧ n = .int .i64 (m : Int) ∧ k ≤ 8 ∧ m < 128 ^ k ∧ Hid (pNum 0 0 rest = pNum k m l) ∧ Hid (t' + l.length = t + rest.length ∧ t ≤ t') ∧
      RRep S' wr b (l, t', 0) ∧ Grows S S' w wr ∧ Keeps S w wr) (fun _ i _ => (9 - (intOf i).toNat))
  case atStart => exact ⟨0, 0, rest, t, S, rfl, rfl, by omega, by simp, rfl, ⟨rfl, Nat.le_refl _⟩, h, fun _ h => .inl h, Keeps.refl _ _⟩
  case round =>
    obtain ⟨k, m, l, t', S', rfl, rfl, hk, hm, HP, HT, hr, hg, hkp⟩ := hrel
    rcases l with _ | ⟨c, l⟩
    · have hA : Hid (rTake ([], t', 0) 1 = ([], rRefuse ([], t', 0) 21)) := by simp [Hid, rTake]
      have hP : Hid (pNum k m [] = .error 21) := by simp [Hid, pNum]
      go_wp2_with fail
      refine (rtake_any S' b ([], t', 0) 1 _ (by omega) hr).mono ?_
      rw [hA.out]
      rintro e w1 ⟨rfl, S1, hg1, hk1, hr1⟩
      obtain ⟨ev, c0, c1, c2, f0, f1, f2, hbl, he, hle⟩ := hr1.cells
      obtain ⟨k1, hev⟩ : ∃ k1, ev = .iface 133 (.pointer (some ⟨k1, 0, none⟩)) := by
        rcases he with ⟨h1, _⟩ | ⟨_, k1, _, h, _⟩
        · simp [rRefuse, first] at h1
        · exact ⟨k1, h⟩
      subst hev
      go_wp2
      go_ret
      refine ⟨_, (rRefuse ([], t', 0) 21), rfl, ?_, .after hg hkp ⟨S1, hg1, hk1, hr1⟩⟩
      rw [HP.out, hP.out]
      exact ⟨rfl, by simp [rRefuse, first], by decide⟩
    · obtain ⟨d, q, p, hd, hq, hp, hd1, hp1, hand, hsh, hor⟩ := byte_facts c m k hm hk
      have HD : Hid (d = c.toNat % 128) := hd
      have HQ : Hid (q = d * 128 ^ k) := hq
      have HPP : Hid (p = m + q) := hp
      have hs1 : (str [c]).size = 1 := str_size _
      have hs0 := str_one c
      clear hd hq hp
      by_cases hk8 : k = 8
      · subst hk8
        have hsh8 : wrap64 ((d : Int) * 72057594037927936) = (q : Int) := hsh
        clear hsh
        have hor8 : bits BinOp.or IntKind.i64 (m : Int) ((d : Int) * 72057594037927936) = (p : Int) := by
          rw [← hor, ← hsh8, IntWalk.wrap64_in _ ⟨by omega, by omega⟩]
        by_cases hc : 127 < c.toNat
        · have hP : Hid (pNum 8 m (c :: l) = .error 20) := by simp [Hid, pNum, hc]
          go_wp2_with fail
          refine (rtake_cons S' b c l t' _ hr).mono ?_
          rintro e w1 ⟨rfl, S1, hg1, hk1, hr1, c2⟩
          go_wp2_with (go_at_call 122; refine (rrefuse_any S1 b _ 20 _ (by decide) hr1).mono ?_; rintro e w2 ⟨rfl, S2, hg2, hk2, hr2⟩)
          go_ret
          refine ⟨_, _, rfl, ?_, .after hg hkp (.after hg1 hk1 ⟨S2, hg2, hk2, hr2⟩)⟩
          rw [HP.out, hP.out]
          exact ⟨rfl, by simp [rRefuse, first], by decide⟩
        · by_cases hz : c.toNat = 0
          · have hP : Hid (pNum 8 m (c :: l) = .error 23) := by simp [Hid, pNum, hz]
            go_wp2_with fail
            refine (rtake_cons S' b c l t' _ hr).mono ?_
            rintro e w1 ⟨rfl, S1, hg1, hk1, hr1, c2⟩
            go_wp2_with (go_at_call 122; refine (rrefuse_any S1 b _ 23 _ (by decide) hr1).mono ?_; rintro e w2 ⟨rfl, S2, hg2, hk2, hr2⟩)
            go_ret
            refine ⟨_, _, rfl, ?_, .after hg hkp (.after hg1 hk1 ⟨S2, hg2, hk2, hr2⟩)⟩
            rw [HP.out, hP.out]
            exact ⟨rfl, by simp [rRefuse, first], by decide⟩
          · have hpe : Hid (m + c.toNat * 128 ^ 8 = p) := by rw [Hid, HPP.out, HQ.out, HD.out, Nat.mod_eq_of_lt (by omega)]
            by_cases hb : 4611686018427387904 < p
            · have hP : Hid (pNum 8 m (c :: l) = .error 20) := by simp only [Hid, pNum, hc, hz, hpe.out, hb]; simp
              go_wp2_with fail
              refine (rtake_cons S' b c l t' _ hr).mono ?_
              rintro e w1 ⟨rfl, S1, hg1, hk1, hr1, c2⟩
              go_wp2_with (go_at_call 122; refine (rrefuse_any S1 b _ 20 _ (by decide) hr1).mono ?_; rintro e w2 ⟨rfl, S2, hg2, hk2, hr2⟩)
              go_ret
              refine ⟨_, _, rfl, ?_, .after hg hkp (.after hg1 hk1 ⟨S2, hg2, hk2, hr2⟩)⟩
              rw [HP.out, hP.out]
              exact ⟨rfl, by simp [rRefuse, first], by decide⟩
            · have hP : Hid (pNum 8 m (c :: l) = .ok (p, l)) := by simp only [Hid, pNum, hc, hz, hpe.out, hb]; simp
              go_wp2_with fail
              refine (rtake_cons S' b c l t' _ hr).mono ?_
              rintro e w1 ⟨rfl, S1, hg1, hk1, hr1, c2⟩
              go_wp2
              go_ret
              refine ⟨_, _, rfl, ?_, .after hg hkp ⟨S1, hg1, hk1, hr1⟩⟩
              rw [HP.out, hP.out]
              have := HT.out
              simp only [List.length_cons] at this
              exact ⟨rfl, by simp; omega, by simp; omega⟩
      · have hk7 : k ≤ 7 := by omega
        by_cases hc : 127 < c.toNat
        · have hP : Hid (pNum k m (c :: l) = pNum (k + 1) p l) := by
            have e : m + c.toNat % 128 * 128 ^ k = p := by rw [HPP.out, HQ.out, HD.out]
            simp only [Hid, pNum, hc, hk8, e]; simp
          go_wp2_with fail
          refine (rtake_cons S' b c l t' _ hr).mono ?_
          rintro e w1 ⟨rfl, S1, hg1, hk1, hr1, c2⟩
          go_wp2
          go_roundw
          case rel =>
            have hgk : Grows S S1 w w1 ∧ Keeps S w w1 := by
              obtain ⟨S2, a1, a2, a3⟩ := Acts.after (R := fun S2 => S2 = S1) hg hkp ⟨S1, hg1, hk1, rfl⟩
              subst a3; exact ⟨a1, a2⟩
            refine ⟨k + 1, p, l, t' + 1, S1, by go_num, rfl, by omega, hp1, ?_, ?_, hr1, hgk.1, hgk.2⟩
            · show _ = _
              rw [HP.out, hP.out]
            · show _ ∧ _
              have := HT.out
              simp only [List.length_cons] at this
              omega
          case measure => simp [intOf]; omega
        · by_cases hz : c.toNat = 0 ∧ 0 < k
          · obtain ⟨hz, hk0⟩ := hz
            have hP : Hid (pNum k m (c :: l) = .error 23) := by simp [Hid, pNum, hz, hk0, hk8]
            have hand0 : bits BinOp.and IntKind.u8 0 127 = (d : Int) := by rw [hz] at hand; exact hand
            go_wp2_with fail
            refine (rtake_cons S' b c l t' _ hr).mono ?_
            rintro e w1 ⟨rfl, S1, hg1, hk1, hr1, c2⟩
            go_wp2_with (go_at_call 122; refine (rrefuse_any S1 b _ 23 _ (by decide) hr1).mono ?_; rintro e w2 ⟨rfl, S2, hg2, hk2, hr2⟩)
            go_ret
            refine ⟨_, _, rfl, ?_, .after hg hkp (.after hg1 hk1 ⟨S2, hg2, hk2, hr2⟩)⟩
            rw [HP.out, hP.out]
            exact ⟨rfl, by simp [rRefuse, first], by decide⟩
          · have hpe : Hid (m + c.toNat * 128 ^ k = p) := by rw [Hid, HPP.out, HQ.out, HD.out, Nat.mod_eq_of_lt (by omega)]
            have hb : p ≤ 4611686018427387904 := by
              have : (128 : Nat) ^ (k + 1) ≤ 128 ^ 8 := Nat.pow_le_pow_right (by decide) (by omega)
              omega
            have hP : Hid (pNum k m (c :: l) = .ok (p, l)) := by
              have : ¬ 4611686018427387904 < p := by omega
              simp only [Hid, pNum, hc, hz, hpe.out, hk8, this]; simp
            by_cases hz0 : c.toNat = 0
            · have hk0 : k = 0 := by omega
              have hk0' : ¬ 0 < k := by omega
              have hand0 : bits BinOp.and IntKind.u8 0 127 = (d : Int) := by rw [hz0] at hand; exact hand
              clear hz hk0
              go_wp2_with fail
              refine (rtake_cons S' b c l t' _ hr).mono ?_
              rintro e w1 ⟨rfl, S1, hg1, hk1, hr1, c2⟩
              go_wp2
              go_ret
              refine ⟨_, _, rfl, ?_, .after hg hkp ⟨S1, hg1, hk1, hr1⟩⟩
              rw [HP.out, hP.out]
              have := HT.out
              simp only [List.length_cons] at this
              exact ⟨rfl, by simp; omega, by simp; omega⟩
            · clear hz
              go_wp2_with fail
              refine (rtake_cons S' b c l t' _ hr).mono ?_
              rintro e w1 ⟨rfl, S1, hg1, hk1, hr1, c2⟩
              go_wp2
              go_ret
              refine ⟨_, _, rfl, ?_, .after hg hkp ⟨S1, hg1, hk1, hr1⟩⟩
              rw [HP.out, hP.out]
              have := HT.out
              simp only [List.length_cons] at this
              exact ⟨rfl, by simp; omega, by simp; omega⟩
end Go.Proofs.YtpccaodkgboefaaGreatDoor

namespace Go.Proofs.YtpccaodkgboefaaGreatDoor
open Go.RowKit

def pCount (many : Int) (l : List UInt8) : Except Int (Nat × List UInt8) :=
  match pNum 0 0 l with
  | .error e => .error e
  | .ok (n, l') => if many < n then .error 22 else .ok (n, l')
def pText (most : Int) (l : List UInt8) : Except Int (List UInt8 × List UInt8) :=
  match pCount most l with
  | .error e => .error e
  | .ok (n, l') => if l'.length < n then .error 21 else .ok (l'.take n, l'.drop n)

theorem pNum_le : ∀ (l : List UInt8) (i n m : Nat) (l' : List UInt8), pNum i n l = .ok (m, l') → m ≤ 4611686018427387904 ∧ l'.length < l.length
  | [], _, _, _, _, h => by simp [pNum] at h
  | c :: l, i, n, m, l', h => by
    unfold pNum at h
    by_cases h1 : i = 8 ∧ 127 < c.toNat
    · rw [if_pos h1] at h; cases h
    · rw [if_neg h1] at h
      by_cases h2 : 127 < c.toNat
      · rw [if_pos h2] at h
        have := pNum_le l _ _ _ _ h
        exact ⟨this.1, by simp; omega⟩
      · rw [if_neg h2] at h
        by_cases h3 : c.toNat = 0 ∧ 0 < i
        · rw [if_pos h3] at h; cases h
        · rw [if_neg h3] at h
          by_cases h4 : 4611686018427387904 < n + c.toNat * 128 ^ i
          · rw [if_pos h4] at h; cases h
          · rw [if_neg h4] at h
            injection h with h
            injection h with h h'
            subst h; subst h'
            exact ⟨by omega, by simp⟩
theorem pCount_le {l : List UInt8} {many : Int} {m : Nat} {l' : List UInt8} (h : pCount many l = .ok (m, l')) : m ≤ 4611686018427387904 ∧ l'.length < l.length ∧ (m : Int) ≤ many := by
  unfold pCount at h
  cases hp : pNum 0 0 l with
  | error e => rw [hp] at h; cases h
  | ok x =>
    obtain ⟨n, l1⟩ := x
    rw [hp] at h
    simp only at h
    by_cases hm : many < n
    · rw [if_pos hm] at h; cases h
    · rw [if_neg hm] at h
      injection h with h
      injection h with h h'
      subst h; subst h'
      exact ⟨(pNum_le _ _ _ _ _ hp).1, (pNum_le _ _ _ _ _ hp).2, by omega⟩

theorem RRep.err {S : Nat → Prop} {w : World} {b : Nat} {r : RSt} (h : RRep S w b r) (h0 : r.2.2 ≠ 0) : ∃ k, w.cell? ⟨b, 2, none⟩ = some (.iface 133 (.pointer (some ⟨k, 0, none⟩))) := by
  obtain ⟨ev, _, _, c2, _, _, _, _, he, _⟩ := h.cells
  rcases he with ⟨h1, _⟩ | ⟨_, k, _, h1, _⟩
  · exact absurd h1 h0
  · exact ⟨k, by rw [c2, h1]⟩
theorem RRep.fine {S : Nat → Prop} {w : World} {b : Nat} {r : RSt} (h : RRep S w b r) (h0 : r.2.2 = 0) : w.cell? ⟨b, 2, none⟩ = some .nilIface := by
  obtain ⟨ev, _, _, c2, _, _, _, _, he, _⟩ := h.cells
  rcases he with ⟨_, h1⟩ | ⟨h1, _⟩
  · rw [c2, h1]
  · exact absurd h0 h1

set_option maxRecDepth 100000 in
set_option maxHeartbeats 1000000 in
theorem count_any (S : Nat → Prop) (b : Nat) (r : RSt) (many : Int) (w : World) (h : RRep S w b r) (h0 : r.2.2 = 0) (hm : 0 ≤ many) :
    Calls Tryz.prog 123 #[.pointer (some ⟨b, 0, none⟩), .int .i64 many] w fun e w' => ∃ v r', e = .returned v ∧ Parsed r (pCount many r.1) v (fun n => .int .i64 (n : Int)) (.int .i64 0) r' ∧ Acts S w w' fun S' => RRep S' w' b r' := by
  have hp : Hid (pCount many r.1 = match pNum 0 0 r.1 with | .error e => .error e | .ok (n, l') => if many < n then .error 22 else .ok (n, l')) := rfl
  go_enter Tryz.func123, Tryz.ntmps123
  go_wp2_with fail
  refine (num_any S b r _ h h0).mono ?_
  rintro e w1 ⟨v, r1, rfl, hv, S1, hg1, hk1, hr1⟩
  cases hq : pNum 0 0 r.1 with
  | error f =>
    rw [hq] at hv
    have hp2 := hp.out
    rw [hq] at hp2
    obtain ⟨rfl, h1, h2⟩ := hv
    obtain ⟨k, c2⟩ := hr1.err (by rw [h1]; exact h2)
    have HP : Hid (pCount many r.1 = .error f) := hp2
    have H1 : Hid (r1.2.2 = f) := h1
    clear hp hp2 hq h1
    go_wp2
    go_ret
    exact ⟨_, r1, rfl, by rw [HP.out]; exact ⟨rfl, H1.out, h2⟩, S1, hg1, hk1, hr1⟩
  | ok x =>
    obtain ⟨n, l'⟩ := x
    rw [hq] at hv
    have hp2 := hp.out
    rw [hq] at hp2
    simp only at hp2
    obtain ⟨rfl, h1, h2⟩ := hv
    have c2 := hr1.fine (by rw [h1])
    have HQ : Hid (pNum 0 0 r.1 = .ok (n, l')) := hq
    have H1 : Hid (r1 = (l', r.2.1 + (r.1.length - l'.length), 0)) := h1
    clear hp hq h1
    by_cases hmn : many < n
    · rw [if_pos hmn] at hp2
      have HP : Hid (pCount many r.1 = .error 22) := hp2
      clear hp2
      go_wp2_with fail
      refine (rrefuse_any S1 b _ 22 _ (by decide) hr1).mono ?_
      rintro e w2 ⟨rfl, S2, hg2, hk2, hr2⟩
      obtain ⟨k, c3⟩ := hr2.err (by rw [H1.out]; simp [rRefuse, first])
      go_wp2
      go_ret
      exact ⟨_, _, rfl, by rw [HP.out]; exact ⟨rfl, by rw [H1.out]; simp [rRefuse, first], by decide⟩, .after hg1 hk1 ⟨S2, hg2, hk2, hr2⟩⟩
    · rw [if_neg hmn] at hp2
      have HP : Hid (pCount many r.1 = .ok (n, l')) := hp2
      clear hp2
      go_wp2
      go_ret
      exact ⟨_, r1, rfl, by rw [HP.out]; exact ⟨rfl, H1.out, h2⟩, S1, hg1, hk1, hr1⟩

set_option maxRecDepth 100000 in
set_option maxHeartbeats 1000000 in
theorem text_any (S : Nat → Prop) (b : Nat) (r : RSt) (most : Int) (w : World) (h : RRep S w b r) (h0 : r.2.2 = 0) (hm : 0 ≤ most) :
    Calls Tryz.prog 124 #[.pointer (some ⟨b, 0, none⟩), .int .i64 most] w fun e w' => ∃ v r', e = .returned v ∧ Parsed r (pText most r.1) v (fun s => .string (str s)) (.string (str [])) r' ∧ Acts S w w' fun S' => RRep S' w' b r' := by
  have hp : Hid (pText most r.1 = match pCount most r.1 with | .error e => .error e | .ok (n, l') => if l'.length < n then .error 21 else .ok (l'.take n, l'.drop n)) := rfl
  go_enter Tryz.func124, Tryz.ntmps124
  go_wp2_with fail
  refine (count_any S b r most _ h h0 hm).mono ?_
  rintro e w1 ⟨v, r1, rfl, hv, S1, hg1, hk1, hr1⟩
  cases hq : pCount most r.1 with
  | error f =>
    rw [hq] at hv
    have hp2 := hp.out
    rw [hq] at hp2
    obtain ⟨rfl, h1, h2⟩ := hv
    have HP : Hid (pText most r.1 = .error f) := hp2
    have H1 : Hid (r1.2.2 = f) := h1
    have ht : Hid (rTake r1 0 = ([], r1)) := by simp [Hid, rTake, h1, h2]
    clear hp hp2 hq h1
    go_wp2_with fail
    refine (rtake_any S1 b r1 0 _ (by omega) hr1).mono ?_
    rw [ht.out]
    rintro e w2 ⟨rfl, S2, hg2, hk2, hr2⟩
    go_wp2
    go_ret
    exact ⟨_, r1, rfl, by rw [HP.out]; exact ⟨rfl, H1.out, h2⟩, .after hg1 hk1 ⟨S2, hg2, hk2, hr2⟩⟩
  | ok x =>
    obtain ⟨n, l'⟩ := x
    rw [hq] at hv
    have hle := pCount_le hq
    have hp2 := hp.out
    rw [hq] at hp2
    simp only at hp2
    obtain ⟨rfl, rfl, h2⟩ := hv
    clear hp hq
    go_wp2_with fail
    refine (rtake_any S1 b _ n _ hle.1 hr1).mono ?_
    rintro e w2 ⟨rfl, S2, hg2, hk2, hr2⟩
    by_cases hln : l'.length < n
    · rw [if_pos hln] at hp2
      have ht : Hid (rTake (l', r.2.1 + (r.1.length - l'.length), 0) n = ([], rRefuse (l', r.2.1 + (r.1.length - l'.length), 0) 21)) := by simp [Hid, rTake, hln]
      have HP : Hid (pText most r.1 = .error 21) := hp2
      clear hp2
      rw [ht.out] at hr2 ⊢
      go_wp2
      go_ret
      exact ⟨_, _, rfl, by rw [HP.out]; exact ⟨rfl, by simp [rRefuse, first], by decide⟩, .after hg1 hk1 ⟨S2, hg2, hk2, hr2⟩⟩
    · rw [if_neg hln] at hp2
      have ht : Hid (rTake (l', r.2.1 + (r.1.length - l'.length), 0) n = (l'.take n, (l'.drop n, r.2.1 + (r.1.length - l'.length) + n, 0))) := by simp [Hid, rTake, hln]
      have HP : Hid (pText most r.1 = .ok (l'.take n, l'.drop n)) := hp2
      clear hp2
      rw [ht.out] at hr2 ⊢
      go_wp2
      go_ret
      exact ⟨_, _, rfl, by rw [HP.out]; exact ⟨rfl, by simp; omega, by simp; omega⟩, .after hg1 hk1 ⟨S2, hg2, hk2, hr2⟩⟩
end Go.Proofs.YtpccaodkgboefaaGreatDoor

namespace Go.Proofs.YtpccaodkgboefaaGreatDoor
open Go.RowKit

def rBack (r r1 : RSt) : RSt := if r1.2.2 = 0 then r1 else (r.1, r.2.1, r1.2.2)

set_option maxRecDepth 100000 in
set_option maxHeartbeats 1000000 in
theorem read_wrong (S : Nat → Prop) (b : Nat) (r : RSt) (f : Value) (w : World) (h : RRep S w b r) (h0 : r.2.2 ≠ 0) :
    Calls Tryz.prog 89 #[.pointer (some ⟨b, 0, none⟩), f] w fun e w' => e = .returned (.bool false) ∧ w = w' := by
  obtain ⟨k, c2⟩ := h.err h0
  go_enter Tryz.func89, Tryz.ntmps89
  go_wp2
  go_ret
  exact ⟨rfl, rfl⟩

set_option maxRecDepth 100000 in
set_option maxHeartbeats 1000000 in
theorem read_any (S T : Nat → Prop) (b : Nat) (r : RSt) (K : Nat) (cap : Array Value) (w : World) (Q : RSt → (Nat → Prop) → World → Prop) (h : RRep S w b r) (h0 : r.2.2 = 0)
    (hen : ∀ w, (callFunc K cap).run Tryz.prog w = .ok (.enter K cap) w)
    (hcall : ∀ nq, Calls Tryz.prog K cap (w.drewN nq) fun e w1 => e = .returned (.tuple #[]) ∧ ∃ r1 S1, Grows S S1 w w1 ∧ Keeps (fun k => S k ∨ T k) w w1 ∧ RRep S1 w1 b r1 ∧ Q r1 S1 w1) :
    Calls Tryz.prog 89 #[.pointer (some ⟨b, 0, none⟩), .func (.func K) #[] cap] w fun e w' =>
      ∃ r1 w1 S1 S2, Q r1 S1 w1 ∧ (r1.2.2 = 0 → S2 = S1 ∧ w' = w1) ∧ e = .returned (.bool (decide (r1.2.2 = 0))) ∧ Grows S S2 w w' ∧ Keeps (fun k => S k ∨ T k) w w' ∧ RRep S2 w' b (rBack r r1) ∧ (∀ k, k ≠ b → w'.heap[k]? = w1.heap[k]?) := by
  have c2 := h.fine h0
  obtain ⟨ev, c0, c1, _, f0, f1, f2, hbl, _, hle⟩ := h.cells
  have HC := hid hcall
  have H0 := hid h0
  clear h0
  clear hcall
  go_enter Tryz.func89, Tryz.ntmps89
  go_wp2_with fail
  go_quiet (fail)
  go_wp2_with fail
  refine (HC.out nq).mono ?_
  rintro e w1 ⟨rfl, r1, S1, hg1, hk1, hr1, hq⟩
  have hS := h.1
  by_cases h1 : r1.2.2 = 0
  · have c3 := hr1.fine h1
    have H1 := hid h1
    clear h1 HC
    go_wp2
    go_ret
    exact ⟨r1, w1, S1, S1, hq, fun _ => ⟨rfl, rfl⟩, by simp [H1.out], hg1, hk1, by simpa [rBack, H1.out] using hr1, fun _ _ => rfl⟩
  · obtain ⟨k1, c3⟩ := hr1.err h1
    obtain ⟨ev1, a0, a1, _, g0, g1, _, hbl1, _, _⟩ := hr1.cells
    have H1 := hid h1
    have hmv := hr1.moved r.1 r.2.1 hle
    have HM := hid hmv
    clear h1 HC hmv
    go_wp2
    go_ret
    obtain ⟨S2, b1, b2, b3⟩ := Acts.afterT hg1 hk1 HM.out
    refine ⟨r1, w1, S1, S2, hq, fun h => absurd h H1.out, ?_, b1, b2, ?_, fun k hk => ?_⟩
    · have e : decide (r1.2.2 = 0) = false := decide_eq_false H1.out
      rw [e]; rfl
    · simp only [rBack]; rw [if_neg H1.out]; exact b3
    · rw [heap_setCell_ne _ _ _ _ hk, heap_setCell_ne _ _ _ _ hk]
end Go.Proofs.YtpccaodkgboefaaGreatDoor

namespace Go.Proofs.YtpccaodkgboefaaGreatDoor
open Go.RowKit

/-- a call that is whole or leaves the Reader where it was -/
def rd {α : Type} (p : List UInt8 → Except Int (α × List UInt8)) (zero : α) (r : RSt) : α × RSt :=
  if r.2.2 ≠ 0 then (zero, r) else match p r.1 with
  | .error e => (zero, (r.1, r.2.1, e))
  | .ok (a, l) => (a, (l, r.2.1 + (r.1.length - l.length), 0))

def pByte : List UInt8 → Except Int (Nat × List UInt8)
  | [] => .error 21
  | c :: l => .ok (c.toNat, l)
def pTextM (most : Int) (l : List UInt8) : Except Int (List UInt8 × List UInt8) := if most < 0 then .error 1 else pText most l
def pRaw (n : Int) (l : List UInt8) : Except Int (List UInt8 × List UInt8) := if n < 0 then .error 1 else if l.length < n.toNat then .error 21 else .ok (l.take n.toNat, l.drop n.toNat)

/-- what a closure leaves: the captured result, and the Reader -/
def Leaves1 {α : Type} (nb : Nat) (r : RSt) (p : Except Int (α × List UInt8)) (enc : α → Value) (zero : Value) (r1 : RSt) (w1 : World) : Prop :=
  ∃ v, w1.cell? ⟨nb, 0, none⟩ = some v ∧ w1.frozen? ⟨nb, 0, none⟩ = false ∧ Parsed r p v enc zero r1

theorem makeFunc_run (P : Program) (fn : Fn) (first cap : Array Value) (w : World) : (Instr.makeFunc fn first cap).run P w = .ok (.func fn first cap) w := rfl

theorem rd_back {α : Type} {r r1 : RSt} {p : List UInt8 → Except Int (α × List UInt8)} {zero : α} {v : Value} {enc : α → Value} (h0 : r.2.2 = 0) (h : Parsed r (p r.1) v enc (enc zero) r1) :
    v = enc (rd p zero r).1 ∧ rBack r r1 = (rd p zero r).2 := by
  unfold rd
  rw [if_neg (by simpa using h0)]
  cases hp : p r.1 with
  | error e =>
    rw [hp] at h
    obtain ⟨h1, h2, h3⟩ := h
    refine ⟨h1, ?_⟩
    simp only [rBack]
    rw [if_neg (by rw [h2]; exact h3), h2]
  | ok x =>
    obtain ⟨a, l⟩ := x
    rw [hp] at h
    obtain ⟨h1, h2, h3⟩ := h
    exact ⟨h1, by simp [rBack, h2]⟩

/-- the closure's last store: into its captured result -/
theorem stored_out {α : Type} {S S1 : Nat → Prop} {b nb : Nat} {w w1 : World} {r r1 : RSt} {p : Except Int (α × List UInt8)} {enc : α → Value} {zero old u : Value} (hg1 : Grows S S1 w w1) (hk1 : Keeps S w w1) (hr1 : RRep S1 w1 b r1)
    (hn1 : w1.cell? ⟨nb, 0, none⟩ = some old) (hf1 : w1.frozen? ⟨nb, 0, none⟩ = false) (hnS : ¬ S nb) (hlt : nb < w.heap.size) (hP : Parsed r p u enc zero r1) :
    ∃ r2 S2, Grows S S2 w (w1.setCell ⟨nb, 0, none⟩ u) ∧ Keeps (fun k => S k ∨ k = nb) w (w1.setCell ⟨nb, 0, none⟩ u) ∧ RRep S2 (w1.setCell ⟨nb, 0, none⟩ u) b r2 ∧ Leaves1 nb r p enc zero r2 (w1.setCell ⟨nb, 0, none⟩ u) := by
  refine ⟨r1, S1, fun k hk => orr (hg1 k hk) fun h => ⟨h.1, by simpa using h.2⟩, (hk1.mono fun _ _ h => .inl h).setCell (fun _ => .inr rfl) _, hr1.keeps (((Keeps.refl (fun k => k = nb) w1).setCell (fun _ => rfl) _)) ?_, u, World.cell?_setCell_same _ _ _ hn1, by rw [World.frozen?_setCell]; exact hf1, hP⟩
  intro k hk hkn
  subst hkn
  rcases hg1 _ hk with h | h
  · exact hnS h
  · omega

set_option maxRecDepth 100000 in
set_option maxHeartbeats 1000000 in
theorem byte_inner (S : Nat → Prop) (b : Nat) (r : RSt) (pb nb : Nat) (w : World) (h : RRep S w b r) (h0 : r.2.2 = 0) (hp : w.cell? ⟨pb, 0, none⟩ = some (.pointer (some ⟨b, 0, none⟩)))
    (hn : w.cell? ⟨nb, 0, none⟩ = some (.int .i64 0)) (hf : w.frozen? ⟨nb, 0, none⟩ = false) (hnS : ¬ S nb) (hlt : nb < w.heap.size) :
    Calls Tryz.prog 90 #[.pointer (some ⟨pb, 0, none⟩), .pointer (some ⟨nb, 0, none⟩)] w fun e w1 => e = .returned (.tuple #[]) ∧ ∃ r1 S1, Grows S S1 w w1 ∧ Keeps (fun k => S k ∨ k = nb) w w1 ∧ RRep S1 w1 b r1 ∧
      Leaves1 nb r (pByte r.1) (fun n => .int .i64 (n : Int)) (.int .i64 0) r1 w1 := by
  obtain ⟨rest, t, e0⟩ := r
  simp only at h0
  subst h0
  rcases rest with _ | ⟨c, l⟩
  · have hA : Hid (rTake ([], t, 0) 1 = ([], rRefuse ([], t, 0) 21)) := by simp [Hid, rTake]
    have hs : (str []).toList = [] := str_toList []
    go_enter Tryz.func90, Tryz.ntmps90
    go_wp2_with fail
    refine (rtake_any S b ([], t, 0) 1 _ (by omega) h).mono ?_
    rw [hA.out]
    rintro e w1 ⟨rfl, S1, hg1, hk1, hr1⟩
    have hn1 := (hk1.cell (p := ⟨nb, 0, none⟩) hlt hnS).trans hn
    go_wp2
    go_end0
    exact ⟨rfl, _, S1, hg1, hk1.mono fun _ _ h => .inl h, hr1, _, hn1, (hk1.frozen (p := ⟨nb, 0, none⟩) hlt hnS).trans hf, rfl, by simp [rRefuse, first], by decide⟩
  · have hs : (str [c]).toList.isEmpty = false := by rw [str_toList]; rfl
    have hs0 := str_one c
    have hs1 : (str [c]).size = 1 := str_size _
    have hc : c.toNat ≤ 255 := by have := c.toNat_lt; omega
    go_enter Tryz.func90, Tryz.ntmps90
    go_wp2_with fail
    refine (rtake_cons S b c l t _ h).mono ?_
    rintro e w1 ⟨rfl, S1, hg1, hk1, hr1, c2⟩
    have hn1 := (hk1.cell (p := ⟨nb, 0, none⟩) hlt hnS).trans hn
    have hf1 := (hk1.frozen (p := ⟨nb, 0, none⟩) hlt hnS).trans hf
    go_wp2
    go_end0
    exact ⟨rfl, stored_out hg1 hk1 hr1 hn1 hf1 hnS hlt ⟨rfl, by simp, by simp⟩⟩

/-- A pointer's and a variable's block of one cell, new. -/
theorem RRep.boxed {S : Nat → Prop} {w : World} {b : Nat} {r : RSt} (h : RRep S w b r) (o : Obj) : RRep S (w.alloc o) b r := h.fresh ((Keeps.refl _ w).alloc o)
theorem RRep.notNew {S : Nat → Prop} {w : World} {b : Nat} {r : RSt} (h : RRep S w b r) {k : Nat} (hk : w.heap.size ≤ k) : ¬ S k := fun h' => by have := (h.2.1 k h').2; omega

/-- the method around such a closure: the world in which 'read' is called, and what it hands out -/
theorem one_done {α : Type} {S1 : Nat → Prop} {b nb : Nat} {w' w1 : World} {r r1 : RSt} {p : List UInt8 → Except Int (α × List UInt8)} {enc : α → Value} {zero : α} (h0 : r.2.2 = 0) (hl : Leaves1 nb r (p r.1) enc (enc zero) r1 w1) (hne : nb ≠ b)
    (hk : ∀ k, k ≠ b → w'.heap[k]? = w1.heap[k]?) (hr : RRep S1 w' b (rBack r r1)) : w'.cell? ⟨nb, 0, none⟩ = some (enc (rd p zero r).1) ∧ w'.frozen? ⟨nb, 0, none⟩ = false ∧ RRep S1 w' b (rd p zero r).2 := by
  obtain ⟨v, hv, hf, hP⟩ := hl
  obtain ⟨h1, h2⟩ := rd_back (zero := zero) h0 hP
  exact ⟨by rw [World.cell?_of_block (w := w1) (hk nb hne), hv, h1], by rw [World.frozen?_of_block (w := w1) (hk nb hne), hf], by rw [← h2]; exact hr⟩

theorem Acts.boxes {S S1 : Nat → Prop} {b nb : Nat} {w W w2 : World} {q : RSt} (hW : Fresh w W) (hg1 : Grows S S1 W w2) (hk1 : Keeps (fun k => S k ∨ k = nb) W w2) (hnb : w.heap.size ≤ nb) (hnW : nb < W.heap.size) (hnS : ¬ S nb)
    (hr2 : RRep S1 w2 b q) (u : Value) : Acts S w (w2.setCell ⟨nb, 0, none⟩ u) fun S' => RRep S' (w2.setCell ⟨nb, 0, none⟩ u) b q := by
  have hsz := hW.size
  refine ⟨S1, fun k hk => orr (hg1 k hk) fun h => ⟨by omega, by simpa using h.2⟩, ((hW.mono fun _ _ h => h.elim).trans' hk1 fun i hi h => ?_).setCell (fun h => by simp only at h; omega) _, hr2.keeps ((Keeps.refl (fun k => k = nb) w2).setCell (fun _ => rfl) _) ?_⟩
  · rcases h with h | h
    · exact h
    · omega
  · intro k hk hkn
    subst hkn
    rcases hg1 _ hk with h | h
    · exact hnS h
    · omega

set_option maxRecDepth 100000 in
set_option maxHeartbeats 1000000 in
theorem rbyte_any (S : Nat → Prop) (b : Nat) (r : RSt) (w : World) (h : RRep S w b r) :
    Calls Tryz.prog 49 #[.pointer (some ⟨b, 0, none⟩)] w fun e w' => e = .returned (.int .i64 ((rd pByte 0 r).1 : Int)) ∧ Acts S w w' fun S' => RRep S' w' b (rd pByte 0 r).2 := by
  have hmf := makeFunc_run Tryz.prog
  have hbl := h.cells.choose_spec.2.2.2.2.2.2.1
  by_cases h0 : r.2.2 = 0
  · have H0 := hid h0
    clear h0
    go_enter Tryz.func49, Tryz.ntmps49
    go_wp2_with fail
    refine (read_any S (fun k => k = w.heap.size + 1) b r 90 _ _ (fun r1 _ w1 => Leaves1 (w.heap.size + 1) r (pByte r.1) (fun n => .int .i64 (n : Int)) (.int .i64 0) r1 w1) ((h.boxed _).boxed _) H0.out (by intro w0; kernel_rfl) ?hc).mono ?_
    case hc =>
      intro nq
      refine (byte_inner S b r w.heap.size (w.heap.size + 1) _ (((h.boxed _).boxed _).keeps ((Keeps.refl (fun _ => False) _).drewN nq) (fun _ _ h => h)) H0.out (by simp) (by simp) (by simp) (h.notNew (by omega)) (by simp)).mono ?_
      rintro e w1 ⟨rfl, r1, S1, a1, a2, a3, a4⟩
      exact ⟨rfl, r1, S1, a1, ⟨a2.os, a2.tape, a2.output, a2.size, a2.block⟩, a3, a4⟩
    rintro e w2 ⟨r1, w1, S0, S1, hl, _, rfl, hg1, hk1, hr1, hsame⟩
    obtain ⟨hcell, hfr, hr2⟩ := one_done (zero := 0) H0.out hl (by omega) hsame hr1
    clear hl hsame hr1 H0
    obtain ⟨q, hq⟩ : ∃ q, q = rd pByte 0 r := ⟨_, rfl⟩
    rw [← hq] at hcell hr2
    have HQ := hid hq
    clear hq
    go_wp2
    have hc3 := World.cell?_setCell_same _ _ (.int .i64 (q.1 : Int)) hcell
    refine bodyPost_ret (v := .int .i64 (q.1 : Int)) (by simp [results, Tryz.results49, go_sem, hc3]) rfl ?_
    rw [← HQ.out]
    exact ⟨rfl, .boxes (((Keeps.refl _ w).alloc _).alloc _) hg1 hk1 (by omega) (by simp) (h.notNew (by omega)) hr2 _⟩
  · have HQ : Hid (rd pByte 0 r = (0, r)) := by simp [Hid, rd, h0]
    go_enter Tryz.func49, Tryz.ntmps49
    go_wp2_with fail
    refine (read_wrong S b r _ _ ((h.boxed _).boxed _) h0).mono ?_
    rintro e w2 ⟨rfl, rfl⟩
    go_wp2
    refine bodyPost_ret (v := .int .i64 0) (by simp [results, Tryz.results49, go_sem]) rfl ?_
    rw [HQ.out]
    exact ⟨rfl, S, fun _ h => .inl h, ((Keeps.refl _ w).alloc _).alloc _, (h.boxed _).boxed _⟩

set_option maxRecDepth 100000 in
set_option maxHeartbeats 1000000 in
theorem num_inner (S : Nat → Prop) (b : Nat) (r : RSt) (pb nb : Nat) (w : World) (h : RRep S w b r) (h0 : r.2.2 = 0) (hp : w.cell? ⟨pb, 0, none⟩ = some (.pointer (some ⟨b, 0, none⟩)))
    (hn : w.cell? ⟨nb, 0, none⟩ = some (.int .i64 0)) (hf : w.frozen? ⟨nb, 0, none⟩ = false) (hnS : ¬ S nb) (hlt : nb < w.heap.size) :
    Calls Tryz.prog 125 #[.pointer (some ⟨pb, 0, none⟩), .pointer (some ⟨nb, 0, none⟩)] w fun e w1 => e = .returned (.tuple #[]) ∧ ∃ r1 S1, Grows S S1 w w1 ∧ Keeps (fun k => S k ∨ k = nb) w w1 ∧ RRep S1 w1 b r1 ∧
      Leaves1 nb r (pNum 0 0 r.1) (fun n => .int .i64 (n : Int)) (.int .i64 0) r1 w1 := by
  have H0 := hid h0
  clear h0
  go_enter Tryz.func125, Tryz.ntmps125
  go_wp2_with fail
  refine (num_any S b r _ h H0.out).mono ?_
  rintro e w1 ⟨v, r1, rfl, hP, S1, hg1, hk1, hr1⟩
  have hn1 := (hk1.cell (p := ⟨nb, 0, none⟩) hlt hnS).trans hn
  have hf1 := (hk1.frozen (p := ⟨nb, 0, none⟩) hlt hnS).trans hf
  obtain ⟨m, rfl⟩ : ∃ m, v = .int .i64 m := by
    cases hq : pNum 0 0 r.1 with
    | error e => rw [hq] at hP; exact ⟨_, hP.1⟩
    | ok x => rw [hq] at hP; exact ⟨_, hP.1⟩
  have HP := hid hP
  clear hP
  go_wp2
  go_end0
  exact ⟨rfl, stored_out hg1 hk1 hr1 hn1 hf1 hnS hlt HP.out⟩

set_option maxRecDepth 100000 in
set_option maxHeartbeats 1000000 in
theorem rnum_any (S : Nat → Prop) (b : Nat) (r : RSt) (w : World) (h : RRep S w b r) :
    Calls Tryz.prog 87 #[.pointer (some ⟨b, 0, none⟩)] w fun e w' => e = .returned (.int .i64 ((rd (pNum 0 0) 0 r).1 : Int)) ∧ Acts S w w' fun S' => RRep S' w' b (rd (pNum 0 0) 0 r).2 := by
  have hmf := makeFunc_run Tryz.prog
  have hbl := h.cells.choose_spec.2.2.2.2.2.2.1
  by_cases h0 : r.2.2 = 0
  · have H0 := hid h0
    clear h0
    go_enter Tryz.func87, Tryz.ntmps87
    go_wp2_with fail
    refine (read_any S (fun k => k = w.heap.size + 1) b r 125 _ _ (fun r1 _ w1 => Leaves1 (w.heap.size + 1) r (pNum 0 0 r.1) (fun n => .int .i64 (n : Int)) (.int .i64 0) r1 w1) ((h.boxed _).boxed _) H0.out (by intro w0; kernel_rfl) ?hc).mono ?_
    case hc =>
      intro nq
      refine (num_inner S b r w.heap.size (w.heap.size + 1) _ (((h.boxed _).boxed _).keeps ((Keeps.refl (fun _ => False) _).drewN nq) (fun _ _ h => h)) H0.out (by simp) (by simp) (by simp) (h.notNew (by omega)) (by simp)).mono ?_
      rintro e w1 ⟨rfl, r1, S1, a1, a2, a3, a4⟩
      exact ⟨rfl, r1, S1, a1, ⟨a2.os, a2.tape, a2.output, a2.size, a2.block⟩, a3, a4⟩
    rintro e w2 ⟨r1, w1, S0, S1, hl, _, rfl, hg1, hk1, hr1, hsame⟩
    obtain ⟨hcell, hfr, hr2⟩ := one_done (zero := 0) H0.out hl (by omega) hsame hr1
    clear hl hsame hr1 H0
    obtain ⟨q, hq⟩ : ∃ q, q = rd (pNum 0 0) 0 r := ⟨_, rfl⟩
    rw [← hq] at hcell hr2
    have HQ := hid hq
    clear hq
    go_wp2
    have hc3 := World.cell?_setCell_same _ _ (.int .i64 (q.1 : Int)) hcell
    refine bodyPost_ret (v := .int .i64 (q.1 : Int)) (by simp [results, Tryz.results87, go_sem, hc3]) rfl ?_
    rw [← HQ.out]
    exact ⟨rfl, .boxes (((Keeps.refl _ w).alloc _).alloc _) hg1 hk1 (by omega) (by simp) (h.notNew (by omega)) hr2 _⟩
  · have HQ : Hid (rd (pNum 0 0) 0 r = (0, r)) := by simp [Hid, rd, h0]
    go_enter Tryz.func87, Tryz.ntmps87
    go_wp2_with fail
    refine (read_wrong S b r _ _ ((h.boxed _).boxed _) h0).mono ?_
    rintro e w2 ⟨rfl, rfl⟩
    go_wp2
    refine bodyPost_ret (v := .int .i64 0) (by simp [results, Tryz.results87, go_sem]) rfl ?_
    rw [HQ.out]
    exact ⟨rfl, S, fun _ h => .inl h, ((Keeps.refl _ w).alloc _).alloc _, (h.boxed _).boxed _⟩
end Go.Proofs.YtpccaodkgboefaaGreatDoor

namespace Go.Proofs.YtpccaodkgboefaaGreatDoor
open Go.RowKit

set_option maxRecDepth 100000 in
set_option maxHeartbeats 1000000 in
theorem txt_inner (S : Nat → Prop) (b : Nat) (r : RSt) (n : Int) (mb pb nb : Nat) (w : World) (h : RRep S w b r) (h0 : r.2.2 = 0) (hm : w.cell? ⟨mb, 0, none⟩ = some (.int .i64 n)) (hp : w.cell? ⟨pb, 0, none⟩ = some (.pointer (some ⟨b, 0, none⟩)))
    (hn : w.cell? ⟨nb, 0, none⟩ = some (.string (str []))) (hf : w.frozen? ⟨nb, 0, none⟩ = false) (hnS : ¬ S nb) (hlt : nb < w.heap.size) :
    Calls Tryz.prog 138 #[.pointer (some ⟨mb, 0, none⟩), .pointer (some ⟨pb, 0, none⟩), .pointer (some ⟨nb, 0, none⟩)] w fun e w1 => e = .returned (.tuple #[]) ∧ ∃ r1 S1, Grows S S1 w w1 ∧ Keeps (fun k => S k ∨ k = nb) w w1 ∧ RRep S1 w1 b r1 ∧
      Leaves1 nb r (pTextM n r.1) (fun s => .string (str s)) (.string (str [])) r1 w1 := by
  by_cases hneg : n < 0
  · have hP : Hid (pTextM n r.1 = .error 1) := by simp [Hid, pTextM, hneg]
    have H0 := hid h0
    clear h0
    go_enter Tryz.func138, Tryz.ntmps138
    go_wp2_with fail
    refine (rrefuse_any S b r 1 _ (by decide) h).mono ?_
    rintro e w1 ⟨rfl, S1, hg1, hk1, hr1⟩
    have hn1 := (hk1.cell (p := ⟨nb, 0, none⟩) hlt hnS).trans hn
    have hf1 := (hk1.frozen (p := ⟨nb, 0, none⟩) hlt hnS).trans hf
    go_wp2
    first | go_end0 | refine bodyPost_ret (results_none rfl _ _ _) rfl ?_
    refine ⟨rfl, _, S1, hg1, hk1.mono fun _ _ h => .inl h, hr1, _, hn1, hf1, ?_⟩
    rw [hP.out]
    exact ⟨rfl, by simp [rRefuse, first, H0.out], by decide⟩
  · have hPT : Hid (pTextM n r.1 = pText n r.1) := by simp [Hid, pTextM, hneg]
    have hpos : 0 ≤ n := by omega
    have H0 := hid h0
    clear h0
    go_enter Tryz.func138, Tryz.ntmps138
    go_wp2_with fail
    refine (text_any S b r n _ h H0.out hpos).mono ?_
    rintro e w1 ⟨v, r1, rfl, hP, S1, hg1, hk1, hr1⟩
    have hn1 := (hk1.cell (p := ⟨nb, 0, none⟩) hlt hnS).trans hn
    have hf1 := (hk1.frozen (p := ⟨nb, 0, none⟩) hlt hnS).trans hf
    obtain ⟨m, rfl⟩ : ∃ m, v = .string m := by
      cases hq : pText n r.1 with
      | error e => rw [hq] at hP; exact ⟨_, hP.1⟩
      | ok x => rw [hq] at hP; exact ⟨_, hP.1⟩
    rw [← hPT.out] at hP
    have HP := hid hP
    clear hP
    go_wp2
    go_end0
    exact ⟨rfl, stored_out hg1 hk1 hr1 hn1 hf1 hnS hlt HP.out⟩


set_option maxRecDepth 100000 in
set_option maxHeartbeats 1000000 in
theorem rtxt_any (S : Nat → Prop) (b : Nat) (r : RSt) (n : Int) (w : World) (h : RRep S w b r) :
    Calls Tryz.prog 120 #[.pointer (some ⟨b, 0, none⟩), .int .i64 n] w fun e w' => e = .returned (.string (str (rd (pTextM n) [] r).1)) ∧ Acts S w w' fun S' => RRep S' w' b (rd (pTextM n) [] r).2 := by
  have hmf := makeFunc_run Tryz.prog
  have hbl := h.cells.choose_spec.2.2.2.2.2.2.1
  by_cases h0 : r.2.2 = 0
  · have H0 := hid h0
    clear h0
    go_enter Tryz.func120, Tryz.ntmps120
    go_wp2_with fail
    refine (read_any S (fun k => k = w.heap.size + 1 + 1) b r 138 _ _ (fun r1 _ w1 => Leaves1 (w.heap.size + 1 + 1) r (pTextM n r.1) (fun s => .string (str s)) (.string (str [])) r1 w1) (((h.boxed _).boxed _).boxed _) H0.out (by intro w0; kernel_rfl) ?hc).mono ?_
    case hc =>
      intro nq
      refine (txt_inner S b r n (w.heap.size + 1) w.heap.size (w.heap.size + 1 + 1) _ ((((h.boxed _).boxed _).boxed _).keeps ((Keeps.refl (fun _ => False) _).drewN nq) (fun _ _ h => h)) H0.out (by exact (cells3n w _ _ _ _ _ _ _ 0).2.1) (by exact (cells3n w _ _ _ _ _ _ _ 0).1) (by exact (cells3n w _ _ _ _ _ _ _ 0).2.2.1) (by exact (cells3n w _ _ _ _ _ _ _ 0).2.2.2.2.2) (h.notNew (by omega)) (by simp)).mono ?_
      rintro e w1 ⟨rfl, r1, S1, a1, a2, a3, a4⟩
      exact ⟨rfl, r1, S1, a1, ⟨a2.os, a2.tape, a2.output, a2.size, a2.block⟩, a3, a4⟩
    rintro e w2 ⟨r1, w1, S0, S1, hl, _, rfl, hg1, hk1, hr1, hsame⟩
    obtain ⟨hcell, hfr, hr2⟩ := one_done (p := pTextM n) (zero := []) H0.out hl (by omega) hsame hr1
    clear hl hsame hr1 H0
    obtain ⟨q, hq⟩ : ∃ q, q = rd (pTextM n) [] r := ⟨_, rfl⟩
    rw [← hq] at hcell hr2
    have HQ := hid hq
    clear hq
    go_wp2
    have hc3 := World.cell?_setCell_same _ _ (.string (str q.1)) hcell
    refine bodyPost_ret (v := .string (str q.1)) (by simp [results, Tryz.results120, go_sem, hc3]) rfl ?_
    rw [← HQ.out]
    exact ⟨rfl, .boxes ((((Keeps.refl _ w).alloc _).alloc _).alloc _) hg1 hk1 (by omega) (by simp) (h.notNew (by omega)) hr2 _⟩
  · have HQ : Hid (rd (pTextM n) [] r = ([], r)) := by simp [Hid, rd, h0]
    go_enter Tryz.func120, Tryz.ntmps120
    go_wp2_with fail
    refine (read_wrong S b r _ _ (((h.boxed _).boxed _).boxed _) h0).mono ?_
    rintro e w2 ⟨rfl, rfl⟩
    go_wp2
    refine bodyPost_ret (v := .string (str [])) (by simp [results, Tryz.results120, go_sem]; rfl) rfl ?_
    rw [HQ.out]
    exact ⟨rfl, S, fun _ h => .inl h, (((Keeps.refl _ w).alloc _).alloc _).alloc _, ((h.boxed _).boxed _).boxed _⟩

set_option maxRecDepth 100000 in
set_option maxHeartbeats 1000000 in
theorem raw_inner (S : Nat → Prop) (b : Nat) (r : RSt) (n : Int) (mb pb nb : Nat) (w : World) (h : RRep S w b r) (h0 : r.2.2 = 0) (hm : w.cell? ⟨mb, 0, none⟩ = some (.int .i64 n)) (hp : w.cell? ⟨pb, 0, none⟩ = some (.pointer (some ⟨b, 0, none⟩)))
    (hn : w.cell? ⟨nb, 0, none⟩ = some (.string (str []))) (hf : w.frozen? ⟨nb, 0, none⟩ = false) (hnS : ¬ S nb) (hlt : nb < w.heap.size) (hmax : n ≤ 4611686018427387904) :
    Calls Tryz.prog 143 #[.pointer (some ⟨mb, 0, none⟩), .pointer (some ⟨pb, 0, none⟩), .pointer (some ⟨nb, 0, none⟩)] w fun e w1 => e = .returned (.tuple #[]) ∧ ∃ r1 S1, Grows S S1 w w1 ∧ Keeps (fun k => S k ∨ k = nb) w w1 ∧ RRep S1 w1 b r1 ∧
      Leaves1 nb r (pRaw n r.1) (fun s => .string (str s)) (.string (str [])) r1 w1 := by
  by_cases hneg : n < 0
  · have hP : Hid (pRaw n r.1 = .error 1) := by simp [Hid, pRaw, hneg]
    have H0 := hid h0
    clear h0
    go_enter Tryz.func143, Tryz.ntmps143
    go_wp2_with fail
    refine (rrefuse_any S b r 1 _ (by decide) h).mono ?_
    rintro e w1 ⟨rfl, S1, hg1, hk1, hr1⟩
    have hn1 := (hk1.cell (p := ⟨nb, 0, none⟩) hlt hnS).trans hn
    have hf1 := (hk1.frozen (p := ⟨nb, 0, none⟩) hlt hnS).trans hf
    go_wp2
    first | go_end0 | refine bodyPost_ret (results_none rfl _ _ _) rfl ?_
    refine ⟨rfl, _, S1, hg1, hk1.mono fun _ _ h => .inl h, hr1, _, hn1, hf1, ?_⟩
    rw [hP.out]
    exact ⟨rfl, by simp [rRefuse, first, H0.out], by decide⟩
  · obtain ⟨m, rfl⟩ := Int.eq_ofNat_of_zero_le (show 0 ≤ n by omega)
    have hP : Hid (pRaw m r.1 = if r.1.length < m then .error 21 else .ok (r.1.take m, r.1.drop m)) := by rw [Hid, pRaw, if_neg hneg]; rfl
    have hT : Hid (rTake r m = if r.1.length < m then ([], rRefuse r 21) else (r.1.take m, (r.1.drop m, r.2.1 + m, 0))) := by simp [Hid, rTake, h0]
    have H0 := hid h0
    clear h0
    go_enter Tryz.func143, Tryz.ntmps143
    go_wp2_with fail
    refine (rtake_any S b r m _ (by omega) h).mono ?_
    rintro e w1 ⟨rfl, S1, hg1, hk1, hr1⟩
    have hn1 := (hk1.cell (p := ⟨nb, 0, none⟩) hlt hnS).trans hn
    have hf1 := (hk1.frozen (p := ⟨nb, 0, none⟩) hlt hnS).trans hf
    have hlast : Hid (Parsed r (pRaw m r.1) (.string (str (rTake r m).1)) (fun s => .string (str s)) (.string (str [])) (rTake r m).2) := by
      unfold Hid
      rw [hP.out, hT.out]
      by_cases hl : r.1.length < m
      · rw [if_pos hl, if_pos hl]
        exact ⟨rfl, by simp [rRefuse, first, H0.out], by decide⟩
      · rw [if_neg hl, if_neg hl]
        exact ⟨rfl, by simp; omega, by simp⟩
    generalize rTake r m = q at *
    go_wp2
    go_end0
    exact ⟨rfl, stored_out hg1 hk1 hr1 hn1 hf1 hnS hlt hlast.out⟩


set_option maxRecDepth 100000 in
set_option maxHeartbeats 1000000 in
theorem rraw_any (S : Nat → Prop) (b : Nat) (r : RSt) (n : Int) (w : World) (h : RRep S w b r) (hmax : n ≤ 4611686018427387904) :
    Calls Tryz.prog 130 #[.pointer (some ⟨b, 0, none⟩), .int .i64 n] w fun e w' => e = .returned (.string (str (rd (pRaw n) [] r).1)) ∧ Acts S w w' fun S' => RRep S' w' b (rd (pRaw n) [] r).2 := by
  have hmf := makeFunc_run Tryz.prog
  have hbl := h.cells.choose_spec.2.2.2.2.2.2.1
  by_cases h0 : r.2.2 = 0
  · have H0 := hid h0
    clear h0
    go_enter Tryz.func130, Tryz.ntmps130
    go_wp2_with fail
    refine (read_any S (fun k => k = w.heap.size + 1 + 1) b r 143 _ _ (fun r1 _ w1 => Leaves1 (w.heap.size + 1 + 1) r (pRaw n r.1) (fun s => .string (str s)) (.string (str [])) r1 w1) (((h.boxed _).boxed _).boxed _) H0.out (by intro w0; kernel_rfl) ?hc).mono ?_
    case hc =>
      intro nq
      refine (raw_inner S b r n (w.heap.size + 1) w.heap.size (w.heap.size + 1 + 1) _ ((((h.boxed _).boxed _).boxed _).keeps ((Keeps.refl (fun _ => False) _).drewN nq) (fun _ _ h => h)) H0.out (by exact (cells3n w _ _ _ _ _ _ _ 0).2.1) (by exact (cells3n w _ _ _ _ _ _ _ 0).1) (by exact (cells3n w _ _ _ _ _ _ _ 0).2.2.1) (by exact (cells3n w _ _ _ _ _ _ _ 0).2.2.2.2.2) (h.notNew (by omega)) (by simp) hmax).mono ?_
      rintro e w1 ⟨rfl, r1, S1, a1, a2, a3, a4⟩
      exact ⟨rfl, r1, S1, a1, ⟨a2.os, a2.tape, a2.output, a2.size, a2.block⟩, a3, a4⟩
    rintro e w2 ⟨r1, w1, S0, S1, hl, _, rfl, hg1, hk1, hr1, hsame⟩
    obtain ⟨hcell, hfr, hr2⟩ := one_done (p := pRaw n) (zero := []) H0.out hl (by omega) hsame hr1
    clear hl hsame hr1 H0
    obtain ⟨q, hq⟩ : ∃ q, q = rd (pRaw n) [] r := ⟨_, rfl⟩
    rw [← hq] at hcell hr2
    have HQ := hid hq
    clear hq
    go_wp2
    have hc3 := World.cell?_setCell_same _ _ (.string (str q.1)) hcell
    refine bodyPost_ret (v := .string (str q.1)) (by simp [results, Tryz.results130, go_sem, hc3]) rfl ?_
    rw [← HQ.out]
    exact ⟨rfl, .boxes ((((Keeps.refl _ w).alloc _).alloc _).alloc _) hg1 hk1 (by omega) (by simp) (h.notNew (by omega)) hr2 _⟩
  · have HQ : Hid (rd (pRaw n) [] r = ([], r)) := by simp [Hid, rd, h0]
    go_enter Tryz.func130, Tryz.ntmps130
    go_wp2_with fail
    refine (read_wrong S b r _ _ (((h.boxed _).boxed _).boxed _) h0).mono ?_
    rintro e w2 ⟨rfl, rfl⟩
    go_wp2
    refine bodyPost_ret (v := .string (str [])) (by simp [results, Tryz.results130, go_sem]; rfl) rfl ?_
    rw [HQ.out]
    exact ⟨rfl, S, fun _ h => .inl h, (((Keeps.refl _ w).alloc _).alloc _).alloc _, ((h.boxed _).boxed _).boxed _⟩
end Go.Proofs.YtpccaodkgboefaaGreatDoor
