/-
  Package codec: a Reader's 'num': which number the bytes begin with, or what is wrong with it.
-/
import Derived.Test.YtfjflnlcjnhmmaaDoorCxReader
namespace Go.Proofs.YtfjflnlcjnhmmaaDoor
open Go.RowKit

/-- The number whose further digits these bytes begin with: i digits are taken, n is their worth. -/
def pNum : Nat → Nat → List UInt8 → Except Int (Nat × List UInt8)
  | _, _, [] => .error 21
  | i, n, c :: l =>
    if i = 8 ∧ 127 < c.toNat then .error 20
    else if 127 < c.toNat then pNum (i + 1) (n + c.toNat % 128 * 128 ^ i) l
    else if c.toNat = 0 ∧ 0 < i then .error 23
    else if 4611686018427387904 < n + c.toNat * 128 ^ i then .error 20
    else .ok (n + c.toNat * 128 ^ i, l)

theorem sh_eq (d k : Nat) (hd : d < 128) (hk : k ≤ 8) : wrap64 ((d : Int) * 2 ^ (7 * k)) = ((d * 128 ^ k : Nat) : Int) := by
  have e : (128 : Nat) ^ k = 2 ^ (7 * k) := by rw [Nat.pow_mul]
  have h1 : (128 : Nat) ^ k ≤ 128 ^ 8 := Nat.pow_le_pow_right (by decide) hk
  have h2 : d * 128 ^ k ≤ 127 * 128 ^ 8 := Nat.mul_le_mul (by omega) h1
  have e2 : ((d : Int) * 2 ^ (7 * k)) = ((d * 128 ^ k : Nat) : Int) := by rw [e]; simp
  rw [e2]
  refine IntWalk.wrap64_in _ ⟨by omega, by omega⟩
theorem wraps_i64' (n : Int) (h₀ : 0 ≤ n) (h₁ : n < 2 ^ 63) : IntKind.i64.wrap n = n := by rw [IntKind.wrap_i64]; omega
theorem or_eq (m d k : Nat) (hm : m < 128 ^ k) (hd : d < 128) (hk : k ≤ 8) : bits BinOp.or IntKind.i64 (m : Int) ((d * 128 ^ k : Nat) : Int) = ((m + d * 128 ^ k : Nat) : Int) := by
  have e : (128 : Nat) ^ k = 2 ^ (7 * k) := by rw [Nat.pow_mul]
  have h1 : (128 : Nat) ^ k ≤ 128 ^ 8 := Nat.pow_le_pow_right (by decide) hk
  have h2 : d * 128 ^ k ≤ 127 * 128 ^ 8 := Nat.mul_le_mul (by omega) h1
  have hc : bits BinOp.or IntKind.i64 (m : Int) ((d * 128 ^ k : Nat) : Int) = bits BinOp.or IntKind.i64 ((d * 128 ^ k : Nat) : Int) (m : Int) := by simp only [bits, BitVec.or_comm]
  rw [hc, bits_join .i64 63 (by decide) wraps_i64' (7 * k) _ _ (by omega) (by rw [e]; simp) (by omega) (by omega) (by rw [e] at hm; exact_mod_cast hm) (by omega)]
  omega
theorem and127 (c : UInt8) : bits BinOp.and IntKind.u8 (c.toNat : Int) 127 = ((c.toNat % 128 : Nat) : Int) := by
  have := bits_mask .u8 8 (by decide) wraps_u8 7 (by decide) (c.toNat : Int) (by omega) (by have := c.toNat_lt; omega)
  rw [show ((2 : Int) ^ 7 - 1) = 127 by decide] at this
  rw [this]; simp
/-- what the walk reads of a byte and of what it adds -/
theorem byte_facts (c : UInt8) (m k : Nat) (hm : m < 128 ^ k) (hk : k ≤ 8) : ∃ d q p : Nat, d = c.toNat % 128 ∧ q = d * 128 ^ k ∧ p = m + q ∧ d < 128 ∧ p < 128 ^ (k + 1) ∧ bits BinOp.and IntKind.u8 (c.toNat : Int) 127 = (d : Int) ∧
    wrap64 ((d : Int) * 2 ^ (7 * k)) = (q : Int) ∧ bits BinOp.or IntKind.i64 (m : Int) (q : Int) = (p : Int) := by
  refine ⟨_, _, _, rfl, rfl, rfl, by omega, ?_, and127 c, sh_eq _ _ (by omega) hk, or_eq _ _ _ hm (by omega) hk⟩
  have : c.toNat % 128 * 128 ^ k ≤ 127 * 128 ^ k := Nat.mul_le_mul_right _ (by omega)
  rw [Nat.pow_succ]; omega
theorem str_one (c : UInt8) : ∀ h : 0 < (str [c]).size, (str [c])[0]'h = c := fun _ => rfl

/-- what a part of a call has told and left: where it fails, only what is wrong is of interest -/
def Parsed {α : Type} (r : RSt) (p : Except Int (α × List UInt8)) (v : Value) (enc : α → Value) (zero : Value) (r' : RSt) : Prop :=
  match p with
  | .error e => v = zero ∧ r'.2.2 = e ∧ e ≠ 0
  | .ok (a, l) => v = enc a ∧ r' = (l, r.2.1 + (r.1.length - l.length), 0) ∧ l.length ≤ r.1.length

/-- one byte is taken, and there is one -/
theorem rtake_cons (S : Nat → Prop) (b : Nat) (c : UInt8) (l : List UInt8) (t : Nat) (w : World) (h : RRep S w b (c :: l, t, 0)) :
    Calls Tryd.prog 55 #[.pointer (some ⟨b, 0, none⟩), .int .i64 1] w fun e w' => e = .returned (.string (str [c])) ∧ ∃ S', Grows S S' w w' ∧ Keeps S w w' ∧ RRep S' w' b (l, t + 1, 0) ∧ w'.cell? ⟨b, 2, none⟩ = some .nilIface := by
  refine (rtake_any S b (c :: l, t, 0) 1 _ (by omega) h).mono ?_
  have hA : rTake (c :: l, t, 0) 1 = ([c], (l, t + 1, 0)) := by simp [rTake]
  rw [hA]
  rintro e w1 ⟨rfl, S1, hg1, hk1, hr1⟩
  obtain ⟨ev, c0, c1, c2, f0, f1, f2, hbl, he, hle⟩ := hr1.cells
  rcases he with ⟨_, h1⟩ | ⟨h1, _⟩
  · subst h1; exact ⟨rfl, S1, hg1, hk1, hr1, c2⟩
  · exact absurd rfl h1

set_option maxRecDepth 100000 in
set_option maxHeartbeats 1000000 in
theorem num_any (S : Nat → Prop) (b : Nat) (r : RSt) (w : World) (h : RRep S w b r) (h0 : r.2.2 = 0) :
    Calls Tryd.prog 58 #[.pointer (some ⟨b, 0, none⟩)] w fun e w' => ∃ v r', e = .returned v ∧ Parsed r (pNum 0 0 r.1) v (fun n => .int .i64 (n : Int)) (.int .i64 0) r' ∧ Acts S w w' fun S' => RRep S' w' b r' := by
  obtain ⟨rest, t, e⟩ := r
  simp only at h0
  subst h0
  go_enter Tryd.func58, Tryd.ntmps58
  go_wp2
  go_loopw [3, 4] (fun n i wr => ∃ (k m : Nat) (l : List UInt8) (t' : Nat) (S' : Nat → Prop), i = .int .i64 (k : Int) ∧ n = .int .i64 (m : Int) ∧ k ≤ 8 ∧ m < 128 ^ k ∧ Hid (pNum 0 0 rest = pNum k m l) ∧ Hid (t' + l.length = t + rest.length ∧ t ≤ t') ∧
      RRep S' wr b (l, t', 0) ∧ Grows S S' w wr ∧ Keeps S w wr) (fun _ i _ => (9 - (intOf i).toNat))
  case atStart => exact ⟨0, 0, rest, t, S, rfl, rfl, by omega, by simp, rfl, ⟨rfl, Nat.le_refl _⟩, h, fun _ h => .inl h, Keeps.refl _ _⟩
  case round =>
    obtain ⟨k, m, l, t', S', rfl, rfl, hk, hm, HP, HT, hr, hg, hkp⟩ := hrel
    rcases l with _ | ⟨c, l⟩
    · have hA : Hid (rTake ([], t', 0) 1 = ([], rRefuse ([], t', 0) 21)) := by simp [Hid, rTake]
      have hP : Hid (pNum k m [] = .error 21) := by simp [Hid, pNum]
      go_wp2_with fail
      refine (rtake_any S' b ([], t', 0) 1 _ (by omega) hr).mono ?_
      rw [hA.out]
      rintro e w1 ⟨rfl, S1, hg1, hk1, hr1⟩
      obtain ⟨ev, c0, c1, c2, f0, f1, f2, hbl, he, hle⟩ := hr1.cells
      obtain ⟨k1, hev⟩ : ∃ k1, ev = .iface 84 (.pointer (some ⟨k1, 0, none⟩)) := by
        rcases he with ⟨h1, _⟩ | ⟨_, k1, _, h, _⟩
        · simp [rRefuse, first] at h1
        · exact ⟨k1, h⟩
      subst hev
      go_wp2
      go_ret
      refine ⟨_, (rRefuse ([], t', 0) 21), rfl, ?_, .after hg hkp ⟨S1, hg1, hk1, hr1⟩⟩
      rw [HP.out, hP.out]
      exact ⟨rfl, by simp [rRefuse, first], by decide⟩
    · obtain ⟨d, q, p, hd, hq, hp, hd1, hp1, hand, hsh, hor⟩ := byte_facts c m k hm hk
      have HD : Hid (d = c.toNat % 128) := hd
      have HQ : Hid (q = d * 128 ^ k) := hq
      have HPP : Hid (p = m + q) := hp
      have hs1 : (str [c]).size = 1 := str_size _
      have hs0 := str_one c
      clear hd hq hp
      by_cases hk8 : k = 8
      · subst hk8
        have hsh8 : wrap64 ((d : Int) * 72057594037927936) = (q : Int) := hsh
        clear hsh
        have hor8 : bits BinOp.or IntKind.i64 (m : Int) ((d : Int) * 72057594037927936) = (p : Int) := by
          rw [← hor, ← hsh8, IntWalk.wrap64_in _ ⟨by omega, by omega⟩]
        by_cases hc : 127 < c.toNat
        · have hP : Hid (pNum 8 m (c :: l) = .error 20) := by simp [Hid, pNum, hc]
          go_wp2_with fail
          refine (rtake_cons S' b c l t' _ hr).mono ?_
          rintro e w1 ⟨rfl, S1, hg1, hk1, hr1, c2⟩
          go_wp2_with (go_at_call 60; refine (rrefuse_any S1 b _ 20 _ (by decide) hr1).mono ?_; rintro e w2 ⟨rfl, S2, hg2, hk2, hr2⟩)
          go_ret
          refine ⟨_, _, rfl, ?_, .after hg hkp (.after hg1 hk1 ⟨S2, hg2, hk2, hr2⟩)⟩
          rw [HP.out, hP.out]
          exact ⟨rfl, by simp [rRefuse, first], by decide⟩
        · by_cases hz : c.toNat = 0
          · have hP : Hid (pNum 8 m (c :: l) = .error 23) := by simp [Hid, pNum, hz]
            go_wp2_with fail
            refine (rtake_cons S' b c l t' _ hr).mono ?_
            rintro e w1 ⟨rfl, S1, hg1, hk1, hr1, c2⟩
            go_wp2_with (go_at_call 60; refine (rrefuse_any S1 b _ 23 _ (by decide) hr1).mono ?_; rintro e w2 ⟨rfl, S2, hg2, hk2, hr2⟩)
            go_ret
            refine ⟨_, _, rfl, ?_, .after hg hkp (.after hg1 hk1 ⟨S2, hg2, hk2, hr2⟩)⟩
            rw [HP.out, hP.out]
            exact ⟨rfl, by simp [rRefuse, first], by decide⟩
          · have hpe : Hid (m + c.toNat * 128 ^ 8 = p) := by rw [Hid, HPP.out, HQ.out, HD.out, Nat.mod_eq_of_lt (by omega)]
            by_cases hb : 4611686018427387904 < p
            · have hP : Hid (pNum 8 m (c :: l) = .error 20) := by simp only [Hid, pNum, hc, hz, hpe.out, hb]; simp
              go_wp2_with fail
              refine (rtake_cons S' b c l t' _ hr).mono ?_
              rintro e w1 ⟨rfl, S1, hg1, hk1, hr1, c2⟩
              go_wp2_with (go_at_call 60; refine (rrefuse_any S1 b _ 20 _ (by decide) hr1).mono ?_; rintro e w2 ⟨rfl, S2, hg2, hk2, hr2⟩)
              go_ret
              refine ⟨_, _, rfl, ?_, .after hg hkp (.after hg1 hk1 ⟨S2, hg2, hk2, hr2⟩)⟩
              rw [HP.out, hP.out]
              exact ⟨rfl, by simp [rRefuse, first], by decide⟩
            · have hP : Hid (pNum 8 m (c :: l) = .ok (p, l)) := by simp only [Hid, pNum, hc, hz, hpe.out, hb]; simp
              go_wp2_with fail
              refine (rtake_cons S' b c l t' _ hr).mono ?_
              rintro e w1 ⟨rfl, S1, hg1, hk1, hr1, c2⟩
              go_wp2
              go_ret
              refine ⟨_, _, rfl, ?_, .after hg hkp ⟨S1, hg1, hk1, hr1⟩⟩
              rw [HP.out, hP.out]
              have := HT.out
              simp only [List.length_cons] at this
              exact ⟨rfl, by simp; omega, by simp; omega⟩
      · have hk7 : k ≤ 7 := by omega
        by_cases hc : 127 < c.toNat
        · have hP : Hid (pNum k m (c :: l) = pNum (k + 1) p l) := by
            have e : m + c.toNat % 128 * 128 ^ k = p := by rw [HPP.out, HQ.out, HD.out]
            simp only [Hid, pNum, hc, hk8, e]; simp
          go_wp2_with fail
          refine (rtake_cons S' b c l t' _ hr).mono ?_
          rintro e w1 ⟨rfl, S1, hg1, hk1, hr1, c2⟩
          go_wp2
          go_roundw
          case rel =>
            have hgk : Grows S S1 w w1 ∧ Keeps S w w1 := by
              obtain ⟨S2, a1, a2, a3⟩ := Acts.after (R := fun S2 => S2 = S1) hg hkp ⟨S1, hg1, hk1, rfl⟩
              subst a3; exact ⟨a1, a2⟩
            refine ⟨k + 1, p, l, t' + 1, S1, by go_num, rfl, by omega, hp1, ?_, ?_, hr1, hgk.1, hgk.2⟩
            · show _ = _
              rw [HP.out, hP.out]
            · show _ ∧ _
              have := HT.out
              simp only [List.length_cons] at this
              omega
          case measure => simp [intOf]; omega
        · by_cases hz : c.toNat = 0 ∧ 0 < k
          · obtain ⟨hz, hk0⟩ := hz
            have hP : Hid (pNum k m (c :: l) = .error 23) := by simp [Hid, pNum, hz, hk0, hk8]
            have hand0 : bits BinOp.and IntKind.u8 0 127 = (d : Int) := by rw [hz] at hand; exact hand
            go_wp2_with fail
            refine (rtake_cons S' b c l t' _ hr).mono ?_
            rintro e w1 ⟨rfl, S1, hg1, hk1, hr1, c2⟩
            go_wp2_with (go_at_call 60; refine (rrefuse_any S1 b _ 23 _ (by decide) hr1).mono ?_; rintro e w2 ⟨rfl, S2, hg2, hk2, hr2⟩)
            go_ret
            refine ⟨_, _, rfl, ?_, .after hg hkp (.after hg1 hk1 ⟨S2, hg2, hk2, hr2⟩)⟩
            rw [HP.out, hP.out]
            exact ⟨rfl, by simp [rRefuse, first], by decide⟩
          · have hpe : Hid (m + c.toNat * 128 ^ k = p) := by rw [Hid, HPP.out, HQ.out, HD.out, Nat.mod_eq_of_lt (by omega)]
            have hb : p ≤ 4611686018427387904 := by
              have : (128 : Nat) ^ (k + 1) ≤ 128 ^ 8 := Nat.pow_le_pow_right (by decide) (by omega)
              omega
            have hP : Hid (pNum k m (c :: l) = .ok (p, l)) := by
              have : ¬ 4611686018427387904 < p := by omega
              simp only [Hid, pNum, hc, hz, hpe.out, hk8, this]; simp
            by_cases hz0 : c.toNat = 0
            · have hk0 : k = 0 := by omega
              have hk0' : ¬ 0 < k := by omega
              have hand0 : bits BinOp.and IntKind.u8 0 127 = (d : Int) := by rw [hz0] at hand; exact hand
              clear hz hk0
              go_wp2_with fail
              refine (rtake_cons S' b c l t' _ hr).mono ?_
              rintro e w1 ⟨rfl, S1, hg1, hk1, hr1, c2⟩
              go_wp2
              go_ret
              refine ⟨_, _, rfl, ?_, .after hg hkp ⟨S1, hg1, hk1, hr1⟩⟩
              rw [HP.out, hP.out]
              have := HT.out
              simp only [List.length_cons] at this
              exact ⟨rfl, by simp; omega, by simp; omega⟩
            · clear hz
              go_wp2_with fail
              refine (rtake_cons S' b c l t' _ hr).mono ?_
              rintro e w1 ⟨rfl, S1, hg1, hk1, hr1, c2⟩
              go_wp2
              go_ret
              refine ⟨_, _, rfl, ?_, .after hg hkp ⟨S1, hg1, hk1, hr1⟩⟩
              rw [HP.out, hP.out]
              have := HT.out
              simp only [List.length_cons] at this
              exact ⟨rfl, by simp; omega, by simp; omega⟩
end Go.Proofs.YtfjflnlcjnhmmaaDoor
