/-
  Texts joined; what is wrong with a number, a text; where they end.
  The reference's digits, number and text.
-/
import Derived.Test.YtpccaodkgboefaaGreatDoorMCxR
namespace Go.Proofs.YtpccaodkgboefaaGreatDoor
open Go.RowKit


theorem str_append (a b : List UInt8) : str a ++ str b = str (a ++ b) := by
  apply ByteArray.ext
  simp [str, ByteArray.data_append]

theorem pNum_error {l : List UInt8} {f : Int} : ∀ {i n : Nat}, pNum i n l = .error f → f ≠ 0 := by
  induction l with
  | nil => intro i n h; simp [pNum] at h; omega
  | cons c l ih =>
    intro i n h
    unfold pNum at h
    split at h
    · injection h with h; omega
    · split at h
      · exact ih h
      · split at h
        · injection h with h; omega
        · split at h
          · injection h with h; omega
          · cases h

/-- what is left behind a number is an end of the bytes -/
theorem pNum_drop : ∀ (l : List UInt8) (i n m : Nat) (l' : List UInt8), pNum i n l = .ok (m, l') → l' = l.drop (l.length - l'.length)
  | [], _, _, _, _, h => by simp [pNum] at h
  | c :: l, i, n, m, l', h => by
    have hlt := (pNum_le _ _ _ _ _ h).2
    unfold pNum at h
    split at h
    · cases h
    · split at h
      · have ih := pNum_drop l _ _ _ _ h
        have := (pNum_le _ _ _ _ _ h).2
        rw [show (c :: l).length - l'.length = (l.length - l'.length) + 1 by simp; omega, List.drop_succ_cons]
        exact ih
      · split at h
        · cases h
        · split at h
          · cases h
          · injection h with h
            injection h with h h'
            subst h'
            simp

theorem pCount_error {many : Int} {l : List UInt8} {f : Int} (h : pCount many l = .error f) : f ≠ 0 := by
  unfold pCount at h
  cases hp : pNum 0 0 l with
  | error e => rw [hp] at h; injection h with h; rw [← h]; exact pNum_error hp
  | ok x =>
    rw [hp] at h
    simp only at h
    split at h
    · injection h with h; omega
    · cases h

theorem pText_error {most : Int} {l : List UInt8} {f : Int} (h : pText most l = .error f) : f ≠ 0 := by
  unfold pText at h
  cases hp : pCount most l with
  | error e => rw [hp] at h; injection h with h; rw [← h]; exact pCount_error hp
  | ok x =>
    rw [hp] at h
    simp only at h
    split at h
    · injection h with h; omega
    · cases h

theorem pCount_drop {many : Int} {l l' : List UInt8} {n : Nat} (h : pCount many l = .ok (n, l')) : l' = l.drop (l.length - l'.length) := by
  unfold pCount at h
  cases hp : pNum 0 0 l with
  | error e => rw [hp] at h; cases h
  | ok x =>
    rw [hp] at h
    simp only at h
    split at h
    · cases h
    · injection h with h
      injection h with h h'
      subst h'
      exact pNum_drop _ _ _ _ _ hp

theorem pText_drop {most : Int} {l t l' : List UInt8} (h : pText most l = .ok (t, l')) : l' = l.drop (l.length - l'.length) := by
  unfold pText at h
  cases hp : pCount most l with
  | error e => rw [hp] at h; cases h
  | ok x =>
    obtain ⟨n, l1⟩ := x
    rw [hp] at h
    simp only at h
    split at h
    · cases h
    · injection h with h
      injection h with h h'
      subst h'
      have hd := pCount_drop hp
      have hle := (pCount_le hp).2.1
      rw [hd, List.drop_drop]
      congr 1
      simp only [List.length_drop]
      omega
end Go.Proofs.YtpccaodkgboefaaGreatDoor

namespace Go.Proofs.YtpccaodkgboefaaGreatDoor
open Go.RowKit
/-- 'string([]byte{c})' -/
theorem run_text_one {P : Program} (src dst e : TypeId) (hs : P.underlying src = some (.slice e)) (he : P.underlying e = some (.int .u8)) (hd : P.underlying dst = some .string) (w : World) (c : UInt8) (x : Int) (hx : x = (c.toNat : Int)) :
    (convert src dst (.slice (some ⟨w.heap.size, 0, none⟩) 1 1)).run P (w.alloc (.cells #[.int .u8 x] e)) = .ok (.string (str [c])) (w.alloc (.cells #[.int .u8 x] e)) := by
  subst hx
  refine run_convert_bytes_back (w.alloc (.cells #[.int .u8 (c.toNat : Int)] e)) src dst e ⟨w.heap.size, 0, none⟩ 1 [c] hs he hd fun j hj => ?_
  match j, hj with
  | 0, _ => simp [Addr.add]

set_option maxRecDepth 100000 in
set_option maxHeartbeats 400000 in
theorem refdigits_any (m : Nat) (w : World) (hm : m ≤ 9223372036854775807) :
    Calls Tryz.prog 80 #[.int .i64 m] w fun e w' => e = .returned (.string (str (digs m))) ∧ Fresh w w' := by
  have hcv := run_text_one (P := Tryz.prog) 96 9 5 Tryz.underlying96 Tryz.underlying5 Tryz.underlying9
  have hcat := str_append
  go_enter Tryz.func80, Tryz.ntmps80
  go_wp2
  go_loopw [0, 3] (fun i s wr => ∃ (j : Nat) (pre : List UInt8), i = .int .i64 j ∧ j ≤ 9223372036854775807 ∧ s = .string (str pre) ∧ pre.length ≤ 9 ∧ Hid (pre ++ digs j = digs m) ∧ Fresh w wr) (fun i _ _ => (intOf i).toNat)
  case atStart => exact ⟨m, [], rfl, hm, rfl, by simp, rfl, Keeps.refl _ _⟩
  case round =>
    obtain ⟨j, pre, rfl, hj, rfl, hpre, HD, hf⟩ := hrel
    have hsz := str_size pre
    by_cases hlt : 127 < j
    · obtain ⟨c, hc⟩ : ∃ c, c = UInt8.ofNat (j % 128 + 128) := ⟨_, rfl⟩
      have hcv1 := hcv wr c (128 + (j : Int) % 128) (by subst hc; simp; omega)
      have hsz1 : (str [c]).size = 1 := str_size _
      have HC := hid hc
      clear hcv hc
      go_wp2
      go_roundw
      case rel =>
        refine ⟨j / 128, pre ++ [c], by go_num, by omega, rfl, ?_, ?_, hf.alloc _⟩
        · have h2 := congrArg List.length HD.out
          rw [digs_more hlt] at h2
          have := digs_pos (j / 128)
          have := digs_len 9 m (by omega)
          simp at h2 ⊢; omega
        · show _ = _
          rw [← HD.out, digs_more hlt, HC.out]; simp
      case measure => simp [intOf]; omega
    · obtain ⟨c, hc⟩ : ∃ c, c = UInt8.ofNat j := ⟨_, rfl⟩
      have hcv1 := hcv wr c (j : Int) (by subst hc; simp; omega)
      have hsz1 : (str [c]).size = 1 := str_size _
      have HC := hid hc
      clear hcv hc
      go_wp2
      go_ret
      have e : digs m = pre ++ [c] := by rw [← HD.out, digs_last (by omega), HC.out]
      rw [e]
      exact ⟨rfl, hf.alloc _⟩

theorem drop_at_ {l : List UInt8} {k : Nat} {x : UInt8} (h : l[k]? = some x) : l.drop k = x :: l.drop (k + 1) := by
  obtain ⟨hk, rfl⟩ := List.getElem?_eq_some_iff.1 h
  exact List.drop_eq_getElem_cons hk

/-- the number at a place: it, and the place behind it -/
def numAt (s : List UInt8) (at_ : Nat) : Int × Int × Int :=
  match pNum 0 0 (s.drop at_) with
  | .error e => (0, 0, e)
  | .ok (n, l) => ((n : Int), ((s.length - l.length : Nat) : Int), 0)

set_option maxRecDepth 100000 in
set_option maxHeartbeats 1000000 in
theorem refnumber_any (s : List UInt8) (p : Nat) (w : World) (hp : p ≤ s.length) (hs : s.length ≤ 9223372036854775807) :
    Calls Tryz.prog 119 #[.string (str s), .int .i64 (p : Int)] w fun e w' => e = .returned (.tuple #[.int .i64 (numAt s p).1, .int .i64 (numAt s p).2.1, .int .i64 (numAt s p).2.2]) ∧ w = w' := by
  have hsz := str_size s
  go_enter Tryz.func119, Tryz.ntmps119
  go_wp2
  go_loop [7, 8, 9] (fun n u i => ∃ (k m q : Nat), i = .int .i64 (k : Int) ∧ n = .int .i64 (m : Int) ∧ u = .int .i64 (q : Int) ∧ k ≤ 8 ∧ m < q ∧ Hid (q = 128 ^ k) ∧ p + k ≤ s.length ∧ Hid (pNum 0 0 (s.drop p) = pNum k m (s.drop (p + k)))) (fun _ _ i => (9 - (intOf i).toNat))
  case atStart => exact ⟨0, 0, 1, rfl, rfl, rfl, by omega, by omega, rfl, by omega, rfl⟩
  case round =>
    obtain ⟨k, m, q, rfl, rfl, rfl, hk, hm, HQ, hpk, HP⟩ := hrel
    by_cases hend : p + k < s.length
    · obtain ⟨c, hc⟩ : ∃ c, s[p + k]? = some c := ⟨s[p + k], by simp [hend]⟩
      have hdrop : Hid (s.drop (p + k) = c :: s.drop (p + k + 1)) := drop_at_ hc
      have hidx : ∀ h : p + k < (str s).size, (str s)[p + k]'h = c := by
        intro h
        have : s[p + k]? = some c := hc
        rw [List.getElem?_eq_getElem hend] at this
        exact Option.some.inj this
      clear hc
      have hc255 : c.toNat ≤ 255 := by have := c.toNat_lt; omega
      obtain ⟨x, hxd, hmul⟩ : ∃ x : Nat, x = c.toNat % 128 * q ∧ ((c.toNat : Int) % 128 * (q : Int)) = (x : Int) := ⟨_, rfl, by simp⟩
      have hx1 : x ≤ 127 * q := by rw [hxd]; exact Nat.mul_le_mul_right _ (by omega)
      have HX := hid hxd
      by_cases hk8 : k = 8
      · subst hk8
        have hq8 : Hid (q = 72057594037927936) := HQ.out
        have hq : q ≤ 72057594037927936 := by rw [hq8.out]; omega
        by_cases hc : 127 < c.toNat
        · clear hxd
          have HN : Hid (numAt s p = (0, 0, 20)) := by
            have e : pNum 0 0 (s.drop p) = .error 20 := by
              rw [HP.out, hdrop.out]; simp [pNum, hc]
            simp only [Hid, numAt, e]
          go_wp2
          rw [HN.out]
          go_ret3
          exact ⟨rfl, rfl⟩
        · by_cases hz : c.toNat = 0
          · clear hxd
            have HN : Hid (numAt s p = (0, 0, 23)) := by
              have e : pNum 0 0 (s.drop p) = .error 23 := by
                rw [HP.out, hdrop.out]; simp [pNum, hz]
              simp only [Hid, numAt, e]
            go_wp2
            rw [HN.out]
            go_ret3
            exact ⟨rfl, rfl⟩
          · have hxc : x = c.toNat * 72057594037927936 := by rw [hxd, hq8.out, Nat.mod_eq_of_lt (by omega)]
            have HXC := hid hxc
            by_cases hc64 : 64 < c.toNat
            · clear hxd hxc
              have HN : Hid (numAt s p = (0, 0, 20)) := by
                have e : pNum 0 0 (s.drop p) = .error 20 := by
                  rw [HP.out, hdrop.out]; have h2 : 4611686018427387904 < m + c.toNat * 128 ^ 8 := by omega
                  simp only [pNum, hc, hz, h2]; simp
                simp only [Hid, numAt, e]
              go_wp2
              rw [HN.out]
              go_ret3
              exact ⟨rfl, rfl⟩
            · by_cases hcm : c.toNat = 64 ∧ 0 < m
              · obtain ⟨hc64e, hm0⟩ := hcm
                have hcn : (c.toNat : Int) = 64 := by omega
                clear hxd hxc
                have HN : Hid (numAt s p = (0, 0, 20)) := by
                  have e : pNum 0 0 (s.drop p) = .error 20 := by
                    rw [HP.out, hdrop.out]; have h2 : 4611686018427387904 < m + c.toNat * 128 ^ 8 := by omega
                    simp only [pNum, hc, hz, h2]; simp
                  simp only [Hid, numAt, e]
                go_wp2
                rw [HN.out]
                go_ret3
                exact ⟨rfl, rfl⟩
              · have hxb : m + x ≤ 4611686018427387904 := by omega
                by_cases hce : c.toNat = 64
                · have hm0 : m = 0 := by omega
                  subst hm0
                  have hxe : x = 4611686018427387904 := by omega
                  have HCE := hid hce
                  have hcn : (c.toNat : Int) = 64 := by omega
                  have hmul2 : (64 * (q : Int)) = (x : Int) := by rw [hq8.out, hxe]; rfl
                  have hnot : ¬ (0 : Int) < 0 := by omega
                  clear hxd hxc hcm hce
                  have HN : Hid (numAt s p = (((0 + x : Nat) : Int), ((p + 8 + 1 : Nat) : Int), 0)) := by
                    have e : pNum 0 0 (s.drop p) = .ok (0 + x, s.drop (p + 8 + 1)) := by
                      rw [HP.out, hdrop.out]; have h2 : ¬ 4611686018427387904 < 0 + c.toNat * 128 ^ 8 := by have := HCE.out; omega
                      simp only [pNum, hc, hz, h2]; simp [HXC.out]
                    simp only [Hid, numAt, e, List.length_drop]
                    rw [show s.length - (s.length - (p + 8 + 1)) = p + 8 + 1 by omega]
                  go_wp2
                  rw [HN.out]
                  go_ret3
                  exact ⟨by simp; omega, rfl⟩
                · have hc63 : c.toNat ≤ 63 := by omega
                  have hne : ((c.toNat : Int) == 64) = false := by simpa using (by omega : ¬ (c.toNat : Int) = 64)
                  clear hxd hxc hcm
                  have HN : Hid (numAt s p = (((m + x : Nat) : Int), ((p + 8 + 1 : Nat) : Int), 0)) := by
                    have e : pNum 0 0 (s.drop p) = .ok (m + x, s.drop (p + 8 + 1)) := by
                      rw [HP.out, hdrop.out]; have h2 : ¬ 4611686018427387904 < m + c.toNat * 128 ^ 8 := by have := HXC.out; omega
                      simp only [pNum, hc, hz, h2]; simp [HXC.out]
                    simp only [Hid, numAt, e, List.length_drop]
                    rw [show s.length - (s.length - (p + 8 + 1)) = p + 8 + 1 by omega]
                  go_wp2
                  rw [HN.out]
                  go_ret3
                  exact ⟨by simp, rfl⟩
      · have hk7 : k ≤ 7 := by omega
        have hq7 : q ≤ 562949953421312 := by
          rw [HQ.out]; have : (128 : Nat) ^ k ≤ 128 ^ 7 := Nat.pow_le_pow_right (by decide) hk7
          omega
        by_cases hc : 127 < c.toNat
        · have HP2 : Hid (pNum 0 0 (s.drop p) = pNum (k + 1) (m + x) (s.drop (p + (k + 1)))) := by
            rw [Hid, HP.out, hdrop.out]
            have e : m + c.toNat % 128 * 128 ^ k = m + x := by rw [HX.out, HQ.out]
            simp only [pNum, hc, hk8, e]; simp [Nat.add_assoc]
          have hQ2 : Hid (q * 128 = 128 ^ (k + 1)) := by rw [Hid, HQ.out, Nat.pow_succ]
          clear hxd
          go_wp2
          go_round
          case rel => exact ⟨k + 1, m + x, q * 128, by go_num, by go_num, by go_num, by omega, by omega, hQ2, by omega, HP2⟩
          case measure => simp [intOf]; omega
        · have hxc : Hid (x = c.toNat * 128 ^ k) := by rw [Hid, hxd, HQ.out, Nat.mod_eq_of_lt (by omega)]
          have hb : ¬ 4611686018427387904 < m + c.toNat * 128 ^ k := by
            have h1 := hxc.out
            rw [← h1]; omega
          by_cases hz : c.toNat = 0
          · by_cases hk0 : 0 < k
            · clear hxd hb
              have HN : Hid (numAt s p = (0, 0, 23)) := by
                have e : pNum 0 0 (s.drop p) = .error 23 := by
                  rw [HP.out, hdrop.out]; simp [pNum, hz, hk0, hk8]
                simp only [Hid, numAt, e]
              go_wp2
              rw [HN.out]
              go_ret3
              exact ⟨rfl, rfl⟩
            · have hx0 : x = 0 := by rw [hxd, hz]; simp
              subst hx0
              clear hxd hb
              have HN : Hid (numAt s p = (((m + 0 : Nat) : Int), ((p + k + 1 : Nat) : Int), 0)) := by
                have e : pNum 0 0 (s.drop p) = .ok (m + 0, s.drop (p + k + 1)) := by
                  rw [HP.out, hdrop.out]; have h0 : ¬ 0 < k := hk0
                  have h2 : ¬ 4611686018427387904 < m := by omega
                  simp [pNum, hz, h0, hk8, h2]
                simp only [Hid, numAt, e, List.length_drop]
                rw [show s.length - (s.length - (p + k + 1)) = p + k + 1 by omega]
              go_wp2
              rw [HN.out]
              go_ret3
              exact ⟨by simp, rfl⟩
          · have HB := hid hb
            clear hxd hb
            have HN : Hid (numAt s p = (((m + x : Nat) : Int), ((p + k + 1 : Nat) : Int), 0)) := by
              have e : pNum 0 0 (s.drop p) = .ok (m + x, s.drop (p + k + 1)) := by
                rw [HP.out, hdrop.out]; simp only [pNum, hc, hz, hk8, HB.out]; simp [hxc.out]
              simp only [Hid, numAt, e, List.length_drop]
              rw [show s.length - (s.length - (p + k + 1)) = p + k + 1 by omega]
            go_wp2
            rw [HN.out]
            go_ret3
            exact ⟨by simp, rfl⟩
    · have hk0 : p + k = s.length := by omega
      have HN : Hid (numAt s p = (0, 0, 21)) := by
        rw [Hid, numAt, HP.out, hk0, List.drop_length]; rfl
      clear hk0
      go_wp2
      rw [HN.out]
      go_ret3
      exact ⟨rfl, rfl⟩

/-- a text of at most so many bytes at a place: it, and the place behind it -/
def textAt (s : List UInt8) (p : Nat) (most : Int) : List UInt8 × Int × Int :=
  match pText most (s.drop p) with
  | .error e => ([], 0, e)
  | .ok (t, l) => (t, ((s.length - l.length : Nat) : Int), 0)

set_option maxRecDepth 100000 in
set_option maxHeartbeats 1000000 in
theorem reftext_any (s : List UInt8) (p : Nat) (most : Int) (w : World) (hp : p ≤ s.length) (hs : s.length ≤ 9223372036854775807) :
    Calls Tryz.prog 116 #[.string (str s), .int .i64 (p : Int), .int .i64 most] w fun e w' => e = .returned (.tuple #[.string (str (textAt s p most).1), .int .i64 (textAt s p most).2.1, .int .i64 (textAt s p most).2.2]) ∧ w = w' := by
  have hsz := str_size s
  have hT : Hid (textAt s p most = match pText most (s.drop p) with | .error e => ([], 0, e) | .ok (t, l) => (t, ((s.length - l.length : Nat) : Int), 0)) := rfl
  have hN : Hid (numAt s p = match pNum 0 0 (s.drop p) with | .error e => (0, 0, e) | .ok (n, l) => ((n : Int), ((s.length - l.length : Nat) : Int), 0)) := rfl
  go_enter Tryz.func116, Tryz.ntmps116
  go_wp2_with fail
  refine (refnumber_any s p w hp hs).mono ?_
  rintro e w1 ⟨rfl, rfl⟩
  cases hq : pNum 0 0 (s.drop p) with
  | error f =>
    have hN2 := hN.out
    rw [hq] at hN2
    simp only at hN2
    have hT2 : Hid (textAt s p most = ([], 0, f)) := by rw [Hid, hT.out]; simp [pText, pCount, hq]
    have hf : f ≠ 0 := pNum_error hq
    have hfb : (f == 0) = false := by simpa using hf
    clear hT hN hq
    rw [hN2]
    go_wp2
    rw [hT2.out]
    go_ret3
    exact ⟨rfl, rfl⟩
  | ok x =>
    obtain ⟨n, l⟩ := x
    have hle := pNum_le _ _ _ _ _ hq
    have hdl : l.length < s.length - p := by have := hle.2; simpa using this
    have hld := pNum_drop _ _ _ _ _ hq
    have hN2 := hN.out
    rw [hq] at hN2
    simp only at hN2
    obtain ⟨t, ht⟩ : ∃ t : Nat, t = s.length - l.length := ⟨_, rfl⟩
    rw [← ht] at hN2
    have htl : l.length = s.length - t := by omega
    have hts : t ≤ s.length := by omega
    have hlt : Hid (l = s.drop t) := by
      rw [Hid, hld, List.drop_drop]
      congr 1
      have : (List.drop p s).length = s.length - p := by simp
      omega
    by_cases hnm : most < n
    · have hT2 : Hid (textAt s p most = ([], 0, 22)) := by rw [Hid, hT.out]; simp [pText, pCount, hq, hnm]
      clear hT hN hq hld ht htl
      rw [hN2]
      go_wp2
      rw [hT2.out]
      go_ret3
      exact ⟨rfl, rfl⟩
    · by_cases hns : s.length - t < n
      · have hT2 : Hid (textAt s p most = ([], 0, 21)) := by rw [Hid, hT.out]; simp [pText, pCount, hq, hnm, htl, hns]
        clear hT hN hq hld ht htl
        have hns' : (s.length : Int) - t < n := by omega
        rw [hN2]
        go_wp2
        rw [hT2.out]
        go_ret3
        exact ⟨rfl, rfl⟩
      · have hT2 : Hid (textAt s p most = ((s.drop t).take n, ((t + n : Nat) : Int), 0)) := by
          rw [Hid, hT.out]; simp only [pText, pCount, hq]; rw [if_neg hnm]; simp only [htl]; rw [if_neg hns, hlt.out]
          simp; omega
        have hext : (str s).extract t (t + n) = str ((s.drop t).take n) := by
          rw [str_extract]; congr 1; rw [List.take_drop, Nat.add_comm]
        clear hT hN hq hld ht htl
        have hns' : ¬ (s.length : Int) - t < n := by omega
        have htn : t + n ≤ s.length := by omega
        rw [hN2]
        go_wp2
        rw [hT2.out]
        go_ret3
        exact ⟨by simp [hext], rfl⟩
end Go.Proofs.YtpccaodkgboefaaGreatDoor
