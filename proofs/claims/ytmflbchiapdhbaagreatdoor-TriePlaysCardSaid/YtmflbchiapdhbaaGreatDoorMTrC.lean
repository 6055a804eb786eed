/-
  slices.Backward over a list of texts: what its iterator hands out.
  The program's trie: may a proof be one of a key that has a value, or nothing?
-/
import Derived.RangeFuncNested
import Derived.RangeFuncBound
import Derived.RangeFuncCalls
import Derived.RangeFuncLeaves
import Derived.Shelf.RegionOpen
import Derived.Shelf.Abstract
import Derived.WalkKit
import Derived.OwnWalkIn
import Derived.TacticsInMore
import Derived.LoopNIn
import Derived.LoopIn
import Derived.Test.YtmflbchiapdhbaaGreatDoorMTrA
import Derived.Deep.RegionLaw
import Derived.BigQuiet
namespace Go.Proofs.YtmflbchiapdhbaaGreatDoor
open Go.RowKit Go.Shelf

attribute [local go_sem] Oper.semAt_some

/-- an element and its place, within what a proof may have -/
abbrev Place := { x : Nat × List UInt8 // x.1 < 256 ∧ x.2.length = 32 }
def pad32 (s : List UInt8) : List UInt8 := if s.length = 32 then s else nought32
theorem pad32_len (s : List UInt8) : (pad32 s).length = 32 := by
  unfold pad32
  split
  · assumption
  · simp [nought32]
/-- what comes in round j -/
def fromEnd (l : List (List UInt8)) (j : Nat) : Place := ⟨((l.length - 1 - j) % 256, pad32 (l.getD (l.length - 1 - j) [])), Nat.mod_lt _ (by decide), pad32_len _⟩
def upto {α : Type} (f : Nat → α) (k : Nat) : List α := (List.range k).map f
theorem upto_succ {α : Type} (f : Nat → α) (k : Nat) : upto f (k + 1) = upto f k ++ [f k] := by simp [upto, List.range_succ]
theorem upto_length {α : Type} (f : Nat → α) (k : Nat) : (upto f k).length = k := by simp [upto]

theorem fromEnd_eq (l : List (List UInt8)) (m : Nat) (s : List UInt8) (hm : m < l.length) (h256 : l.length ≤ 256) (hs : l[m]? = some s) (h32 : s.length = 32) : (fromEnd l (l.length - 1 - m)).1 = (m, s) := by
  have e : l.length - 1 - (l.length - 1 - m) = m := by omega
  simp only [fromEnd, e]
  rw [List.getD_eq_getElem?_getD, hs, Option.getD_some, pad32, if_pos h32, Nat.mod_eq_of_lt (by omega)]

set_option maxRecDepth 100000 in
set_option maxHeartbeats 2000000 in
theorem back1_in (F : Fence) (n : Nat) (h7 : F.fn 58) (hro : F.round = none) (hn : 1 ≤ n) (l Bs : Nat) (ao : Option Addr) (cap : Nat) (ls : List (List UInt8)) (h256 : ls.length ≤ 256) (h32 : ∀ s ∈ ls, s.length = 32) (S : Nat → Prop)
    (J Jx : List Place → World → Prop)
    (hY : ∀ pre (x : Place) W, J pre W → pre.length < ls.length → YieldAt F (n - 1) Tryz.prog l #[.int .i64 (x.1.1 : Int), .string (str x.1.2)] W fun e W' =>
      (e = .returned (.bool true) ∧ J (pre ++ [x]) W' ∧ Keeps S W W') ∨ (e = .returned (.bool false) ∧ Jx (pre ++ [x]) W'))
    (W : World) (hBl : Bs < W.heap.size) (hBS : ¬ S Bs) (hBs : W.cell? ⟨Bs, 0, none⟩ = some (.slice ao ls.length cap))
    (hc : ∀ (k : Nat) (s : List UInt8), ls[k]? = some s → ∃ bb off, ao = some ⟨bb, off, none⟩ ∧ bb < W.heap.size ∧ ¬ S bb ∧ W.cell? ⟨bb, off + k, none⟩ = some (.string (str s))) (h0 : J [] W) :
    CallsIn F n Tryz.prog 58 #[.func (.yield l) #[] #[], .pointer (some ⟨Bs, 0, none⟩)] W fun e W' => (∃ v, e = .returned v) ∧
      ((∃ ys, ys = upto (fromEnd ls) ls.length ∧ J ys W') ∨ (∃ pre, True ∧ Jx pre W')) := by
  have HC := hid hc
  have H32 := hid h32
  clear hc h32
  refine callsIn_of_wp Tryz.func58 rfl h7 ?_ hro
  simp only [Tryz.ntmps58, List.size_toArray, List.length_cons, List.length_nil, Nat.reduceAdd, Nat.reduceSub, Array.replicate_succ, Array.replicate_zero, List.push_toArray, List.append_toArray, List.nil_append, List.cons_append]
  gi_wp2
  gi_loopw [3] (fun i wr => ∃ k : Nat, k ≤ ls.length ∧ i = .int .i64 ((k : Int) - 1) ∧ J (upto (fromEnd ls) (ls.length - k)) wr ∧ Keeps S W wr)
    (fun i _ => (intOf i + 1).toNat)
  case atStart => exact ⟨ls.length, Nat.le_refl _, rfl, by rw [Nat.sub_self]; exact h0, Keeps.refl _ _⟩
  case round =>
    obtain ⟨k, hk, rfl, hJs, hnx⟩ := hrel
    have hbx := (hnx.cell (p := ⟨Bs, 0, none⟩) hBl hBS).trans hBs
    cases k with
    | zero =>
      gi_wp2
      go_end0
      exact ⟨⟨_, rfl⟩, .inl ⟨_, rfl, hJs⟩⟩
    | succ m =>
      obtain ⟨s, hs⟩ : ∃ s, ls[m]? = some s := ⟨ls[m], by first | (simp; omega) | simp⟩
      obtain ⟨bb, off, hao, hbb, hbS, hcw⟩ := HC.out m s hs
      have hcell := (hnx.cell (p := ⟨bb, off + m, none⟩) hbb hbS).trans hcw
      have hpl := fromEnd_eq ls m s (by omega) h256 hs (H32.out s (List.mem_of_getElem? hs))
      obtain ⟨fn, tmps, assign, body, hy, hR⟩ := hY _ (fromEnd ls (ls.length - 1 - m)) wr hJs (by rw [upto_length]; omega)
      rw [hpl] at hy
      dsimp only at hy
      have hmi : (((m + 1 : Nat) : Int) - 1) = (m : Int) := by omega
      rw [hmi]
      subst hao
      clear hpl hs hcw hmi
      gi_wp2
      refine hR.mono ?_
      rintro e W3 (⟨rfl, hJ3, hk3⟩ | ⟨rfl, hJx3⟩)
      · gi_wp2
        go_roundw
        case rel => exact ⟨m, by omega, rfl, by rw [show ls.length - m = (ls.length - (m + 1)) + 1 by omega, upto_succ]; rw [show ls.length - 1 - m = ls.length - (m + 1) by omega] at hJ3; exact hJ3, hnx.trans hk3⟩
        case measure => simp [intOf] <;> omega
      · gi_wp2
        refine bodyPost_ret (results_none rfl _ _ _) rfl ?_
        exact ⟨⟨_, rfl⟩, .inr ⟨_, trivial, hJx3⟩⟩
end Go.Proofs.YtmflbchiapdhbaaGreatDoor

namespace Go.Proofs.YtmflbchiapdhbaaGreatDoor
open Go.RowKit

set_option maxRecDepth 100000 in
theorem not32_any (s : List UInt8) (w : World) (_hs : s.length ≤ 9223372036854775807) :
    Calls Tryz.prog 56 #[.string (str s)] w fun e w' => e = .returned (.bool (!decide (s.length = 32))) ∧ w = w' := by
  have hsz := str_size s
  have hb : ((s.length : Int) != 32) = !decide (s.length = 32) := by
    by_cases h : s.length = 32
    · rw [h]; rfl
    · rw [decide_eq_false h]; simp; omega
  have HB := hid hb
  clear hb
  go_enter Tryz.func56, Tryz.ntmps56
  go_wp2_with fail
  go_ret
  exact ⟨congrArg (fun b => Ending.returned (Value.bool b)) HB.out, rfl⟩

set_option maxRecDepth 100000 in
set_option maxHeartbeats 1000000 in
theorem index_any (v : Value) (l : List (List UInt8)) (w : World) (hl : TextsAt w v l) (hll : l.length ≤ 9223372036854775807) (hs : ∀ s ∈ l, s.length ≤ 9223372036854775807) :
    Calls Tryz.prog 66 #[v, .func (.func 56) #[] #[]] w fun e w' => ∃ i : Int, e = .returned (.int .i64 i) ∧ w = w' ∧ (0 ≤ i ↔ every32 l = false) := by
  obtain ⟨ao, cap, rfl, hc⟩ := hl
  have HC := hid hc
  have HS := hid hs
  clear hc hs
  go_enter Tryz.func66, Tryz.ntmps66
  go_wp2_with fail
  go_loopw [8] (fun i wr => ∃ (n : Nat), i = .int .i64 (n : Int) ∧ n ≤ l.length ∧ Hid (every32 l = every32 (l.drop n)) ∧ w = wr) (fun i _ => l.length - (intOf i).toNat)
  case atStart => exact ⟨0, rfl, by omega, rfl, rfl⟩
  case round =>
    obtain ⟨n, rfl, hn, HE, rfl⟩ := hrel
    by_cases hlt : n < l.length
    · obtain ⟨s, hs⟩ : ∃ s, l[n]? = some s := ⟨l[n], by simp [hlt]⟩
      obtain ⟨bb, off, hao, hbb, hcell⟩ := HC.out n s hs
      have hE := HE.out
      rw [drop_cons hs] at hE
      simp only [every32] at hE
      have hsl := HS.out s (List.mem_of_getElem? hs)
      subst hao
      have hnot := not32_any s w hsl
      by_cases h32 : s.length = 32
      · rw [decide_eq_true h32] at hnot
        have HN := hid hnot
        have hE2 : Hid (every32 l = every32 (l.drop (n + 1))) := by rw [Hid, hE]; simp [h32]
        clear hE h32 hnot hs HE
        go_wp2_with fail
        refine HN.out.mono ?_
        rintro e w2 ⟨rfl, rfl⟩
        go_wp2
        go_roundw
        case rel => exact ⟨n + 1, by go_num, by omega, hE2, by first | rfl | trivial⟩
        case measure => simp [intOf]; omega
      · rw [decide_eq_false h32] at hnot
        have HN := hid hnot
        have hE2 : Hid (every32 l = false) := by rw [Hid, hE]; simp [h32]
        clear hE h32 hnot hs HE
        go_wp2_with fail
        refine HN.out.mono ?_
        rintro e w2 ⟨rfl, rfl⟩
        go_wp2
        go_ret
        exact ⟨_, rfl, rfl, by rw [hE2.out]; simp⟩
    · have hE2 : Hid (every32 l = true) := by rw [Hid, HE.out, List.drop_eq_nil_of_le (by omega)]; rfl
      clear HE
      go_wp2
      go_ret
      exact ⟨_, rfl, rfl, by rw [hE2.out]; simp⟩

set_option maxRecDepth 100000 in
theorem contains_any (v : Value) (l : List (List UInt8)) (w : World) (hl : TextsAt w v l) (hll : l.length ≤ 9223372036854775807) (hs : ∀ s ∈ l, s.length ≤ 9223372036854775807) :
    Calls Tryz.prog 55 #[v, .func (.func 56) #[] #[]] w fun e w' => e = .returned (.bool (!every32 l)) ∧ w = w' := by
  have hi := index_any v l w hl hll hs
  obtain ⟨ev, hev⟩ : ∃ ev, every32 l = ev := ⟨_, rfl⟩
  rw [hev] at hi ⊢
  have HI := hid hi
  clear hi hev
  go_enter Tryz.func55, Tryz.ntmps55
  go_wp2_with fail
  refine HI.out.mono ?_
  rintro e w2 ⟨i, rfl, rfl, hiff⟩
  cases ev with
  | true =>
    have hi : ¬ (0 ≤ i) := fun h => absurd (hiff.1 h) (by simp)
    clear hiff
    go_wp2
    go_ret
    exact ⟨by simp; omega, rfl⟩
  | false =>
    have hi : 0 ≤ i := hiff.2 rfl
    clear hiff
    go_wp2
    go_ret
    exact ⟨by simp, rfl⟩

theorem formOf_pos (l : List (List UInt8)) (pk pv k : List UInt8) : formOf l true pk pv k = (decide (l.length ≤ 256) && every32 l && (decide (pk.length = 32) && decide (pv.length = 32) && agree pk k 0 l.length)) := rfl

set_option maxRecDepth 100000 in
set_option maxHeartbeats 4000000 in
theorem formed_any (v : Value) (l : List (List UInt8)) (pt : Bool) (pk pv key value : List UInt8) (there : Bool) (w : World) (hl : TextsAt w v l) (hd : Dig w) (hpk : pk.length ≤ 9223372036854775807) (hpv : pv.length ≤ 9223372036854775807) (hkey : key.length ≤ 1000000) (hval : there = true → value.length ≤ 1000000) (hll : l.length ≤ 9223372036854775807) (hs : ∀ s ∈ l, s.length ≤ 9223372036854775807) :
    Calls Tryz.prog 37 #[.agg #[v, .bool pt, .string (str pk), .string (str pv)], .string (str key), .string (str value), .bool there] w fun e w' => e = .returned (.bool (fits l pt pk pv key value there)) ∧ Fresh w w' := by
  have hspk := str_size pk
  have hspv := str_size pv
  obtain ⟨ao, cap, rfl, hc⟩ := hl
  have f1 : Fresh w (w.alloc (.cells #[.slice ao l.length cap, .bool pt, .string (str pk), .string (str pv)] 43)) := (Keeps.refl _ _).alloc _
  have f1a : Fresh w ((w.alloc (.cells #[.slice ao l.length cap, .bool pt, .string (str pk), .string (str pv)] 43)).alloc (.cells #[.string (str key)] 9)) := f1.alloc _
  have hsum := psum_one (w.heap.size + 1) key ((w.alloc (.cells #[.slice ao l.length cap, .bool pt, .string (str pk), .string (str pv)] 43)).alloc (.cells #[.string (str key)] 9))
    (by have := heap_alloc_new (w.alloc (.cells #[.slice ao l.length cap, .bool pt, .string (str pk), .string (str pv)] 43)) (.cells #[.string (str key)] 9); simpa using this) (hd.fresh f1a) (by omega)
  have hb1 := ((Keeps.refl (fun _ => False) (w.alloc (.cells #[.slice ao l.length cap, .bool pt, .string (str pk), .string (str pv)] 43))).alloc (.cells #[.string (str key)] 9)).at_ (heap_alloc_new w (.cells #[.slice ao l.length cap, .bool pt, .string (str pk), .string (str pv)] 43)) (fun h => h)
  have HS := hid hs
  have HC := hid hc
  have HF : Hid (fits l pt pk pv key value there = (formOf l pt pk pv (sha key) && (if there then pt && decide (pk = sha key) && decide (pv = sha value) else !(pt && decide (pk = sha key))))) := rfl
  clear hs hc
  have hsk := sha_len key
  obtain ⟨k, hk⟩ : ∃ k, sha key = k := ⟨_, rfl⟩
  rw [hk] at hsum hsk HF
  have HSUM := hid hsum
  clear hk hsum f1
  go_enter Tryz.func37, Tryz.ntmps37
  go_wp2_with fail
  refine HSUM.out.mono ?_
  rintro e w1 ⟨rfl, fa⟩
  have fr := f1a.trans fa
  have hb := fa.at_ hb1 (fun h => h)
  clear f1a hb1 fa HSUM
  have hd := hd.fresh fr
  have c0 := cell_at hb 0
  have c1 := cell_at hb 1
  have c2 := cell_at hb 2
  have c3 := cell_at hb 3
  simp at c0 c1 c2 c3
  have hcon := contains_any (.slice ao l.length cap) l w1 ⟨ao, cap, rfl, fun j s hj => by
      obtain ⟨bb, off, e1, e2, e3⟩ := HC.out j s hj
      exact ⟨bb, off, e1, Nat.lt_of_lt_of_le e2 fr.size, (fr.cell (p := ⟨bb, off + j, none⟩) e2 (fun h => h)).trans e3⟩⟩ hll HS.out
  have HCON := hid hcon
  clear hcon
  by_cases h256 : l.length ≤ 256
  · go_wp2_with fail
    refine HCON.out.mono ?_
    rintro e w2 ⟨rfl, rfl⟩
    obtain ⟨ev, hev⟩ : ∃ ev, every32 l = ev := ⟨_, rfl⟩
    rw [hev]
    cases ev
    · have hF : Hid (fits l pt pk pv key value there = false) := by rw [Hid, HF.out]; simp [formOf, hev]
      clear HF hev
      go_wp2_with fail
      go_ret
      exact ⟨by rw [hF.out]; rfl, fr⟩
    cases pt
    · have hkl := str_toList pk
      have hvl := str_toList pv
      have hF : Hid (fits l false pk pv key value there = (decide (pk = []) && decide (pv = []) && !there)) := by
        rw [Hid, HF.out]; simp only [formOf, hev, decide_eq_true h256]; cases there <;> simp
      clear HF hev
      go_wp2_with fail
      all_goals
        go_ret
        refine ⟨?_, fr⟩
        rw [hF.out]
        cases pk <;> cases pv <;> cases there <;> simp_all <;> done
    · have HE := hid hev
      have HF2 : Hid (fits l true pk pv key value there = (decide (pk.length = 32) && decide (pv.length = 32) && agree pk k 0 l.length && (if there then decide (pk = k) && decide (pv = sha value) else !decide (pk = k)))) := by
        rw [Hid, HF.out, formOf_pos, hev, decide_eq_true h256]; simp only [Bool.true_and]
      clear HF hev
      by_cases hkk : pk.length = 32
      · by_cases hvv : pv.length = 32
        · have x1 : ((pk.length : Int) != 32) = false := by rw [hkk]; rfl
          have x2 : ((pv.length : Int) != 32) = false := by rw [hvv]; rfl
          have HKK := hid hkk
          have HVV := hid hvv
          clear hkk hvv
          go_wp2_with fail
          go_loopw [51] (fun i wr => ∃ (m : Nat), i = .int .i64 (m : Int) ∧ m ≤ l.length ∧ Hid (agree pk k 0 l.length = agree pk k m (l.length - m)) ∧ w1 = wr) (fun i _ => l.length - (intOf i).toNat)
          case atStart => exact ⟨0, rfl, by omega, rfl, rfl⟩
          case round =>
            obtain ⟨m, rfl, hm, HA, rfl⟩ := hrel
            by_cases hlt : m < l.length
            · go_wp2_with fail
              refine (bit_any pk m _ (by rw [HKK.out]; omega) (by omega)).mono ?_
              rintro e w2 ⟨rfl, rfl⟩
              go_wp2_with fail
              refine (bit_any k m _ (by omega) (by omega)).mono ?_
              rintro e w2 ⟨rfl, rfl⟩
              by_cases hbb : bitAt pk m = bitAt k m
              · have hA2 : Hid (agree pk k 0 l.length = agree pk k (m + 1) (l.length - (m + 1))) := by
                  rw [Hid, HA.out]
                  obtain ⟨q, hq⟩ : ∃ q, l.length - m = q + 1 := ⟨l.length - m - 1, by omega⟩
                  rw [hq, show l.length - (m + 1) = q by omega, agree, decide_eq_true hbb, Bool.true_and]
                have hne : ((bitAt pk m : Int) != (bitAt k m : Int)) = false := by rw [hbb]; simp
                clear hbb HA
                go_wp2
                go_roundw
                case rel => exact ⟨m + 1, by go_num, by omega, hA2, by first | rfl | trivial⟩
                case measure => simp [intOf]; omega
              · have hA2 : Hid (fits l true pk pv key value there = false) := by
                  obtain ⟨q, hq⟩ : ∃ q, l.length - m = q + 1 := ⟨l.length - m - 1, by omega⟩
                  rw [Hid, HF2.out, HA.out, hq, agree, decide_eq_false hbb]
                  simp
                have hne : ((bitAt pk m : Int) != (bitAt k m : Int)) = true := by rw [bne_iff_ne]; omega
                clear hbb HA HF2
                go_wp2
                go_ret
                exact ⟨by rw [hA2.out]; rfl, fr⟩
            · have hA2 : Hid (fits l true pk pv key value there = (if there then decide (pk = k) && decide (pv = sha value) else !decide (pk = k))) := by
                rw [Hid, HF2.out, HA.out, show l.length - m = 0 by omega]
                simp [agree, HKK.out, HVV.out]
              clear HF2 HA
              cases there
              · have hA3 : Hid (fits l true pk pv key value false = !decide (pk = k)) := hA2.out
                by_cases hpkk : pk = k
                · have hne : ((str pk).toList == (str k).toList) = true := by rw [hpkk]; simp
                  rw [decide_eq_true hpkk] at hA3
                  clear hpkk hA2
                  go_wp2_with fail
                  go_ret
                  exact ⟨by rw [hA3.out]; rfl, fr⟩
                · have hne : ((str pk).toList == (str k).toList) = false := by rw [str_toList, str_toList]; simp [hpkk]
                  rw [decide_eq_false hpkk] at hA3
                  clear hpkk hA2
                  go_wp2_with fail
                  go_ret
                  exact ⟨by rw [hA3.out]; rfl, fr⟩
              · have hA3 : Hid (fits l true pk pv key value true = (decide (pk = k) && decide (pv = sha value))) := hA2.out
                by_cases hpkk : pk = k
                · have hne : ((str pk).toList == (str k).toList) = true := by rw [hpkk]; simp
                  rw [decide_eq_true hpkk, Bool.true_and] at hA3
                  have hsv : value.length ≤ 70368744170000 := by have := hval rfl; omega
                  clear hpkk hA2 hval
                  have hal : (w1.alloc (.cells #[.string (str value)] 9)).drew.heap[w1.heap.size]? = some (.cells #[.string (str value)] 9 (0, 0)) := heap_alloc_new w1 _
                  have fal : Fresh w1 (w1.alloc (.cells #[.string (str value)] 9)).drew := ((Keeps.refl _ _).alloc _).drew
                  have hsumv := psum_one w1.heap.size value _ hal (hd.fresh fal) hsv
                  obtain ⟨sv, hsve⟩ : ∃ sv, sha value = sv := ⟨_, rfl⟩
                  rw [hsve] at hsumv hA3
                  have hbeq : ((str pv).toList == (str sv).toList) = decide (pv = sv) := by rw [str_toList, str_toList]; by_cases h : pv = sv <;> simp [h]
                  have HSV := hid hsumv
                  have HBB := hid (fal.at_ hb (fun h => h))
                  have hb6 := ((Keeps.refl (fun _ => False) w1).alloc (.cells #[.string (str value)] 9)).at_ hb (fun h => h)
                  have e2 := cell_at hb6 2
                  have e3 := cell_at hb6 3
                  rw [Array.getElem?_eq_getElem (by simp)] at e2 e3
                  simp only [List.getElem_toArray, List.getElem_cons_succ, List.getElem_cons_zero] at e2 e3
                  clear hsumv hsve hal hb6
                  have f5a := fr.trans fal
                  clear fal
                  go_wp2_with fail
                  go_region_law (first | (go_simp; go_at_call 15; refine HSV.out.mono ?_; rintro e w5 ⟨rfl, fa⟩; have f5 := f5a.trans fa; have hb5 := fa.at_ HBB.out (fun h => h); have d2 := cell_at hb5 2; have d3 := cell_at hb5 3; simp at d2 d3))
                  all_goals
                    go_wp2_with fail
                    go_ret
                    exact ⟨by rw [hA3.out]; rfl, f5⟩
                · have hne : ((str pk).toList == (str k).toList) = false := by rw [str_toList, str_toList]; simp [hpkk]
                  rw [decide_eq_false hpkk, Bool.false_and] at hA3
                  clear hpkk hA2
                  go_wp2_with fail
                  go_quiet (fail)
                  go_wp2_with fail
                  go_ret
                  exact ⟨by rw [hA3.out]; rfl, fr.drewN _⟩
        · have hA2 : Hid (fits l true pk pv key value there = false) := by rw [Hid, HF2.out, decide_eq_false hvv]; simp
          have x1 : ((pk.length : Int) != 32) = false := by rw [hkk]; rfl
          have x2 : ((pv.length : Int) != 32) = true := by rw [bne_iff_ne]; omega
          clear HF2 hkk hvv
          go_wp2_with fail
          go_ret
          exact ⟨by rw [hA2.out]; rfl, fr⟩
      · have hA2 : Hid (fits l true pk pv key value there = false) := by rw [Hid, HF2.out, decide_eq_false hkk]; simp
        have x1 : ((pk.length : Int) != 32) = true := by rw [bne_iff_ne]; omega
        clear HF2 hkk
        go_wp2_with fail
        go_ret
        exact ⟨by rw [hA2.out]; rfl, fr⟩
  · have hF : Hid (fits l pt pk pv key value there = false) := by rw [Hid, HF.out]; simp [formOf, h256]
    go_wp2_with fail
    go_ret
    exact ⟨by rw [hF.out]; rfl, fr⟩
end Go.Proofs.YtmflbchiapdhbaaGreatDoor
