/-
  The document's 'more': is something there that a reply's kind has not?
  The document's 'part', 'fine': may a reply be?
  The document's 'fine': may a reply be?
  The document's 'layPart': a part of a group's reply.
  The document's 'layReply'.
  What the document lays down of a reply is what the program lays down. Plain.
  The document's answer to a reply is the program's. Plain.
  The document's EncodeReply answers as the program's.
-/
import Derived.Test.YtpccaodkgboefaaGreatDoorMMdb
import Derived.Test.YtpccaodkgboefaaGreatDoorMsRepM
import Derived.Test.YtpccaodkgboefaaGreatDoorMMsI
import Derived.Deep.CutBlock
import Derived.Deep.DeepCutAuto
namespace Go.Proofs.YtpccaodkgboefaaGreatDoor
open Go.RowKit

/-- the document's word of a reply's kind -/
def wordR (k : Int) : List UInt8 :=
  if k = 0 then [33] else if k = 1 then [115, 97, 114] else if k = 2 then [115, 114] else if k = 3 then [114] else if k = 4 ∨ k = 5 ∨ k = 6 ∨ k = 7 then [104] else if k = 8 then [101, 104] else if k = 9 then [97]
  else if k = 10 then [97, 98, 101, 104] else if k = 11 then [45] else if k = 12 then [103] else []
theorem wordR_none {k : Int} (h : k < 0 ∨ 12 < k) : wordR k = [] := by
  unfold wordR
  rw [if_neg (by omega), if_neg (by omega), if_neg (by omega), if_neg (by omega), if_neg (by omega), if_neg (by omega), if_neg (by omega), if_neg (by omega), if_neg (by omega), if_neg (by omega)]
def moreOf (wd : List UInt8) (R : Rep) : Bool :=
  (!wd.contains 115 && (R.size != 0)) || (!wd.contains 97 && (R.a != 0)) || (!wd.contains 98 && (R.b != 0)) || (!wd.contains 114 && !(str R.root).toList.isEmpty) || (!wd.contains 104 && decide (0 < R.hashes.length)) || (!wd.contains 101 && decide (0 < R.entries.length)) || (!wd.contains 103 && decide (0 < R.replies.length))

set_option maxRecDepth 100000 in
set_option maxHeartbeats 2000000 in
theorem dtold_any (k : Int) (w : World) :
    Calls Tryz.prog 57 #[.int .i64 k] w fun e w' => e = .returned (.string (str (wordR k))) ∧ w = w' := by
  by_cases h : 0 ≤ k ∧ k ≤ 12
  · have h' : k = 0 ∨ k = 1 ∨ k = 2 ∨ k = 3 ∨ k = 4 ∨ k = 5 ∨ k = 6 ∨ k = 7 ∨ k = 8 ∨ k = 9 ∨ k = 10 ∨ k = 11 ∨ k = 12 := by omega
    clear h
    rcases h' with rfl | rfl | rfl | rfl | rfl | rfl | rfl | rfl | rfl | rfl | rfl | rfl | rfl
    all_goals
      go_enter Tryz.func57, Tryz.ntmps57
      go_wp2_with fail
      go_ret
      exact ⟨rfl, rfl⟩
  · rw [wordR_none (by omega)]
    have e0 : (k == 0) = false := by simp; omega
    have e1 : (k == 1) = false := by simp; omega
    have e2 : (k == 2) = false := by simp; omega
    have e3 : (k == 3) = false := by simp; omega
    have e4 : (k == 4) = false := by simp; omega
    have e5 : (k == 5) = false := by simp; omega
    have e6 : (k == 6) = false := by simp; omega
    have e7 : (k == 7) = false := by simp; omega
    have e8 : (k == 8) = false := by simp; omega
    have e9 : (k == 9) = false := by simp; omega
    have e10 : (k == 10) = false := by simp; omega
    have e11 : (k == 11) = false := by simp; omega
    have e12 : (k == 12) = false := by simp; omega
    go_enter Tryz.func57, Tryz.ntmps57
    go_wp2_with fail
    go_ret
    exact ⟨rfl, rfl⟩

set_option maxRecDepth 100000 in
set_option maxHeartbeats 20000000 in
theorem dmore_any (wd : List UInt8) (hwds : wd = [115, 97, 114] ∨ wd = [115, 114] ∨ wd = [114] ∨ wd = [104] ∨ wd = [101, 104] ∨ wd = [97] ∨ wd = [97, 98, 101, 104] ∨ wd = [45] ∨ wd = [103]) (R : Rep) (B : Nat → Prop) (v : Value) (w : World) (hv : RepAt B w R v) :
    Calls Tryz.prog 101 #[v, .string (str wd)] w fun e w' => e = .returned (.bool (moreOf wd R)) ∧ Fresh w w' := by
  obtain ⟨lv, ev, ap, cp, rfl, ⟨hl1, -⟩, ⟨he1, -⟩, -, -⟩ := hv.parts
  obtain ⟨al, cl, rfl, -⟩ := hl1.texts
  obtain ⟨ae, ce, rfl, -⟩ := he1.texts
  have hsp0 : moreOf wd R = ((!wd.contains 115 && (R.size != 0)) || (!wd.contains 97 && (R.a != 0)) || (!wd.contains 98 && (R.b != 0)) || (!wd.contains 114 && !(str R.root).toList.isEmpty) || (!wd.contains 104 && decide (0 < R.hashes.length)) || (!wd.contains 101 && decide (0 < R.entries.length)) || (!wd.contains 103 && decide (0 < R.replies.length))) := rfl
  obtain ⟨sp, hsp⟩ : ∃ sp, moreOf wd R = sp := ⟨_, rfl⟩
  rw [hsp] at hsp0 ⊢
  obtain ⟨rz, hrz⟩ : ∃ x, R.status = x := ⟨_, rfl⟩
  obtain ⟨rs, hrs⟩ : ∃ x, R.size = x := ⟨_, rfl⟩
  obtain ⟨ra, hra⟩ : ∃ x, R.a = x := ⟨_, rfl⟩
  obtain ⟨rb, hrb⟩ : ∃ x, R.b = x := ⟨_, rfl⟩
  obtain ⟨rt, hrt⟩ : ∃ x, R.root = x := ⟨_, rfl⟩
  obtain ⟨nh, hnh⟩ : ∃ x, R.hashes.length = x := ⟨_, rfl⟩
  obtain ⟨ne, hne⟩ : ∃ x, R.entries.length = x := ⟨_, rfl⟩
  obtain ⟨np, hnp⟩ : ∃ x, R.replies.length = x := ⟨_, rfl⟩
  rw [hra, hrb, hrs, hrt, hnh, hne, hnp] at hsp0
  rw [hrz, hra, hrb, hrs, hrt, hnh, hne, hnp]
  clear hsp hrz hra hrb hrs hrt hnh hne hnp
  have hbox := heap_alloc_new w (.cells #[.int .i64 rz, .int .i64 rs, .int .i64 ra, .int .i64 rb, .string (str rt), .slice al nh cl, .slice ae ne ce, .slice ap np cp] 48)
  have f0 : Fresh w (w.alloc (.cells #[.int .i64 rz, .int .i64 rs, .int .i64 ra, .int .i64 rb, .string (str rt), .slice al nh cl, .slice ae ne ce, .slice ap np cp] 48)) := (Keeps.refl _ _).alloc _
  have x1 := cell_at hbox 1
  have x2 := cell_at hbox 2
  have x3 := cell_at hbox 3
  have x4 := cell_at hbox 4
  have x5 := cell_at hbox 5
  have x6 := cell_at hbox 6
  have x7 := cell_at hbox 7
  simp at x1 x2 x3 x4 x5 x6 x7
  clear hbox hl1 he1 hv
  rcases hwds with hwd | hwd | hwd | hwd | hwd | hwd | hwd | hwd | hwd
  · subst hwd
    have HSP2 := hid hsp0
    clear hsp0
    rw [show ([115, 97, 114] : List UInt8).contains 115 = true by decide, show ([115, 97, 114] : List UInt8).contains 97 = true by decide, show ([115, 97, 114] : List UInt8).contains 98 = false by decide, show ([115, 97, 114] : List UInt8).contains 114 = true by decide, show ([115, 97, 114] : List UInt8).contains 104 = false by decide, show ([115, 97, 114] : List UInt8).contains 101 = false by decide, show ([115, 97, 114] : List UInt8).contains 103 = false by decide] at HSP2
    go_enter Tryz.func101, Tryz.ntmps101
    go_wp2_with fail
    refine (dhas_lit [115, 97, 114] 115 115 rfl _ (by decide)).mono ?_
    rintro e _ ⟨rfl, rfl⟩
    rw [show ([115, 97, 114] : List UInt8).contains 115 = true by decide]
    go_wp2_with fail
    refine (dhas_lit [115, 97, 114] 97 97 rfl _ (by decide)).mono ?_
    rintro e _ ⟨rfl, rfl⟩
    rw [show ([115, 97, 114] : List UInt8).contains 97 = true by decide]
    go_wp2_with fail
    refine (dhas_lit [115, 97, 114] 98 98 rfl _ (by decide)).mono ?_
    rintro e _ ⟨rfl, rfl⟩
    rw [show ([115, 97, 114] : List UInt8).contains 98 = false by decide]
    go_wp2_with fail
    refine (dhas_lit [115, 97, 114] 114 114 rfl _ (by decide)).mono ?_
    rintro e _ ⟨rfl, rfl⟩
    rw [show ([115, 97, 114] : List UInt8).contains 114 = true by decide]
    go_wp2_with fail
    refine (dhas_lit [115, 97, 114] 104 104 rfl _ (by decide)).mono ?_
    rintro e _ ⟨rfl, rfl⟩
    rw [show ([115, 97, 114] : List UInt8).contains 104 = false by decide]
    go_wp2_with fail
    refine (dhas_lit [115, 97, 114] 101 101 rfl _ (by decide)).mono ?_
    rintro e _ ⟨rfl, rfl⟩
    rw [show ([115, 97, 114] : List UInt8).contains 101 = false by decide]
    go_wp2_with fail
    refine (dhas_lit [115, 97, 114] 103 103 rfl _ (by decide)).mono ?_
    rintro e _ ⟨rfl, rfl⟩
    rw [show ([115, 97, 114] : List UInt8).contains 103 = false by decide]
    go_upto_region 8 with fail
    simp only [List.append_eq, List.cons_append, List.nil_append]
    cases q_b : (rb != 0) with
    | true =>
      go_wp2_with fail
      go_ret
      refine ⟨?_, f0⟩
      rw [HSP2.out]
      simp [*]
    | false =>
      rcases nh with _ | nh
      rotate_left
      · go_wp2_with fail
        go_ret
        refine ⟨?_, f0⟩
        rw [HSP2.out]
        simp [*]
      · rcases ne with _ | ne
        rotate_left
        · go_wp2_with fail
          go_ret
          refine ⟨?_, f0⟩
          rw [HSP2.out]
          simp [*]
        · rcases np with _ | np
          rotate_left
          · go_wp2_with fail
            go_ret
            refine ⟨?_, f0⟩
            rw [HSP2.out]
            simp [*]
          · go_wp2_with fail
            go_ret
            refine ⟨?_, f0⟩
            rw [HSP2.out]
            simp [*]
  · subst hwd
    have HSP2 := hid hsp0
    clear hsp0
    rw [show ([115, 114] : List UInt8).contains 115 = true by decide, show ([115, 114] : List UInt8).contains 97 = false by decide, show ([115, 114] : List UInt8).contains 98 = false by decide, show ([115, 114] : List UInt8).contains 114 = true by decide, show ([115, 114] : List UInt8).contains 104 = false by decide, show ([115, 114] : List UInt8).contains 101 = false by decide, show ([115, 114] : List UInt8).contains 103 = false by decide] at HSP2
    go_enter Tryz.func101, Tryz.ntmps101
    go_wp2_with fail
    refine (dhas_lit [115, 114] 115 115 rfl _ (by decide)).mono ?_
    rintro e _ ⟨rfl, rfl⟩
    rw [show ([115, 114] : List UInt8).contains 115 = true by decide]
    go_wp2_with fail
    refine (dhas_lit [115, 114] 97 97 rfl _ (by decide)).mono ?_
    rintro e _ ⟨rfl, rfl⟩
    rw [show ([115, 114] : List UInt8).contains 97 = false by decide]
    go_wp2_with fail
    refine (dhas_lit [115, 114] 98 98 rfl _ (by decide)).mono ?_
    rintro e _ ⟨rfl, rfl⟩
    rw [show ([115, 114] : List UInt8).contains 98 = false by decide]
    go_wp2_with fail
    refine (dhas_lit [115, 114] 114 114 rfl _ (by decide)).mono ?_
    rintro e _ ⟨rfl, rfl⟩
    rw [show ([115, 114] : List UInt8).contains 114 = true by decide]
    go_wp2_with fail
    refine (dhas_lit [115, 114] 104 104 rfl _ (by decide)).mono ?_
    rintro e _ ⟨rfl, rfl⟩
    rw [show ([115, 114] : List UInt8).contains 104 = false by decide]
    go_wp2_with fail
    refine (dhas_lit [115, 114] 101 101 rfl _ (by decide)).mono ?_
    rintro e _ ⟨rfl, rfl⟩
    rw [show ([115, 114] : List UInt8).contains 101 = false by decide]
    go_wp2_with fail
    refine (dhas_lit [115, 114] 103 103 rfl _ (by decide)).mono ?_
    rintro e _ ⟨rfl, rfl⟩
    rw [show ([115, 114] : List UInt8).contains 103 = false by decide]
    go_upto_region 8 with fail
    simp only [List.append_eq, List.cons_append, List.nil_append]
    cases q_a : (ra != 0) with
    | true =>
      go_wp2_with fail
      go_ret
      refine ⟨?_, f0⟩
      rw [HSP2.out]
      simp [*]
    | false =>
      cases q_b : (rb != 0) with
      | true =>
        go_wp2_with fail
        go_ret
        refine ⟨?_, f0⟩
        rw [HSP2.out]
        simp [*]
      | false =>
        rcases nh with _ | nh
        rotate_left
        · go_wp2_with fail
          go_ret
          refine ⟨?_, f0⟩
          rw [HSP2.out]
          simp [*]
        · rcases ne with _ | ne
          rotate_left
          · go_wp2_with fail
            go_ret
            refine ⟨?_, f0⟩
            rw [HSP2.out]
            simp [*]
          · rcases np with _ | np
            rotate_left
            · go_wp2_with fail
              go_ret
              refine ⟨?_, f0⟩
              rw [HSP2.out]
              simp [*]
            · go_wp2_with fail
              go_ret
              refine ⟨?_, f0⟩
              rw [HSP2.out]
              simp [*]
  · subst hwd
    have HSP2 := hid hsp0
    clear hsp0
    rw [show ([114] : List UInt8).contains 115 = false by decide, show ([114] : List UInt8).contains 97 = false by decide, show ([114] : List UInt8).contains 98 = false by decide, show ([114] : List UInt8).contains 114 = true by decide, show ([114] : List UInt8).contains 104 = false by decide, show ([114] : List UInt8).contains 101 = false by decide, show ([114] : List UInt8).contains 103 = false by decide] at HSP2
    go_enter Tryz.func101, Tryz.ntmps101
    go_wp2_with fail
    refine (dhas_lit [114] 115 115 rfl _ (by decide)).mono ?_
    rintro e _ ⟨rfl, rfl⟩
    rw [show ([114] : List UInt8).contains 115 = false by decide]
    go_wp2_with fail
    refine (dhas_lit [114] 97 97 rfl _ (by decide)).mono ?_
    rintro e _ ⟨rfl, rfl⟩
    rw [show ([114] : List UInt8).contains 97 = false by decide]
    go_wp2_with fail
    refine (dhas_lit [114] 98 98 rfl _ (by decide)).mono ?_
    rintro e _ ⟨rfl, rfl⟩
    rw [show ([114] : List UInt8).contains 98 = false by decide]
    go_wp2_with fail
    refine (dhas_lit [114] 114 114 rfl _ (by decide)).mono ?_
    rintro e _ ⟨rfl, rfl⟩
    rw [show ([114] : List UInt8).contains 114 = true by decide]
    go_wp2_with fail
    refine (dhas_lit [114] 104 104 rfl _ (by decide)).mono ?_
    rintro e _ ⟨rfl, rfl⟩
    rw [show ([114] : List UInt8).contains 104 = false by decide]
    go_wp2_with fail
    refine (dhas_lit [114] 101 101 rfl _ (by decide)).mono ?_
    rintro e _ ⟨rfl, rfl⟩
    rw [show ([114] : List UInt8).contains 101 = false by decide]
    go_wp2_with fail
    refine (dhas_lit [114] 103 103 rfl _ (by decide)).mono ?_
    rintro e _ ⟨rfl, rfl⟩
    rw [show ([114] : List UInt8).contains 103 = false by decide]
    go_upto_region 8 with fail
    simp only [List.append_eq, List.cons_append, List.nil_append]
    cases q_s : (rs != 0) with
    | true =>
      go_wp2_with fail
      go_ret
      refine ⟨?_, f0⟩
      rw [HSP2.out]
      simp [*]
    | false =>
      cases q_a : (ra != 0) with
      | true =>
        go_wp2_with fail
        go_ret
        refine ⟨?_, f0⟩
        rw [HSP2.out]
        simp [*]
      | false =>
        cases q_b : (rb != 0) with
        | true =>
          go_wp2_with fail
          go_ret
          refine ⟨?_, f0⟩
          rw [HSP2.out]
          simp [*]
        | false =>
          rcases nh with _ | nh
          rotate_left
          · go_wp2_with fail
            go_ret
            refine ⟨?_, f0⟩
            rw [HSP2.out]
            simp [*]
          · rcases ne with _ | ne
            rotate_left
            · go_wp2_with fail
              go_ret
              refine ⟨?_, f0⟩
              rw [HSP2.out]
              simp [*]
            · rcases np with _ | np
              rotate_left
              · go_wp2_with fail
                go_ret
                refine ⟨?_, f0⟩
                rw [HSP2.out]
                simp [*]
              · go_wp2_with fail
                go_ret
                refine ⟨?_, f0⟩
                rw [HSP2.out]
                simp [*]
  · subst hwd
    have HSP2 := hid hsp0
    clear hsp0
    rw [show ([104] : List UInt8).contains 115 = false by decide, show ([104] : List UInt8).contains 97 = false by decide, show ([104] : List UInt8).contains 98 = false by decide, show ([104] : List UInt8).contains 114 = false by decide, show ([104] : List UInt8).contains 104 = true by decide, show ([104] : List UInt8).contains 101 = false by decide, show ([104] : List UInt8).contains 103 = false by decide] at HSP2
    go_enter Tryz.func101, Tryz.ntmps101
    go_wp2_with fail
    refine (dhas_lit [104] 115 115 rfl _ (by decide)).mono ?_
    rintro e _ ⟨rfl, rfl⟩
    rw [show ([104] : List UInt8).contains 115 = false by decide]
    go_wp2_with fail
    refine (dhas_lit [104] 97 97 rfl _ (by decide)).mono ?_
    rintro e _ ⟨rfl, rfl⟩
    rw [show ([104] : List UInt8).contains 97 = false by decide]
    go_wp2_with fail
    refine (dhas_lit [104] 98 98 rfl _ (by decide)).mono ?_
    rintro e _ ⟨rfl, rfl⟩
    rw [show ([104] : List UInt8).contains 98 = false by decide]
    go_wp2_with fail
    refine (dhas_lit [104] 114 114 rfl _ (by decide)).mono ?_
    rintro e _ ⟨rfl, rfl⟩
    rw [show ([104] : List UInt8).contains 114 = false by decide]
    go_wp2_with fail
    refine (dhas_lit [104] 104 104 rfl _ (by decide)).mono ?_
    rintro e _ ⟨rfl, rfl⟩
    rw [show ([104] : List UInt8).contains 104 = true by decide]
    go_wp2_with fail
    refine (dhas_lit [104] 101 101 rfl _ (by decide)).mono ?_
    rintro e _ ⟨rfl, rfl⟩
    rw [show ([104] : List UInt8).contains 101 = false by decide]
    go_wp2_with fail
    refine (dhas_lit [104] 103 103 rfl _ (by decide)).mono ?_
    rintro e _ ⟨rfl, rfl⟩
    rw [show ([104] : List UInt8).contains 103 = false by decide]
    go_upto_region 8 with fail
    simp only [List.append_eq, List.cons_append, List.nil_append]
    cases q_s : (rs != 0) with
    | true =>
      go_wp2_with fail
      go_ret
      refine ⟨?_, f0⟩
      rw [HSP2.out]
      simp [*]
    | false =>
      cases q_a : (ra != 0) with
      | true =>
        go_wp2_with fail
        go_ret
        refine ⟨?_, f0⟩
        rw [HSP2.out]
        simp [*]
      | false =>
        cases q_b : (rb != 0) with
        | true =>
          go_wp2_with fail
          go_ret
          refine ⟨?_, f0⟩
          rw [HSP2.out]
          simp [*]
        | false =>
          cases q_r : ((str rt).toList.isEmpty) with
          | false =>
            go_wp2_with fail
            go_ret
            refine ⟨?_, f0⟩
            rw [HSP2.out]
            simp [*]
          | true =>
            rcases ne with _ | ne
            rotate_left
            · go_wp2_with fail
              go_ret
              refine ⟨?_, f0⟩
              rw [HSP2.out]
              simp [*]
            · rcases np with _ | np
              rotate_left
              · go_wp2_with fail
                go_ret
                refine ⟨?_, f0⟩
                rw [HSP2.out]
                simp [*]
              · go_wp2_with fail
                go_ret
                refine ⟨?_, f0⟩
                rw [HSP2.out]
                simp [*]
  · subst hwd
    have HSP2 := hid hsp0
    clear hsp0
    rw [show ([101, 104] : List UInt8).contains 115 = false by decide, show ([101, 104] : List UInt8).contains 97 = false by decide, show ([101, 104] : List UInt8).contains 98 = false by decide, show ([101, 104] : List UInt8).contains 114 = false by decide, show ([101, 104] : List UInt8).contains 104 = true by decide, show ([101, 104] : List UInt8).contains 101 = true by decide, show ([101, 104] : List UInt8).contains 103 = false by decide] at HSP2
    go_enter Tryz.func101, Tryz.ntmps101
    go_wp2_with fail
    refine (dhas_lit [101, 104] 115 115 rfl _ (by decide)).mono ?_
    rintro e _ ⟨rfl, rfl⟩
    rw [show ([101, 104] : List UInt8).contains 115 = false by decide]
    go_wp2_with fail
    refine (dhas_lit [101, 104] 97 97 rfl _ (by decide)).mono ?_
    rintro e _ ⟨rfl, rfl⟩
    rw [show ([101, 104] : List UInt8).contains 97 = false by decide]
    go_wp2_with fail
    refine (dhas_lit [101, 104] 98 98 rfl _ (by decide)).mono ?_
    rintro e _ ⟨rfl, rfl⟩
    rw [show ([101, 104] : List UInt8).contains 98 = false by decide]
    go_wp2_with fail
    refine (dhas_lit [101, 104] 114 114 rfl _ (by decide)).mono ?_
    rintro e _ ⟨rfl, rfl⟩
    rw [show ([101, 104] : List UInt8).contains 114 = false by decide]
    go_wp2_with fail
    refine (dhas_lit [101, 104] 104 104 rfl _ (by decide)).mono ?_
    rintro e _ ⟨rfl, rfl⟩
    rw [show ([101, 104] : List UInt8).contains 104 = true by decide]
    go_wp2_with fail
    refine (dhas_lit [101, 104] 101 101 rfl _ (by decide)).mono ?_
    rintro e _ ⟨rfl, rfl⟩
    rw [show ([101, 104] : List UInt8).contains 101 = true by decide]
    go_wp2_with fail
    refine (dhas_lit [101, 104] 103 103 rfl _ (by decide)).mono ?_
    rintro e _ ⟨rfl, rfl⟩
    rw [show ([101, 104] : List UInt8).contains 103 = false by decide]
    go_upto_region 8 with fail
    simp only [List.append_eq, List.cons_append, List.nil_append]
    cases q_s : (rs != 0) with
    | true =>
      go_wp2_with fail
      go_ret
      refine ⟨?_, f0⟩
      rw [HSP2.out]
      simp [*]
    | false =>
      cases q_a : (ra != 0) with
      | true =>
        go_wp2_with fail
        go_ret
        refine ⟨?_, f0⟩
        rw [HSP2.out]
        simp [*]
      | false =>
        cases q_b : (rb != 0) with
        | true =>
          go_wp2_with fail
          go_ret
          refine ⟨?_, f0⟩
          rw [HSP2.out]
          simp [*]
        | false =>
          cases q_r : ((str rt).toList.isEmpty) with
          | false =>
            go_wp2_with fail
            go_ret
            refine ⟨?_, f0⟩
            rw [HSP2.out]
            simp [*]
          | true =>
            rcases np with _ | np
            rotate_left
            · go_wp2_with fail
              go_ret
              refine ⟨?_, f0⟩
              rw [HSP2.out]
              simp [*]
            · go_wp2_with fail
              go_ret
              refine ⟨?_, f0⟩
              rw [HSP2.out]
              simp [*]
  · subst hwd
    have HSP2 := hid hsp0
    clear hsp0
    rw [show ([97] : List UInt8).contains 115 = false by decide, show ([97] : List UInt8).contains 97 = true by decide, show ([97] : List UInt8).contains 98 = false by decide, show ([97] : List UInt8).contains 114 = false by decide, show ([97] : List UInt8).contains 104 = false by decide, show ([97] : List UInt8).contains 101 = false by decide, show ([97] : List UInt8).contains 103 = false by decide] at HSP2
    go_enter Tryz.func101, Tryz.ntmps101
    go_wp2_with fail
    refine (dhas_lit [97] 115 115 rfl _ (by decide)).mono ?_
    rintro e _ ⟨rfl, rfl⟩
    rw [show ([97] : List UInt8).contains 115 = false by decide]
    go_wp2_with fail
    refine (dhas_lit [97] 97 97 rfl _ (by decide)).mono ?_
    rintro e _ ⟨rfl, rfl⟩
    rw [show ([97] : List UInt8).contains 97 = true by decide]
    go_wp2_with fail
    refine (dhas_lit [97] 98 98 rfl _ (by decide)).mono ?_
    rintro e _ ⟨rfl, rfl⟩
    rw [show ([97] : List UInt8).contains 98 = false by decide]
    go_wp2_with fail
    refine (dhas_lit [97] 114 114 rfl _ (by decide)).mono ?_
    rintro e _ ⟨rfl, rfl⟩
    rw [show ([97] : List UInt8).contains 114 = false by decide]
    go_wp2_with fail
    refine (dhas_lit [97] 104 104 rfl _ (by decide)).mono ?_
    rintro e _ ⟨rfl, rfl⟩
    rw [show ([97] : List UInt8).contains 104 = false by decide]
    go_wp2_with fail
    refine (dhas_lit [97] 101 101 rfl _ (by decide)).mono ?_
    rintro e _ ⟨rfl, rfl⟩
    rw [show ([97] : List UInt8).contains 101 = false by decide]
    go_wp2_with fail
    refine (dhas_lit [97] 103 103 rfl _ (by decide)).mono ?_
    rintro e _ ⟨rfl, rfl⟩
    rw [show ([97] : List UInt8).contains 103 = false by decide]
    go_upto_region 8 with fail
    simp only [List.append_eq, List.cons_append, List.nil_append]
    cases q_s : (rs != 0) with
    | true =>
      go_wp2_with fail
      go_ret
      refine ⟨?_, f0⟩
      rw [HSP2.out]
      simp [*]
    | false =>
      cases q_b : (rb != 0) with
      | true =>
        go_wp2_with fail
        go_ret
        refine ⟨?_, f0⟩
        rw [HSP2.out]
        simp [*]
      | false =>
        cases q_r : ((str rt).toList.isEmpty) with
        | false =>
          go_wp2_with fail
          go_ret
          refine ⟨?_, f0⟩
          rw [HSP2.out]
          simp [*]
        | true =>
          rcases nh with _ | nh
          rotate_left
          · go_wp2_with fail
            go_ret
            refine ⟨?_, f0⟩
            rw [HSP2.out]
            simp [*]
          · rcases ne with _ | ne
            rotate_left
            · go_wp2_with fail
              go_ret
              refine ⟨?_, f0⟩
              rw [HSP2.out]
              simp [*]
            · rcases np with _ | np
              rotate_left
              · go_wp2_with fail
                go_ret
                refine ⟨?_, f0⟩
                rw [HSP2.out]
                simp [*]
              · go_wp2_with fail
                go_ret
                refine ⟨?_, f0⟩
                rw [HSP2.out]
                simp [*]
  · subst hwd
    have HSP2 := hid hsp0
    clear hsp0
    rw [show ([97, 98, 101, 104] : List UInt8).contains 115 = false by decide, show ([97, 98, 101, 104] : List UInt8).contains 97 = true by decide, show ([97, 98, 101, 104] : List UInt8).contains 98 = true by decide, show ([97, 98, 101, 104] : List UInt8).contains 114 = false by decide, show ([97, 98, 101, 104] : List UInt8).contains 104 = true by decide, show ([97, 98, 101, 104] : List UInt8).contains 101 = true by decide, show ([97, 98, 101, 104] : List UInt8).contains 103 = false by decide] at HSP2
    go_enter Tryz.func101, Tryz.ntmps101
    go_wp2_with fail
    refine (dhas_lit [97, 98, 101, 104] 115 115 rfl _ (by decide)).mono ?_
    rintro e _ ⟨rfl, rfl⟩
    rw [show ([97, 98, 101, 104] : List UInt8).contains 115 = false by decide]
    go_wp2_with fail
    refine (dhas_lit [97, 98, 101, 104] 97 97 rfl _ (by decide)).mono ?_
    rintro e _ ⟨rfl, rfl⟩
    rw [show ([97, 98, 101, 104] : List UInt8).contains 97 = true by decide]
    go_wp2_with fail
    refine (dhas_lit [97, 98, 101, 104] 98 98 rfl _ (by decide)).mono ?_
    rintro e _ ⟨rfl, rfl⟩
    rw [show ([97, 98, 101, 104] : List UInt8).contains 98 = true by decide]
    go_wp2_with fail
    refine (dhas_lit [97, 98, 101, 104] 114 114 rfl _ (by decide)).mono ?_
    rintro e _ ⟨rfl, rfl⟩
    rw [show ([97, 98, 101, 104] : List UInt8).contains 114 = false by decide]
    go_wp2_with fail
    refine (dhas_lit [97, 98, 101, 104] 104 104 rfl _ (by decide)).mono ?_
    rintro e _ ⟨rfl, rfl⟩
    rw [show ([97, 98, 101, 104] : List UInt8).contains 104 = true by decide]
    go_wp2_with fail
    refine (dhas_lit [97, 98, 101, 104] 101 101 rfl _ (by decide)).mono ?_
    rintro e _ ⟨rfl, rfl⟩
    rw [show ([97, 98, 101, 104] : List UInt8).contains 101 = true by decide]
    go_wp2_with fail
    refine (dhas_lit [97, 98, 101, 104] 103 103 rfl _ (by decide)).mono ?_
    rintro e _ ⟨rfl, rfl⟩
    rw [show ([97, 98, 101, 104] : List UInt8).contains 103 = false by decide]
    go_upto_region 8 with fail
    simp only [List.append_eq, List.cons_append, List.nil_append]
    cases q_s : (rs != 0) with
    | true =>
      go_wp2_with fail
      go_ret
      refine ⟨?_, f0⟩
      rw [HSP2.out]
      simp [*]
    | false =>
      cases q_r : ((str rt).toList.isEmpty) with
      | false =>
        go_wp2_with fail
        go_ret
        refine ⟨?_, f0⟩
        rw [HSP2.out]
        simp [*]
      | true =>
        rcases np with _ | np
        rotate_left
        · go_wp2_with fail
          go_ret
          refine ⟨?_, f0⟩
          rw [HSP2.out]
          simp [*]
        · go_wp2_with fail
          go_ret
          refine ⟨?_, f0⟩
          rw [HSP2.out]
          simp [*]
  · subst hwd
    have HSP2 := hid hsp0
    clear hsp0
    rw [show ([45] : List UInt8).contains 115 = false by decide, show ([45] : List UInt8).contains 97 = false by decide, show ([45] : List UInt8).contains 98 = false by decide, show ([45] : List UInt8).contains 114 = false by decide, show ([45] : List UInt8).contains 104 = false by decide, show ([45] : List UInt8).contains 101 = false by decide, show ([45] : List UInt8).contains 103 = false by decide] at HSP2
    go_enter Tryz.func101, Tryz.ntmps101
    go_wp2_with fail
    refine (dhas_lit [45] 115 115 rfl _ (by decide)).mono ?_
    rintro e _ ⟨rfl, rfl⟩
    rw [show ([45] : List UInt8).contains 115 = false by decide]
    go_wp2_with fail
    refine (dhas_lit [45] 97 97 rfl _ (by decide)).mono ?_
    rintro e _ ⟨rfl, rfl⟩
    rw [show ([45] : List UInt8).contains 97 = false by decide]
    go_wp2_with fail
    refine (dhas_lit [45] 98 98 rfl _ (by decide)).mono ?_
    rintro e _ ⟨rfl, rfl⟩
    rw [show ([45] : List UInt8).contains 98 = false by decide]
    go_wp2_with fail
    refine (dhas_lit [45] 114 114 rfl _ (by decide)).mono ?_
    rintro e _ ⟨rfl, rfl⟩
    rw [show ([45] : List UInt8).contains 114 = false by decide]
    go_wp2_with fail
    refine (dhas_lit [45] 104 104 rfl _ (by decide)).mono ?_
    rintro e _ ⟨rfl, rfl⟩
    rw [show ([45] : List UInt8).contains 104 = false by decide]
    go_wp2_with fail
    refine (dhas_lit [45] 101 101 rfl _ (by decide)).mono ?_
    rintro e _ ⟨rfl, rfl⟩
    rw [show ([45] : List UInt8).contains 101 = false by decide]
    go_wp2_with fail
    refine (dhas_lit [45] 103 103 rfl _ (by decide)).mono ?_
    rintro e _ ⟨rfl, rfl⟩
    rw [show ([45] : List UInt8).contains 103 = false by decide]
    go_upto_region 8 with fail
    simp only [List.append_eq, List.cons_append, List.nil_append]
    cases q_s : (rs != 0) with
    | true =>
      go_wp2_with fail
      go_ret
      refine ⟨?_, f0⟩
      rw [HSP2.out]
      simp [*]
    | false =>
      cases q_a : (ra != 0) with
      | true =>
        go_wp2_with fail
        go_ret
        refine ⟨?_, f0⟩
        rw [HSP2.out]
        simp [*]
      | false =>
        cases q_b : (rb != 0) with
        | true =>
          go_wp2_with fail
          go_ret
          refine ⟨?_, f0⟩
          rw [HSP2.out]
          simp [*]
        | false =>
          cases q_r : ((str rt).toList.isEmpty) with
          | false =>
            go_wp2_with fail
            go_ret
            refine ⟨?_, f0⟩
            rw [HSP2.out]
            simp [*]
          | true =>
            rcases nh with _ | nh
            rotate_left
            · go_wp2_with fail
              go_ret
              refine ⟨?_, f0⟩
              rw [HSP2.out]
              simp [*]
            · rcases ne with _ | ne
              rotate_left
              · go_wp2_with fail
                go_ret
                refine ⟨?_, f0⟩
                rw [HSP2.out]
                simp [*]
              · rcases np with _ | np
                rotate_left
                · go_wp2_with fail
                  go_ret
                  refine ⟨?_, f0⟩
                  rw [HSP2.out]
                  simp [*]
                · go_wp2_with fail
                  go_ret
                  refine ⟨?_, f0⟩
                  rw [HSP2.out]
                  simp [*]
  · subst hwd
    have HSP2 := hid hsp0
    clear hsp0
    rw [show ([103] : List UInt8).contains 115 = false by decide, show ([103] : List UInt8).contains 97 = false by decide, show ([103] : List UInt8).contains 98 = false by decide, show ([103] : List UInt8).contains 114 = false by decide, show ([103] : List UInt8).contains 104 = false by decide, show ([103] : List UInt8).contains 101 = false by decide, show ([103] : List UInt8).contains 103 = true by decide] at HSP2
    go_enter Tryz.func101, Tryz.ntmps101
    go_wp2_with fail
    refine (dhas_lit [103] 115 115 rfl _ (by decide)).mono ?_
    rintro e _ ⟨rfl, rfl⟩
    rw [show ([103] : List UInt8).contains 115 = false by decide]
    go_wp2_with fail
    refine (dhas_lit [103] 97 97 rfl _ (by decide)).mono ?_
    rintro e _ ⟨rfl, rfl⟩
    rw [show ([103] : List UInt8).contains 97 = false by decide]
    go_wp2_with fail
    refine (dhas_lit [103] 98 98 rfl _ (by decide)).mono ?_
    rintro e _ ⟨rfl, rfl⟩
    rw [show ([103] : List UInt8).contains 98 = false by decide]
    go_wp2_with fail
    refine (dhas_lit [103] 114 114 rfl _ (by decide)).mono ?_
    rintro e _ ⟨rfl, rfl⟩
    rw [show ([103] : List UInt8).contains 114 = false by decide]
    go_wp2_with fail
    refine (dhas_lit [103] 104 104 rfl _ (by decide)).mono ?_
    rintro e _ ⟨rfl, rfl⟩
    rw [show ([103] : List UInt8).contains 104 = false by decide]
    go_wp2_with fail
    refine (dhas_lit [103] 101 101 rfl _ (by decide)).mono ?_
    rintro e _ ⟨rfl, rfl⟩
    rw [show ([103] : List UInt8).contains 101 = false by decide]
    go_wp2_with fail
    refine (dhas_lit [103] 103 103 rfl _ (by decide)).mono ?_
    rintro e _ ⟨rfl, rfl⟩
    rw [show ([103] : List UInt8).contains 103 = true by decide]
    go_upto_region 8 with fail
    simp only [List.append_eq, List.cons_append, List.nil_append]
    cases q_s : (rs != 0) with
    | true =>
      go_wp2_with fail
      go_ret
      refine ⟨?_, f0⟩
      rw [HSP2.out]
      simp [*]
    | false =>
      cases q_a : (ra != 0) with
      | true =>
        go_wp2_with fail
        go_ret
        refine ⟨?_, f0⟩
        rw [HSP2.out]
        simp [*]
      | false =>
        cases q_b : (rb != 0) with
        | true =>
          go_wp2_with fail
          go_ret
          refine ⟨?_, f0⟩
          rw [HSP2.out]
          simp [*]
        | false =>
          cases q_r : ((str rt).toList.isEmpty) with
          | false =>
            go_wp2_with fail
            go_ret
            refine ⟨?_, f0⟩
            rw [HSP2.out]
            simp [*]
          | true =>
            rcases nh with _ | nh
            rotate_left
            · go_wp2_with fail
              go_ret
              refine ⟨?_, f0⟩
              rw [HSP2.out]
              simp [*]
            · rcases ne with _ | ne
              rotate_left
              · go_wp2_with fail
                go_ret
                refine ⟨?_, f0⟩
                rw [HSP2.out]
                simp [*]
              · go_wp2_with fail
                go_ret
                refine ⟨?_, f0⟩
                rw [HSP2.out]
                simp [*]

def hashesP (l : List (List UInt8)) : Prop := l.length ≤ 32768 ∧ ∀ (i : Nat) (x : List UInt8), l[i]? = some x → x.length = 32
set_option maxRecDepth 100000 in
set_option maxHeartbeats 2000000 in
theorem dhashes_any (v : Value) (l : List (List UInt8)) (w : World) (h1 : ListAt w v (texts l)) (hb : l.length ≤ 9223372036854775807) :
    Calls Tryz.prog 102 #[v] w fun e w' => Says (hashesP l) e ∧ Fresh w w' := by
  obtain ⟨ao1, cap1, rfl, hc1⟩ := h1.texts
  have HC1 := hid hc1
  clear hc1 h1
  by_cases hm : 32768 < l.length
  · go_enter Tryz.func102, Tryz.ntmps102
    go_wp2_with fail
    go_ret
    exact ⟨Says.no (fun h => by have := h.1; omega), Keeps.refl _ _⟩
  go_enter Tryz.func102, Tryz.ntmps102
  go_wp2_with fail
  go_loopw [3] (fun i wr => ∃ n : Nat, i = .int .i64 (n : Int) ∧ n ≤ l.length ∧ (∀ j x, j < n → l[j]? = some x → x.length = 32) ∧ Fresh w wr) (fun i _ => l.length - (intOf i).toNat)
  case atStart => exact ⟨0, rfl, by omega, fun j x h => by omega, Keeps.refl _ _⟩
  case round =>
    obtain ⟨n, rfl, hn, hno, fr⟩ := hrel
    have HNO := hid hno
    clear hno
    by_cases hlt : n < l.length
    · obtain ⟨s1, hs1⟩ : ∃ s, l[n]? = some s := ⟨l[n], by simp⟩
      obtain ⟨bb1, off1, hao1, hbb1, hcell1⟩ := HC1.out n s1 hs1
      have hcell1 := (fr.cell (p := ⟨bb1, off1 + n, none⟩) hbb1 (fun h => h)).trans hcell1
      subst hao1
      have hsz := str_size s1
      have HS := hid hs1
      clear hs1
      by_cases h32 : s1.length = 32
      · have hq : ((s1.length : Int) != 32) = false := by rw [h32]; rfl
        go_wp2_with fail
        go_roundw
        case rel => exact ⟨n + 1, by go_num, by omega, fun j y hj hy => by
          by_cases hjn : j = n
          · subst hjn
            rw [HS.out] at hy
            injection hy with hy
            rw [← hy]
            omega
          · exact HNO.out j y (by omega) hy, fr⟩
        case measure => simp [intOf]; omega
      · have hq : ((s1.length : Int) != 32) = true := bne_iff_ne.2 (by omega)
        go_wp2_with fail
        go_ret
        exact ⟨Says.no (fun h => h32 (h.2 n s1 HS.out)), fr⟩
    · go_wp2_with fail
      go_ret
      exact ⟨Says.yes ⟨by omega, fun i x hx => HNO.out i x (by have := (List.getElem?_eq_some_iff.1 hx).1; omega) hx⟩, fr⟩
end Go.Proofs.YtpccaodkgboefaaGreatDoor

namespace Go.Proofs.YtpccaodkgboefaaGreatDoor
open Go.RowKit

def partWord (x : Rep) : List UInt8 := if x.status = 0 then (if x.root ≠ [] then [114] else [104]) else [45]
def PartP (x : Rep) : Prop := (0 ≤ x.status ∧ x.status ≤ 8) ∧ moreOf (partWord x) x = false ∧ hashesP x.hashes ∧ (x.root = [] ∨ x.root.length = 32)
def wordS (k : Int) (R : Rep) : List UInt8 := if R.status = 0 then wordR k else [45]
def FineP (k : Int) (R : Rep) : Prop :=
  (0 ≤ R.status ∧ R.status ≤ 8) ∧ ¬ (R.status = 0 ∧ wordR k = [33]) ∧ moreOf (wordS k R) R = false ∧ sizeP R.size ∧ sizeP R.a ∧ hashesP R.hashes ∧ textsP R.entries 0 4096 1000 ∧ (0 ≤ R.b ∧ R.b ≤ 1) ∧ ((wordS k R).contains 114 = true → R.root.length = 32) ∧
    (wordS k R = [103] → 1 ≤ R.replies.length ∧ R.replies.length ≤ 64 ∧ ∀ (i : Nat) (x : Rep), R.replies[i]? = some x → PartP x)
theorem isEmpty_str (l : List UInt8) : (str l).toList.isEmpty = l.isEmpty := by rw [str_toList]

set_option maxRecDepth 100000 in
set_option maxHeartbeats 40000000 in
theorem dpart_any (R : Rep) (hb : R.hashes.length ≤ 9223372036854775807) (B : Nat → Prop) (v : Value) (w : World) (hv : RepAt B w R v) :
    Calls Tryz.prog 103 #[v] w fun e w' => Says (PartP R) e ∧ Fresh w w' := by
  have HV := hid hv
  obtain ⟨lv, ev, ap, cp, rfl, ⟨hl1, -⟩, ⟨he1, -⟩, -, -⟩ := hv.parts
  have HL := hid hl1
  obtain ⟨al, cl, rfl, -⟩ := hl1.texts
  obtain ⟨ae, ce, rfl, -⟩ := he1.texts
  have hbox := heap_alloc_new w (.cells #[.int .i64 R.status, .int .i64 R.size, .int .i64 R.a, .int .i64 R.b, .string (str R.root), .slice al R.hashes.length cl, .slice ae R.entries.length ce, .slice ap R.replies.length cp] 48)
  have f0 : Fresh w (w.alloc (.cells #[.int .i64 R.status, .int .i64 R.size, .int .i64 R.a, .int .i64 R.b, .string (str R.root), .slice al R.hashes.length cl, .slice ae R.entries.length ce, .slice ap R.replies.length cp] 48)) := (Keeps.refl _ _).alloc _
  obtain ⟨w1, hw1⟩ : ∃ w1, w.alloc (.cells #[.int .i64 R.status, .int .i64 R.size, .int .i64 R.a, .int .i64 R.b, .string (str R.root), .slice al R.hashes.length cl, .slice ae R.entries.length ce, .slice ap R.replies.length cp] 48) = w1 := ⟨_, rfl⟩
  obtain ⟨bx, hbx⟩ : ∃ bx, w.heap.size = bx := ⟨_, rfl⟩
  rw [hw1, hbx] at hbox
  rw [hw1] at f0
  have HBOX := hid hbox
  have x0 := cell_at hbox 0
  have x4 := cell_at hbox 4
  simp at x0 x4
  clear hbox hl1 he1 hv
  have hsz := str_size R.root
  by_cases hz0 : R.status < 0
  · go_enter Tryz.func103, Tryz.ntmps103
    go_wp2_with fail
    go_ret
    exact ⟨Says.no (fun h => by have := h.1.1; omega), f0⟩
  by_cases hz8 : 8 < R.status
  · go_enter Tryz.func103, Tryz.ntmps103
    go_wp2_with fail
    go_ret
    exact ⟨Says.no (fun h => by have := h.1.2; omega), f0⟩
  have key : ∀ wd : List UInt8, partWord R = wd → (wd = [115, 97, 114] ∨ wd = [115, 114] ∨ wd = [114] ∨ wd = [104] ∨ wd = [101, 104] ∨ wd = [97] ∨ wd = [97, 98, 101, 104] ∨ wd = [45] ∨ wd = [103]) → ∀ W, Fresh w W →
      Calls Tryz.prog 101 #[.agg #[.int .i64 R.status, .int .i64 R.size, .int .i64 R.a, .int .i64 R.b, .string (str R.root), .slice al R.hashes.length cl, .slice ae R.entries.length ce, .slice ap R.replies.length cp], .string (str wd)] W fun e w' => e = .returned (.bool (moreOf wd R)) ∧ Fresh W w' := fun wd _ hw W hW => dmore_any wd hw R B _ W (HV.out.fresh hW)
  have KEY := hid key
  clear key
  by_cases hs0 : R.status = 0
  · have hq0 : (R.status == 0) = true := by rw [hs0]; rfl
    by_cases hr : R.root = []
    · have hpw : partWord R = [104] := by unfold partWord; rw [if_pos hs0, if_neg (by simp [hr])]
      have hre : (str R.root).toList.isEmpty = true := by rw [isEmpty_str, hr]; rfl
      have HPW := hid hpw
      have HR := hid hr
      clear hpw hr hs0
      go_enter Tryz.func103, Tryz.ntmps103
      go_upto_region 8 with fail
      clear x0 x4
      have x0 := cell_at HBOX.out 0
      have x1 := cell_at HBOX.out 1
      have x2 := cell_at HBOX.out 2
      have x3 := cell_at HBOX.out 3
      have x4 := cell_at HBOX.out 4
      have x5 := cell_at HBOX.out 5
      have x6 := cell_at HBOX.out 6
      have x7 := cell_at HBOX.out 7
      simp at x0 x1 x2 x3 x4 x5 x6 x7
      have hcall := KEY.out [104] HPW.out (by simp) w1 f0
      obtain ⟨mo, hmo⟩ : ∃ mo, moreOf [104] R = mo := ⟨_, rfl⟩
      rw [hmo] at hcall
      have HMO : Hid (moreOf (partWord R) R = mo) := by show _ = _; rw [HPW.out, hmo]
      clear hmo
      go_wp2_with fail
      refine hcall.mono ?_
      rintro e w2 ⟨rfl, f2⟩
      clear hcall x0 x1 x2 x3 x4 x5 x6 x7
      have F2 := f0.trans f2
      have hb2 := f2.at_ HBOX.out (fun h => h)
      have x5 := cell_at hb2 5
      simp at x5
      go_wp2_with fail
      refine (dhashes_any _ R.hashes w2 (HL.out.keeps F2 (fun _ _ h => h)) hb).mono ?_
      rintro e w3 ⟨⟨bh, rfl, hbh⟩, f3⟩
      clear x5
      have hb3 := f3.at_ hb2 (fun h => h)
      have x4 := cell_at hb3 4
      simp at x4
      have HBH := hid hbh
      clear hbh hb2 hb3
      cases mo with
      | true =>
        go_wp2_with fail
        go_ret
        exact ⟨Says.no (fun h => by have := h.2.1; rw [HMO.out] at this; cases this), F2.trans f3⟩
      | false =>
        cases bh with
        | false =>
          go_wp2_with fail
          go_ret
          exact ⟨Says.no (fun h => by have := HBH.out.2 h.2.2.1; cases this), F2.trans f3⟩
        | true =>
          go_wp2_with fail
          go_ret
          exact ⟨Says.yes ⟨⟨by omega, by omega⟩, HMO.out, HBH.out.1 (by first | rfl | trivial), .inl HR.out⟩, F2.trans f3⟩
    · have hpw : partWord R = [114] := by unfold partWord; rw [if_pos hs0, if_pos hr]
      have hre : (str R.root).toList.isEmpty = false := by
        rw [isEmpty_str]
        cases h : R.root with
        | nil => exact absurd h hr
        | cons a r => rfl
      have HPW := hid hpw
      have HR := hid hr
      clear hpw hr hs0
      go_enter Tryz.func103, Tryz.ntmps103
      go_upto_region 8 with fail
      clear x0 x4
      have x0 := cell_at HBOX.out 0
      have x1 := cell_at HBOX.out 1
      have x2 := cell_at HBOX.out 2
      have x3 := cell_at HBOX.out 3
      have x4 := cell_at HBOX.out 4
      have x5 := cell_at HBOX.out 5
      have x6 := cell_at HBOX.out 6
      have x7 := cell_at HBOX.out 7
      simp at x0 x1 x2 x3 x4 x5 x6 x7
      have hcall := KEY.out [114] HPW.out (by simp) w1 f0
      obtain ⟨mo, hmo⟩ : ∃ mo, moreOf [114] R = mo := ⟨_, rfl⟩
      rw [hmo] at hcall
      have HMO : Hid (moreOf (partWord R) R = mo) := by show _ = _; rw [HPW.out, hmo]
      clear hmo
      go_wp2_with fail
      refine hcall.mono ?_
      rintro e w2 ⟨rfl, f2⟩
      clear hcall x0 x1 x2 x3 x4 x5 x6 x7
      have F2 := f0.trans f2
      have hb2 := f2.at_ HBOX.out (fun h => h)
      have x5 := cell_at hb2 5
      simp at x5
      go_wp2_with fail
      refine (dhashes_any _ R.hashes w2 (HL.out.keeps F2 (fun _ _ h => h)) hb).mono ?_
      rintro e w3 ⟨⟨bh, rfl, hbh⟩, f3⟩
      clear x5
      have hb3 := f3.at_ hb2 (fun h => h)
      have x4 := cell_at hb3 4
      simp at x4
      have HBH := hid hbh
      clear hbh hb2 hb3
      cases mo with
      | true =>
        go_wp2_with fail
        go_ret
        exact ⟨Says.no (fun h => by have := h.2.1; rw [HMO.out] at this; cases this), F2.trans f3⟩
      | false =>
        cases bh with
        | false =>
          go_wp2_with fail
          go_ret
          exact ⟨Says.no (fun h => by have := HBH.out.2 h.2.2.1; cases this), F2.trans f3⟩
        | true =>
          by_cases h32 : R.root.length = 32
          · have hq : ((R.root.length : Int) == 32) = true := by rw [h32]; rfl
            go_wp2_with fail
            go_ret
            exact ⟨Says.yes ⟨⟨by omega, by omega⟩, HMO.out, HBH.out.1 (by first | rfl | trivial), .inr h32⟩, F2.trans f3⟩
          · have hq : ((R.root.length : Int) == 32) = false := beq_eq_false_iff_ne.2 (by omega)
            go_wp2_with fail
            go_ret
            exact ⟨Says.no (fun h => h.2.2.2.elim HR.out h32), F2.trans f3⟩
  · have hq0 : (R.status == 0) = false := beq_eq_false_iff_ne.2 hs0
    have hpw : partWord R = [45] := by unfold partWord; rw [if_neg hs0]
    by_cases hr : R.root = []
    · have hre : (str R.root).toList.isEmpty = true := by rw [isEmpty_str, hr]; rfl
      have HPW := hid hpw
      have HR := hid hr
      clear hpw hr hs0
      go_enter Tryz.func103, Tryz.ntmps103
      go_upto_region 8 with fail
      clear x0 x4
      have x0 := cell_at HBOX.out 0
      have x1 := cell_at HBOX.out 1
      have x2 := cell_at HBOX.out 2
      have x3 := cell_at HBOX.out 3
      have x4 := cell_at HBOX.out 4
      have x5 := cell_at HBOX.out 5
      have x6 := cell_at HBOX.out 6
      have x7 := cell_at HBOX.out 7
      simp at x0 x1 x2 x3 x4 x5 x6 x7
      have hcall := KEY.out [45] HPW.out (by simp) w1 f0
      obtain ⟨mo, hmo⟩ : ∃ mo, moreOf [45] R = mo := ⟨_, rfl⟩
      rw [hmo] at hcall
      have HMO : Hid (moreOf (partWord R) R = mo) := by show _ = _; rw [HPW.out, hmo]
      clear hmo
      go_wp2_with fail
      refine hcall.mono ?_
      rintro e w2 ⟨rfl, f2⟩
      clear hcall x0 x1 x2 x3 x4 x5 x6 x7
      have F2 := f0.trans f2
      have hb2 := f2.at_ HBOX.out (fun h => h)
      have x5 := cell_at hb2 5
      simp at x5
      go_wp2_with fail
      refine (dhashes_any _ R.hashes w2 (HL.out.keeps F2 (fun _ _ h => h)) hb).mono ?_
      rintro e w3 ⟨⟨bh, rfl, hbh⟩, f3⟩
      clear x5
      have hb3 := f3.at_ hb2 (fun h => h)
      have x4 := cell_at hb3 4
      simp at x4
      have HBH := hid hbh
      clear hbh hb2 hb3
      cases mo with
      | true =>
        go_wp2_with fail
        go_ret
        exact ⟨Says.no (fun h => by have := h.2.1; rw [HMO.out] at this; cases this), F2.trans f3⟩
      | false =>
        cases bh with
        | false =>
          go_wp2_with fail
          go_ret
          exact ⟨Says.no (fun h => by have := HBH.out.2 h.2.2.1; cases this), F2.trans f3⟩
        | true =>
          go_wp2_with fail
          go_ret
          exact ⟨Says.yes ⟨⟨by omega, by omega⟩, HMO.out, HBH.out.1 (by first | rfl | trivial), .inl HR.out⟩, F2.trans f3⟩
    · have hre : (str R.root).toList.isEmpty = false := by
        rw [isEmpty_str]
        cases h : R.root with
        | nil => exact absurd h hr
        | cons a r => rfl
      have HPW := hid hpw
      have HR := hid hr
      clear hpw hr hs0
      go_enter Tryz.func103, Tryz.ntmps103
      go_upto_region 8 with fail
      clear x0 x4
      have x0 := cell_at HBOX.out 0
      have x1 := cell_at HBOX.out 1
      have x2 := cell_at HBOX.out 2
      have x3 := cell_at HBOX.out 3
      have x4 := cell_at HBOX.out 4
      have x5 := cell_at HBOX.out 5
      have x6 := cell_at HBOX.out 6
      have x7 := cell_at HBOX.out 7
      simp at x0 x1 x2 x3 x4 x5 x6 x7
      have hcall := KEY.out [45] HPW.out (by simp) w1 f0
      obtain ⟨mo, hmo⟩ : ∃ mo, moreOf [45] R = mo := ⟨_, rfl⟩
      rw [hmo] at hcall
      have HMO : Hid (moreOf (partWord R) R = mo) := by show _ = _; rw [HPW.out, hmo]
      clear hmo
      go_wp2_with fail
      refine hcall.mono ?_
      rintro e w2 ⟨rfl, f2⟩
      clear hcall x0 x1 x2 x3 x4 x5 x6 x7
      have F2 := f0.trans f2
      have hb2 := f2.at_ HBOX.out (fun h => h)
      have x5 := cell_at hb2 5
      simp at x5
      go_wp2_with fail
      refine (dhashes_any _ R.hashes w2 (HL.out.keeps F2 (fun _ _ h => h)) hb).mono ?_
      rintro e w3 ⟨⟨bh, rfl, hbh⟩, f3⟩
      clear x5
      have hb3 := f3.at_ hb2 (fun h => h)
      have x4 := cell_at hb3 4
      simp at x4
      have HBH := hid hbh
      clear hbh hb2 hb3
      cases mo with
      | true =>
        go_wp2_with fail
        go_ret
        exact ⟨Says.no (fun h => by have := h.2.1; rw [HMO.out] at this; cases this), F2.trans f3⟩
      | false =>
        cases bh with
        | false =>
          go_wp2_with fail
          go_ret
          exact ⟨Says.no (fun h => by have := HBH.out.2 h.2.2.1; cases this), F2.trans f3⟩
        | true =>
          by_cases h32 : R.root.length = 32
          · have hq : ((R.root.length : Int) == 32) = true := by rw [h32]; rfl
            go_wp2_with fail
            go_ret
            exact ⟨Says.yes ⟨⟨by omega, by omega⟩, HMO.out, HBH.out.1 (by first | rfl | trivial), .inr h32⟩, F2.trans f3⟩
          · have hq : ((R.root.length : Int) == 32) = false := beq_eq_false_iff_ne.2 (by omega)
            go_wp2_with fail
            go_ret
            exact ⟨Says.no (fun h => h.2.2.2.elim HR.out h32), F2.trans f3⟩
end Go.Proofs.YtpccaodkgboefaaGreatDoor

namespace Go.Proofs.YtpccaodkgboefaaGreatDoor
open Go.RowKit

theorem wordR_nine {k : Int} (h0 : 0 ≤ k) (h1 : k ≤ 12) (h : wordR k ≠ [33]) : wordR k = [115, 97, 114] ∨ wordR k = [115, 114] ∨ wordR k = [114] ∨ wordR k = [104] ∨ wordR k = [101, 104] ∨ wordR k = [97] ∨ wordR k = [97, 98, 101, 104] ∨ wordR k = [45] ∨ wordR k = [103] := by
  have h' : k = 0 ∨ k = 1 ∨ k = 2 ∨ k = 3 ∨ k = 4 ∨ k = 5 ∨ k = 6 ∨ k = 7 ∨ k = 8 ∨ k = 9 ∨ k = 10 ∨ k = 11 ∨ k = 12 := by omega
  rcases h' with rfl | rfl | rfl | rfl | rfl | rfl | rfl | rfl | rfl | rfl | rfl | rfl | rfl
  · exact absurd rfl h
  all_goals simp [wordR]
theorem wordR_len (k : Int) : (wordR k).length ≤ 4 := by
  unfold wordR
  repeat' split
  all_goals simp

set_option maxRecDepth 100000 in
set_option maxHeartbeats 20000000 in
theorem dfine_any (k : Int) (hk0 : 0 ≤ k) (hk1 : k ≤ 12) (R : Rep) (hb : R.hashes.length ≤ 9223372036854775807 ∧ R.entries.length ≤ 9223372036854775807) (hrb : ∀ x ∈ R.replies, x.hashes.length ≤ 9223372036854775807) (B : Nat → Prop) (v : Value) (w : World) (hv : RepAt B w R v) :
    Calls Tryz.prog 58 #[.int .i64 k, v] w fun e w' => Says (FineP k R) e ∧ Fresh w w' := by
  have HV := hid hv
  have HRB := hid hrb
  obtain ⟨lv, ev, ap, cp, rfl, ⟨hl1, -⟩, ⟨he1, -⟩, hreps, hal⟩ := hv.parts
  have HL := hid hl1
  have HE := hid he1
  have HQ := hid hreps
  obtain ⟨al, cl, rfl, -⟩ := hl1.texts
  obtain ⟨ae, ce, rfl, -⟩ := he1.texts
  have hbox := heap_alloc_new w (.cells #[.int .i64 R.status, .int .i64 R.size, .int .i64 R.a, .int .i64 R.b, .string (str R.root), .slice al R.hashes.length cl, .slice ae R.entries.length ce, .slice ap R.replies.length cp] 48)
  have f0 : Fresh w (w.alloc (.cells #[.int .i64 R.status, .int .i64 R.size, .int .i64 R.a, .int .i64 R.b, .string (str R.root), .slice al R.hashes.length cl, .slice ae R.entries.length ce, .slice ap R.replies.length cp] 48)) := (Keeps.refl _ _).alloc _
  obtain ⟨w1, hw1⟩ : ∃ w1, w.alloc (.cells #[.int .i64 R.status, .int .i64 R.size, .int .i64 R.a, .int .i64 R.b, .string (str R.root), .slice al R.hashes.length cl, .slice ae R.entries.length ce, .slice ap R.replies.length cp] 48) = w1 := ⟨_, rfl⟩
  obtain ⟨bx, hbx⟩ : ∃ bx, w.heap.size = bx := ⟨_, rfl⟩
  rw [hw1, hbx] at hbox
  rw [hw1] at f0
  have HBOX := hid hbox
  have x0 := cell_at hbox 0
  simp at x0
  have hsz := str_size R.root
  have hwl0 := wordR_len k
  have hnine := fun h => wordR_nine hk0 hk1 h
  obtain ⟨wd, hw0⟩ : ∃ wd, wordR k = wd := ⟨_, rfl⟩
  rw [hw0] at hwl0 hnine
  have HW0 := hid hw0
  have HN := hid hnine
  have hwl : wd.length ≤ 9223372036854775807 := by omega
  clear hbox hl1 he1 hv hreps hrb hw0 hnine
  by_cases hz0 : R.status < 0
  · go_enter Tryz.func58, Tryz.ntmps58
    go_wp2_with fail
    refine (dtold_any k w1).mono ?_
    rintro e _ ⟨rfl, rfl⟩
    go_wp2_with fail
    go_ret
    exact ⟨Says.no (fun h => by have := h.1.1; omega), f0⟩
  by_cases hz8 : 8 < R.status
  · go_enter Tryz.func58, Tryz.ntmps58
    go_wp2_with fail
    refine (dtold_any k w1).mono ?_
    rintro e _ ⟨rfl, rfl⟩
    go_wp2_with fail
    go_ret
    exact ⟨Says.no (fun h => by have := h.1.2; omega), f0⟩
  by_cases hs0 : R.status = 0
  · have hq0 : (R.status == 0) = true := by rw [hs0]; rfl
    have hq1 : (R.status != 0) = false := by rw [hs0]; rfl
    have HS0 := hid hs0
    by_cases hx : wd = [33]
    · subst hx
      clear hs0
      have hxx : ((str [33]).toList == [33]) = true := by rw [str_toList]; rfl
      go_enter Tryz.func58, Tryz.ntmps58
      go_wp2_with fail
      refine (dtold_any k w1).mono ?_
      rintro e _ ⟨rfl, rfl⟩
      rw [HW0.out]
      go_wp2_with fail
      go_ret
      exact ⟨Says.no (fun h => h.2.1 ⟨HS0.out, HW0.out⟩), f0⟩
    have hxx : ((str wd).toList == [33]) = false := by rw [str_toList]; exact beq_eq_false_iff_ne.2 hx
    have HNX : Hid (¬ (R.status = 0 ∧ wordR k = [33])) := fun h => hx (by rw [← HW0.out]; exact h.2)
    have hwd : wordS k R = wd := by unfold wordS; rw [if_pos hs0, HW0.out]
    have hw9 := HN.out hx
    clear hs0 hx
    have HWD := hid hwd
    have HW9 := hid hw9
    clear hwd hw9
    go_enter Tryz.func58, Tryz.ntmps58
    go_wp2_with fail
    refine (dtold_any k w1).mono ?_
    rintro e _ ⟨rfl, rfl⟩
    rw [HW0.out]
    go_upto_region 6 with fail
    clear x0
    have x0 := cell_at HBOX.out 0
    have x1 := cell_at HBOX.out 1
    have x2 := cell_at HBOX.out 2
    have x3 := cell_at HBOX.out 3
    have x4 := cell_at HBOX.out 4
    have x5 := cell_at HBOX.out 5
    have x6 := cell_at HBOX.out 6
    have x7 := cell_at HBOX.out 7
    simp at x0 x1 x2 x3 x4 x5 x6 x7
    have hcall := dmore_any wd HW9.out R B _ w1 (HV.out.fresh f0)
    obtain ⟨mo, hmo⟩ : ∃ mo, moreOf wd R = mo := ⟨_, rfl⟩
    rw [hmo] at hcall
    have HMO : Hid (moreOf (wordS k R) R = mo) := by show _ = _; rw [HWD.out, hmo]
    clear hmo
    go_wp2_with fail
    refine hcall.mono ?_
    rintro e w2 ⟨rfl, f2⟩
    clear hcall x0 x1 x2 x3 x4 x5 x6 x7
    have F2 := f0.trans f2
    have hb2 := f2.at_ HBOX.out (fun h => h)
    have x1 := cell_at hb2 1
    have x2 := cell_at hb2 2
    have x5 := cell_at hb2 5
    simp at x1 x2 x5
    go_wp2_with fail
    refine (dsize_any R.size w2).mono ?_
    rintro e _ ⟨⟨bs, rfl, hbs⟩, rfl⟩
    have HBS := hid hbs
    clear hbs
    go_wp2_with fail
    refine (dsize_any R.a w2).mono ?_
    rintro e _ ⟨⟨ba, rfl, hba⟩, rfl⟩
    have HBA := hid hba
    clear hba
    go_wp2_with fail
    refine (dhashes_any _ R.hashes w2 (HL.out.keeps F2 (fun _ _ h => h)) hb.1).mono ?_
    rintro e w3 ⟨⟨bh, rfl, hbh⟩, f3⟩
    have HBH := hid hbh
    clear hbh x1 x2 x5
    have F3 := F2.trans f3
    have hb3 := f3.at_ hb2 (fun h => h)
    have x6 := cell_at hb3 6
    simp at x6
    go_wp2_with fail
    refine (dtexts_any _ R.entries 0 4096 1000 w3 (HE.out.keeps F3 (fun _ _ h => h)) hb.2).mono ?_
    rintro e w4 ⟨⟨be, rfl, hbe⟩, f4⟩
    have HBE := hid hbe
    clear hbe x6
    have F4 := F3.trans f4
    have hb4 := f4.at_ hb3 (fun h => h)
    have HB4 := hid hb4
    have x3 := cell_at hb4 3
    have x4 := cell_at hb4 4
    simp at x3 x4
    clear hb2 hb3 hb4 f2 f3 f4 F2 F3
    cases mo with
    | true =>
      go_wp2_with fail
      go_ret
      exact ⟨Says.no (fun h => by have := h.2.2.1; rw [HMO.out] at this; cases this), F4⟩
    | false =>
    cases bs with
    | false =>
      go_wp2_with fail
      go_ret
      exact ⟨Says.no (fun h => by have := HBS.out.2 h.2.2.2.1; cases this), F4⟩
    | true =>
    cases ba with
    | false =>
      go_wp2_with fail
      go_ret
      exact ⟨Says.no (fun h => by have := HBA.out.2 h.2.2.2.2.1; cases this), F4⟩
    | true =>
    cases bh with
    | false =>
      go_wp2_with fail
      go_ret
      exact ⟨Says.no (fun h => by have := HBH.out.2 h.2.2.2.2.2.1; cases this), F4⟩
    | true =>
    cases be with
    | false =>
      go_wp2_with fail
      go_ret
      exact ⟨Says.no (fun h => by have := HBE.out.2 h.2.2.2.2.2.2.1; cases this), F4⟩
    | true =>
    by_cases hbn : R.b < 0
    · go_wp2_with fail
      go_ret
      exact ⟨Says.no (fun h => by have := h.2.2.2.2.2.2.2.1.1; omega), F4⟩
    by_cases hb1 : 1 < R.b
    · go_wp2_with fail
      go_ret
      exact ⟨Says.no (fun h => by have := h.2.2.2.2.2.2.2.1.2; omega), F4⟩
    obtain ⟨hr, hhr⟩ : ∃ x, (wd : List UInt8).contains 114 = x := ⟨_, rfl⟩
    have HHR := hid hhr
    clear hhr
    obtain ⟨bad, hbad⟩ : ∃ x, (hr && !decide (R.root.length = 32)) = x := ⟨_, rfl⟩
    have HBAD := hid hbad
    clear hbad
    go_upto_region 11 with fail
    go_cut [86] (fun s86 wx => s86 = .bool bad ∧ wx = w4)
    case first =>
      cases hr with
      | false =>
        go_wp2_with fail
        refine (dhas_lit wd 114 114 rfl _ hwl).mono ?_
        rintro e _ ⟨rfl, rfl⟩
        rw [HHR.out]
        go_wp2_with fail
        go_meet
        exact ⟨by rw [← HBAD.out]; simp <;> omega, rfl⟩
      | true =>
        by_cases h32 : R.root.length = 32
        · have hq : ((R.root.length : Int) != 32) = false := by rw [h32]; rfl
          have H32 := hid h32
          clear h32
          go_wp2_with fail
          refine (dhas_lit wd 114 114 rfl _ hwl).mono ?_
          rintro e _ ⟨rfl, rfl⟩
          rw [HHR.out]
          go_wp2_with fail
          go_meet
          exact ⟨by rw [← HBAD.out, H32.out]; simp <;> omega, rfl⟩
        · have hq : ((R.root.length : Int) != 32) = true := bne_iff_ne.2 (by omega)
          have H32 := hid h32
          clear h32
          go_wp2_with fail
          refine (dhas_lit wd 114 114 rfl _ hwl).mono ?_
          rintro e _ ⟨rfl, rfl⟩
          rw [HHR.out]
          go_wp2_with fail
          go_meet
          exact ⟨by rw [← HBAD.out, decide_eq_false H32.out]; simp, rfl⟩
    case rest =>
      obtain ⟨rfl, rfl⟩ := hcut
      rename World => w4
      clear x3 x4
      cases bad with
      | true =>
        go_wp2_with fail
        go_ret
        exact ⟨Says.no (fun h => by
          have h9 := h.2.2.2.2.2.2.2.2.1
          rw [HWD.out, HHR.out] at h9
          have hb := HBAD.out
          cases hr with
          | false => simp at hb
          | true =>
            rw [h9 rfl] at hb
            simp at hb), F4⟩
      | false =>
        have h9 : Hid ((wordS k R).contains 114 = true → R.root.length = 32) := by
          rw [HWD.out, HHR.out]
          intro h
          have hb := HBAD.out
          subst h
          simpa using hb
        clear HBAD
        by_cases hg : wd = [103]
        · have hgt : ((str wd).toList == [103]) = true := by rw [str_toList, hg]; rfl
          have HG := hid hg
          clear hg
          have x7 := cell_at HB4.out 7
          simp at x7
          by_cases hn1 : R.replies.length < 1
          · go_wp2_with fail
            go_ret
            exact ⟨Says.no (fun h => by have := (h.2.2.2.2.2.2.2.2.2 (by rw [HWD.out]; exact HG.out)).1; omega), F4⟩
          by_cases hn2 : 64 < R.replies.length
          · go_wp2_with fail
            go_ret
            exact ⟨Says.no (fun h => by have := (h.2.2.2.2.2.2.2.2.2 (by rw [HWD.out]; exact HG.out)).2.1; omega), F4⟩
          go_wp2_with fail
          go_loopw [11] (fun i wr => ∃ m : Nat, i = .int .i64 (m : Int) ∧ m ≤ R.replies.length ∧ (∀ j x, j < m → R.replies[j]? = some x → PartP x) ∧ Fresh w4 wr) (fun i _ => R.replies.length - (intOf i).toNat)
          case atStart => exact ⟨0, rfl, by omega, fun j x h => by omega, Keeps.refl _ _⟩
          case round =>
            obtain ⟨m, rfl, hm, hno, fr⟩ := hrel
            have HNO := hid hno
            clear hno
            have hb6 := fr.at_ HB4.out (fun h => h)
            clear x7
            have x7 := cell_at hb6 7
            simp at x7
            clear hb6
            by_cases hlt : m < R.replies.length
            · obtain ⟨u, hu⟩ : ∃ u, R.replies[m]? = some u := ⟨R.replies[m], by simp⟩
              have hr1 := (RepsAt.keeps (F4.trans fr) (fun _ h => h.elim) _ _ _ HQ.out).get hu
              obtain ⟨bq, off, c0, c1, c2, c3, c4, c5, c6, c7, rfl, -, hbq, y0, y1, y2, y3, y4, y5, y6, y7, hxa⟩ := hr1
              rw [Nat.zero_add] at y0 y1 y2 y3 y4 y5 y6 y7
              have HXA := hid hxa
              obtain ⟨lx, ex, ax, capx, hee, ⟨hl1, -⟩, ⟨hl2, -⟩, -⟩ := hxa.parts
              obtain ⟨alx, clx, rfl, -⟩ := hl1.texts
              obtain ⟨aex, cex, rfl, -⟩ := hl2.texts
              clear hl1 hl2 hxa
              simp only [Value.agg.injEq, Array.mk.injEq, List.cons.injEq, and_true] at hee
              obtain ⟨rfl, rfl, rfl, rfl, rfl, rfl, rfl, rfl⟩ := hee
              have hcall := dpart_any u (HRB.out u (List.mem_of_getElem? hu)) _ _ _ HXA.out
              have HC := hid hcall
              have HU := hid hu
              have hm0 : (0 : Int) ≤ (m : Int) := by omega
              have hm1 : (m : Int) < (R.replies.length : Int) := by omega
              clear hcall hu
              go_wp2_with fail
              refine HC.out.mono ?_
              rintro e w6 ⟨⟨br, rfl, hbr⟩, f6⟩
              have HBR := hid hbr
              clear hbr x7 y0 y1 y2 y3 y4 y5 y6 y7 HC
              cases br with
              | false =>
                go_wp2_with fail
                go_ret
                exact ⟨Says.no (fun h => by have := HBR.out.2 ((h.2.2.2.2.2.2.2.2.2 (by rw [HWD.out]; exact HG.out)).2.2 m u HU.out); cases this), F4.trans (fr.trans f6)⟩
              | true =>
                go_wp2_with fail
                go_roundw
                case rel => exact ⟨m + 1, by go_num, by omega, fun j y hj hy => by
                  by_cases hjm : j = m
                  · subst hjm
                    rw [HU.out] at hy
                    injection hy with hy
                    rw [← hy]
                    exact HBR.out.1 (by first | rfl | trivial)
                  · exact HNO.out j y (by omega) hy, fr.trans f6⟩
                case measure => simp [intOf]; omega
            · obtain rfl : m = R.replies.length := by omega
              go_wp2_with fail
              go_ret
              exact ⟨Says.yes ⟨⟨by omega, by omega⟩, HNX.out, HMO.out, HBS.out.1 (by first | rfl | trivial), HBA.out.1 (by first | rfl | trivial), HBH.out.1 (by first | rfl | trivial), HBE.out.1 (by first | rfl | trivial), ⟨by omega, by omega⟩, h9.out, fun _ => ⟨by omega, by omega, fun j x hx => HNO.out j x (by have := (List.getElem?_eq_some_iff.1 hx).1; omega) hx⟩⟩, F4.trans fr⟩
        · have hgt : ((str wd).toList == [103]) = false := by rw [str_toList]; exact beq_eq_false_iff_ne.2 hg
          have HG := hid hg
          clear hg
          go_wp2_with fail
          go_ret
          exact ⟨Says.yes ⟨⟨by omega, by omega⟩, HNX.out, HMO.out, HBS.out.1 (by first | rfl | trivial), HBA.out.1 (by first | rfl | trivial), HBH.out.1 (by first | rfl | trivial), HBE.out.1 (by first | rfl | trivial), ⟨by omega, by omega⟩, h9.out, fun h => (HG.out (by rw [← HWD.out]; exact h)).elim⟩, F4⟩
  · have hq0 : (R.status == 0) = false := beq_eq_false_iff_ne.2 hs0
    have hq1 : (R.status != 0) = true := bne_iff_ne.2 hs0
    have HNX : Hid (¬ (R.status = 0 ∧ wordR k = [33])) := fun h => hs0 h.1
    have hwd : wordS k R = [45] := by unfold wordS; rw [if_neg hs0]
    have hwl : ([45] : List UInt8).length ≤ 9223372036854775807 := by decide
    clear hs0
    have HWD := hid hwd
    clear hwd
    go_enter Tryz.func58, Tryz.ntmps58
    go_wp2_with fail
    refine (dtold_any k w1).mono ?_
    rintro e _ ⟨rfl, rfl⟩
    rw [HW0.out]
    go_upto_region 6 with fail
    clear x0
    have x0 := cell_at HBOX.out 0
    have x1 := cell_at HBOX.out 1
    have x2 := cell_at HBOX.out 2
    have x3 := cell_at HBOX.out 3
    have x4 := cell_at HBOX.out 4
    have x5 := cell_at HBOX.out 5
    have x6 := cell_at HBOX.out 6
    have x7 := cell_at HBOX.out 7
    simp at x0 x1 x2 x3 x4 x5 x6 x7
    have hcall := dmore_any [45] (by simp) R B _ w1 (HV.out.fresh f0)
    obtain ⟨mo, hmo⟩ : ∃ mo, moreOf [45] R = mo := ⟨_, rfl⟩
    rw [hmo] at hcall
    have HMO : Hid (moreOf (wordS k R) R = mo) := by show _ = _; rw [HWD.out, hmo]
    clear hmo
    go_wp2_with fail
    refine hcall.mono ?_
    rintro e w2 ⟨rfl, f2⟩
    clear hcall x0 x1 x2 x3 x4 x5 x6 x7
    have F2 := f0.trans f2
    have hb2 := f2.at_ HBOX.out (fun h => h)
    have x1 := cell_at hb2 1
    have x2 := cell_at hb2 2
    have x5 := cell_at hb2 5
    simp at x1 x2 x5
    go_wp2_with fail
    refine (dsize_any R.size w2).mono ?_
    rintro e _ ⟨⟨bs, rfl, hbs⟩, rfl⟩
    have HBS := hid hbs
    clear hbs
    go_wp2_with fail
    refine (dsize_any R.a w2).mono ?_
    rintro e _ ⟨⟨ba, rfl, hba⟩, rfl⟩
    have HBA := hid hba
    clear hba
    go_wp2_with fail
    refine (dhashes_any _ R.hashes w2 (HL.out.keeps F2 (fun _ _ h => h)) hb.1).mono ?_
    rintro e w3 ⟨⟨bh, rfl, hbh⟩, f3⟩
    have HBH := hid hbh
    clear hbh x1 x2 x5
    have F3 := F2.trans f3
    have hb3 := f3.at_ hb2 (fun h => h)
    have x6 := cell_at hb3 6
    simp at x6
    go_wp2_with fail
    refine (dtexts_any _ R.entries 0 4096 1000 w3 (HE.out.keeps F3 (fun _ _ h => h)) hb.2).mono ?_
    rintro e w4 ⟨⟨be, rfl, hbe⟩, f4⟩
    have HBE := hid hbe
    clear hbe x6
    have F4 := F3.trans f4
    have hb4 := f4.at_ hb3 (fun h => h)
    have HB4 := hid hb4
    have x3 := cell_at hb4 3
    have x4 := cell_at hb4 4
    simp at x3 x4
    clear hb2 hb3 hb4 f2 f3 f4 F2 F3
    cases mo with
    | true =>
      go_wp2_with fail
      go_ret
      exact ⟨Says.no (fun h => by have := h.2.2.1; rw [HMO.out] at this; cases this), F4⟩
    | false =>
    cases bs with
    | false =>
      go_wp2_with fail
      go_ret
      exact ⟨Says.no (fun h => by have := HBS.out.2 h.2.2.2.1; cases this), F4⟩
    | true =>
    cases ba with
    | false =>
      go_wp2_with fail
      go_ret
      exact ⟨Says.no (fun h => by have := HBA.out.2 h.2.2.2.2.1; cases this), F4⟩
    | true =>
    cases bh with
    | false =>
      go_wp2_with fail
      go_ret
      exact ⟨Says.no (fun h => by have := HBH.out.2 h.2.2.2.2.2.1; cases this), F4⟩
    | true =>
    cases be with
    | false =>
      go_wp2_with fail
      go_ret
      exact ⟨Says.no (fun h => by have := HBE.out.2 h.2.2.2.2.2.2.1; cases this), F4⟩
    | true =>
    by_cases hbn : R.b < 0
    · go_wp2_with fail
      go_ret
      exact ⟨Says.no (fun h => by have := h.2.2.2.2.2.2.2.1.1; omega), F4⟩
    by_cases hb1 : 1 < R.b
    · go_wp2_with fail
      go_ret
      exact ⟨Says.no (fun h => by have := h.2.2.2.2.2.2.2.1.2; omega), F4⟩
    obtain ⟨hr, hhr⟩ : ∃ x, ([45] : List UInt8).contains 114 = x := ⟨_, rfl⟩
    have HHR := hid hhr
    clear hhr
    obtain ⟨bad, hbad⟩ : ∃ x, (hr && !decide (R.root.length = 32)) = x := ⟨_, rfl⟩
    have HBAD := hid hbad
    clear hbad
    go_upto_region 11 with fail
    go_cut [86] (fun s86 wx => s86 = .bool bad ∧ wx = w4)
    case first =>
      cases hr with
      | false =>
        go_wp2_with fail
        refine (dhas_lit [45] 114 114 rfl _ hwl).mono ?_
        rintro e _ ⟨rfl, rfl⟩
        rw [HHR.out]
        go_wp2_with fail
        go_meet
        exact ⟨by rw [← HBAD.out]; simp <;> omega, rfl⟩
      | true =>
        by_cases h32 : R.root.length = 32
        · have hq : ((R.root.length : Int) != 32) = false := by rw [h32]; rfl
          have H32 := hid h32
          clear h32
          go_wp2_with fail
          refine (dhas_lit [45] 114 114 rfl _ hwl).mono ?_
          rintro e _ ⟨rfl, rfl⟩
          rw [HHR.out]
          go_wp2_with fail
          go_meet
          exact ⟨by rw [← HBAD.out, H32.out]; simp <;> omega, rfl⟩
        · have hq : ((R.root.length : Int) != 32) = true := bne_iff_ne.2 (by omega)
          have H32 := hid h32
          clear h32
          go_wp2_with fail
          refine (dhas_lit [45] 114 114 rfl _ hwl).mono ?_
          rintro e _ ⟨rfl, rfl⟩
          rw [HHR.out]
          go_wp2_with fail
          go_meet
          exact ⟨by rw [← HBAD.out, decide_eq_false H32.out]; simp, rfl⟩
    case rest =>
      obtain ⟨rfl, rfl⟩ := hcut
      rename World => w4
      clear x3 x4
      cases bad with
      | true =>
        go_wp2_with fail
        go_ret
        exact ⟨Says.no (fun h => by
          have h9 := h.2.2.2.2.2.2.2.2.1
          rw [HWD.out, HHR.out] at h9
          have hb := HBAD.out
          cases hr with
          | false => simp at hb
          | true =>
            rw [h9 rfl] at hb
            simp at hb), F4⟩
      | false =>
        have h9 : Hid ((wordS k R).contains 114 = true → R.root.length = 32) := by
          rw [HWD.out, HHR.out]
          intro h
          have hb := HBAD.out
          subst h
          simpa using hb
        clear HBAD
        have hgt : ((str [45]).toList == [103]) = false := by rw [str_toList]; rfl
        go_wp2_with fail
        go_ret
        exact ⟨Says.yes ⟨⟨by omega, by omega⟩, HNX.out, HMO.out, HBS.out.1 (by first | rfl | trivial), HBA.out.1 (by first | rfl | trivial), HBH.out.1 (by first | rfl | trivial), HBE.out.1 (by first | rfl | trivial), ⟨by omega, by omega⟩, h9.out, fun h => absurd (HWD.out.symm.trans h) (by decide)⟩, F4⟩
end Go.Proofs.YtpccaodkgboefaaGreatDoor

namespace Go.Proofs.YtpccaodkgboefaaGreatDoor
open Go.RowKit

def dPart (st : WSt) (x : Rep) : WSt :=
  if x.status = 0 then (if x.root ≠ [] then wRaw (wByte (wByte st x.status) 1) x.root else xHashes (wByte (wByte st x.status) 0) x.hashes 32768) else wByte st x.status
structure SlightP (x : Rep) : Prop where
  h1 : x.hashes.length ≤ 32768
  h2 : bulk x.hashes ≤ 1400000
  r1 : x.root.length ≤ 32
theorem dPart_len {x : Rep} (h : SlightP x) (st : WSt) : (dPart st x).1.length ≤ st.1.length + 1500000 := by
  have h1 := h.h1
  have h2 := h.h2
  have h3 := h.r1
  have b0 := byte_len st x.status
  unfold dPart
  split
  · split
    · have b1 := byte_len (wByte st x.status) 1
      have := raw_len (wByte (wByte st x.status) 1) x.root
      omega
    · have b1 := byte_len (wByte st x.status) 0
      have := xhashes_len (wByte (wByte st x.status) 0) x.hashes 32768 (by omega)
      omega
  · omega

set_option maxRecDepth 100000 in
set_option maxHeartbeats 8000000 in
theorem dlayPart_any (R : Rep) (hs : SlightP R) (B : Nat → Prop) (b : Nat) (st : WSt) (v : Value) (w : World) (hx : XRep w b st) (hv : RepAt B w R v) (hB : ∀ q, B q → q ≠ b) (hlen : st.1.length ≤ 1000000000) :
    Calls Tryz.prog 106 #[.pointer (some ⟨b, 0, none⟩), v] w fun e w' => e = .returned (.tuple #[]) ∧ Keeps (fun k => k = b) w w' ∧ XRep w' b (dPart st R) := by
  obtain ⟨lv, ev, ap, cp, rfl, ⟨hl1, hll⟩, ⟨he1, -⟩, -, -⟩ := hv.parts
  have HL := hid (And.intro hl1 hll)
  obtain ⟨al, cl, rfl, -⟩ := hl1.texts
  obtain ⟨ae, ce, rfl, -⟩ := he1.texts
  have hbw : b < w.heap.size := hx.cells.2.2.2.2
  have hbox := heap_alloc_new w (.cells #[.int .i64 R.status, .int .i64 R.size, .int .i64 R.a, .int .i64 R.b, .string (str R.root), .slice al R.hashes.length cl, .slice ae R.entries.length ce, .slice ap R.replies.length cp] 48)
  have f0 : Fresh w (w.alloc (.cells #[.int .i64 R.status, .int .i64 R.size, .int .i64 R.a, .int .i64 R.b, .string (str R.root), .slice al R.hashes.length cl, .slice ae R.entries.length ce, .slice ap R.replies.length cp] 48)) := (Keeps.refl _ _).alloc _
  obtain ⟨w1, hw1⟩ : ∃ w1, w.alloc (.cells #[.int .i64 R.status, .int .i64 R.size, .int .i64 R.a, .int .i64 R.b, .string (str R.root), .slice al R.hashes.length cl, .slice ae R.entries.length ce, .slice ap R.replies.length cp] 48) = w1 := ⟨_, rfl⟩
  obtain ⟨bx, hbx⟩ : ∃ bx, w.heap.size = bx := ⟨_, rfl⟩
  have hne : bx ≠ b := by omega
  rw [hw1, hbx] at hbox
  rw [hw1] at f0
  have hx1 := hx.keeps f0 (fun h => h)
  have x0 := cell_at hbox 0
  simp at x0
  have HBOX := hid hbox
  have HS := hid hs
  have hby := byte_len st R.status
  obtain ⟨st1, hst1⟩ : ∃ s, wByte st R.status = s := ⟨_, rfl⟩
  have hD : Hid (dPart st R = if R.status = 0 then (if R.root ≠ [] then wRaw (wByte st1 1) R.root else xHashes (wByte st1 0) R.hashes 32768) else st1) := by show _ = _; unfold dPart; rw [hst1]
  have hby1 := byte_len st1 1
  have hby0 := byte_len st1 0
  rw [hst1] at hby
  have HST := hid hst1
  clear hbox hl1 he1 hll hv hs hst1
  go_enter Tryz.func106, Tryz.ntmps106
  go_wp2_with fail
  refine (xbyte_any b st R.status w1 hx1 (by omega)).mono ?_
  rw [HST.out]
  rintro e w2 ⟨rfl, k2, hx2⟩
  have K2 : Keeps (fun k => k = b) w w2 := Keeps.trans' (S := fun k => k = b) (f0.mono fun _ _ h => h.elim) k2 fun _ _ h => h
  have hb2 := k2.at_ HBOX.out hne
  have HB2 := hid hb2
  clear x0
  have x0 := cell_at hb2 0
  have x4 := cell_at hb2 4
  simp at x0 x4
  clear hb2
  by_cases hs0 : R.status = 0
  · have hq0 : (R.status != 0) = false := by rw [hs0]; rfl
    have HS0 := hid hs0
    clear hs0
    by_cases hr : R.root = []
    · have hre : (str R.root).toList.isEmpty = true := by rw [isEmpty_str, hr]; rfl
      have HR := hid hr
      clear hr
      go_wp2_with fail
      refine (xbyte_any b st1 0 w2 hx2 (by omega)).mono ?_
      rintro e w3 ⟨rfl, k3, hx3⟩
      have K3 := K2.trans k3
      have hb3 := k3.at_ HB2.out hne
      clear x0 x4
      have x5 := cell_at hb3 5
      simp at x5
      clear hb3
      go_wp2_with fail
      refine (xhashes_any b (wByte st1 0) _ R.hashes 32768 w3 hx3 (HL.out.1.keeps_if K3 (fun g hg hne h => hB g (HL.out.2 g hg (by simpa [texts] using hne)) h)) (by have := HS.out.h1; have := HS.out.h2; omega)).mono ?_
      rintro e w4 ⟨rfl, k4, hx4⟩
      go_wp2_with fail
      go_end0
      exact ⟨rfl, K3.trans k4, by rw [hD.out, if_pos HS0.out, if_neg (by simp [HR.out])]; exact hx4⟩
    · have hre : (str R.root).toList.isEmpty = false := by
        rw [isEmpty_str]
        cases h : R.root with
        | nil => exact absurd h hr
        | cons a r => rfl
      have HR := hid hr
      clear hr
      go_wp2_with fail
      refine (xbyte_any b st1 1 w2 hx2 (by omega)).mono ?_
      rintro e w3 ⟨rfl, k3, hx3⟩
      have K3 := K2.trans k3
      have hb3 := k3.at_ HB2.out hne
      clear x0 x4
      have x4 := cell_at hb3 4
      simp at x4
      clear hb3
      go_wp2_with fail
      refine (xraw_any b (wByte st1 1) R.root w3 hx3 (by have := HS.out.r1; omega)).mono ?_
      rintro e w4 ⟨rfl, k4, hx4⟩
      go_wp2_with fail
      go_end0
      exact ⟨rfl, K3.trans k4, by rw [hD.out, if_pos HS0.out, if_pos HR.out]; exact hx4⟩
  · have hq0 : (R.status != 0) = true := bne_iff_ne.2 hs0
    have HS0 := hid hs0
    clear hs0
    go_wp2_with fail
    go_end0
    exact ⟨rfl, K2, by rw [hD.out, if_neg HS0.out]; exact hx2⟩
end Go.Proofs.YtpccaodkgboefaaGreatDoor

namespace Go.Proofs.YtpccaodkgboefaaGreatDoor
open Go.RowKit

structure SlightR (R : Rep) : Prop where
  p : SlightP R
  e1 : R.entries.length ≤ 4096
  e2 : bulk R.entries ≤ 4200000
  n1 : R.replies.length ≤ 64
  q1 : ∀ x ∈ R.replies, SlightP x
def dParts (st : WSt) (l : List Rep) : WSt := l.foldl dPart (wNum st l.length)
def layRStep (R : Rep) (st : WSt) (c : UInt8) : WSt :=
  if c = 115 then wNum st R.size else if c = 97 then wNum st R.a else if c = 98 then wByte st R.b else if c = 114 then wRaw st R.root else if c = 104 then xHashes st R.hashes 32768 else if c = 101 then xTexts st R.entries 4096 1000 else if c = 103 then dParts st R.replies else st
def layRep (k : Int) (R : Rep) : WSt := if R.status = 0 then (wordR k).foldl (layRStep R) (wByte (wByte ([], 0) k) R.status) else wByte (wByte ([], 0) k) R.status
theorem dPart_fold_len : ∀ (l : List Rep) (st : WSt), (∀ x ∈ l, SlightP x) → (l.foldl dPart st).1.length ≤ st.1.length + 1500000 * l.length
  | [], st, _ => by simp
  | x :: r, st, h => by
    have h1 := dPart_len (h x (by simp)) st
    have h2 := dPart_fold_len r (dPart st x) (fun y hy => h y (by simp [hy]))
    simp only [List.foldl_cons, List.length_cons]
    omega
theorem layRStep_len {R : Rep} (h : SlightR R) (st : WSt) (c : UInt8) : (layRStep R st c).1.length ≤ st.1.length + 100000000 := by
  have h1 := h.p.h1
  have h2 := h.p.h2
  have h3 := h.p.r1
  have h4 := h.e1
  have h5 := h.e2
  have h6 := h.n1
  unfold layRStep
  repeat' split
  · have := num_len st R.size; omega
  · have := num_len st R.a; omega
  · have := byte_len st R.b; omega
  · have := raw_len st R.root; omega
  · have := xhashes_len st R.hashes 32768 (by omega); omega
  · have := xtexts_len st R.entries 4096 1000 (by omega); omega
  · have h7 := dPart_fold_len R.replies (wNum st R.replies.length) h.q1
    have h8 := num_len st R.replies.length
    have h9 : 1500000 * R.replies.length ≤ 1500000 * 64 := Nat.mul_le_mul_left _ h6
    unfold dParts
    omega
  · omega
theorem layRFold_len {R : Rep} (h : SlightR R) : ∀ (l : List UInt8) (st : WSt), (l.foldl (layRStep R) st).1.length ≤ st.1.length + 100000000 * l.length
  | [], st => by simp
  | c :: r, st => by
    have h1 := layRStep_len h st c
    have h2 := layRFold_len h r (layRStep R st c)
    simp only [List.foldl_cons, List.length_cons]
    omega
theorem layRFold_snoc (R : Rep) (st : WSt) {l : List UInt8} {n : Nat} {c : UInt8} (h : l[n]? = some c) : (l.take (n + 1)).foldl (layRStep R) st = layRStep R ((l.take n).foldl (layRStep R) st) c := by
  rw [List.take_add_one, h, List.foldl_append]
  rfl
theorem dPart_snoc (st : WSt) {l : List Rep} {n : Nat} {x : Rep} (h : l[n]? = some x) : (l.take (n + 1)).foldl dPart st = dPart ((l.take n).foldl dPart st) x := by
  rw [List.take_add_one, h, List.foldl_append]
  rfl
theorem wordR_letters (k : Int) : ∀ c ∈ wordR k, c = 115 ∨ c = 97 ∨ c = 98 ∨ c = 114 ∨ c = 104 ∨ c = 101 ∨ c = 103 ∨ c = 45 ∨ c = 33 := by
  by_cases h : 0 ≤ k ∧ k ≤ 12
  · have h' : k = 0 ∨ k = 1 ∨ k = 2 ∨ k = 3 ∨ k = 4 ∨ k = 5 ∨ k = 6 ∨ k = 7 ∨ k = 8 ∨ k = 9 ∨ k = 10 ∨ k = 11 ∨ k = 12 := by omega
    clear h
    rcases h' with rfl | rfl | rfl | rfl | rfl | rfl | rfl | rfl | rfl | rfl | rfl | rfl | rfl <;> simp [wordR]
  · rw [wordR_none (by omega)]
    simp
theorem layRep_len {k : Int} {R : Rep} (h : SlightR R) : (layRep k R).1.length ≤ 400000002 := by
  have h1 := byte_len ([], 0) k
  have h2 := byte_len (wByte ([], 0) k) R.status
  have h3 := layRFold_len h (wordR k) (wByte (wByte ([], 0) k) R.status)
  have h4 := wordR_len k
  have h5 : 100000000 * (wordR k).length ≤ 100000000 * 4 := Nat.mul_le_mul_left _ h4
  simp at h1
  unfold layRep
  split <;> omega

set_option maxRecDepth 100000 in
set_option maxHeartbeats 20000000 in
theorem dlayReply_any (k : Int) (R : Rep) (hs : SlightR R) (B : Nat → Prop) (b : Nat) (v : Value) (w : World) (hx : XRep w b ([], 0)) (hv : RepAt B w R v) (hB : ∀ q, B q → q ≠ b) :
    Calls Tryz.prog 59 #[.pointer (some ⟨b, 0, none⟩), .int .i64 k, v] w fun e w' => e = .returned (.tuple #[]) ∧ Keeps (fun k => k = b) w w' ∧ XRep w' b (layRep k R) := by
  obtain ⟨lv, ev, ap, cp, rfl, ⟨hl1, hll⟩, ⟨he1, hel⟩, hreps, hal⟩ := hv.parts
  have HL := hid (And.intro hl1 hll)
  have HE := hid (And.intro he1 hel)
  have HQ := hid hreps
  obtain ⟨al, cl, rfl, -⟩ := hl1.texts
  obtain ⟨ae, ce, rfl, -⟩ := he1.texts
  have hbw : b < w.heap.size := hx.cells.2.2.2.2
  have hbox := heap_alloc_new w (.cells #[.int .i64 R.status, .int .i64 R.size, .int .i64 R.a, .int .i64 R.b, .string (str R.root), .slice al R.hashes.length cl, .slice ae R.entries.length ce, .slice ap R.replies.length cp] 48)
  have f0 : Fresh w (w.alloc (.cells #[.int .i64 R.status, .int .i64 R.size, .int .i64 R.a, .int .i64 R.b, .string (str R.root), .slice al R.hashes.length cl, .slice ae R.entries.length ce, .slice ap R.replies.length cp] 48)) := (Keeps.refl _ _).alloc _
  obtain ⟨w1, hw1⟩ : ∃ w1, w.alloc (.cells #[.int .i64 R.status, .int .i64 R.size, .int .i64 R.a, .int .i64 R.b, .string (str R.root), .slice al R.hashes.length cl, .slice ae R.entries.length ce, .slice ap R.replies.length cp] 48) = w1 := ⟨_, rfl⟩
  obtain ⟨bx, hbx⟩ : ∃ bx, w.heap.size = bx := ⟨_, rfl⟩
  have hne : bx ≠ b := by omega
  rw [hw1, hbx] at hbox
  rw [hw1] at f0
  have hx1 := hx.keeps f0 (fun h => h)
  have HBOX := hid hbox
  have HLT := hid (wordR_letters k)
  have hwl := wordR_len k
  have hby := byte_len ([], 0) k
  have hby2 := byte_len (wByte ([], 0) k) R.status
  simp at hby
  obtain ⟨st1, hst1⟩ : ∃ s, wByte ([], 0) k = s := ⟨_, rfl⟩
  rw [hst1] at hby hby2
  obtain ⟨st2, hst2⟩ : ∃ s, wByte st1 R.status = s := ⟨_, rfl⟩
  rw [hst2] at hby2
  have HD : Hid (layRep k R = if R.status = 0 then (wordR k).foldl (layRStep R) st2 else st2) := by show _ = _; unfold layRep; rw [hst1, hst2]
  have HS1 := hid hst1
  have HS2 := hid hst2
  obtain ⟨wd, hwd⟩ : ∃ wd, wordR k = wd := ⟨_, rfl⟩
  rw [hwd] at hwl HLT HD
  have HWD := hid hwd
  have HS := hid hs
  clear hbox hl1 he1 hll hel hv hreps hs hwd hst1 hst2
  go_enter Tryz.func59, Tryz.ntmps59
  go_wp2_with fail
  refine (xbyte_any b ([], 0) k w1 hx1 (by simp)).mono ?_
  rw [HS1.out]
  rintro e w2 ⟨rfl, k2, hx2⟩
  have hb2 := k2.at_ HBOX.out hne
  have x0 := cell_at hb2 0
  simp at x0
  have K2 : Keeps (fun k => k = b) w w2 := Keeps.trans' (S := fun k => k = b) (f0.mono fun _ _ h => h.elim) k2 fun _ _ h => h
  go_wp2_with fail
  refine (xbyte_any b st1 R.status w2 hx2 (by omega)).mono ?_
  rw [HS2.out]
  rintro e w3 ⟨rfl, k3, hx3⟩
  have hb3 := k3.at_ hb2 hne
  have K3 := K2.trans k3
  clear x0 hb2 k2 k3
  have x0 := cell_at hb3 0
  simp at x0
  have HB3 := hid hb3
  have hX3 := hid hx3
  clear hb3 hx2 hx3
  go_wp2_with fail
  refine (dtold_any k w3).mono ?_
  rintro e _ ⟨rfl, rfl⟩
  rw [HWD.out]
  have hsz := str_size wd
  by_cases hs0 : R.status = 0
  rotate_left
  · have hq0 : (R.status == 0) = false := beq_eq_false_iff_ne.2 hs0
    have HS0 := hid hs0
    clear hs0
    go_wp2_with fail
    go_loopw [7] (fun i wr => i = .int .i64 0 ∧ w3 = wr) (fun i _ => 0)
    case atStart => exact ⟨rfl, rfl⟩
    case round =>
      obtain ⟨rfl, rfl⟩ := hrel
      by_cases h0 : 0 < wd.length
      · go_wp2_with fail
        go_end0
        exact ⟨rfl, K3, by rw [HD.out, if_neg HS0.out]; exact hX3.out⟩
      · go_wp2_with fail
        go_end0
        exact ⟨rfl, K3, by rw [HD.out, if_neg HS0.out]; exact hX3.out⟩
  have hq0 : (R.status == 0) = true := by rw [hs0]; rfl
  have HS0 := hid hs0
  clear hs0
  go_wp2_with fail
  go_loopw [7] (fun i wr => ∃ n : Nat, i = .int .i64 (n : Int) ∧ n ≤ wd.length ∧ XRep wr b ((wd.take n).foldl (layRStep R) st2) ∧ Keeps (fun k => k = b) w3 wr) (fun i _ => wd.length - (intOf i).toNat)
  case atStart => exact ⟨0, rfl, by omega, hX3.out, Keeps.refl _ _⟩
  case round =>
    obtain ⟨n, rfl, hn, hxn, kn⟩ := hrel
    have hbn := kn.at_ HB3.out hne
    have KN : Keeps (fun k => k = b) w wr := K3.trans kn
    clear x0
    have x0 := cell_at hbn 0
    simp at x0
    by_cases hlt : n < wd.length
    · obtain ⟨c, hc⟩ : ∃ c, wd[n]? = some c := ⟨wd[n], by simp⟩
      have hidx := byteOf_idx (b := wd) (j := n)
      rw [byteOf_get hc] at hidx
      have hln := layRFold_len HS.out (wd.take n) st2
      have hsn := layRFold_snoc R st2 hc
      have htl : (wd.take n).length ≤ 4 := by rw [List.length_take]; omega
      have hln2 : 100000000 * (wd.take n).length ≤ 100000000 * 4 := Nat.mul_le_mul_left _ htl
      obtain ⟨stn, hstn⟩ : ∃ s, (wd.take n).foldl (layRStep R) st2 = s := ⟨_, rfl⟩
      rw [hstn] at hxn hln hsn
      have hle := HLT.out c (List.mem_of_getElem? hc)
      have HSN := hid hsn
      have hlast : stn.1.length ≤ 400000100 := by omega
      clear hsn hstn hln hln2 htl hc HLT
      have x1 := cell_at hbn 1
      have x2 := cell_at hbn 2
      have x3 := cell_at hbn 3
      have x4 := cell_at hbn 4
      have x5 := cell_at hbn 5
      have x6 := cell_at hbn 6
      have x7 := cell_at hbn 7
      simp at x1 x2 x3 x4 x5 x6 x7
      have HBN := hid hbn
      clear hbn
      rcases hle with rfl | rfl | rfl | rfl | rfl | rfl | rfl | rfl | rfl
      · go_wp2_with fail
        refine (xnum_any b stn R.size wr hxn (by omega)).mono ?_
        rintro e w5 ⟨rfl, k5, h5⟩
        go_wp2_with fail
        go_roundw
        case rel => exact ⟨n + 1, by go_num, by omega, by rw [HSN.out]; exact h5, kn.trans k5⟩
        case measure => simp [intOf]; omega
      · go_wp2_with fail
        refine (xnum_any b stn R.a wr hxn (by omega)).mono ?_
        rintro e w5 ⟨rfl, k5, h5⟩
        go_wp2_with fail
        go_roundw
        case rel => exact ⟨n + 1, by go_num, by omega, by rw [HSN.out]; exact h5, kn.trans k5⟩
        case measure => simp [intOf]; omega
      · go_wp2_with fail
        refine (xbyte_any b stn R.b wr hxn (by omega)).mono ?_
        rintro e w5 ⟨rfl, k5, h5⟩
        go_wp2_with fail
        go_roundw
        case rel => exact ⟨n + 1, by go_num, by omega, by rw [HSN.out]; exact h5, kn.trans k5⟩
        case measure => simp [intOf]; omega
      · go_wp2_with fail
        refine (xraw_any b stn R.root wr hxn (by have := HS.out.p.r1; omega)).mono ?_
        rintro e w5 ⟨rfl, k5, h5⟩
        go_wp2_with fail
        go_roundw
        case rel => exact ⟨n + 1, by go_num, by omega, by rw [HSN.out]; exact h5, kn.trans k5⟩
        case measure => simp [intOf]; omega
      · go_wp2_with fail
        refine (xhashes_any b stn _ R.hashes 32768 wr hxn (HL.out.1.keeps_if KN (fun g hg hne h => hB g (HL.out.2 g hg (by simpa [texts] using hne)) h)) (by have := HS.out.p.h1; have := HS.out.p.h2; omega)).mono ?_
        rintro e w5 ⟨rfl, k5, h5⟩
        go_wp2_with fail
        go_roundw
        case rel => exact ⟨n + 1, by go_num, by omega, by rw [HSN.out]; exact h5, kn.trans k5⟩
        case measure => simp [intOf]; omega
      · go_wp2_with fail
        refine (xtexts_any b stn _ R.entries 4096 1000 wr hxn (HE.out.1.keeps_if KN (fun g hg hne h => hB g (HE.out.2 g hg (by simpa [texts] using hne)) h)) (by have := HS.out.e1; have := HS.out.e2; omega)).mono ?_
        rintro e w5 ⟨rfl, k5, h5⟩
        go_wp2_with fail
        go_roundw
        case rel => exact ⟨n + 1, by go_num, by omega, by rw [HSN.out]; exact h5, kn.trans k5⟩
        case measure => simp [intOf]; omega
      · have hn64 := HS.out.n1
        go_wp2_with fail
        refine (xnum_any b stn R.replies.length wr hxn (by omega)).mono ?_
        rintro e w5 ⟨rfl, k5, hx5⟩
        have hnl := num_len stn R.replies.length
        have K5 := KN.trans k5
        have hb5 := k5.at_ HBN.out hne
        have HB5 := hid hb5
        clear x0 x1 x2 x3 x4 x5 x6 x7
        have x7 := cell_at hb5 7
        simp at x7
        clear hb5
        go_wp2_with fail
        rename World => w5
        go_loopw [8] (fun i wr => ∃ m : Nat, i = .int .i64 (m : Int) ∧ m ≤ R.replies.length ∧ XRep wr b ((R.replies.take m).foldl dPart (wNum stn R.replies.length)) ∧ Keeps (fun k => k = b) w5 wr) (fun i _ => R.replies.length - (intOf i).toNat)
        case atStart => exact ⟨0, rfl, by omega, hx5, Keeps.refl _ _⟩
        case round =>
          obtain ⟨m, rfl, hm, hxm, km⟩ := hrel
          have hbm := km.at_ HB5.out hne
          clear x7
          have x7 := cell_at hbm 7
          simp at x7
          clear hbm
          have KM : Keeps (fun k => k = b) w wr := K5.trans km
          by_cases hltm : m < R.replies.length
          · obtain ⟨u, hu⟩ : ∃ u, R.replies[m]? = some u := ⟨R.replies[m], by simp⟩
            have hr1 := (RepsAt.keeps KM (fun q h hb => hB q hb h) _ _ _ HQ.out).get hu
            obtain ⟨bq, off, c0, c1, c2, c3, c4, c5, c6, c7, rfl, -, hbq, y0, y1, y2, y3, y4, y5, y6, y7, hxa⟩ := hr1
            rw [Nat.zero_add] at y0 y1 y2 y3 y4 y5 y6 y7
            have HXA := hid hxa
            obtain ⟨lx, ex, ax, capx, hee, ⟨hl1, -⟩, ⟨hl2, -⟩, -⟩ := hxa.parts
            obtain ⟨alx, clx, rfl, -⟩ := hl1.texts
            obtain ⟨aex, cex, rfl, -⟩ := hl2.texts
            clear hl1 hl2 hxa
            simp only [Value.agg.injEq, Array.mk.injEq, List.cons.injEq, and_true] at hee
            obtain ⟨rfl, rfl, rfl, rfl, rfl, rfl, rfl, rfl⟩ := hee
            have hll := dPart_fold_len (R.replies.take m) (wNum stn R.replies.length) (fun y hy => HS.out.q1 y (List.mem_of_mem_take hy))
            have htk : (R.replies.take m).length ≤ 64 := by rw [List.length_take]; omega
            have hmul : 1500000 * (R.replies.take m).length ≤ 1500000 * 64 := Nat.mul_le_mul_left _ htk
            have hcall := dlayPart_any u (HS.out.q1 u (List.mem_of_getElem? hu)) _ b _ _ wr hxm HXA.out hB (by omega)
            have HC := hid hcall
            have hsn2 := dPart_snoc (wNum stn R.replies.length) hu
            have HSN2 := hid hsn2
            have hm0 : (0 : Int) ≤ (m : Int) := by omega
            have hm1 : (m : Int) < (R.replies.length : Int) := by omega
            clear hcall hu hll htk hmul hsn2
            go_wp2_with fail
            refine HC.out.mono ?_
            rintro e w6 ⟨rfl, k6, hx6⟩
            go_wp2_with fail
            go_roundw
            case rel => exact ⟨m + 1, by go_num, by omega, by rw [HSN2.out]; exact hx6, km.trans k6⟩
            case measure => simp [intOf]; omega
          · obtain rfl : m = R.replies.length := by omega
            rw [List.take_length] at hxm
            go_wp2_with fail
            go_roundw
            case rel => exact ⟨n + 1, by go_num, by omega, by rw [HSN.out]; exact hxm, kn.trans (k5.trans km)⟩
            case measure => simp [intOf]; omega
      · go_wp2_with fail
        go_roundw
        case rel => exact ⟨n + 1, by go_num, by omega, by rw [HSN.out]; exact hxn, kn⟩
        case measure => simp [intOf]; omega
      · go_wp2_with fail
        go_roundw
        case rel => exact ⟨n + 1, by go_num, by omega, by rw [HSN.out]; exact hxn, kn⟩
        case measure => simp [intOf]; omega
    · obtain rfl : n = wd.length := by omega
      rw [List.take_length] at hxn
      go_wp2_with fail
      go_end0
      exact ⟨rfl, KN, by rw [HD.out, if_pos HS0.out]; exact hxn⟩
end Go.Proofs.YtpccaodkgboefaaGreatDoor

namespace Go.Proofs.YtpccaodkgboefaaGreatDoor
open Go.RowKit

theorem wByte_err {st : WSt} {n : Int} (h : (wByte st n).2 = 0) : st.2 = 0 ∧ 0 ≤ n ∧ n ≤ 255 := by
  unfold wByte at h
  split at h
  · exact absurd h (refuse_ne _ _ (by decide))
  · exact ⟨h, by omega, by omega⟩
theorem mStatus_err {st : WSt} {n : Int} (h : (mStatus st n).2 = 0) : st.2 = 0 ∧ 0 ≤ n ∧ n ≤ 8 := by
  unfold mStatus at h
  obtain ⟨h1, h2, h3⟩ := wByte_err h
  split at h2 <;> exact ⟨h1, by omega, by omega⟩
theorem mStatus_right {st : WSt} {n : Int} (h : n ≤ 8) : mStatus st n = wByte st n := by
  unfold mStatus
  rw [if_neg (by omega)]
theorem mRoot_err {st : WSt} {s : List UInt8} (h : (mRoot st s).2 = 0) : st.2 = 0 ∧ s.length = 32 := by
  unfold mRoot at h
  by_cases hl : s.length ≠ 32
  · rw [if_pos hl] at h
    exact absurd h (wNum_minus st)
  · rw [if_neg hl] at h
    exact ⟨h, by omega⟩
theorem mRoot_right {st : WSt} {s : List UInt8} (h : s.length = 32) : mRoot st s = wRaw st s := by
  unfold mRoot
  rw [if_neg (by omega)]
theorem all32_iff : ∀ (l : List (List UInt8)), all32 l = true → ∀ (i : Nat) (x : List UInt8), l[i]? = some x → x.length = 32
  | [], _, i, x, hx => by simp at hx
  | y :: r, h, i, x, hx => by
    simp only [all32, Bool.and_eq_true, decide_eq_true_eq] at h
    cases i with
    | zero => simp at hx; subst hx; exact h.1
    | succ i => exact all32_iff r h.2 i x (by simpa using hx)
theorem wHashes_err {st : WSt} {l : List (List UInt8)} (h : (wHashes st l 32768).2 = 0) : st.2 = 0 ∧ hashesP l := by
  by_cases hm : 32768 < l.length
  · unfold wHashes at h
    rw [if_neg (by omega), if_pos (by omega)] at h
    exact absurd h (refuse_ne _ _ (by decide))
  · have ha := (Alike.hashes (a := st) (x := st) ⟨rfl, fun _ => rfl⟩ l 32768 (by omega)).1
    rw [h] at ha
    unfold xHashes at ha
    rw [if_neg (by omega), if_neg (by omega)] at ha
    split at ha
    · rename_i hf
      exact ⟨ha.symm, by omega, all32_iff l hf⟩
    · exact absurd ha.symm (refuse_ne _ _ (by decide))
theorem wTold_err {st : WSt} {l : List (List UInt8)} (h : (wTexts st l 4096 1000).2 = 0) : st.2 = 0 ∧ textsP l 0 4096 1000 := by
  by_cases hm : 4096 < l.length
  · unfold wTexts at h
    rw [if_neg (by omega), if_pos (by omega)] at h
    exact absurd h (refuse_ne _ _ (by decide))
  · have ha := (Alike.texts (a := st) (x := st) ⟨rfl, fun _ => rfl⟩ l 4096 1000 (by omega)).1
    rw [h] at ha
    unfold xTexts at ha
    rw [if_neg (by omega), if_neg (by omega)] at ha
    split at ha
    · rename_i hf
      exact ⟨ha.symm, by omega, by omega, fits_iff l hf⟩
    · exact absurd ha.symm (refuse_ne _ _ (by decide))
theorem mRest_err {st : WSt} {R : Rep} (h : (mRest st R).2 = 0) : st.2 = 0 ∧ leftOver R = false := by
  unfold mRest at h
  by_cases hl : leftOver R = true
  · rw [if_pos hl] at h
    exact absurd h (wNum_minus st)
  · rw [if_neg hl] at h
    exact ⟨h, by simpa using hl⟩
theorem mRest_right {st : WSt} {R : Rep} (h : leftOver R = false) : mRest st R = st := by
  unfold mRest
  rw [if_neg (by rw [h]; decide)]
theorem left_of {z s a b : Int} {r : List UInt8} {h e : List (List UInt8)} {p : List Rep} (h1 : s = 0) (h2 : a = 0) (h3 : b = 0) (h4 : r = []) (h5 : h = []) (h6 : e = []) (h7 : p = []) : leftOver (.mk z s a b r h e p) = false := by
  subst h1 h2 h3 h4 h5 h6 h7
  unfold leftOver
  simp
/-- what 'more' being false says -/
theorem more_fields {wd : List UInt8} {z s a b : Int} {r : List UInt8} {h e : List (List UInt8)} {p : List Rep} : moreOf wd (.mk z s a b r h e p) = false ↔
    (wd.contains 115 = true ∨ s = 0) ∧ (wd.contains 97 = true ∨ a = 0) ∧ (wd.contains 98 = true ∨ b = 0) ∧ (wd.contains 114 = true ∨ r = []) ∧ (wd.contains 104 = true ∨ h = []) ∧ (wd.contains 101 = true ∨ e = []) ∧ (wd.contains 103 = true ∨ p = []) := by
  show ((!wd.contains 115 && (s != 0)) || (!wd.contains 97 && (a != 0)) || (!wd.contains 98 && (b != 0)) || (!wd.contains 114 && !(str r).toList.isEmpty) || (!wd.contains 104 && decide (0 < h.length)) || (!wd.contains 101 && decide (0 < e.length)) || (!wd.contains 103 && decide (0 < p.length))) = false ↔ _
  have hl : ∀ {α : Type} (l : List α), (decide (0 < l.length) = false) = (l = []) := fun l => by cases l <;> simp
  have hn : ∀ x : Int, ((x != 0) = false) = (x = 0) := fun x => by simp
  simp only [isEmpty_str, Bool.or_eq_false_iff, Bool.and_eq_false_iff, hl, hn, Bool.not_eq_false', List.isEmpty_iff, and_assoc]
theorem pw_root {x : Rep} (h : x.status = 0) (h2 : x.root ≠ []) : partWord x = [114] := by unfold partWord; rw [if_pos h, if_pos h2]
theorem pw_hash {x : Rep} (h : x.status = 0) (h2 : ¬ x.root ≠ []) : partWord x = [104] := by unfold partWord; rw [if_pos h, if_neg h2]
theorem pw_none {x : Rep} (h : ¬ x.status = 0) : partWord x = [45] := by unfold partWord; rw [if_neg h]
theorem hashesP_nil : hashesP [] := ⟨by simp, fun i x h => by simp at h⟩
theorem toldP_nil : textsP [] 0 4096 1000 := ⟨by simp, by simp, fun i x h => by simp at h⟩
theorem sizeP_zero : sizeP 0 := ⟨by omega, by omega⟩

theorem dPart_root {y : WSt} {x : Rep} (h : x.status = 0) (h2 : x.root ≠ []) : dPart y x = wRaw (wByte (wByte y x.status) 1) x.root := by unfold dPart; rw [if_pos h, if_pos h2]
theorem dPart_hash {y : WSt} {x : Rep} (h : x.status = 0) (h2 : ¬ x.root ≠ []) : dPart y x = xHashes (wByte (wByte y x.status) 0) x.hashes 32768 := by unfold dPart; rw [if_pos h, if_neg h2]
theorem dPart_none {y : WSt} {x : Rep} (h : ¬ x.status = 0) : dPart y x = wByte y x.status := by unfold dPart; rw [if_neg h]
theorem part_right {x : Rep} (h : PartP x) {a y : WSt} (hay : Alike a y) : Alike (mPart a x) (dPart y x) := by
  obtain ⟨z, s, aa, b, r, hh, e, p⟩ := x
  obtain ⟨⟨h0, h8⟩, hm, hp, hr⟩ := h
  simp only [Rep.status, Rep.hashes, Rep.root] at h0 h8 hp hr
  unfold mPart
  dsimp only
  by_cases hz : z = 0
  · rw [if_pos hz, mStatus_right h8]
    by_cases hr0 : r ≠ []
    · rw [pw_root (x := Rep.mk z s aa b r hh e p) hz hr0] at hm
      obtain ⟨m1, m2, m3, m4, m5, m6, m7⟩ := more_fields.1 hm
      simp at m1 m2 m3 m5 m6 m7
      rw [dPart_root (x := Rep.mk z s aa b r hh e p) hz hr0, if_pos hr0, mRest_right (left_of m1 m2 m3 rfl m5 m6 m7), mRoot_right (hr.resolve_left hr0)]
      exact ((hay.byte z).byte 1).raw r
    · rw [pw_hash (x := Rep.mk z s aa b r hh e p) hz hr0] at hm
      obtain ⟨m1, m2, m3, m4, m5, m6, m7⟩ := more_fields.1 hm
      simp at m1 m2 m3 m4 m6 m7
      rw [dPart_hash (x := Rep.mk z s aa b r hh e p) hz hr0, if_neg hr0, mRest_right (left_of m1 m2 m3 m4 rfl m6 m7)]
      exact ((hay.byte z).byte 0).hashes hh 32768 (by have := hp.1; omega)
  · rw [pw_none (x := Rep.mk z s aa b r hh e p) hz] at hm
    obtain ⟨m1, m2, m3, m4, m5, m6, m7⟩ := more_fields.1 hm
    simp at m1 m2 m3 m4 m5 m6 m7
    rw [dPart_none (x := Rep.mk z s aa b r hh e p) hz, if_neg hz, mStatus_right h8, mRest_right (left_of m1 m2 m3 m4 m5 m6 m7)]
    exact hay.byte z
theorem parts_right : ∀ (l : List Rep) {a y : WSt}, Alike a y → (∀ (i : Nat) (x : Rep), l[i]? = some x → PartP x) → Alike (l.foldl mPart a) (l.foldl dPart y)
  | [], _, _, h, _ => h
  | x :: r, a, y, h, hp => by
    rw [List.foldl_cons, List.foldl_cons]
    exact parts_right r (part_right (hp 0 x rfl) h) (fun i z hz => hp (i + 1) z (by simpa using hz))
theorem part_wrong {x : Rep} {st : WSt} (h : (mPart st x).2 = 0) : st.2 = 0 ∧ PartP x := by
  obtain ⟨z, s, aa, b, r, hh, e, p⟩ := x
  unfold mPart at h
  dsimp only at h
  unfold PartP
  by_cases hz : z = 0
  · rw [if_pos hz] at h
    by_cases hr0 : r ≠ []
    · rw [if_pos hr0] at h
      obtain ⟨q1, q2⟩ := mRest_err h
      obtain ⟨q3, q4⟩ := mRoot_err q1
      obtain ⟨q5, -⟩ := wByte_err q3
      obtain ⟨q6, q7, q8⟩ := mStatus_err q5
      obtain ⟨rfl, rfl, rfl, -, rfl, rfl, rfl⟩ := left_none q2
      rw [pw_root (x := Rep.mk z 0 0 0 r [] [] []) hz hr0]
      exact ⟨q6, ⟨q7, q8⟩, more_fields.2 (by simp), hashesP_nil, .inr q4⟩
    · rw [if_neg hr0] at h
      obtain ⟨q1, q2⟩ := mRest_err h
      obtain ⟨q3, q4⟩ := wHashes_err q1
      obtain ⟨q5, -⟩ := wByte_err q3
      obtain ⟨q6, q7, q8⟩ := mStatus_err q5
      obtain ⟨rfl, rfl, rfl, rfl, -, rfl, rfl⟩ := left_none q2
      rw [pw_hash (x := Rep.mk z 0 0 0 [] hh [] []) hz hr0]
      exact ⟨q6, ⟨q7, q8⟩, more_fields.2 (by simp), q4, .inl rfl⟩
  · rw [if_neg hz] at h
    obtain ⟨q1, q2⟩ := mRest_err h
    obtain ⟨q6, q7, q8⟩ := mStatus_err q1
    obtain ⟨rfl, rfl, rfl, rfl, rfl, rfl, rfl⟩ := left_none q2
    rw [pw_none (x := Rep.mk z 0 0 0 [] [] [] []) hz]
    exact ⟨q6, ⟨q7, q8⟩, more_fields.2 (by simp), hashesP_nil, .inl rfl⟩
theorem parts_wrong : ∀ (l : List Rep) {st : WSt}, (l.foldl mPart st).2 = 0 → st.2 = 0 ∧ ∀ (i : Nat) (x : Rep), l[i]? = some x → PartP x
  | [], _, h => ⟨h, fun i x hx => by simp at hx⟩
  | x :: r, st, h => by
    rw [List.foldl_cons] at h
    obtain ⟨h1, h2⟩ := parts_wrong r h
    obtain ⟨h3, h4⟩ := part_wrong h1
    refine ⟨h3, fun i y hy => ?_⟩
    cases i with
    | zero => simp at hy; subst hy; exact h4
    | succ i => exact h2 i y (by simpa using hy)
theorem mParts_wrong {l : List Rep} {st : WSt} (h : (mParts st l).2 = 0) : st.2 = 0 ∧ 1 ≤ l.length ∧ l.length ≤ 64 ∧ ∀ (i : Nat) (x : Rep), l[i]? = some x → PartP x := by
  unfold mParts at h
  obtain ⟨h1, h2⟩ := parts_wrong l h
  obtain ⟨h3, -⟩ := wNum_err h1
  by_cases hc : l.length = 0 ∨ 64 < l.length
  · rw [if_pos hc] at h3
    exact absurd h3 (wNum_minus st)
  · rw [if_neg hc] at h3
    exact ⟨h3, by omega, by omega, h2⟩
theorem mParts_right {l : List Rep} (h1 : 1 ≤ l.length) (h2 : l.length ≤ 64) (h3 : ∀ (i : Nat) (x : Rep), l[i]? = some x → PartP x) {a y : WSt} (hay : Alike a y) : Alike (mParts a l) (dParts y l) := by
  unfold mParts dParts
  rw [if_neg (by omega)]
  exact parts_right l (hay.num _) h3
end Go.Proofs.YtpccaodkgboefaaGreatDoor

namespace Go.Proofs.YtpccaodkgboefaaGreatDoor
open Go.RowKit

theorem z08 : (0 : Int) ≤ 0 ∧ (0 : Int) ≤ 8 := by decide
theorem z01 : (0 : Int) ≤ 0 ∧ (0 : Int) ≤ 1 := by decide
theorem al_size {a y : WSt} {n : Int} (h : Alike a y) (hn : sizeP n) : Alike (mSize a n) (wNum y n) := by rw [mSize_right hn]; exact h.num n
theorem al_last {a y : WSt} {n : Int} (h : Alike a y) (hn : n ≤ 1) : Alike (wByte (if 1 < n then wNum a (-1) else a) n) (wByte y n) := by rw [if_neg (by omega)]; exact h.byte n
theorem al_root {a y : WSt} {r : List UInt8} (h : Alike a y) (hr : r.length = 32) : Alike (mRoot a r) (wRaw y r) := by rw [mRoot_right hr]; exact h.raw r
theorem al_hashes {a y : WSt} {l : List (List UInt8)} (h : Alike a y) (hl : hashesP l) : Alike (wHashes a l 32768) (xHashes y l 32768) := h.hashes l 32768 (by have := hl.1; omega)
theorem al_told {a y : WSt} {l : List (List UInt8)} (h : Alike a y) (hl : textsP l 0 4096 1000) : Alike (wTexts a l 4096 1000) (xTexts y l 4096 1000) := h.texts l 4096 1000 (by have := hl.2.1; omega)
theorem al_parts {a y : WSt} {l : List Rep} (h : Alike a y) (hl : 1 ≤ l.length ∧ l.length ≤ 64 ∧ ∀ (i : Nat) (x : Rep), l[i]? = some x → PartP x) : Alike (mParts a l) (dParts y l) := mParts_right hl.1 hl.2.1 hl.2.2 h
theorem last_err {st : WSt} {n : Int} (h : (wByte (if 1 < n then wNum st (-1) else st) n).2 = 0) : st.2 = 0 ∧ 0 ≤ n ∧ n ≤ 1 := by
  obtain ⟨h1, h2, h3⟩ := wByte_err h
  by_cases hc : 1 < n
  · rw [if_pos hc] at h1
    exact absurd h1 (wNum_minus st)
  · rw [if_neg hc] at h1
    exact ⟨h1, h2, by omega⟩

set_option maxHeartbeats 2000000 in
theorem rep_right {k : Int} {R : Rep} (hk0 : 0 ≤ k) (hk1 : k ≤ 12) (h : FineP k R) : encRep k R = framedW (layRep k R) := by
  obtain ⟨z, s, a, b, r, hh, e, p⟩ := R
  obtain ⟨⟨h0, h8⟩, hx, hm, hs, ha, hh1, ht, ⟨hb0, hb1⟩, hr, hg⟩ := h
  simp only [Rep.status, Rep.size, Rep.a, Rep.b, Rep.root, Rep.hashes, Rep.entries, Rep.replies] at *
  have A0 : Alike ([], 0) ([], 0) := ⟨rfl, fun _ => rfl⟩
  by_cases hz : z = 0
  · subst hz
    have h' : k = 0 ∨ k = 1 ∨ k = 2 ∨ k = 3 ∨ k = 4 ∨ k = 5 ∨ k = 6 ∨ k = 7 ∨ k = 8 ∨ k = 9 ∨ k = 10 ∨ k = 11 ∨ k = 12 := by omega
    rcases h' with rfl | rfl | rfl | rfl | rfl | rfl | rfl | rfl | rfl | rfl | rfl | rfl | rfl
    · exact absurd ⟨rfl, rfl⟩ hx
    · have hm : moreOf [115, 97, 114] (.mk 0 s a b r hh e p) = false := hm
      obtain ⟨m1, m2, m3, m4, m5, m6, m7⟩ := more_fields.1 hm
      simp at m1 m2 m3 m4 m5 m6 m7
      show framedW (mRest (mRoot (mSize (mSize (wByte (wByte ([], 0) 1) 0) s) a) r) (.mk 0 0 0 b [] hh e p)) = framedW (wRaw (wNum (wNum (wByte (wByte ([], 0) 1) 0) s) a) r)
      rw [mRest_right (left_of rfl rfl m3 rfl m5 m6 m7)]
      exact framedW_alike (al_root (al_size (al_size ((A0.byte 1).byte 0) hs) ha) (hr rfl))
    · have hm : moreOf [115, 114] (.mk 0 s a b r hh e p) = false := hm
      obtain ⟨m1, m2, m3, m4, m5, m6, m7⟩ := more_fields.1 hm
      simp at m1 m2 m3 m4 m5 m6 m7
      show framedW (mRest (mRoot (mSize (wByte (wByte ([], 0) 2) 0) s) r) (.mk 0 0 a b [] hh e p)) = framedW (wRaw (wNum (wByte (wByte ([], 0) 2) 0) s) r)
      rw [mRest_right (left_of rfl m2 m3 rfl m5 m6 m7)]
      exact framedW_alike (al_root (al_size ((A0.byte 2).byte 0) hs) (hr rfl))
    · have hm : moreOf [114] (.mk 0 s a b r hh e p) = false := hm
      obtain ⟨m1, m2, m3, m4, m5, m6, m7⟩ := more_fields.1 hm
      simp at m1 m2 m3 m4 m5 m6 m7
      show framedW (mRest (mRoot (wByte (wByte ([], 0) 3) 0) r) (.mk 0 s a b [] hh e p)) = framedW (wRaw (wByte (wByte ([], 0) 3) 0) r)
      rw [mRest_right (left_of m1 m2 m3 rfl m5 m6 m7)]
      exact framedW_alike (al_root ((A0.byte 3).byte 0) (hr rfl))
    · have hm : moreOf [104] (.mk 0 s a b r hh e p) = false := hm
      obtain ⟨m1, m2, m3, m4, m5, m6, m7⟩ := more_fields.1 hm
      simp at m1 m2 m3 m4 m5 m6 m7
      show framedW (mRest (wHashes (wByte (wByte ([], 0) 4) 0) hh 32768) (.mk 0 s a b r [] e p)) = framedW (xHashes (wByte (wByte ([], 0) 4) 0) hh 32768)
      rw [mRest_right (left_of m1 m2 m3 m4 rfl m6 m7)]
      exact framedW_alike (al_hashes ((A0.byte 4).byte 0) hh1)
    · have hm : moreOf [104] (.mk 0 s a b r hh e p) = false := hm
      obtain ⟨m1, m2, m3, m4, m5, m6, m7⟩ := more_fields.1 hm
      simp at m1 m2 m3 m4 m5 m6 m7
      show framedW (mRest (wHashes (wByte (wByte ([], 0) 5) 0) hh 32768) (.mk 0 s a b r [] e p)) = framedW (xHashes (wByte (wByte ([], 0) 5) 0) hh 32768)
      rw [mRest_right (left_of m1 m2 m3 m4 rfl m6 m7)]
      exact framedW_alike (al_hashes ((A0.byte 5).byte 0) hh1)
    · have hm : moreOf [104] (.mk 0 s a b r hh e p) = false := hm
      obtain ⟨m1, m2, m3, m4, m5, m6, m7⟩ := more_fields.1 hm
      simp at m1 m2 m3 m4 m5 m6 m7
      show framedW (mRest (wHashes (wByte (wByte ([], 0) 6) 0) hh 32768) (.mk 0 s a b r [] e p)) = framedW (xHashes (wByte (wByte ([], 0) 6) 0) hh 32768)
      rw [mRest_right (left_of m1 m2 m3 m4 rfl m6 m7)]
      exact framedW_alike (al_hashes ((A0.byte 6).byte 0) hh1)
    · have hm : moreOf [104] (.mk 0 s a b r hh e p) = false := hm
      obtain ⟨m1, m2, m3, m4, m5, m6, m7⟩ := more_fields.1 hm
      simp at m1 m2 m3 m4 m5 m6 m7
      show framedW (mRest (wHashes (wByte (wByte ([], 0) 7) 0) hh 32768) (.mk 0 s a b r [] e p)) = framedW (xHashes (wByte (wByte ([], 0) 7) 0) hh 32768)
      rw [mRest_right (left_of m1 m2 m3 m4 rfl m6 m7)]
      exact framedW_alike (al_hashes ((A0.byte 7).byte 0) hh1)
    · have hm : moreOf [101, 104] (.mk 0 s a b r hh e p) = false := hm
      obtain ⟨m1, m2, m3, m4, m5, m6, m7⟩ := more_fields.1 hm
      simp at m1 m2 m3 m4 m5 m6 m7
      show framedW (mRest (wHashes (wTexts (wByte (wByte ([], 0) 8) 0) e 4096 1000) hh 32768) (.mk 0 s a b r [] [] p)) = framedW (xHashes (xTexts (wByte (wByte ([], 0) 8) 0) e 4096 1000) hh 32768)
      rw [mRest_right (left_of m1 m2 m3 m4 rfl rfl m7)]
      exact framedW_alike (al_hashes (al_told ((A0.byte 8).byte 0) ht) hh1)
    · have hm : moreOf [97] (.mk 0 s a b r hh e p) = false := hm
      obtain ⟨m1, m2, m3, m4, m5, m6, m7⟩ := more_fields.1 hm
      simp at m1 m2 m3 m4 m5 m6 m7
      show framedW (mRest (mSize (wByte (wByte ([], 0) 9) 0) a) (.mk 0 s 0 b r hh e p)) = framedW (wNum (wByte (wByte ([], 0) 9) 0) a)
      rw [mRest_right (left_of m1 rfl m3 m4 m5 m6 m7)]
      exact framedW_alike (al_size ((A0.byte 9).byte 0) ha)
    · have hm : moreOf [97, 98, 101, 104] (.mk 0 s a b r hh e p) = false := hm
      obtain ⟨m1, m2, m3, m4, m5, m6, m7⟩ := more_fields.1 hm
      simp at m1 m2 m3 m4 m5 m6 m7
      show framedW (mRest (wHashes (wTexts (wByte (if 1 < b then wNum (mSize (wByte (wByte ([], 0) 10) 0) a) (-1) else (mSize (wByte (wByte ([], 0) 10) 0) a)) b) e 4096 1000) hh 32768) (.mk 0 s 0 0 r [] [] p)) = framedW (xHashes (xTexts (wByte (wNum (wByte (wByte ([], 0) 10) 0) a) b) e 4096 1000) hh 32768)
      rw [mRest_right (left_of m1 rfl rfl m4 rfl rfl m7)]
      exact framedW_alike (al_hashes (al_told (al_last (al_size ((A0.byte 10).byte 0) ha) hb1) ht) hh1)
    · have hm : moreOf [45] (.mk 0 s a b r hh e p) = false := hm
      obtain ⟨m1, m2, m3, m4, m5, m6, m7⟩ := more_fields.1 hm
      simp at m1 m2 m3 m4 m5 m6 m7
      show framedW (mRest (wByte (wByte ([], 0) 11) 0) (.mk 0 s a b r hh e p)) = framedW (wByte (wByte ([], 0) 11) 0)
      exact congrArg framedW (mRest_right (left_of m1 m2 m3 m4 m5 m6 m7))
    · have hm : moreOf [103] (.mk 0 s a b r hh e p) = false := hm
      obtain ⟨m1, m2, m3, m4, m5, m6, m7⟩ := more_fields.1 hm
      simp at m1 m2 m3 m4 m5 m6 m7
      show framedW (mRest (mParts (wByte (wByte ([], 0) 12) 0) p) (.mk 0 s a b r hh e [])) = framedW (dParts (wByte (wByte ([], 0) 12) 0) p)
      rw [mRest_right (left_of m1 m2 m3 m4 m5 m6 rfl)]
      exact framedW_alike (al_parts ((A0.byte 12).byte 0) (hg rfl))
  · have hw : wordS k (.mk z s a b r hh e p) = [45] := by unfold wordS; exact if_neg hz
    rw [hw] at hm
    obtain ⟨m1, m2, m3, m4, m5, m6, m7⟩ := more_fields.1 hm
    simp at m1 m2 m3 m4 m5 m6 m7
    have e1 : encRep k (.mk z s a b r hh e p) = framedW (mRest (mStatus (wByte ([], 0) k) z) (.mk z s a b r hh e p)) := by
      unfold encRep
      rw [if_neg (by omega), if_neg (fun q => hz q.2)]
      have : (Rep.mk z s a b r hh e p).status ≠ 0 := hz
      simp only [this, if_false]
      rfl
    have e2 : layRep k (.mk z s a b r hh e p) = wByte (wByte ([], 0) k) z := by unfold layRep; exact if_neg hz
    rw [e1, e2, mRest_right (left_of m1 m2 m3 m4 m5 m6 m7), mStatus_right h8]
set_option maxHeartbeats 2000000 in
theorem rep_wrong {k : Int} {R : Rep} (hk0 : 0 ≤ k) (hk1 : k ≤ 12) (h : ¬ FineP k R) : encRep k R = ([], 171) := by
  obtain ⟨z, s, a, b, r, hh, e, p⟩ := R
  have bad : ∀ st : WSt, st.2 ≠ 0 → framedW st = ([], 171) := fun st h0 => by unfold framedW; rw [if_pos h0]
  by_cases hz : z = 0
  · subst hz
    have h' : k = 0 ∨ k = 1 ∨ k = 2 ∨ k = 3 ∨ k = 4 ∨ k = 5 ∨ k = 6 ∨ k = 7 ∨ k = 8 ∨ k = 9 ∨ k = 10 ∨ k = 11 ∨ k = 12 := by omega
    rcases h' with rfl | rfl | rfl | rfl | rfl | rfl | rfl | rfl | rfl | rfl | rfl | rfl | rfl
    · rfl
    · show framedW (mRest (mRoot (mSize (mSize (wByte (wByte ([], 0) 1) 0) s) a) r) (.mk 0 0 0 b [] hh e p)) = ([], 171)
      refine bad _ fun h0 => h ?_
      obtain ⟨q0, hl⟩ := mRest_err h0
      obtain ⟨q1, e_r⟩ := mRoot_err q0
      obtain ⟨q2, e_a⟩ := mSize_err q1
      obtain ⟨q3, e_s⟩ := mSize_err q2
      obtain ⟨m1, m2, m3, m4, m5, m6, m7⟩ := left_none hl
      subst m3 m5 m6 m7
      refine ⟨z08, fun q => absurd q.2 (by decide), (show moreOf [115, 97, 114] (.mk 0 s a 0 r [] [] []) = false from more_fields.2 (by simp)), e_s, e_a, hashesP_nil, toldP_nil, z01, fun _ => e_r, fun q => absurd (show ([115, 97, 114] : List UInt8) = [103] from q) (by decide)⟩
    · show framedW (mRest (mRoot (mSize (wByte (wByte ([], 0) 2) 0) s) r) (.mk 0 0 a b [] hh e p)) = ([], 171)
      refine bad _ fun h0 => h ?_
      obtain ⟨q0, hl⟩ := mRest_err h0
      obtain ⟨q1, e_r⟩ := mRoot_err q0
      obtain ⟨q2, e_s⟩ := mSize_err q1
      obtain ⟨m1, m2, m3, m4, m5, m6, m7⟩ := left_none hl
      subst m2 m3 m5 m6 m7
      refine ⟨z08, fun q => absurd q.2 (by decide), (show moreOf [115, 114] (.mk 0 s 0 0 r [] [] []) = false from more_fields.2 (by simp)), e_s, sizeP_zero, hashesP_nil, toldP_nil, z01, fun _ => e_r, fun q => absurd (show ([115, 114] : List UInt8) = [103] from q) (by decide)⟩
    · show framedW (mRest (mRoot (wByte (wByte ([], 0) 3) 0) r) (.mk 0 s a b [] hh e p)) = ([], 171)
      refine bad _ fun h0 => h ?_
      obtain ⟨q0, hl⟩ := mRest_err h0
      obtain ⟨q1, e_r⟩ := mRoot_err q0
      obtain ⟨m1, m2, m3, m4, m5, m6, m7⟩ := left_none hl
      subst m1 m2 m3 m5 m6 m7
      refine ⟨z08, fun q => absurd q.2 (by decide), (show moreOf [114] (.mk 0 0 0 0 r [] [] []) = false from more_fields.2 (by simp)), sizeP_zero, sizeP_zero, hashesP_nil, toldP_nil, z01, fun _ => e_r, fun q => absurd (show ([114] : List UInt8) = [103] from q) (by decide)⟩
    · show framedW (mRest (wHashes (wByte (wByte ([], 0) 4) 0) hh 32768) (.mk 0 s a b r [] e p)) = ([], 171)
      refine bad _ fun h0 => h ?_
      obtain ⟨q0, hl⟩ := mRest_err h0
      obtain ⟨q1, e_h⟩ := wHashes_err q0
      obtain ⟨m1, m2, m3, m4, m5, m6, m7⟩ := left_none hl
      subst m1 m2 m3 m4 m6 m7
      refine ⟨z08, fun q => absurd q.2 (by decide), (show moreOf [104] (.mk 0 0 0 0 [] hh [] []) = false from more_fields.2 (by simp)), sizeP_zero, sizeP_zero, e_h, toldP_nil, z01, fun q => absurd (show ([104] : List UInt8).contains 114 = true from q) (by decide), fun q => absurd (show ([104] : List UInt8) = [103] from q) (by decide)⟩
    · show framedW (mRest (wHashes (wByte (wByte ([], 0) 5) 0) hh 32768) (.mk 0 s a b r [] e p)) = ([], 171)
      refine bad _ fun h0 => h ?_
      obtain ⟨q0, hl⟩ := mRest_err h0
      obtain ⟨q1, e_h⟩ := wHashes_err q0
      obtain ⟨m1, m2, m3, m4, m5, m6, m7⟩ := left_none hl
      subst m1 m2 m3 m4 m6 m7
      refine ⟨z08, fun q => absurd q.2 (by decide), (show moreOf [104] (.mk 0 0 0 0 [] hh [] []) = false from more_fields.2 (by simp)), sizeP_zero, sizeP_zero, e_h, toldP_nil, z01, fun q => absurd (show ([104] : List UInt8).contains 114 = true from q) (by decide), fun q => absurd (show ([104] : List UInt8) = [103] from q) (by decide)⟩
    · show framedW (mRest (wHashes (wByte (wByte ([], 0) 6) 0) hh 32768) (.mk 0 s a b r [] e p)) = ([], 171)
      refine bad _ fun h0 => h ?_
      obtain ⟨q0, hl⟩ := mRest_err h0
      obtain ⟨q1, e_h⟩ := wHashes_err q0
      obtain ⟨m1, m2, m3, m4, m5, m6, m7⟩ := left_none hl
      subst m1 m2 m3 m4 m6 m7
      refine ⟨z08, fun q => absurd q.2 (by decide), (show moreOf [104] (.mk 0 0 0 0 [] hh [] []) = false from more_fields.2 (by simp)), sizeP_zero, sizeP_zero, e_h, toldP_nil, z01, fun q => absurd (show ([104] : List UInt8).contains 114 = true from q) (by decide), fun q => absurd (show ([104] : List UInt8) = [103] from q) (by decide)⟩
    · show framedW (mRest (wHashes (wByte (wByte ([], 0) 7) 0) hh 32768) (.mk 0 s a b r [] e p)) = ([], 171)
      refine bad _ fun h0 => h ?_
      obtain ⟨q0, hl⟩ := mRest_err h0
      obtain ⟨q1, e_h⟩ := wHashes_err q0
      obtain ⟨m1, m2, m3, m4, m5, m6, m7⟩ := left_none hl
      subst m1 m2 m3 m4 m6 m7
      refine ⟨z08, fun q => absurd q.2 (by decide), (show moreOf [104] (.mk 0 0 0 0 [] hh [] []) = false from more_fields.2 (by simp)), sizeP_zero, sizeP_zero, e_h, toldP_nil, z01, fun q => absurd (show ([104] : List UInt8).contains 114 = true from q) (by decide), fun q => absurd (show ([104] : List UInt8) = [103] from q) (by decide)⟩
    · show framedW (mRest (wHashes (wTexts (wByte (wByte ([], 0) 8) 0) e 4096 1000) hh 32768) (.mk 0 s a b r [] [] p)) = ([], 171)
      refine bad _ fun h0 => h ?_
      obtain ⟨q0, hl⟩ := mRest_err h0
      obtain ⟨q1, e_h⟩ := wHashes_err q0
      obtain ⟨q2, e_e⟩ := wTold_err q1
      obtain ⟨m1, m2, m3, m4, m5, m6, m7⟩ := left_none hl
      subst m1 m2 m3 m4 m7
      refine ⟨z08, fun q => absurd q.2 (by decide), (show moreOf [101, 104] (.mk 0 0 0 0 [] hh e []) = false from more_fields.2 (by simp)), sizeP_zero, sizeP_zero, e_h, e_e, z01, fun q => absurd (show ([101, 104] : List UInt8).contains 114 = true from q) (by decide), fun q => absurd (show ([101, 104] : List UInt8) = [103] from q) (by decide)⟩
    · show framedW (mRest (mSize (wByte (wByte ([], 0) 9) 0) a) (.mk 0 s 0 b r hh e p)) = ([], 171)
      refine bad _ fun h0 => h ?_
      obtain ⟨q0, hl⟩ := mRest_err h0
      obtain ⟨q1, e_a⟩ := mSize_err q0
      obtain ⟨m1, m2, m3, m4, m5, m6, m7⟩ := left_none hl
      subst m1 m3 m4 m5 m6 m7
      refine ⟨z08, fun q => absurd q.2 (by decide), (show moreOf [97] (.mk 0 0 a 0 [] [] [] []) = false from more_fields.2 (by simp)), sizeP_zero, e_a, hashesP_nil, toldP_nil, z01, fun q => absurd (show ([97] : List UInt8).contains 114 = true from q) (by decide), fun q => absurd (show ([97] : List UInt8) = [103] from q) (by decide)⟩
    · show framedW (mRest (wHashes (wTexts (wByte (if 1 < b then wNum (mSize (wByte (wByte ([], 0) 10) 0) a) (-1) else (mSize (wByte (wByte ([], 0) 10) 0) a)) b) e 4096 1000) hh 32768) (.mk 0 s 0 0 r [] [] p)) = ([], 171)
      refine bad _ fun h0 => h ?_
      obtain ⟨q0, hl⟩ := mRest_err h0
      obtain ⟨q1, e_h⟩ := wHashes_err q0
      obtain ⟨q2, e_e⟩ := wTold_err q1
      obtain ⟨q3, e_b⟩ := last_err q2
      obtain ⟨q4, e_a⟩ := mSize_err q3
      obtain ⟨m1, m2, m3, m4, m5, m6, m7⟩ := left_none hl
      subst m1 m4 m7
      refine ⟨z08, fun q => absurd q.2 (by decide), (show moreOf [97, 98, 101, 104] (.mk 0 0 a b [] hh e []) = false from more_fields.2 (by simp)), sizeP_zero, e_a, e_h, e_e, e_b, fun q => absurd (show ([97, 98, 101, 104] : List UInt8).contains 114 = true from q) (by decide), fun q => absurd (show ([97, 98, 101, 104] : List UInt8) = [103] from q) (by decide)⟩
    · show framedW (mRest (wByte (wByte ([], 0) 11) 0) (.mk 0 s a b r hh e p)) = ([], 171)
      refine bad _ fun h0 => h ?_
      obtain ⟨q0, hl⟩ := mRest_err h0
      obtain ⟨m1, m2, m3, m4, m5, m6, m7⟩ := left_none hl
      subst m1 m2 m3 m4 m5 m6 m7
      refine ⟨z08, fun q => absurd q.2 (by decide), (show moreOf [45] (.mk 0 0 0 0 [] [] [] []) = false from more_fields.2 (by simp)), sizeP_zero, sizeP_zero, hashesP_nil, toldP_nil, z01, fun q => absurd (show ([45] : List UInt8).contains 114 = true from q) (by decide), fun q => absurd (show ([45] : List UInt8) = [103] from q) (by decide)⟩
    · show framedW (mRest (mParts (wByte (wByte ([], 0) 12) 0) p) (.mk 0 s a b r hh e [])) = ([], 171)
      refine bad _ fun h0 => h ?_
      obtain ⟨q0, hl⟩ := mRest_err h0
      obtain ⟨q1, e_g⟩ := mParts_wrong q0
      obtain ⟨m1, m2, m3, m4, m5, m6, m7⟩ := left_none hl
      subst m1 m2 m3 m4 m5 m6
      refine ⟨z08, fun q => absurd q.2 (by decide), (show moreOf [103] (.mk 0 0 0 0 [] [] [] p) = false from more_fields.2 (by simp)), sizeP_zero, sizeP_zero, hashesP_nil, toldP_nil, z01, fun q => absurd (show ([103] : List UInt8).contains 114 = true from q) (by decide), fun _ => e_g⟩
  · have e1 : encRep k (.mk z s a b r hh e p) = framedW (mRest (mStatus (wByte ([], 0) k) z) (.mk z s a b r hh e p)) := by
      unfold encRep
      rw [if_neg (by omega), if_neg (fun q => hz q.2)]
      have : (Rep.mk z s a b r hh e p).status ≠ 0 := hz
      simp only [this, if_false]
      rfl
    rw [e1]
    refine bad _ fun h0 => h ?_
    obtain ⟨q0, hl⟩ := mRest_err h0
    obtain ⟨-, q1, q2⟩ := mStatus_err q0
    obtain ⟨rfl, rfl, rfl, rfl, rfl, rfl, rfl⟩ := left_none hl
    have hw : wordS k (.mk z 0 0 0 [] [] [] []) = [45] := by unfold wordS; exact if_neg hz
    refine ⟨⟨q1, q2⟩, fun q => hz q.1, ?_, sizeP_zero, sizeP_zero, hashesP_nil, toldP_nil, z01, fun q => ?_, fun q => ?_⟩
    · rw [hw]
      exact more_fields.2 (by simp)
    · rw [hw] at q
      exact absurd q (by decide)
    · rw [hw] at q
      exact absurd q (by decide)
theorem FineP.slight {k : Int} {R : Rep} (h : FineP k R) : SlightR R := by
  obtain ⟨z, s, a, b, r, hh, e, p⟩ := R
  obtain ⟨-, -, hm, -, -, hh1, ht, -, hr, hg⟩ := h
  have hbh : ∀ l : List (List UInt8), hashesP l → bulk l ≤ 1400000 := fun l hl => by
    have h1 := bulk_le 32 l (fun i x hx => by have := hl.2 i x hx; omega)
    have h2 : (32 + 10) * l.length ≤ (32 + 10) * 32768 := Nat.mul_le_mul_left _ hl.1
    omega
  obtain ⟨-, -, -, m4, -, -, m7⟩ := more_fields.1 hm
  refine ⟨⟨hh1.1, hbh _ hh1, ?_⟩, ?_, ?_, ?_, ?_⟩
  · rcases m4 with h | h
    · have : r.length = 32 := hr h
      show r.length ≤ 32
      omega
    · subst h
      exact Nat.zero_le _
  · have : (e.length : Int) ≤ 4096 := ht.2.1
    show e.length ≤ 4096
    omega
  · show bulk e ≤ 4200000
    have h1 := bulk_le 1000 e (fun i x hx => by have := ht.2.2 i x hx; omega)
    have h3 : (e.length : Int) ≤ 4096 := ht.2.1
    have h2 : (1000 + 10) * e.length ≤ (1000 + 10) * 4096 := Nat.mul_le_mul_left _ (by omega)
    omega
  · show p.length ≤ 64
    rcases m7 with h | h
    · have hw : wordS k (.mk z s a b r hh e p) = [103] := by
        unfold wordS at h ⊢
        revert h
        split
        · intro h
          by_cases hk : 0 ≤ k ∧ k ≤ 12
          · have h' : k = 0 ∨ k = 1 ∨ k = 2 ∨ k = 3 ∨ k = 4 ∨ k = 5 ∨ k = 6 ∨ k = 7 ∨ k = 8 ∨ k = 9 ∨ k = 10 ∨ k = 11 ∨ k = 12 := by omega
            rcases h' with rfl | rfl | rfl | rfl | rfl | rfl | rfl | rfl | rfl | rfl | rfl | rfl | rfl <;> first | rfl | (exact absurd h (by decide))
          · rw [wordR_none (by omega)] at h
            exact absurd h (by decide)
        · intro h
          exact absurd h (by decide)
      exact (hg hw).2.1
    · subst h
      exact Nat.zero_le _
  · intro x hx
    obtain ⟨i, hi⟩ := List.mem_iff_getElem?.1 hx
    have hx : x ∈ p := hx
    have hw : wordS k (.mk z s a b r hh e p) = [103] := by
      rcases m7 with h | h
      · unfold wordS at h ⊢
        revert h
        split
        · intro h
          by_cases hk : 0 ≤ k ∧ k ≤ 12
          · have h' : k = 0 ∨ k = 1 ∨ k = 2 ∨ k = 3 ∨ k = 4 ∨ k = 5 ∨ k = 6 ∨ k = 7 ∨ k = 8 ∨ k = 9 ∨ k = 10 ∨ k = 11 ∨ k = 12 := by omega
            rcases h' with rfl | rfl | rfl | rfl | rfl | rfl | rfl | rfl | rfl | rfl | rfl | rfl | rfl <;> first | rfl | (exact absurd h (by decide))
          · rw [wordR_none (by omega)] at h
            exact absurd h (by decide)
        · intro h
          exact absurd h (by decide)
      · subst h
        simp at hx
    have hp := (hg hw).2.2 i x hi
    exact ⟨hp.2.2.1.1, hbh _ hp.2.2.1, by
      rcases hp.2.2.2 with h | h
      · rw [h]; exact Nat.zero_le _
      · omega⟩
end Go.Proofs.YtpccaodkgboefaaGreatDoor

namespace Go.Proofs.YtpccaodkgboefaaGreatDoor
open Go.RowKit

set_option maxRecDepth 100000 in
set_option maxHeartbeats 8000000 in
theorem dencodeRep_any (B : Nat → Prop) (k : Int) (R : Rep) (v : Value) (w : World) (hl : Laid w) (hv : RepAt B w R v) (hB : ∀ q, B q → q < w.heap.size) (hfi : FineR R) :
    Calls Tryz.prog 20 #[.int .i64 k, v] w fun e w' => e = .returned (.tuple #[.string (str (encRep k R).1), .int .i64 (encRep k R).2]) ∧ Fresh w w' := by
  have HV := hid hv
  obtain ⟨lv, ev, ap, cp, rfl, ⟨hl1, -⟩, ⟨he1, -⟩, -, -⟩ := hv.parts
  obtain ⟨al, cl, rfl, -⟩ := hl1.texts
  obtain ⟨ae, ce, rfl, -⟩ := he1.texts
  have hbox := heap_alloc_new w (.cells #[.int .i64 R.status, .int .i64 R.size, .int .i64 R.a, .int .i64 R.b, .string (str R.root), .slice al R.hashes.length cl, .slice ae R.entries.length ce, .slice ap R.replies.length cp] 48)
  have f0 : Fresh w (w.alloc (.cells #[.int .i64 R.status, .int .i64 R.size, .int .i64 R.a, .int .i64 R.b, .string (str R.root), .slice al R.hashes.length cl, .slice ae R.entries.length ce, .slice ap R.replies.length cp] 48)) := (Keeps.refl _ _).alloc _
  obtain ⟨w1, hw1⟩ : ∃ w1, w.alloc (.cells #[.int .i64 R.status, .int .i64 R.size, .int .i64 R.a, .int .i64 R.b, .string (str R.root), .slice al R.hashes.length cl, .slice ae R.entries.length ce, .slice ap R.replies.length cp] 48) = w1 := ⟨_, rfl⟩
  obtain ⟨bx, hbx⟩ : ∃ bx, w.heap.size = bx := ⟨_, rfl⟩
  rw [hw1, hbx] at hbox
  rw [hw1] at f0
  have x0 := cell_at hbox 0
  have x1 := cell_at hbox 1
  have x2 := cell_at hbox 2
  have x3 := cell_at hbox 3
  have x4 := cell_at hbox 4
  have x5 := cell_at hbox 5
  have x6 := cell_at hbox 6
  have x7 := cell_at hbox 7
  simp at x0 x1 x2 x3 x4 x5 x6 x7
  have HBOX := hid hbox
  obtain ⟨p1, p2, p3⟩ := hfi.parts
  have HP3 := hid p3
  clear hbox hl1 he1 hv p3 hfi
  obtain ⟨wd, hwd⟩ : ∃ wd, wordR k = wd := ⟨_, rfl⟩
  have HWD := hid hwd
  go_enter Tryz.func20, Tryz.ntmps20
  go_wp2_with fail
  refine (dtold_any k w1).mono ?_
  rintro e _ ⟨rfl, rfl⟩
  rw [hwd]
  clear hwd
  by_cases hk : k < 0 ∨ 12 < k
  · have hnil : wd = [] := by rw [← HWD.out]; exact wordR_none hk
    subst hnil
    have hie : (str ([] : List UInt8)).toList.isEmpty = true := by rw [str_toList]; rfl
    have hen : Hid (encRep k R = ([], 170)) := by
      show _ = _
      unfold encRep
      rw [if_pos hk]
    go_wp2_with fail
    go_ret2
    exact ⟨by rw [hen.out]; rfl, f0⟩
  have hnil : wd ≠ [] := by
    rw [← HWD.out]
    have h' : k = 0 ∨ k = 1 ∨ k = 2 ∨ k = 3 ∨ k = 4 ∨ k = 5 ∨ k = 6 ∨ k = 7 ∨ k = 8 ∨ k = 9 ∨ k = 10 ∨ k = 11 ∨ k = 12 := by omega
    rcases h' with rfl | rfl | rfl | rfl | rfl | rfl | rfl | rfl | rfl | rfl | rfl | rfl | rfl <;> simp [wordR]
  have hie : (str wd).toList.isEmpty = false := by
    rw [str_toList]
    cases wd with
    | nil => exact absurd rfl hnil
    | cons a r => rfl
  go_wp2_with fail
  refine (dfine_any k (by omega) (by omega) R ⟨p1, p2⟩ (fun x hx => (HP3.out x hx).parts.1) B _ w1 (HV.out.fresh f0)).mono ?_
  rintro e w2 ⟨⟨br, rfl, hbr⟩, f2⟩
  have F2 := f0.trans f2
  have hb2 := f2.at_ HBOX.out (fun h => h)
  clear x0 x1 x2 x3 x4 x5 x6 x7
  cases br with
  | false =>
    have hen : Hid (encRep k R = ([], 171)) := rep_wrong (by omega) (by omega) (fun h => by have := hbr.2 h; cases this)
    go_wp2_with fail
    go_ret2
    exact ⟨by rw [hen.out]; rfl, F2⟩
  | true =>
    have hri := hid (hbr.1 rfl)
    have hen := hid (rep_right (by omega) (by omega) (hbr.1 rfl))
    have hll := layRep_len (k := k) (hbr.1 rfl).slight
    clear hbr
    go_wp2_with fail
    refine (xnew_any w2 (hl.fresh_ F2)).mono ?_
    rintro e w3 ⟨bw, rfl, f3, hbw, hx3⟩
    have F3 := F2.trans f3
    have hb3 := f3.at_ hb2 (fun h => h)
    have x0 := cell_at hb3 0
    have x1 := cell_at hb3 1
    have x2 := cell_at hb3 2
    have x3 := cell_at hb3 3
    have x4 := cell_at hb3 4
    have x5 := cell_at hb3 5
    have x6 := cell_at hb3 6
    have x7 := cell_at hb3 7
    simp at x0 x1 x2 x3 x4 x5 x6 x7
    have hne2 : ∀ q, B q → q ≠ bw := fun q hq => by have := hB q hq; have := F2.size; omega
    have hlay := hid (dlayReply_any k R hri.out.slight B bw _ w3 hx3 (HV.out.fresh F3) hne2)
    clear hb2 hb3 hx3 HBOX
    go_wp2_with fail
    refine hlay.out.mono ?_
    rintro e w4 ⟨rfl, k4, hx4⟩
    have F4 : Fresh w w4 := F3.trans' k4 fun q hq h => by have h : q = bw := h; have := F2.size; omega
    clear x0 x1 x2 x3 x4 x5 x6 x7 hlay
    obtain ⟨st, hst⟩ : ∃ st, layRep k R = st := ⟨_, rfl⟩
    rw [hst] at hx4 hll hen
    go_wp2_with fail
    refine (xdone_any bw st w4 hx4).mono ?_
    rintro e w5 ⟨rfl, f5⟩
    have F5 := F4.trans f5
    clear hst hx4
    by_cases h0 : st.2 = 0
    · have hd : wDone st = (st.1, 0) := by unfold wDone; rw [if_pos h0, h0]
      rw [hd]
      go_wp2_with fail
      refine (refframe_any st.1 w5 (by omega)).mono ?_
      rintro e w6 ⟨rfl, f6⟩
      by_cases hbig : (framed st.1).2 = 0
      · have hen2 : Hid (encRep k R = ((framed st.1).1, 0)) := by
          show _ = _
          rw [hen.out]
          unfold framedW
          rw [if_neg (by omega), if_neg (by omega)]
        rw [hbig]
        go_wp2_with fail
        go_ret2
        exact ⟨by rw [hen2.out]; rfl, F5.trans f6⟩
      · have hq : ((framed st.1).2 != 0) = true := bne_iff_ne.2 hbig
        have hen2 : Hid (encRep k R = ([], 174)) := by
          show _ = _
          rw [hen.out]
          unfold framedW
          rw [if_neg (by omega), if_pos hbig]
        go_wp2_with fail
        go_ret2
        exact ⟨by rw [hen2.out]; rfl, F5.trans f6⟩
    · have hd : wDone st = ([], st.2) := by unfold wDone; rw [if_neg h0]
      have hen2 : Hid (encRep k R = ([], 171)) := by
        show _ = _
        rw [hen.out]
        unfold framedW
        rw [if_pos h0]
      have hq : (st.2 != 0) = true := bne_iff_ne.2 h0
      rw [hd]
      go_wp2_with fail
      go_ret2
      exact ⟨by rw [hen2.out]; rfl, F5⟩
end Go.Proofs.YtpccaodkgboefaaGreatDoor
