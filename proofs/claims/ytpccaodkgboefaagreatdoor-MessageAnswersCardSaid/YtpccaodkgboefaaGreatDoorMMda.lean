/-
  The document's fields of a request's kind; has; size.
  The document's looks at a request's lists: rises, texts.
  The document's 'spare': is something there that the kind has not?
-/
import Derived.Test.YtpccaodkgboefaaGreatDoorMsWhich
import Derived.BigQuiet
import Derived.Test.YtpccaodkgboefaaGreatDoorMMsB
namespace Go.Proofs.YtpccaodkgboefaaGreatDoor
open Go.RowKit

def byteOf (b : List UInt8) (j : Nat) : UInt8 := b.getD j 0
theorem byteOf_idx {b : List UInt8} {j : Nat} : ∀ h : j < (str b).size, (str b)[j]'h = byteOf b j := by
  intro h
  have hl : j < b.length := by rw [← str_size b]; exact h
  have : (str b)[j]'h = b[j] := rfl
  rw [this, byteOf, List.getD, List.getElem?_eq_getElem hl]
  rfl
theorem byteOf_get {b : List UInt8} {j : Nat} {c : UInt8} (h : b[j]? = some c) : byteOf b j = c := by rw [byteOf, List.getD, h]; rfl

/-- the document's word of a request's kind -/
def wordOf (k : Int) : List UInt8 :=
  if k = 1 then [101] else if k = 2 then [45] else if k = 3 then [115] else if k = 4 ∨ k = 5 then [97, 115] else if k = 6 then [115, 105] else if k = 7 then [104] else if k = 8 ∨ k = 9 then [97, 98, 115]
  else if k = 10 ∨ k = 11 then [97] else if k = 12 then [103] else []

set_option maxRecDepth 100000 in
set_option maxHeartbeats 2000000 in
theorem dfields_any (k : Int) (w : World) :
    Calls Tryz.prog 33 #[.int .i64 k] w fun e w' => e = .returned (.string (str (wordOf k))) ∧ w = w' := by
  by_cases h : 1 ≤ k ∧ k ≤ 12
  · have h' : k = 1 ∨ k = 2 ∨ k = 3 ∨ k = 4 ∨ k = 5 ∨ k = 6 ∨ k = 7 ∨ k = 8 ∨ k = 9 ∨ k = 10 ∨ k = 11 ∨ k = 12 := by omega
    clear h
    rcases h' with rfl | rfl | rfl | rfl | rfl | rfl | rfl | rfl | rfl | rfl | rfl | rfl
    all_goals
      go_enter Tryz.func33, Tryz.ntmps33
      go_wp2_with fail
      go_ret
      exact ⟨rfl, rfl⟩
  · have hw : wordOf k = [] := by
      unfold wordOf
      rw [if_neg (by omega), if_neg (by omega), if_neg (by omega), if_neg (by omega), if_neg (by omega), if_neg (by omega), if_neg (by omega), if_neg (by omega), if_neg (by omega)]
    rw [hw]
    have e1 : (k == 1) = false := by simp; omega
    have e2 : (k == 2) = false := by simp; omega
    have e3 : (k == 3) = false := by simp; omega
    have e4 : (k == 4) = false := by simp; omega
    have e5 : (k == 5) = false := by simp; omega
    have e6 : (k == 6) = false := by simp; omega
    have e7 : (k == 7) = false := by simp; omega
    have e8 : (k == 8) = false := by simp; omega
    have e9 : (k == 9) = false := by simp; omega
    have e10 : (k == 10) = false := by simp; omega
    have e11 : (k == 11) = false := by simp; omega
    have e12 : (k == 12) = false := by simp; omega
    go_enter Tryz.func33, Tryz.ntmps33
    go_wp2_with fail
    go_ret
    exact ⟨rfl, rfl⟩

set_option maxRecDepth 100000 in
set_option maxHeartbeats 1000000 in
theorem dhas_any (s : List UInt8) (c : UInt8) (w : World) (hs : s.length ≤ 9223372036854775807) :
    Calls Tryz.prog 75 #[.string (str s), .int .u8 (c.toNat : Int)] w fun e w' => e = .returned (.bool (s.contains c)) ∧ w = w' := by
  have hsz := str_size s
  obtain ⟨b, hb⟩ : ∃ b, s.contains c = b := ⟨_, rfl⟩
  rw [hb]
  have HB := hid hb
  clear hb
  go_enter Tryz.func75, Tryz.ntmps75
  go_wp2_with fail
  go_loopw [5] (fun i wr => ∃ n : Nat, i = .int .i64 (n : Int) ∧ n ≤ s.length ∧ (∀ j x, j < n → s[j]? = some x → x ≠ c) ∧ w = wr) (fun i _ => s.length - (intOf i).toNat)
  case atStart => exact ⟨0, rfl, by omega, fun j x h => by omega, rfl⟩
  case round =>
    obtain ⟨n, rfl, hn, hno, rfl⟩ := hrel
    have HNO := hid hno
    clear hno
    by_cases hlt : n < s.length
    · obtain ⟨x, hx⟩ : ∃ x, s[n]? = some x := ⟨s[n], by simp⟩
      have hidx := byteOf_idx (b := s) (j := n)
      have hbx := byteOf_get hx
      rw [hbx] at hidx
      by_cases hxc : x = c
      · subst hxc
        obtain rfl : b = true := by
          rw [← HB.out, List.contains_eq_mem, decide_eq_true_eq]
          exact List.mem_of_getElem? hx
        have hq : ((x.toNat : Int) == (x.toNat : Int)) = true := by simp
        clear hbx hx
        go_wp2_with fail
        go_ret
        exact ⟨rfl, rfl⟩
      · have hq : ((x.toNat : Int) == (c.toNat : Int)) = false := by
          simp
          intro h
          exact hxc (UInt8.toNat_inj.1 (by omega))
        clear hbx
        have HX := hid hx
        clear hx
        go_wp2_with fail
        go_roundw
        case rel => exact ⟨n + 1, by go_num, by omega, fun j y hj hy => by
          by_cases hjn : j = n
          · subst hjn
            rw [HX.out] at hy
            injection hy with hy
            rw [← hy]
            exact hxc
          · exact HNO.out j y (by omega) hy, by first | rfl | trivial⟩
        case measure => simp [intOf]; omega
    · obtain rfl : b = false := by
        rw [← HB.out, List.contains_eq_mem, decide_eq_false_iff_not]
        intro hm
        obtain ⟨j, hj⟩ := List.mem_iff_getElem?.1 hm
        have := (List.getElem?_eq_some_iff.1 hj).1
        exact HNO.out j c (by omega) hj rfl
      go_wp2_with fail
      go_ret
      exact ⟨rfl, rfl⟩

/-- a call tells whether P -/
def Says (P : Prop) (e : Ending) : Prop := ∃ b : Bool, e = .returned (.bool b) ∧ (b = true ↔ P)
theorem Says.yes {P : Prop} (h : P) : Says P (.returned (.bool true)) := ⟨true, rfl, fun _ => h, fun _ => rfl⟩
theorem Says.no {P : Prop} (h : ¬ P) : Says P (.returned (.bool false)) := ⟨false, rfl, fun q => (Bool.false_ne_true q).elim, fun q => (h q).elim⟩

def sizeP (n : Int) : Prop := 0 ≤ n ∧ n ≤ 1099511627776
set_option maxRecDepth 100000 in
set_option maxHeartbeats 1000000 in
theorem dsize_any (n : Int) (w : World) :
    Calls Tryz.prog 72 #[.int .i64 n] w fun e w' => Says (sizeP n) e ∧ w = w' := by
  by_cases h0 : 0 ≤ n
  · by_cases h1 : n ≤ 1099511627776
    · go_enter Tryz.func72, Tryz.ntmps72
      go_wp2_with fail
      go_ret
      exact ⟨Says.yes ⟨h0, h1⟩, rfl⟩
    · go_enter Tryz.func72, Tryz.ntmps72
      go_wp2_with fail
      go_ret
      exact ⟨Says.no (fun h => by have := h.2; omega), rfl⟩
  · go_enter Tryz.func72, Tryz.ntmps72
    go_wp2_with fail
    go_ret
    exact ⟨Says.no (fun h => by have := h.1; omega), rfl⟩
end Go.Proofs.YtpccaodkgboefaaGreatDoor

namespace Go.Proofs.YtpccaodkgboefaaGreatDoor
open Go.RowKit

def risesP (l : List Int) (most : Int) : Prop := 1 ≤ l.length ∧ (l.length : Int) ≤ most ∧ ∀ (i : Nat) (x : Int), l[i]? = some x → sizeP x ∧ ∀ y, 0 < i → l[i - 1]? = some y → y < x
def textsP (l : List (List UInt8)) (least many most : Int) : Prop := least ≤ l.length ∧ (l.length : Int) ≤ many ∧ ∀ (i : Nat) (x : List UInt8), l[i]? = some x → (x.length : Int) ≤ most

set_option maxRecDepth 100000 in
set_option maxHeartbeats 2000000 in
theorem dtexts_any (v : Value) (l : List (List UInt8)) (least many most : Int) (w : World) (h1 : ListAt w v (texts l)) (hb : l.length ≤ 9223372036854775807) :
    Calls Tryz.prog 73 #[v, .int .i64 least, .int .i64 many, .int .i64 most] w fun e w' => Says (textsP l least many most) e ∧ Fresh w w' := by
  obtain ⟨ao1, cap1, rfl, hc1⟩ := h1.texts
  have HC1 := hid hc1
  clear hc1 h1
  by_cases hl : (l.length : Int) < least
  · go_enter Tryz.func73, Tryz.ntmps73
    go_wp2_with fail
    go_ret
    exact ⟨Says.no (fun h => by have := h.1; omega), Keeps.refl _ _⟩
  by_cases hm : many < (l.length : Int)
  · go_enter Tryz.func73, Tryz.ntmps73
    go_wp2_with fail
    go_ret
    exact ⟨Says.no (fun h => by have := h.2.1; omega), Keeps.refl _ _⟩
  go_enter Tryz.func73, Tryz.ntmps73
  go_wp2_with fail
  go_loopw [9] (fun i wr => ∃ n : Nat, i = .int .i64 (n : Int) ∧ n ≤ l.length ∧ (∀ j x, j < n → l[j]? = some x → (x.length : Int) ≤ most) ∧ Fresh w wr) (fun i _ => l.length - (intOf i).toNat)
  case atStart => exact ⟨0, rfl, by omega, fun j x h => by omega, Keeps.refl _ _⟩
  case round =>
    obtain ⟨n, rfl, hn, hno, fr⟩ := hrel
    have HNO := hid hno
    clear hno
    by_cases hlt : n < l.length
    · obtain ⟨s1, hs1⟩ : ∃ s, l[n]? = some s := ⟨l[n], by simp⟩
      obtain ⟨bb1, off1, hao1, hbb1, hcell1⟩ := HC1.out n s1 hs1
      have hcell1 := (fr.cell (p := ⟨bb1, off1 + n, none⟩) hbb1 (fun h => h)).trans hcell1
      subst hao1
      have hsz := str_size s1
      have HS := hid hs1
      clear hs1
      by_cases hbig : most < (s1.length : Int)
      · go_wp2_with fail
        go_ret
        exact ⟨Says.no (fun h => by have := h.2.2 n s1 HS.out; omega), fr⟩
      · go_wp2_with fail
        go_roundw
        case rel => exact ⟨n + 1, by go_num, by omega, fun j y hj hy => by
          by_cases hjn : j = n
          · subst hjn
            rw [HS.out] at hy
            injection hy with hy
            rw [← hy]
            omega
          · exact HNO.out j y (by omega) hy, fr⟩
        case measure => simp [intOf]; omega
    · go_wp2_with fail
      go_ret
      exact ⟨Says.yes ⟨by omega, by omega, fun i x hx => HNO.out i x (by have := (List.getElem?_eq_some_iff.1 hx).1; omega) hx⟩, fr⟩

set_option maxRecDepth 100000 in
set_option maxHeartbeats 4000000 in
theorem drises_any (v : Value) (l : List Int) (most : Int) (w : World) (h1 : ListAt w v (ints l)) (hb : l.length ≤ 9223372036854775807) :
    Calls Tryz.prog 74 #[v, .int .i64 most] w fun e w' => Says (risesP l most) e ∧ Fresh w w' := by
  obtain ⟨ao1, cap1, rfl, hc1⟩ := h1.ints_
  have HC1 := hid hc1
  clear hc1 h1
  by_cases hl : l.length < 1
  · go_enter Tryz.func74, Tryz.ntmps74
    go_wp2_with fail
    go_ret
    exact ⟨Says.no (fun h => by have := h.1; omega), Keeps.refl _ _⟩
  by_cases hm : most < (l.length : Int)
  · go_enter Tryz.func74, Tryz.ntmps74
    go_wp2_with fail
    go_ret
    exact ⟨Says.no (fun h => by have := h.2.1; omega), Keeps.refl _ _⟩
  go_enter Tryz.func74, Tryz.ntmps74
  go_wp2_with fail
  go_loopw [5] (fun i wr => ∃ n : Nat, i = .int .i64 (n : Int) ∧ n ≤ l.length ∧ (∀ j x, j < n → l[j]? = some x → sizeP x ∧ ∀ y, 0 < j → l[j - 1]? = some y → y < x) ∧ Fresh w wr) (fun i _ => l.length - (intOf i).toNat)
  case atStart => exact ⟨0, rfl, by omega, fun j x h => by omega, Keeps.refl _ _⟩
  case round =>
    obtain ⟨n, rfl, hn, hno, fr⟩ := hrel
    have HNO := hid hno
    clear hno
    by_cases hlt : n < l.length
    · obtain ⟨s1, hs1⟩ : ∃ s, l[n]? = some s := ⟨l[n], by simp⟩
      obtain ⟨bb1, off1, hao1, hbb1, hcell1⟩ := HC1.out n s1 hs1
      have hcell1 := (fr.cell (p := ⟨bb1, off1 + n, none⟩) hbb1 (fun h => h)).trans hcell1
      subst hao1
      have HS := hid hs1
      clear hs1
      go_wp2_with fail
      refine (dsize_any s1 wr).mono ?_
      rintro e _ ⟨⟨b, rfl, hb1⟩, rfl⟩
      cases b with
      | false =>
        go_wp2_with fail
        go_quiet (fail)
        go_wp2_with fail
        go_ret
        exact ⟨Says.no (fun h => by have := hb1.2 (h.2.2 n s1 HS.out).1; cases this), fr.drewN _⟩
      | true =>
        have hsz := hid (hb1.1 rfl)
        clear hb1
        cases n with
        | zero =>
          go_wp2_with fail
          go_quiet (fail)
          go_wp2_with fail
          go_roundw
          case rel => exact ⟨1, by go_num, by omega, fun j y hj hy => by
            obtain rfl : j = 0 := by omega
            rw [HS.out] at hy
            injection hy with hy
            rw [← hy]
            exact ⟨hsz.out, fun _ h => absurd h (by omega)⟩, fr.drewN _⟩
          case measure => simp [intOf]; omega
        | succ m =>
          obtain ⟨s0, hs0⟩ : ∃ s, l[m]? = some s := ⟨l[m], by simp⟩
          obtain ⟨bb0, off0, hao0, hbb0, hcell0⟩ := HC1.out m s0 hs0
          simp only [Option.some.injEq, Addr.mk.injEq, and_true] at hao0
          obtain ⟨rfl, rfl⟩ := hao0
          have hcell0 := (fr.cell (p := ⟨bb1, off1 + m, none⟩) hbb0 (fun h => h)).trans hcell0
          have HS0 := hid hs0
          clear hs0
          have hsub : ((m + 1 : Nat) : Int) - 1 = (m : Int) := by omega
          by_cases hle : s1 ≤ s0
          · go_wp2_with fail
            go_quiet (fail)
            go_wp2_with fail
            go_ret
            exact ⟨Says.no (fun h => by have := (h.2.2 (m + 1) s1 HS.out).2 s0 (by omega) HS0.out; omega), fr.drewN _⟩
          · go_wp2_with fail
            go_quiet (fail)
            go_wp2_with fail
            go_roundw
            case rel => exact ⟨m + 2, by go_num, by omega, fun j y hj hy => by
              by_cases hjn : j = m + 1
              · subst hjn
                rw [HS.out] at hy
                injection hy with hy
                rw [← hy]
                refine ⟨hsz.out, fun z _ hz => ?_⟩
                rw [Nat.add_sub_cancel, HS0.out] at hz
                injection hz with hz
                omega
              · exact HNO.out j y (by omega) hy, fr.drewN _⟩
            case measure => simp [intOf]; omega
    · go_wp2_with fail
      go_ret
      exact ⟨Says.yes ⟨by omega, by omega, fun i x hx => HNO.out i x (by have := (List.getElem?_eq_some_iff.1 hx).1; omega) hx⟩, fr⟩
end Go.Proofs.YtpccaodkgboefaaGreatDoor

namespace Go.Proofs.YtpccaodkgboefaaGreatDoor
open Go.RowKit

theorem dhas_lit (s : List UInt8) (c : UInt8) (n : Int) (hn : (c.toNat : Int) = n) (w : World) (hs : s.length ≤ 9223372036854775807) :
    Calls Tryz.prog 75 #[.string (str s), .int .u8 n] w fun e w' => e = .returned (.bool (s.contains c)) ∧ w = w' := by
  subst hn
  exact dhas_any s c w hs
theorem wordKinds (k : Int) : (wordOf k = [101] ∧ whichOf k = ⟨false, false, false, false, true, false⟩) ∨ (wordOf k = [45] ∧ whichOf k = ⟨false, false, false, false, false, false⟩) ∨ (wordOf k = [115] ∧ whichOf k = ⟨false, false, true, false, false, false⟩) ∨ (wordOf k = [97, 115] ∧ whichOf k = ⟨true, false, true, false, false, false⟩) ∨ (wordOf k = [115, 105] ∧ whichOf k = ⟨false, false, true, true, false, false⟩) ∨ (wordOf k = [104] ∧ whichOf k = ⟨false, false, false, true, false, false⟩) ∨ (wordOf k = [97, 98, 115] ∧ whichOf k = ⟨true, true, true, false, false, false⟩) ∨ (wordOf k = [97] ∧ whichOf k = ⟨true, false, false, false, false, false⟩) ∨ (wordOf k = [103] ∧ whichOf k = ⟨false, false, false, false, false, true⟩) ∨ (wordOf k = [] ∧ whichOf k = ⟨false, false, false, false, false, false⟩) := by
  by_cases h : 1 ≤ k ∧ k ≤ 12
  · have h' : k = 1 ∨ k = 2 ∨ k = 3 ∨ k = 4 ∨ k = 5 ∨ k = 6 ∨ k = 7 ∨ k = 8 ∨ k = 9 ∨ k = 10 ∨ k = 11 ∨ k = 12 := by omega
    clear h
    rcases h' with rfl | rfl | rfl | rfl | rfl | rfl | rfl | rfl | rfl | rfl | rfl | rfl <;> simp [whichOf, wordOf]
  · have hw : whichOf k = ⟨false, false, false, false, false, false⟩ := by
      unfold whichOf
      simp only [Has.mk.injEq, decide_eq_false_iff_not]
      omega
    have hw2 : wordOf k = [] := by
      unfold wordOf
      rw [if_neg (by omega), if_neg (by omega), if_neg (by omega), if_neg (by omega), if_neg (by omega), if_neg (by omega), if_neg (by omega), if_neg (by omega), if_neg (by omega)]
    simp [hw, hw2]
theorem ne_dec' (x : Int) : decide (x ≠ 0) = (x != 0) := by
  by_cases h : x = 0
  · subst h; rfl
  · rw [decide_eq_true h, bne_iff_ne.2 h]

set_option maxRecDepth 100000 in
set_option maxHeartbeats 20000000 in
theorem dspare_any (R : Req) (B : Nat → Prop) (v : Value) (w : World) (hv : ReqAt B w R v) :
    Calls Tryz.prog 71 #[v, .string (str (wordOf R.kind))] w fun e w' => e = .returned (.bool (spareOf R)) ∧ Fresh w w' := by
  obtain ⟨lv, ev, ao, cap, rfl, ⟨hl1, -⟩, ⟨he1, -⟩, hreqs, hal⟩ := hv.parts
  obtain ⟨al, cl, rfl, -⟩ := hl1.ints_
  obtain ⟨ae, ce, rfl, -⟩ := he1.texts
  have hsp0 : spareOf R = ((!(whichOf R.kind).a && (R.a != 0)) || (!(whichOf R.kind).b && (R.b != 0)) || (!(whichOf R.kind).size && (R.size != 0)) || (!(whichOf R.kind).list && decide (0 < R.list.length)) || (!(whichOf R.kind).entries && decide (0 < R.entries.length)) || (!(whichOf R.kind).asks && decide (0 < R.asks.length))) := by
    unfold spareOf
    rw [ne_dec' R.a, ne_dec' R.b, ne_dec' R.size]
  obtain ⟨sp, hsp⟩ : ∃ sp, spareOf R = sp := ⟨_, rfl⟩
  rw [hsp] at hsp0 ⊢
  obtain ⟨rk, hrk⟩ : ∃ x, R.kind = x := ⟨_, rfl⟩
  obtain ⟨ra, hra⟩ : ∃ x, R.a = x := ⟨_, rfl⟩
  obtain ⟨rb, hrb⟩ : ∃ x, R.b = x := ⟨_, rfl⟩
  obtain ⟨rs, hrs⟩ : ∃ x, R.size = x := ⟨_, rfl⟩
  obtain ⟨nl, hnl⟩ : ∃ x, R.list.length = x := ⟨_, rfl⟩
  obtain ⟨ne, hne⟩ : ∃ x, R.entries.length = x := ⟨_, rfl⟩
  obtain ⟨na, hna⟩ : ∃ x, R.asks.length = x := ⟨_, rfl⟩
  rw [hrk, hra, hrb, hrs, hnl, hne, hna] at hsp0
  rw [hrk, hra, hrb, hrs, hnl, hne, hna]
  rw [hna] at hal
  clear hsp hrk hra hrb hrs hnl hne hna
  have hbox := heap_alloc_new w (.cells #[.int .i64 rk, .int .i64 ra, .int .i64 rb, .int .i64 rs, .slice al nl cl, .slice ae ne ce, .slice ao na cap] 26)
  have f0 : Fresh w (w.alloc (.cells #[.int .i64 rk, .int .i64 ra, .int .i64 rb, .int .i64 rs, .slice al nl cl, .slice ae ne ce, .slice ao na cap] 26)) := (Keeps.refl _ _).alloc _
  have x1 := cell_at hbox 1
  have x2 := cell_at hbox 2
  have x3 := cell_at hbox 3
  have x4 := cell_at hbox 4
  have x5 := cell_at hbox 5
  have x6 := cell_at hbox 6
  simp at x1 x2 x3 x4 x5 x6
  clear hbox hl1 he1 hv hreqs
  rcases wordKinds rk with ⟨hwd, hH⟩ | ⟨hwd, hH⟩ | ⟨hwd, hH⟩ | ⟨hwd, hH⟩ | ⟨hwd, hH⟩ | ⟨hwd, hH⟩ | ⟨hwd, hH⟩ | ⟨hwd, hH⟩ | ⟨hwd, hH⟩ | ⟨hwd, hH⟩
  · rw [hwd]
    rw [hH] at hsp0
    dsimp only at hsp0
    have HSP2 := hid hsp0
    clear hsp0 hH hwd
    go_enter Tryz.func71, Tryz.ntmps71
    go_wp2_with fail
    refine (dhas_lit ([101]) 97 97 rfl _ (by decide)).mono ?_
    rintro e _ ⟨rfl, rfl⟩
    rw [show ([101] : List UInt8).contains 97 = false by decide]
    go_wp2_with fail
    refine (dhas_lit ([101]) 98 98 rfl _ (by decide)).mono ?_
    rintro e _ ⟨rfl, rfl⟩
    rw [show ([101] : List UInt8).contains 98 = false by decide]
    go_wp2_with fail
    refine (dhas_lit ([101]) 115 115 rfl _ (by decide)).mono ?_
    rintro e _ ⟨rfl, rfl⟩
    rw [show ([101] : List UInt8).contains 115 = false by decide]
    go_wp2_with fail
    refine (dhas_lit ([101]) 101 101 rfl _ (by decide)).mono ?_
    rintro e _ ⟨rfl, rfl⟩
    rw [show ([101] : List UInt8).contains 101 = true by decide]
    go_wp2_with fail
    refine (dhas_lit ([101]) 105 105 rfl _ (by decide)).mono ?_
    rintro e _ ⟨rfl, rfl⟩
    rw [show ([101] : List UInt8).contains 105 = false by decide]
    go_wp2_with fail
    refine (dhas_lit ([101]) 104 104 rfl _ (by decide)).mono ?_
    rintro e _ ⟨rfl, rfl⟩
    rw [show ([101] : List UInt8).contains 104 = false by decide]
    go_wp2_with fail
    refine (dhas_lit ([101]) 103 103 rfl _ (by decide)).mono ?_
    rintro e _ ⟨rfl, rfl⟩
    rw [show ([101] : List UInt8).contains 103 = false by decide]
    cases q_a : (ra != 0) with
    | true =>
      go_wp2_with fail
      go_ret
      refine ⟨?_, f0⟩
      rw [HSP2.out]
      simp [*]
    | false =>
      cases q_b : (rb != 0) with
      | true =>
        go_wp2_with fail
        go_ret
        refine ⟨?_, f0⟩
        rw [HSP2.out]
        simp [*]
      | false =>
        cases q_size : (rs != 0) with
        | true =>
          go_wp2_with fail
          go_ret
          refine ⟨?_, f0⟩
          rw [HSP2.out]
          simp [*]
        | false =>
          rcases nl with _ | nl
          rotate_left
          · go_wp2_with fail
            go_ret
            refine ⟨?_, f0⟩
            rw [HSP2.out]
            simp [*]
          · rcases na with _ | na
            rotate_left
            · go_wp2_with fail
              go_ret
              refine ⟨?_, f0⟩
              rw [HSP2.out]
              simp [*]
            · go_wp2_with fail
              go_ret
              refine ⟨?_, f0⟩
              rw [HSP2.out]
              simp [*]
  · rw [hwd]
    rw [hH] at hsp0
    dsimp only at hsp0
    have HSP2 := hid hsp0
    clear hsp0 hH hwd
    go_enter Tryz.func71, Tryz.ntmps71
    go_wp2_with fail
    refine (dhas_lit ([45]) 97 97 rfl _ (by decide)).mono ?_
    rintro e _ ⟨rfl, rfl⟩
    rw [show ([45] : List UInt8).contains 97 = false by decide]
    go_wp2_with fail
    refine (dhas_lit ([45]) 98 98 rfl _ (by decide)).mono ?_
    rintro e _ ⟨rfl, rfl⟩
    rw [show ([45] : List UInt8).contains 98 = false by decide]
    go_wp2_with fail
    refine (dhas_lit ([45]) 115 115 rfl _ (by decide)).mono ?_
    rintro e _ ⟨rfl, rfl⟩
    rw [show ([45] : List UInt8).contains 115 = false by decide]
    go_wp2_with fail
    refine (dhas_lit ([45]) 101 101 rfl _ (by decide)).mono ?_
    rintro e _ ⟨rfl, rfl⟩
    rw [show ([45] : List UInt8).contains 101 = false by decide]
    go_wp2_with fail
    refine (dhas_lit ([45]) 105 105 rfl _ (by decide)).mono ?_
    rintro e _ ⟨rfl, rfl⟩
    rw [show ([45] : List UInt8).contains 105 = false by decide]
    go_wp2_with fail
    refine (dhas_lit ([45]) 104 104 rfl _ (by decide)).mono ?_
    rintro e _ ⟨rfl, rfl⟩
    rw [show ([45] : List UInt8).contains 104 = false by decide]
    go_wp2_with fail
    refine (dhas_lit ([45]) 103 103 rfl _ (by decide)).mono ?_
    rintro e _ ⟨rfl, rfl⟩
    rw [show ([45] : List UInt8).contains 103 = false by decide]
    cases q_a : (ra != 0) with
    | true =>
      go_wp2_with fail
      go_ret
      refine ⟨?_, f0⟩
      rw [HSP2.out]
      simp [*]
    | false =>
      cases q_b : (rb != 0) with
      | true =>
        go_wp2_with fail
        go_ret
        refine ⟨?_, f0⟩
        rw [HSP2.out]
        simp [*]
      | false =>
        cases q_size : (rs != 0) with
        | true =>
          go_wp2_with fail
          go_ret
          refine ⟨?_, f0⟩
          rw [HSP2.out]
          simp [*]
        | false =>
          rcases ne with _ | ne
          rotate_left
          · go_wp2_with fail
            go_ret
            refine ⟨?_, f0⟩
            rw [HSP2.out]
            simp [*]
          · rcases nl with _ | nl
            rotate_left
            · go_wp2_with fail
              go_ret
              refine ⟨?_, f0⟩
              rw [HSP2.out]
              simp [*]
            · rcases na with _ | na
              rotate_left
              · go_wp2_with fail
                go_ret
                refine ⟨?_, f0⟩
                rw [HSP2.out]
                simp [*]
              · go_wp2_with fail
                go_ret
                refine ⟨?_, f0⟩
                rw [HSP2.out]
                simp [*]
  · rw [hwd]
    rw [hH] at hsp0
    dsimp only at hsp0
    have HSP2 := hid hsp0
    clear hsp0 hH hwd
    go_enter Tryz.func71, Tryz.ntmps71
    go_wp2_with fail
    refine (dhas_lit ([115]) 97 97 rfl _ (by decide)).mono ?_
    rintro e _ ⟨rfl, rfl⟩
    rw [show ([115] : List UInt8).contains 97 = false by decide]
    go_wp2_with fail
    refine (dhas_lit ([115]) 98 98 rfl _ (by decide)).mono ?_
    rintro e _ ⟨rfl, rfl⟩
    rw [show ([115] : List UInt8).contains 98 = false by decide]
    go_wp2_with fail
    refine (dhas_lit ([115]) 115 115 rfl _ (by decide)).mono ?_
    rintro e _ ⟨rfl, rfl⟩
    rw [show ([115] : List UInt8).contains 115 = true by decide]
    go_wp2_with fail
    refine (dhas_lit ([115]) 101 101 rfl _ (by decide)).mono ?_
    rintro e _ ⟨rfl, rfl⟩
    rw [show ([115] : List UInt8).contains 101 = false by decide]
    go_wp2_with fail
    refine (dhas_lit ([115]) 105 105 rfl _ (by decide)).mono ?_
    rintro e _ ⟨rfl, rfl⟩
    rw [show ([115] : List UInt8).contains 105 = false by decide]
    go_wp2_with fail
    refine (dhas_lit ([115]) 104 104 rfl _ (by decide)).mono ?_
    rintro e _ ⟨rfl, rfl⟩
    rw [show ([115] : List UInt8).contains 104 = false by decide]
    go_wp2_with fail
    refine (dhas_lit ([115]) 103 103 rfl _ (by decide)).mono ?_
    rintro e _ ⟨rfl, rfl⟩
    rw [show ([115] : List UInt8).contains 103 = false by decide]
    cases q_a : (ra != 0) with
    | true =>
      go_wp2_with fail
      go_ret
      refine ⟨?_, f0⟩
      rw [HSP2.out]
      simp [*]
    | false =>
      cases q_b : (rb != 0) with
      | true =>
        go_wp2_with fail
        go_ret
        refine ⟨?_, f0⟩
        rw [HSP2.out]
        simp [*]
      | false =>
        rcases ne with _ | ne
        rotate_left
        · go_wp2_with fail
          go_ret
          refine ⟨?_, f0⟩
          rw [HSP2.out]
          simp [*]
        · rcases nl with _ | nl
          rotate_left
          · go_wp2_with fail
            go_ret
            refine ⟨?_, f0⟩
            rw [HSP2.out]
            simp [*]
          · rcases na with _ | na
            rotate_left
            · go_wp2_with fail
              go_ret
              refine ⟨?_, f0⟩
              rw [HSP2.out]
              simp [*]
            · go_wp2_with fail
              go_ret
              refine ⟨?_, f0⟩
              rw [HSP2.out]
              simp [*]
  · rw [hwd]
    rw [hH] at hsp0
    dsimp only at hsp0
    have HSP2 := hid hsp0
    clear hsp0 hH hwd
    go_enter Tryz.func71, Tryz.ntmps71
    go_wp2_with fail
    refine (dhas_lit ([97, 115]) 97 97 rfl _ (by decide)).mono ?_
    rintro e _ ⟨rfl, rfl⟩
    rw [show ([97, 115] : List UInt8).contains 97 = true by decide]
    go_wp2_with fail
    refine (dhas_lit ([97, 115]) 98 98 rfl _ (by decide)).mono ?_
    rintro e _ ⟨rfl, rfl⟩
    rw [show ([97, 115] : List UInt8).contains 98 = false by decide]
    go_wp2_with fail
    refine (dhas_lit ([97, 115]) 115 115 rfl _ (by decide)).mono ?_
    rintro e _ ⟨rfl, rfl⟩
    rw [show ([97, 115] : List UInt8).contains 115 = true by decide]
    go_wp2_with fail
    refine (dhas_lit ([97, 115]) 101 101 rfl _ (by decide)).mono ?_
    rintro e _ ⟨rfl, rfl⟩
    rw [show ([97, 115] : List UInt8).contains 101 = false by decide]
    go_wp2_with fail
    refine (dhas_lit ([97, 115]) 105 105 rfl _ (by decide)).mono ?_
    rintro e _ ⟨rfl, rfl⟩
    rw [show ([97, 115] : List UInt8).contains 105 = false by decide]
    go_wp2_with fail
    refine (dhas_lit ([97, 115]) 104 104 rfl _ (by decide)).mono ?_
    rintro e _ ⟨rfl, rfl⟩
    rw [show ([97, 115] : List UInt8).contains 104 = false by decide]
    go_wp2_with fail
    refine (dhas_lit ([97, 115]) 103 103 rfl _ (by decide)).mono ?_
    rintro e _ ⟨rfl, rfl⟩
    rw [show ([97, 115] : List UInt8).contains 103 = false by decide]
    cases q_b : (rb != 0) with
    | true =>
      go_wp2_with fail
      go_ret
      refine ⟨?_, f0⟩
      rw [HSP2.out]
      simp [*]
    | false =>
      rcases ne with _ | ne
      rotate_left
      · go_wp2_with fail
        go_ret
        refine ⟨?_, f0⟩
        rw [HSP2.out]
        simp [*]
      · rcases nl with _ | nl
        rotate_left
        · go_wp2_with fail
          go_ret
          refine ⟨?_, f0⟩
          rw [HSP2.out]
          simp [*]
        · rcases na with _ | na
          rotate_left
          · go_wp2_with fail
            go_ret
            refine ⟨?_, f0⟩
            rw [HSP2.out]
            simp [*]
          · go_wp2_with fail
            go_ret
            refine ⟨?_, f0⟩
            rw [HSP2.out]
            simp [*]
  · rw [hwd]
    rw [hH] at hsp0
    dsimp only at hsp0
    have HSP2 := hid hsp0
    clear hsp0 hH hwd
    go_enter Tryz.func71, Tryz.ntmps71
    go_wp2_with fail
    refine (dhas_lit ([115, 105]) 97 97 rfl _ (by decide)).mono ?_
    rintro e _ ⟨rfl, rfl⟩
    rw [show ([115, 105] : List UInt8).contains 97 = false by decide]
    go_wp2_with fail
    refine (dhas_lit ([115, 105]) 98 98 rfl _ (by decide)).mono ?_
    rintro e _ ⟨rfl, rfl⟩
    rw [show ([115, 105] : List UInt8).contains 98 = false by decide]
    go_wp2_with fail
    refine (dhas_lit ([115, 105]) 115 115 rfl _ (by decide)).mono ?_
    rintro e _ ⟨rfl, rfl⟩
    rw [show ([115, 105] : List UInt8).contains 115 = true by decide]
    go_wp2_with fail
    refine (dhas_lit ([115, 105]) 101 101 rfl _ (by decide)).mono ?_
    rintro e _ ⟨rfl, rfl⟩
    rw [show ([115, 105] : List UInt8).contains 101 = false by decide]
    go_wp2_with fail
    refine (dhas_lit ([115, 105]) 105 105 rfl _ (by decide)).mono ?_
    rintro e _ ⟨rfl, rfl⟩
    rw [show ([115, 105] : List UInt8).contains 105 = true by decide]
    go_wp2_with fail
    refine (dhas_lit ([115, 105]) 103 103 rfl _ (by decide)).mono ?_
    rintro e _ ⟨rfl, rfl⟩
    rw [show ([115, 105] : List UInt8).contains 103 = false by decide]
    cases q_a : (ra != 0) with
    | true =>
      go_wp2_with fail
      go_ret
      refine ⟨?_, f0⟩
      rw [HSP2.out]
      simp [*]
    | false =>
      cases q_b : (rb != 0) with
      | true =>
        go_wp2_with fail
        go_ret
        refine ⟨?_, f0⟩
        rw [HSP2.out]
        simp [*]
      | false =>
        rcases ne with _ | ne
        rotate_left
        · go_wp2_with fail
          go_ret
          refine ⟨?_, f0⟩
          rw [HSP2.out]
          simp [*]
        · rcases na with _ | na
          rotate_left
          · go_wp2_with fail
            go_ret
            refine ⟨?_, f0⟩
            rw [HSP2.out]
            simp [*]
          · go_wp2_with fail
            go_ret
            refine ⟨?_, f0⟩
            rw [HSP2.out]
            simp [*]
  · rw [hwd]
    rw [hH] at hsp0
    dsimp only at hsp0
    have HSP2 := hid hsp0
    clear hsp0 hH hwd
    go_enter Tryz.func71, Tryz.ntmps71
    go_wp2_with fail
    refine (dhas_lit ([104]) 97 97 rfl _ (by decide)).mono ?_
    rintro e _ ⟨rfl, rfl⟩
    rw [show ([104] : List UInt8).contains 97 = false by decide]
    go_wp2_with fail
    refine (dhas_lit ([104]) 98 98 rfl _ (by decide)).mono ?_
    rintro e _ ⟨rfl, rfl⟩
    rw [show ([104] : List UInt8).contains 98 = false by decide]
    go_wp2_with fail
    refine (dhas_lit ([104]) 115 115 rfl _ (by decide)).mono ?_
    rintro e _ ⟨rfl, rfl⟩
    rw [show ([104] : List UInt8).contains 115 = false by decide]
    go_wp2_with fail
    refine (dhas_lit ([104]) 101 101 rfl _ (by decide)).mono ?_
    rintro e _ ⟨rfl, rfl⟩
    rw [show ([104] : List UInt8).contains 101 = false by decide]
    go_wp2_with fail
    refine (dhas_lit ([104]) 105 105 rfl _ (by decide)).mono ?_
    rintro e _ ⟨rfl, rfl⟩
    rw [show ([104] : List UInt8).contains 105 = false by decide]
    go_wp2_with fail
    refine (dhas_lit ([104]) 104 104 rfl _ (by decide)).mono ?_
    rintro e _ ⟨rfl, rfl⟩
    rw [show ([104] : List UInt8).contains 104 = true by decide]
    go_wp2_with fail
    refine (dhas_lit ([104]) 103 103 rfl _ (by decide)).mono ?_
    rintro e _ ⟨rfl, rfl⟩
    rw [show ([104] : List UInt8).contains 103 = false by decide]
    cases q_a : (ra != 0) with
    | true =>
      go_wp2_with fail
      go_ret
      refine ⟨?_, f0⟩
      rw [HSP2.out]
      simp [*]
    | false =>
      cases q_b : (rb != 0) with
      | true =>
        go_wp2_with fail
        go_ret
        refine ⟨?_, f0⟩
        rw [HSP2.out]
        simp [*]
      | false =>
        cases q_size : (rs != 0) with
        | true =>
          go_wp2_with fail
          go_ret
          refine ⟨?_, f0⟩
          rw [HSP2.out]
          simp [*]
        | false =>
          rcases ne with _ | ne
          rotate_left
          · go_wp2_with fail
            go_ret
            refine ⟨?_, f0⟩
            rw [HSP2.out]
            simp [*]
          · rcases na with _ | na
            rotate_left
            · go_wp2_with fail
              go_ret
              refine ⟨?_, f0⟩
              rw [HSP2.out]
              simp [*]
            · go_wp2_with fail
              go_ret
              refine ⟨?_, f0⟩
              rw [HSP2.out]
              simp [*]
  · rw [hwd]
    rw [hH] at hsp0
    dsimp only at hsp0
    have HSP2 := hid hsp0
    clear hsp0 hH hwd
    go_enter Tryz.func71, Tryz.ntmps71
    go_wp2_with fail
    refine (dhas_lit ([97, 98, 115]) 97 97 rfl _ (by decide)).mono ?_
    rintro e _ ⟨rfl, rfl⟩
    rw [show ([97, 98, 115] : List UInt8).contains 97 = true by decide]
    go_wp2_with fail
    refine (dhas_lit ([97, 98, 115]) 98 98 rfl _ (by decide)).mono ?_
    rintro e _ ⟨rfl, rfl⟩
    rw [show ([97, 98, 115] : List UInt8).contains 98 = true by decide]
    go_wp2_with fail
    refine (dhas_lit ([97, 98, 115]) 115 115 rfl _ (by decide)).mono ?_
    rintro e _ ⟨rfl, rfl⟩
    rw [show ([97, 98, 115] : List UInt8).contains 115 = true by decide]
    go_wp2_with fail
    refine (dhas_lit ([97, 98, 115]) 101 101 rfl _ (by decide)).mono ?_
    rintro e _ ⟨rfl, rfl⟩
    rw [show ([97, 98, 115] : List UInt8).contains 101 = false by decide]
    go_wp2_with fail
    refine (dhas_lit ([97, 98, 115]) 105 105 rfl _ (by decide)).mono ?_
    rintro e _ ⟨rfl, rfl⟩
    rw [show ([97, 98, 115] : List UInt8).contains 105 = false by decide]
    go_wp2_with fail
    refine (dhas_lit ([97, 98, 115]) 104 104 rfl _ (by decide)).mono ?_
    rintro e _ ⟨rfl, rfl⟩
    rw [show ([97, 98, 115] : List UInt8).contains 104 = false by decide]
    go_wp2_with fail
    refine (dhas_lit ([97, 98, 115]) 103 103 rfl _ (by decide)).mono ?_
    rintro e _ ⟨rfl, rfl⟩
    rw [show ([97, 98, 115] : List UInt8).contains 103 = false by decide]
    rcases ne with _ | ne
    rotate_left
    · go_wp2_with fail
      go_ret
      refine ⟨?_, f0⟩
      rw [HSP2.out]
      simp [*]
    · rcases nl with _ | nl
      rotate_left
      · go_wp2_with fail
        go_ret
        refine ⟨?_, f0⟩
        rw [HSP2.out]
        simp [*]
      · rcases na with _ | na
        rotate_left
        · go_wp2_with fail
          go_ret
          refine ⟨?_, f0⟩
          rw [HSP2.out]
          simp [*]
        · go_wp2_with fail
          go_ret
          refine ⟨?_, f0⟩
          rw [HSP2.out]
          simp [*]
  · rw [hwd]
    rw [hH] at hsp0
    dsimp only at hsp0
    have HSP2 := hid hsp0
    clear hsp0 hH hwd
    go_enter Tryz.func71, Tryz.ntmps71
    go_wp2_with fail
    refine (dhas_lit ([97]) 97 97 rfl _ (by decide)).mono ?_
    rintro e _ ⟨rfl, rfl⟩
    rw [show ([97] : List UInt8).contains 97 = true by decide]
    go_wp2_with fail
    refine (dhas_lit ([97]) 98 98 rfl _ (by decide)).mono ?_
    rintro e _ ⟨rfl, rfl⟩
    rw [show ([97] : List UInt8).contains 98 = false by decide]
    go_wp2_with fail
    refine (dhas_lit ([97]) 115 115 rfl _ (by decide)).mono ?_
    rintro e _ ⟨rfl, rfl⟩
    rw [show ([97] : List UInt8).contains 115 = false by decide]
    go_wp2_with fail
    refine (dhas_lit ([97]) 101 101 rfl _ (by decide)).mono ?_
    rintro e _ ⟨rfl, rfl⟩
    rw [show ([97] : List UInt8).contains 101 = false by decide]
    go_wp2_with fail
    refine (dhas_lit ([97]) 105 105 rfl _ (by decide)).mono ?_
    rintro e _ ⟨rfl, rfl⟩
    rw [show ([97] : List UInt8).contains 105 = false by decide]
    go_wp2_with fail
    refine (dhas_lit ([97]) 104 104 rfl _ (by decide)).mono ?_
    rintro e _ ⟨rfl, rfl⟩
    rw [show ([97] : List UInt8).contains 104 = false by decide]
    go_wp2_with fail
    refine (dhas_lit ([97]) 103 103 rfl _ (by decide)).mono ?_
    rintro e _ ⟨rfl, rfl⟩
    rw [show ([97] : List UInt8).contains 103 = false by decide]
    cases q_b : (rb != 0) with
    | true =>
      go_wp2_with fail
      go_ret
      refine ⟨?_, f0⟩
      rw [HSP2.out]
      simp [*]
    | false =>
      cases q_size : (rs != 0) with
      | true =>
        go_wp2_with fail
        go_ret
        refine ⟨?_, f0⟩
        rw [HSP2.out]
        simp [*]
      | false =>
        rcases ne with _ | ne
        rotate_left
        · go_wp2_with fail
          go_ret
          refine ⟨?_, f0⟩
          rw [HSP2.out]
          simp [*]
        · rcases nl with _ | nl
          rotate_left
          · go_wp2_with fail
            go_ret
            refine ⟨?_, f0⟩
            rw [HSP2.out]
            simp [*]
          · rcases na with _ | na
            rotate_left
            · go_wp2_with fail
              go_ret
              refine ⟨?_, f0⟩
              rw [HSP2.out]
              simp [*]
            · go_wp2_with fail
              go_ret
              refine ⟨?_, f0⟩
              rw [HSP2.out]
              simp [*]
  · rw [hwd]
    rw [hH] at hsp0
    dsimp only at hsp0
    have HSP2 := hid hsp0
    clear hsp0 hH hwd
    go_enter Tryz.func71, Tryz.ntmps71
    go_wp2_with fail
    refine (dhas_lit ([103]) 97 97 rfl _ (by decide)).mono ?_
    rintro e _ ⟨rfl, rfl⟩
    rw [show ([103] : List UInt8).contains 97 = false by decide]
    go_wp2_with fail
    refine (dhas_lit ([103]) 98 98 rfl _ (by decide)).mono ?_
    rintro e _ ⟨rfl, rfl⟩
    rw [show ([103] : List UInt8).contains 98 = false by decide]
    go_wp2_with fail
    refine (dhas_lit ([103]) 115 115 rfl _ (by decide)).mono ?_
    rintro e _ ⟨rfl, rfl⟩
    rw [show ([103] : List UInt8).contains 115 = false by decide]
    go_wp2_with fail
    refine (dhas_lit ([103]) 101 101 rfl _ (by decide)).mono ?_
    rintro e _ ⟨rfl, rfl⟩
    rw [show ([103] : List UInt8).contains 101 = false by decide]
    go_wp2_with fail
    refine (dhas_lit ([103]) 105 105 rfl _ (by decide)).mono ?_
    rintro e _ ⟨rfl, rfl⟩
    rw [show ([103] : List UInt8).contains 105 = false by decide]
    go_wp2_with fail
    refine (dhas_lit ([103]) 104 104 rfl _ (by decide)).mono ?_
    rintro e _ ⟨rfl, rfl⟩
    rw [show ([103] : List UInt8).contains 104 = false by decide]
    go_wp2_with fail
    refine (dhas_lit ([103]) 103 103 rfl _ (by decide)).mono ?_
    rintro e _ ⟨rfl, rfl⟩
    rw [show ([103] : List UInt8).contains 103 = true by decide]
    cases q_a : (ra != 0) with
    | true =>
      go_wp2_with fail
      go_ret
      refine ⟨?_, f0⟩
      rw [HSP2.out]
      simp [*]
    | false =>
      cases q_b : (rb != 0) with
      | true =>
        go_wp2_with fail
        go_ret
        refine ⟨?_, f0⟩
        rw [HSP2.out]
        simp [*]
      | false =>
        cases q_size : (rs != 0) with
        | true =>
          go_wp2_with fail
          go_ret
          refine ⟨?_, f0⟩
          rw [HSP2.out]
          simp [*]
        | false =>
          rcases ne with _ | ne
          rotate_left
          · go_wp2_with fail
            go_ret
            refine ⟨?_, f0⟩
            rw [HSP2.out]
            simp [*]
          · rcases nl with _ | nl
            rotate_left
            · go_wp2_with fail
              go_ret
              refine ⟨?_, f0⟩
              rw [HSP2.out]
              simp [*]
            · go_wp2_with fail
              go_ret
              refine ⟨?_, f0⟩
              rw [HSP2.out]
              simp [*]
  · rw [hwd]
    rw [hH] at hsp0
    dsimp only at hsp0
    have HSP2 := hid hsp0
    clear hsp0 hH hwd
    go_enter Tryz.func71, Tryz.ntmps71
    go_wp2_with fail
    refine (dhas_lit ([] : List UInt8) 97 97 rfl _ (by decide)).mono ?_
    rintro e _ ⟨rfl, rfl⟩
    rw [show ([] : List UInt8).contains 97 = false by decide]
    go_wp2_with fail
    refine (dhas_lit ([] : List UInt8) 98 98 rfl _ (by decide)).mono ?_
    rintro e _ ⟨rfl, rfl⟩
    rw [show ([] : List UInt8).contains 98 = false by decide]
    go_wp2_with fail
    refine (dhas_lit ([] : List UInt8) 115 115 rfl _ (by decide)).mono ?_
    rintro e _ ⟨rfl, rfl⟩
    rw [show ([] : List UInt8).contains 115 = false by decide]
    go_wp2_with fail
    refine (dhas_lit ([] : List UInt8) 101 101 rfl _ (by decide)).mono ?_
    rintro e _ ⟨rfl, rfl⟩
    rw [show ([] : List UInt8).contains 101 = false by decide]
    go_wp2_with fail
    refine (dhas_lit ([] : List UInt8) 105 105 rfl _ (by decide)).mono ?_
    rintro e _ ⟨rfl, rfl⟩
    rw [show ([] : List UInt8).contains 105 = false by decide]
    go_wp2_with fail
    refine (dhas_lit ([] : List UInt8) 104 104 rfl _ (by decide)).mono ?_
    rintro e _ ⟨rfl, rfl⟩
    rw [show ([] : List UInt8).contains 104 = false by decide]
    go_wp2_with fail
    refine (dhas_lit ([] : List UInt8) 103 103 rfl _ (by decide)).mono ?_
    rintro e _ ⟨rfl, rfl⟩
    rw [show ([] : List UInt8).contains 103 = false by decide]
    cases q_a : (ra != 0) with
    | true =>
      go_wp2_with fail
      go_ret
      refine ⟨?_, f0⟩
      rw [HSP2.out]
      simp [*]
    | false =>
      cases q_b : (rb != 0) with
      | true =>
        go_wp2_with fail
        go_ret
        refine ⟨?_, f0⟩
        rw [HSP2.out]
        simp [*]
      | false =>
        cases q_size : (rs != 0) with
        | true =>
          go_wp2_with fail
          go_ret
          refine ⟨?_, f0⟩
          rw [HSP2.out]
          simp [*]
        | false =>
          rcases ne with _ | ne
          rotate_left
          · go_wp2_with fail
            go_ret
            refine ⟨?_, f0⟩
            rw [HSP2.out]
            simp [*]
          · rcases nl with _ | nl
            rotate_left
            · go_wp2_with fail
              go_ret
              refine ⟨?_, f0⟩
              rw [HSP2.out]
              simp [*]
            · rcases na with _ | na
              rotate_left
              · go_wp2_with fail
                go_ret
                refine ⟨?_, f0⟩
                rw [HSP2.out]
                simp [*]
              · go_wp2_with fail
                go_ret
                refine ⟨?_, f0⟩
                rw [HSP2.out]
                simp [*]
end Go.Proofs.YtpccaodkgboefaaGreatDoor
