/-
  The document's Writer: Rising, Texts, Hashes.
-/
import Derived.Test.YtfjflnlcjnhmmaaDoorXwRep
import Derived.Test.YtfjflnlcjnhmmaaDoorCxWTexts
import Derived.Deep.RegionLaw
namespace Go.Proofs.YtfjflnlcjnhmmaaDoor
open Go.RowKit

def fits (most : Int) : List (List UInt8) → Bool
  | [] => true
  | s :: r => decide ((s.length : Int) ≤ most) && fits most r
def body : List (List UInt8) → List UInt8
  | [] => []
  | s :: r => digs s.length ++ s ++ body r
def all32 : List (List UInt8) → Bool
  | [] => true
  | s :: r => decide (s.length = 32) && all32 r
def flat : List (List UInt8) → List UInt8
  | [] => []
  | s :: r => s ++ flat r
def xTexts (st : List UInt8 × Int) (l : List (List UInt8)) (many most : Int) : List UInt8 × Int :=
  if many < 0 ∨ most < 0 then wRefuse st 1 else if many < l.length then wRefuse st 22 else if fits most l then (st.1 ++ (digs l.length ++ body l), st.2) else wRefuse st 22
def xHashes (st : List UInt8 × Int) (l : List (List UInt8)) (many : Int) : List UInt8 × Int :=
  if many < 0 then wRefuse st 1 else if many < l.length then wRefuse st 22 else if all32 l then (st.1 ++ (digs l.length ++ flat l), st.2) else wRefuse st 20

theorem body_len : ∀ l : List (List UInt8), (∀ s ∈ l, s.length ≤ 9223372036854775807) → (body l).length ≤ bulk l
  | [], _ => by simp [body]
  | s :: r, h => by
    have := body_len r fun s hs => h s (by simp [hs])
    have := digs_len10 (h s (by simp))
    simp [body, bulk]; omega
theorem flat_len : ∀ l : List (List UInt8), (flat l).length ≤ bulk l
  | [] => by simp [flat]
  | s :: r => by have := flat_len r; simp [flat, bulk]; omega
theorem mem_bulk : ∀ {l : List (List UInt8)} {s : List UInt8}, s ∈ l → s.length ≤ bulk l
  | s' :: r, s, h => by
    rcases List.mem_cons.1 h with rfl | h
    · simp [bulk]; omega
    · have := mem_bulk h; simp [bulk]; omega

/-- a list of numbers in memory, for a walk -/
theorem ListAt.intl {w : World} {v : Value} {l : List Int} (h : ListAt w v (ints l)) :
    ∃ ao cap, v = .slice ao l.length cap ∧ ∀ (k : Nat) (x : Int), l[k]? = some x → ∃ bb off, ao = some ⟨bb, off, none⟩ ∧ bb < w.heap.size ∧ w.cell? ⟨bb, off + k, none⟩ = some (.int .i64 x) := by
  have hll : (ints l).length = l.length := by simp [ints]
  rcases h with ⟨hx, ao, cap, rfl⟩ | ⟨bb, off, cap, rfl, hbb, hc⟩
  · have : l = [] := by simpa [ints] using hx
    subst this
    exact ⟨ao, cap, rfl, fun k p hk => by simp at hk⟩
  · exact ⟨_, cap, by rw [hll], fun k p hk => ⟨bb, off, rfl, hbb, hc k _ (by simp [ints, hk])⟩⟩

set_option maxRecDepth 100000 in
set_option maxHeartbeats 2000000 in
theorem xrising_any (b : Nat) (st : List UInt8 × Int) (v : Value) (l : List Int) (w : World) (h : XRep w b st) (hv : ListAt w v (ints l)) (hi : ∀ x ∈ l, -9223372036854775808 ≤ x ∧ x ≤ 9223372036854775807)
    (hlen : st.1.length + 10 * l.length + 10 < 70368744177664) :
    Calls Tryd.prog 44 #[.pointer (some ⟨b, 0, none⟩), v] w fun e w' => e = .returned (.tuple #[]) ∧ Keeps (fun k => k = b) w w' ∧ XRep w' b (wRising st l) := by
  obtain ⟨ao, cap, rfl, hc⟩ := hv.intl
  have HC := hid hc
  clear hc hv
  have hd10 := digs_len10 (n := l.length) (by omega)
  generalize hdd : digs l.length = d at hd10
  have HD := hid hdd
  have HI := hid hi
  clear hdd hi
  go_enter Tryd.func44, Tryd.ntmps44
  go_wp2_with fail
  refine (refdigits_any l.length w (by omega)).mono ?_
  rw [HD.out]
  rintro e w1 ⟨rfl, hf1⟩
  go_wp2
  go_loopw [4, 5, 6] (fun s la i wr => ∃ (k : Nat) (pre : List UInt8) (last : Int), s = .string (str pre) ∧ la = .int .i64 last ∧ i = .int .i64 (k : Int) ∧ k ≤ l.length ∧ -1 ≤ last ∧ last ≤ 4611686018427387904 ∧ pre.length ≤ 10 + 10 * k ∧ Fresh w wr ∧
    Hid (rises (-1) l = rises last (l.drop k)) ∧ Hid (d ++ deltas (-1) l = pre ++ deltas last (l.drop k))) (fun _ _ i _ => l.length - (intOf i).toNat)
  case atStart => exact ⟨0, d, -1, rfl, rfl, rfl, by omega, by omega, by omega, by omega, hf1, rfl, rfl⟩
  case round =>
    obtain ⟨k, pre, last, rfl, rfl, rfl, hkl, hl1, hl2, hpre, hf, HR, HE⟩ := hrel
    by_cases hlt : k < l.length
    · obtain ⟨x, hx⟩ : ∃ x, l[k]? = some x := ⟨l[k], by simp [hlt]⟩
      obtain ⟨bb, off, hao, hbb, hcw⟩ := HC.out k x hx
      have hcell := (hf.cell (p := ⟨bb, off + k, none⟩) hbb (fun h => h)).trans hcw
      have hxb := HI.out x (List.mem_of_getElem? hx)
      have hx1 := hxb.1
      have hx2 := hxb.2
      have hR := HR.out
      have hE := HE.out
      rw [drop_at hx] at hR hE
      simp only [rises, deltas] at hR hE
      subst hao
      clear hx hcw hxb
      by_cases hgood : last < x ∧ x ≤ 4611686018427387904
      · obtain ⟨hg1, hg2⟩ := hgood
        obtain ⟨m, hm⟩ : ∃ m : Nat, (m : Int) = x - last - 1 := ⟨(x - last - 1).toNat, by omega⟩
        have hm2 : (x - (last + 1)).toNat = m := by omega
        have hmy : isNum x = true := by simp [isNum]; omega
        have hmd := digs_len10 (n := m) (by omega)
        rw [hm2] at hE
        have hR2 : Hid (rises (-1) l = rises x (l.drop (k + 1))) := by simpa [Hid, hg1, hg2] using hR
        generalize hdm : digs m = dm at hmd hE
        have HE2 : Hid (d ++ deltas (-1) l = (pre ++ dm) ++ deltas x (l.drop (k + 1))) := by rw [Hid, hE, List.append_assoc]
        have HDM := hid hdm
        clear hR hE hdm hm2
        go_wp2_with fail
        refine (xmay_any x _).mono ?_
        rintro e w2 ⟨rfl, rfl⟩
        rw [hmy]
        clear hmy
        have hnle : ¬ x ≤ last := by omega
        go_wp2_with fail
        rw [← hm]
        refine (refdigits_any m _ (by omega)).mono ?_
        rw [HDM.out]
        rintro e w2 ⟨rfl, hf2⟩
        have hsp := str_size pre
        have hsd := str_size dm
        have hcat := str_append
        have hcell2 := (hf2.cell (p := ⟨bb, off + k, none⟩) (Nat.lt_of_lt_of_le hbb hf.size) (fun h => h)).trans hcell
        clear hcell
        go_wp2
        go_roundw
        case rel => exact ⟨k + 1, pre ++ dm, x, rfl, rfl, by go_num, by omega, by omega, by omega, by simp; omega, hf.trans hf2, hR2, HE2⟩
        case measure => simp [intOf]; omega
      · have hF : Hid (wRising st l = (st.1, first st.2 20)) := by
          have : rises (-1) l = false := by
            rw [hR]; simp; intro h1 h2; exact absurd ⟨h1, h2⟩ hgood
          simp [Hid, wRising, this, wRefuse]
        clear hR hE
        have h2 := h.keeps hf (fun h => h)
        by_cases hmy : isNum x = true
        · have hle : x ≤ last := by simp [isNum] at hmy; omega
          go_wp2_with fail
          refine (xmay_any x _).mono ?_
          rintro e w2 ⟨rfl, rfl⟩
          rw [hmy]
          clear hmy hgood
          go_wp2_with fail
          refine (xwrong_any b st 20 _ h2).mono ?_
          rintro e w' ⟨rfl, hk, hA⟩
          go_wp2
          first | go_end0 | refine bodyPost_ret (results_none rfl _ _ _) rfl ?_
          rw [hF.out]
          exact ⟨rfl, (hf.mono fun _ _ h => h.elim).trans hk, hA⟩
        · have hmy : isNum x = false := by simpa using hmy
          go_wp2_with fail
          refine (xmay_any x _).mono ?_
          rintro e w2 ⟨rfl, rfl⟩
          rw [hmy]
          clear hmy hgood
          go_wp2_with fail
          refine (xwrong_any b st 20 _ h2).mono ?_
          rintro e w' ⟨rfl, hk, hA⟩
          go_wp2
          first | go_end0 | refine bodyPost_ret (results_none rfl _ _ _) rfl ?_
          rw [hF.out]
          exact ⟨rfl, (hf.mono fun _ _ h => h.elim).trans hk, hA⟩
    · have hke : k = l.length := by omega
      have hF : Hid (wRising st l = (st.1 ++ pre, st.2)) := by
        have h1 := HR.out
        have h2 := HE.out
        rw [hke, List.drop_length] at h1 h2
        simp [rises] at h1
        simp [deltas] at h2
        simp only [Hid, wRising, h1, if_true, HD.out, List.append_assoc, h2]
      clear hke
      have h2 := h.keeps hf (fun h => h)
      obtain ⟨c0, c1, f0, f1, hb⟩ := h2.cells
      have hsp := str_size pre
      have hss := str_size st.1
      have hcat := str_append
      go_wp2
      go_end0
      rw [hF.out]
      have hs := h2.setS (Keeps.refl _ _) (st.1 ++ pre)
      exact ⟨rfl, (hf.mono fun _ _ h => h.elim).trans hs.1, hs.2⟩

set_option maxRecDepth 100000 in
set_option maxHeartbeats 2000000 in
theorem xtexts_any (b : Nat) (st : List UInt8 × Int) (v : Value) (l : List (List UInt8)) (many most : Int) (w : World) (h : XRep w b st) (hv : ListAt w v (texts l))
    (hlen : st.1.length + bulk l + l.length + 10 < 70368744177664) :
    Calls Tryd.prog 48 #[.pointer (some ⟨b, 0, none⟩), v, .int .i64 many, .int .i64 most] w fun e w' => e = .returned (.tuple #[]) ∧ Keeps (fun k => k = b) w w' ∧ XRep w' b (xTexts st l many most) := by
  obtain ⟨ao, cap, rfl, hc⟩ := hv.texts
  have HC := hid hc
  clear hc hv
  by_cases hneg : many < 0 ∨ most < 0
  · have HF : Hid (xTexts st l many most = wRefuse st 1) := by simp only [Hid, xTexts]; rw [if_pos hneg]
    by_cases hm0 : many < 0
    all_goals
      first | (have hneg2 : most < 0 := by omega) | skip
      go_enter Tryd.func48, Tryd.ntmps48
      go_wp2_with fail
      refine (xwrong_any b st 1 _ h).mono ?_
      rintro e w1 ⟨rfl, hA⟩
      go_wp2
      first | go_end0 | refine bodyPost_ret (results_none rfl _ _ _) rfl ?_
      rw [HF.out]
      exact ⟨rfl, hA⟩
  · by_cases hmany : many < l.length
    · have HF : Hid (xTexts st l many most = wRefuse st 22) := by simp only [Hid, xTexts]; rw [if_neg hneg, if_pos hmany]
      have hn1 : ¬ many < 0 := by omega
      have hn2 : ¬ most < 0 := by omega
      go_enter Tryd.func48, Tryd.ntmps48
      go_wp2_with fail
      refine (xwrong_any b st 22 _ h).mono ?_
      rintro e w1 ⟨rfl, hA⟩
      go_wp2
      first | go_end0 | refine bodyPost_ret (results_none rfl _ _ _) rfl ?_
      rw [HF.out]
      exact ⟨rfl, hA⟩
    · have HF : Hid (xTexts st l many most = if fits most l then (st.1 ++ (digs l.length ++ body l), st.2) else wRefuse st 22) := by simp only [Hid, xTexts]; rw [if_neg hneg, if_neg hmany]
      have hn1 : ¬ many < 0 := by omega
      have hn2 : ¬ most < 0 := by omega
      have hd10 := digs_len10 (n := l.length) (by omega)
      generalize hdd : digs l.length = d at hd10 HF
      have HD := hid hdd
      clear hneg hdd
      go_enter Tryd.func48, Tryd.ntmps48
      go_wp2_with fail
      refine (refdigits_any l.length w (by omega)).mono ?_
      rw [HD.out]
      rintro e w1 ⟨rfl, hf1⟩
      go_wp2
      go_loopw [8, 9] (fun s i wr => ∃ (k : Nat) (pre : List UInt8), s = .string (str pre) ∧ i = .int .i64 (k : Int) ∧ k ≤ l.length ∧ pre.length ≤ 10 + bulk (l.take k) ∧ Fresh w wr ∧
        Hid (fits most l = fits most (l.drop k)) ∧ Hid (d ++ body l = pre ++ body (l.drop k))) (fun _ i _ => l.length - (intOf i).toNat)
      case atStart => exact ⟨0, d, rfl, rfl, by omega, by simp [bulk]; omega, hf1, rfl, rfl⟩
      case round =>
        obtain ⟨k, pre, rfl, rfl, hkl, hpre, hf, HR, HE⟩ := hrel
        by_cases hlt : k < l.length
        · obtain ⟨s, hs⟩ : ∃ s, l[k]? = some s := ⟨l[k], by simp [hlt]⟩
          obtain ⟨bb, off, hao, hbb, hcw⟩ := HC.out k s hs
          have hcell := (hf.cell (p := ⟨bb, off + k, none⟩) hbb (fun h => h)).trans hcw
          have hbt := bulk_take_drop l k
          have hR := HR.out
          have hE := HE.out
          rw [drop_at hs] at hbt hR hE
          simp only [bulk] at hbt
          simp only [fits, body] at hR hE
          have hbt2 := bulk_take_drop l (k + 1)
          have hszs := str_size s
          subst hao
          clear hs hcw
          by_cases hfit : (s.length : Int) ≤ most
          · have hR2 : Hid (fits most l = fits most (l.drop (k + 1))) := by simpa [Hid, hfit] using hR
            have hsd10 := digs_len10 (n := s.length) (by omega)
            generalize hdm : digs s.length = dm at hsd10 hE
            obtain ⟨p1, hp1⟩ : ∃ p1, p1 = pre ++ dm := ⟨_, rfl⟩
            have hc1 : str pre ++ str dm = str p1 := by rw [hp1]; exact str_append _ _
            have hc2 : str p1 ++ str s = str (p1 ++ s) := str_append _ _
            have hp1l : p1.length = pre.length + dm.length := by rw [hp1]; simp
            have HE2 : Hid (d ++ body l = (p1 ++ s) ++ body (l.drop (k + 1))) := by rw [Hid, hE, hp1]; simp [List.append_assoc]
            have HDM := hid hdm
            have hsp := str_size pre
            have hsdm := str_size dm
            have hsp1 := str_size p1
            clear hR hE hdm hp1
            have hnle : ¬ most < (s.length : Int) := by omega
            have hcellA : wr.drew.cell? ⟨bb, off + k, none⟩ = some (.string (str s)) := hcell
            have frA : Fresh w wr.drew := hf.drew
            have hbbw := Nat.lt_of_lt_of_le hbb hf.size
            have hov1 : ¬ 9223372036854775807 < pre.length + dm.length := by omega
            have hov2 : ¬ 9223372036854775807 < p1.length + s.length := by omega
            have hov3 : ¬ 9223372036854775807 < pre.length + dm.length + s.length := by omega
            go_wp2_with fail
            go_region_law (first | (go_simp; go_at_call 38; refine (refdigits_any s.length _ (by omega)).mono ?_; rw [HDM.out]; rintro e w5 ⟨rfl, f5⟩; have hcell5 := (f5.cell (p := ⟨bb, off + k, none⟩) hbbw (fun h => h)).trans hcellA; have f6 := frA.trans f5))
            all_goals
              go_wp2
              go_roundw
              case rel => exact ⟨k + 1, p1 ++ s, rfl, by go_num, by omega, by simp; omega, f6, hR2, HE2⟩
              case measure => simp [intOf]; omega
          · have HF2 : Hid (xTexts st l many most = (st.1, first st.2 22)) := by
              have hfl : fits most l = false := by rw [hR]; simp [hfit]
              rw [Hid, HF.out, hfl]; simp [wRefuse]
            have h2 := h.keeps hf (fun h => h)
            clear hR hE
            have hlt2 : most < (s.length : Int) := by omega
            go_wp2_with fail
            refine (xwrong_any b st 22 _ h2).mono ?_
            rintro e w' ⟨rfl, hk, hA⟩
            go_wp2
            first | go_end0 | refine bodyPost_ret (results_none rfl _ _ _) rfl ?_
            rw [HF2.out]
            exact ⟨rfl, (hf.mono fun _ _ h => h.elim).trans hk, hA⟩
        · have hke : k = l.length := by omega
          have hbt := bulk_take_drop l k
          have HF2 : Hid (xTexts st l many most = (st.1 ++ pre, st.2)) := by
            have h1 := HR.out
            have h2 := HE.out
            rw [hke, List.drop_length] at h1 h2
            simp only [fits] at h1
            simp [body] at h2
            simp only [Hid, HF.out, h1, if_true, h2]
          clear hke
          have h2 := h.keeps hf (fun h => h)
          obtain ⟨c0, c1, f0, f1, hb⟩ := h2.cells
          have hsp := str_size pre
          have hss := str_size st.1
          have hcat := str_append
          go_wp2
          go_end0
          rw [HF2.out]
          have hs := h2.setS (Keeps.refl _ _) (st.1 ++ pre)
          exact ⟨rfl, (hf.mono fun _ _ h => h.elim).trans hs.1, hs.2⟩

set_option maxRecDepth 100000 in
set_option maxHeartbeats 2000000 in
theorem xhashes_any (b : Nat) (st : List UInt8 × Int) (v : Value) (l : List (List UInt8)) (many : Int) (w : World) (h : XRep w b st) (hv : ListAt w v (texts l))
    (hlen : st.1.length + bulk l + l.length + 10 < 70368744177664) :
    Calls Tryd.prog 50 #[.pointer (some ⟨b, 0, none⟩), v, .int .i64 many] w fun e w' => e = .returned (.tuple #[]) ∧ Keeps (fun k => k = b) w w' ∧ XRep w' b (xHashes st l many) := by
  obtain ⟨ao, cap, rfl, hc⟩ := hv.texts
  have HC := hid hc
  clear hc hv
  by_cases hneg : many < 0
  · have HF : Hid (xHashes st l many = wRefuse st 1) := by simp only [Hid, xHashes]; rw [if_pos hneg]
    go_enter Tryd.func50, Tryd.ntmps50
    go_wp2_with fail
    refine (xwrong_any b st 1 _ h).mono ?_
    rintro e w1 ⟨rfl, hA⟩
    go_wp2
    first | go_end0 | refine bodyPost_ret (results_none rfl _ _ _) rfl ?_
    rw [HF.out]
    exact ⟨rfl, hA⟩
  · by_cases hmany : many < l.length
    · have HF : Hid (xHashes st l many = wRefuse st 22) := by simp only [Hid, xHashes]; rw [if_neg hneg, if_pos hmany]
      go_enter Tryd.func50, Tryd.ntmps50
      go_wp2_with fail
      refine (xwrong_any b st 22 _ h).mono ?_
      rintro e w1 ⟨rfl, hA⟩
      go_wp2
      first | go_end0 | refine bodyPost_ret (results_none rfl _ _ _) rfl ?_
      rw [HF.out]
      exact ⟨rfl, hA⟩
    · have HF : Hid (xHashes st l many = if all32 l then (st.1 ++ (digs l.length ++ flat l), st.2) else wRefuse st 20) := by simp only [Hid, xHashes]; rw [if_neg hneg, if_neg hmany]
      have hd10 := digs_len10 (n := l.length) (by omega)
      generalize hdd : digs l.length = d at hd10 HF
      have HD := hid hdd
      clear hdd
      go_enter Tryd.func50, Tryd.ntmps50
      go_wp2_with fail
      refine (refdigits_any l.length w (by omega)).mono ?_
      rw [HD.out]
      rintro e w1 ⟨rfl, hf1⟩
      go_wp2
      go_loopw [6, 7] (fun s i wr => ∃ (k : Nat) (pre : List UInt8), s = .string (str pre) ∧ i = .int .i64 (k : Int) ∧ k ≤ l.length ∧ pre.length ≤ 10 + bulk (l.take k) ∧ Fresh w wr ∧
        Hid (all32 l = all32 (l.drop k)) ∧ Hid (d ++ flat l = pre ++ flat (l.drop k))) (fun _ i _ => l.length - (intOf i).toNat)
      case atStart => exact ⟨0, d, rfl, rfl, by omega, by simp [bulk]; omega, hf1, rfl, rfl⟩
      case round =>
        obtain ⟨k, pre, rfl, rfl, hkl, hpre, hf, HR, HE⟩ := hrel
        by_cases hlt : k < l.length
        · obtain ⟨s, hs⟩ : ∃ s, l[k]? = some s := ⟨l[k], by simp [hlt]⟩
          obtain ⟨bb, off, hao, hbb, hcw⟩ := HC.out k s hs
          have hcell := (hf.cell (p := ⟨bb, off + k, none⟩) hbb (fun h => h)).trans hcw
          have hbt := bulk_take_drop l k
          have hR := HR.out
          have hE := HE.out
          rw [drop_at hs] at hbt hR hE
          simp only [bulk] at hbt
          simp only [all32, flat] at hR hE
          have hbt2 := bulk_take_drop l (k + 1)
          have hszs := str_size s
          subst hao
          clear hs hcw
          by_cases hfit : s.length = 32
          · have hR2 : Hid (all32 l = all32 (l.drop (k + 1))) := by simpa [Hid, hfit] using hR
            have HE2 : Hid (d ++ flat l = (pre ++ s) ++ flat (l.drop (k + 1))) := by rw [Hid, hE]; simp [List.append_assoc]
            have hsp := str_size pre
            have hcat := str_append
            have hb32 : ((s.length : Int) != 32) = false := by rw [hfit]; rfl
            clear hR hE hfit
            go_wp2
            go_roundw
            case rel => exact ⟨k + 1, pre ++ s, rfl, by go_num, by omega, by simp; omega, hf, hR2, HE2⟩
            case measure => simp [intOf]; omega
          · have HF2 : Hid (xHashes st l many = (st.1, first st.2 20)) := by
              have hfl : all32 l = false := by rw [hR]; simp [hfit]
              rw [Hid, HF.out, hfl]; simp [wRefuse]
            have h2 := h.keeps hf (fun h => h)
            clear hR hE
            have hb32 : ((s.length : Int) != 32) = true := by rw [bne_iff_ne]; omega
            go_wp2_with fail
            refine (xwrong_any b st 20 _ h2).mono ?_
            rintro e w' ⟨rfl, hk, hA⟩
            go_wp2
            first | go_end0 | refine bodyPost_ret (results_none rfl _ _ _) rfl ?_
            rw [HF2.out]
            exact ⟨rfl, (hf.mono fun _ _ h => h.elim).trans hk, hA⟩
        · have hke : k = l.length := by omega
          have hbt := bulk_take_drop l k
          have HF2 : Hid (xHashes st l many = (st.1 ++ pre, st.2)) := by
            have h1 := HR.out
            have h2 := HE.out
            rw [hke, List.drop_length] at h1 h2
            simp only [all32] at h1
            simp [flat] at h2
            simp only [Hid, HF.out, h1, if_true, h2]
          clear hke
          have h2 := h.keeps hf (fun h => h)
          obtain ⟨c0, c1, f0, f1, hb⟩ := h2.cells
          have hsp := str_size pre
          have hss := str_size st.1
          have hcat := str_append
          go_wp2
          go_end0
          rw [HF2.out]
          have hs := h2.setS (Keeps.refl _ _) (st.1 ++ pre)
          exact ⟨rfl, (hf.mono fun _ _ h => h.elim).trans hs.1, hs.2⟩
end Go.Proofs.YtfjflnlcjnhmmaaDoor
