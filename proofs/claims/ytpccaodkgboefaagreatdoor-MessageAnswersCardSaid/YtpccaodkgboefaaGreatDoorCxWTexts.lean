/-
  Package codec: the Writer's Texts and Hashes.
-/
import Derived.Test.YtpccaodkgboefaaGreatDoorCxWRise
import Derived.Test.YtpccaodkgboefaaGreatDoorMArg
namespace Go.Proofs.YtpccaodkgboefaaGreatDoor
open Go.RowKit

def wTexts (st : List UInt8 × Int) (l : List (List UInt8)) (many most : Int) : List UInt8 × Int :=
  if many < 0 ∨ most < 0 then wRefuse st 1 else if many < l.length then wRefuse st 22 else l.foldl (fun st s => wText st s most) (wNum st l.length)
def wHashList (st : List UInt8 × Int) : List (List UInt8) → List UInt8 × Int
  | [] => st
  | s :: r => if s.length = 32 then wHashList (wRaw st s) r else wRefuse st 20
def wHashes (st : List UInt8 × Int) (l : List (List UInt8)) (many : Int) : List UInt8 × Int :=
  if many < 0 then wRefuse st 1 else if many < l.length then wRefuse st 22 else wHashList (wNum st l.length) l

/-- how many bytes some texts take -/
def bulk : List (List UInt8) → Nat
  | [] => 0
  | s :: r => s.length + 10 + bulk r
theorem bulk_take_drop (l : List (List UInt8)) (k : Nat) : bulk (l.take k) + bulk (l.drop k) = bulk l := by
  induction l generalizing k with
  | nil => simp [bulk]
  | cons s r ih =>
    rcases k with _ | k
    · simp [bulk]
    · have := ih k; simp [bulk]; omega
theorem wText_len (st : List UInt8 × Int) (s : List UInt8) (most : Int) (h : s.length ≤ 9223372036854775807) : (wText st s most).1.length ≤ st.1.length + s.length + 10 := by
  have := digs_len10 h
  unfold wText wRefuse
  split
  · simp; omega
  · split
    · simp; omega
    · simp; omega

/-- a list of texts in memory, for a walk: its value and each of its cells, by name -/
theorem ListAt.texts {w : World} {v : Value} {l : List (List UInt8)} (h : ListAt w v (texts l)) :
    ∃ ao cap, v = .slice ao l.length cap ∧ ∀ (k : Nat) (s : List UInt8), l[k]? = some s → ∃ bb off, ao = some ⟨bb, off, none⟩ ∧ bb < w.heap.size ∧ w.cell? ⟨bb, off + k, none⟩ = some (.string (str s)) := by
  have hll : (Go.Proofs.YtpccaodkgboefaaGreatDoor.texts l).length = l.length := by simp [Go.Proofs.YtpccaodkgboefaaGreatDoor.texts]
  rcases h with ⟨hx, ao, cap, rfl⟩ | ⟨bb, off, cap, rfl, hbb, hc⟩
  · have : l = [] := by simpa [Go.Proofs.YtpccaodkgboefaaGreatDoor.texts] using hx
    subst this
    exact ⟨ao, cap, rfl, fun k p hk => by simp at hk⟩
  · exact ⟨_, cap, by rw [hll], fun k p hk => ⟨bb, off, rfl, hbb, hc k _ (by simp [Go.Proofs.YtpccaodkgboefaaGreatDoor.texts, hk])⟩⟩

theorem num_of_len (st : List UInt8 × Int) (n : Nat) (h : n ≤ 4611686018427387904) : wNum st n = (st.1 ++ digs n, st.2) := by
  have e : ¬ ((n : Int) < 0 ∨ 4611686018427387904 < (n : Int)) := by omega
  simp [wNum, e]

set_option maxRecDepth 100000 in
set_option maxHeartbeats 2000000 in
theorem wtexts_if (S : Nat → Prop) (b : Nat) (st : List UInt8 × Int) (v : Value) (l : List (List UInt8)) (many most : Int) (w : World) (h : WRep S w b st) (hv : ListAt w v (texts l)) (hvS : ∀ g, v.ownBlock = some g → l ≠ [] → ¬ S g)
    (hlen : st.1.length + bulk l + l.length + 10 < 70368744177664) :
    Calls Tryz.prog 65 #[.pointer (some ⟨b, 0, none⟩), v, .int .i64 many, .int .i64 most] w fun e w' => e = .returned (.tuple #[]) ∧ Acts S w w' fun S' => WRep S' w' b (wTexts st l many most) := by
  obtain ⟨ao, cap, rfl, hc⟩ := hv.texts
  have HC := hid hc
  have HV := hid hvS
  clear hc hvS hv
  by_cases hneg : many < 0 ∨ most < 0
  · have HF : Hid (wTexts st l many most = wRefuse st 1) := by simp only [Hid, wTexts]; rw [if_pos hneg]
    by_cases hm0 : many < 0
    all_goals
      first | (have hneg2 : most < 0 := by omega) | skip
      go_enter Tryz.func65, Tryz.ntmps65
      go_wp2_with fail
      refine (refuse_any S b st 1 _ (by decide) h).mono ?_
      rintro e w1 ⟨rfl, hA⟩
      go_wp2
      first | go_end0 | refine bodyPost_ret (results_none rfl _ _ _) rfl ?_
      rw [HF.out]
      exact ⟨rfl, hA⟩
  · by_cases hmany : many < l.length
    · have HF : Hid (wTexts st l many most = wRefuse st 22) := by simp only [Hid, wTexts]; rw [if_neg hneg, if_pos hmany]
      have hn1 : ¬ many < 0 := by omega
      have hn2 : ¬ most < 0 := by omega
      go_enter Tryz.func65, Tryz.ntmps65
      go_wp2_with fail
      refine (refuse_any S b st 22 _ (by decide) h).mono ?_
      rintro e w1 ⟨rfl, hA⟩
      go_wp2
      first | go_end0 | refine bodyPost_ret (results_none rfl _ _ _) rfl ?_
      rw [HF.out]
      exact ⟨rfl, hA⟩
    · have HF : Hid (wTexts st l many most = l.foldl (fun st s => wText st s most) (wNum st l.length)) := by simp only [Hid, wTexts]; rw [if_neg hneg, if_neg hmany]
      have hn1 : ¬ many < 0 := by omega
      have hn2 : ¬ most < 0 := by omega
      have hnl := num_of_len st l.length (by omega)
      have hd10 := digs_len10 (n := l.length) (by omega)
      have HN := hid hnl
      clear hneg hnl
      go_enter Tryz.func65, Tryz.ntmps65
      go_wp2_with fail
      refine (wnum_any S b st l.length _ h (by omega)).mono ?_
      rintro e w1 ⟨rfl, S1, hg1, hk1, hr1⟩
      go_wp2
      go_loopw [32] (fun i wr => ∃ (k : Nat) (st2 : List UInt8 × Int) (S2 : Nat → Prop), i = .int .i64 (k : Int) ∧ k ≤ l.length ∧ Hid (l.foldl (fun st s => wText st s most) (wNum st l.length) = (l.drop k).foldl (fun st s => wText st s most) st2) ∧
        st2.1.length ≤ st.1.length + 10 + bulk (l.take k) ∧ WRep S2 wr b st2 ∧ Grows S S2 w wr ∧ Keeps S w wr) (fun i _ => l.length - (intOf i).toNat)
      case atStart => exact ⟨0, _, S1, rfl, by omega, rfl, by rw [HN.out]; simp [bulk]; omega, hr1, hg1, hk1⟩
      case round =>
        obtain ⟨k, st2, S2, rfl, hkl, HD, hst2, hr2, hg2, hk2⟩ := hrel
        by_cases hlt : k < l.length
        · obtain ⟨s, hs⟩ : ∃ s, l[k]? = some s := ⟨l[k], by simp [hlt]⟩
          obtain ⟨bb, off, hao, hbb, hcw⟩ := HC.out k s hs
          have hcell := (hk2.cell (p := ⟨bb, off + k, none⟩) hbb (HV.out bb (by rw [hao]; rfl) (by rintro rfl; simp at hs))).trans hcw
          have hbt := bulk_take_drop l k
          rw [drop_at hs] at hbt
          simp only [bulk] at hbt
          have hbt2 := bulk_take_drop l (k + 1)
          have hD2 : Hid (l.foldl (fun st s => wText st s most) (wNum st l.length) = (l.drop (k + 1)).foldl (fun st s => wText st s most) (wText st2 s most)) := by
            rw [Hid, HD.out, drop_at hs]; rfl
          have hwl := wText_len st2 s most (by omega)
          subst hao
          clear hs hcw
          go_wp2_with fail
          refine (wtext_any S2 b st2 (str s) most _ hr2 (by rw [str_size]; omega)).mono ?_
          rw [str_data]
          rintro e w3 ⟨rfl, S3, hg3, hk3, hr3⟩
          obtain ⟨S4, a1, a2, a3⟩ := Acts.after (R := fun S4 => S4 = S3) hg2 hk2 ⟨S3, hg3, hk3, rfl⟩
          subst a3
          clear hcell
          go_wp2
          go_roundw
          case rel => exact ⟨k + 1, _, S4, by go_num, by omega, hD2, by omega, hr3, a1, a2⟩
          case measure => simp [intOf]; omega
        · have hke : k = l.length := by omega
          have HF2 : Hid (wTexts st l many most = st2) := by rw [Hid, HF.out, HD.out, hke, List.drop_length]; rfl
          clear hke
          go_wp2
          go_end0
          rw [HF2.out]
          exact ⟨rfl, S2, hg2, hk2, hr2⟩

set_option maxRecDepth 100000 in
set_option maxHeartbeats 2000000 in
theorem whashes_if (S : Nat → Prop) (b : Nat) (st : List UInt8 × Int) (v : Value) (l : List (List UInt8)) (many : Int) (w : World) (h : WRep S w b st) (hv : ListAt w v (texts l)) (hvS : ∀ g, v.ownBlock = some g → l ≠ [] → ¬ S g)
    (hlen : st.1.length + 32 * l.length + l.length + 10 < 70368744177664) :
    Calls Tryz.prog 133 #[.pointer (some ⟨b, 0, none⟩), v, .int .i64 many] w fun e w' => e = .returned (.tuple #[]) ∧ Acts S w w' fun S' => WRep S' w' b (wHashes st l many) := by
  obtain ⟨ao, cap, rfl, hc⟩ := hv.texts
  have HC := hid hc
  have HV := hid hvS
  clear hc hvS hv
  by_cases hneg : many < 0
  · have HF : Hid (wHashes st l many = wRefuse st 1) := by simp only [Hid, wHashes]; rw [if_pos hneg]
    go_enter Tryz.func133, Tryz.ntmps133
    go_wp2_with fail
    refine (refuse_any S b st 1 _ (by decide) h).mono ?_
    rintro e w1 ⟨rfl, hA⟩
    go_wp2
    first | go_end0 | refine bodyPost_ret (results_none rfl _ _ _) rfl ?_
    rw [HF.out]
    exact ⟨rfl, hA⟩
  · by_cases hmany : many < l.length
    · have HF : Hid (wHashes st l many = wRefuse st 22) := by simp only [Hid, wHashes]; rw [if_neg hneg, if_pos hmany]
      go_enter Tryz.func133, Tryz.ntmps133
      go_wp2_with fail
      refine (refuse_any S b st 22 _ (by decide) h).mono ?_
      rintro e w1 ⟨rfl, hA⟩
      go_wp2
      first | go_end0 | refine bodyPost_ret (results_none rfl _ _ _) rfl ?_
      rw [HF.out]
      exact ⟨rfl, hA⟩
    · have HF : Hid (wHashes st l many = wHashList (wNum st l.length) l) := by simp only [Hid, wHashes]; rw [if_neg hneg, if_neg hmany]
      have hnl := num_of_len st l.length (by omega)
      have hd10 := digs_len10 (n := l.length) (by omega)
      have HN := hid hnl
      clear hnl
      go_enter Tryz.func133, Tryz.ntmps133
      go_wp2_with fail
      refine (wnum_any S b st l.length _ h (by omega)).mono ?_
      rintro e w1 ⟨rfl, S1, hg1, hk1, hr1⟩
      go_wp2
      go_loopw [26] (fun i wr => ∃ (k : Nat) (st2 : List UInt8 × Int) (S2 : Nat → Prop), i = .int .i64 (k : Int) ∧ k ≤ l.length ∧ Hid (wHashList (wNum st l.length) l = wHashList st2 (l.drop k)) ∧
        st2.1.length ≤ st.1.length + 10 + 32 * k ∧ WRep S2 wr b st2 ∧ Grows S S2 w wr ∧ Keeps S w wr) (fun i _ => l.length - (intOf i).toNat)
      case atStart => exact ⟨0, _, S1, rfl, by omega, rfl, by rw [HN.out]; simp; omega, hr1, hg1, hk1⟩
      case round =>
        obtain ⟨k, st2, S2, rfl, hkl, HD, hst2, hr2, hg2, hk2⟩ := hrel
        by_cases hlt : k < l.length
        · obtain ⟨s, hs⟩ : ∃ s, l[k]? = some s := ⟨l[k], by simp [hlt]⟩
          obtain ⟨bb, off, hao, hbb, hcw⟩ := HC.out k s hs
          have hcell := (hk2.cell (p := ⟨bb, off + k, none⟩) hbb (HV.out bb (by rw [hao]; rfl) (by rintro rfl; simp at hs))).trans hcw
          have hszs := str_size s
          subst hao
          by_cases h32 : s.length = 32
          · have hD2 : Hid (wHashList (wNum st l.length) l = wHashList (wRaw st2 s) (l.drop (k + 1))) := by
              rw [Hid, HD.out, drop_at hs, wHashList, if_pos h32]
            have hsz32 : (str s).size = 32 := by rw [hszs, h32]
            have H32 := hid h32
            have hb32 : ((s.length : Int) != 32) = false := by rw [h32]; rfl
            clear hs hcw hszs h32
            go_wp2_with fail
            refine (wraw_any S2 b st2 (str s) _ hr2 (by rw [hsz32]; omega)).mono ?_
            rw [str_data]
            rintro e w3 ⟨rfl, S3, hg3, hk3, hr3⟩
            obtain ⟨S4, a1, a2, a3⟩ := Acts.after (R := fun S4 => S4 = S3) hg2 hk2 ⟨S3, hg3, hk3, rfl⟩
            subst a3
            clear hcell
            go_wp2
            go_roundw
            case rel => exact ⟨k + 1, _, S4, by go_num, by omega, hD2, by simp only [wRaw, List.length_append, H32.out]; omega, hr3, a1, a2⟩
            case measure => simp [intOf]; omega
          · have HF2 : Hid (wHashes st l many = wRefuse st2 20) := by rw [Hid, HF.out, HD.out, drop_at hs, wHashList, if_neg h32]
            have hb32 : ((s.length : Int) != 32) = true := by rw [bne_iff_ne]; omega
            clear hs hcw
            go_wp2_with fail
            refine (refuse_any S2 b st2 20 _ (by decide) hr2).mono ?_
            rintro e w3 ⟨rfl, S3, hg3, hk3, hr3⟩
            go_wp2
            first | go_end0 | refine bodyPost_ret (results_none rfl _ _ _) rfl ?_
            rw [HF2.out]
            exact ⟨rfl, .after hg2 hk2 ⟨S3, hg3, hk3, hr3⟩⟩
        · have hke : k = l.length := by omega
          have HF2 : Hid (wHashes st l many = st2) := by rw [Hid, HF.out, HD.out, hke, List.drop_length]; rfl
          clear hke
          go_wp2
          go_end0
          rw [HF2.out]
          exact ⟨rfl, S2, hg2, hk2, hr2⟩
theorem wtexts_any (S : Nat → Prop) (b : Nat) (st : List UInt8 × Int) (v : Value) (l : List (List UInt8)) (many most : Int) (w : World) (h : WRep S w b st) (hv : ListAt w v (texts l)) (hvS : ∀ g, v.ownBlock = some g → ¬ S g)
    (hlen : st.1.length + bulk l + l.length + 10 < 70368744177664) :
    Calls Tryz.prog 65 #[.pointer (some ⟨b, 0, none⟩), v, .int .i64 many, .int .i64 most] w fun e w' => e = .returned (.tuple #[]) ∧ Acts S w w' fun S' => WRep S' w' b (wTexts st l many most) :=
  wtexts_if S b st v l many most w h hv (fun g hg _ => hvS g hg) hlen
theorem whashes_any (S : Nat → Prop) (b : Nat) (st : List UInt8 × Int) (v : Value) (l : List (List UInt8)) (many : Int) (w : World) (h : WRep S w b st) (hv : ListAt w v (texts l)) (hvS : ∀ g, v.ownBlock = some g → ¬ S g)
    (hlen : st.1.length + 32 * l.length + l.length + 10 < 70368744177664) :
    Calls Tryz.prog 133 #[.pointer (some ⟨b, 0, none⟩), v, .int .i64 many] w fun e w' => e = .returned (.tuple #[]) ∧ Acts S w w' fun S' => WRep S' w' b (wHashes st l many) :=
  whashes_if S b st v l many w h hv (fun g hg _ => hvS g hg) hlen
end Go.Proofs.YtpccaodkgboefaaGreatDoor
