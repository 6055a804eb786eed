/-
  Package codec: the Writer's Rising.
-/
import Derived.Test.YtpccaodkgboefaaGreatDoorMCxL
namespace Go.Proofs.YtpccaodkgboefaaGreatDoor
open Go.RowKit

/-- A slice whose elements can be read. -/
def ListAt (w : World) (v : Value) (xs : List Value) : Prop :=
  (xs = [] ∧ ∃ ao cap, v = .slice ao 0 cap) ∨ ∃ bb off cap, v = .slice (some ⟨bb, off, none⟩) xs.length cap ∧ bb < w.heap.size ∧ ∀ j u, xs[j]? = some u → w.cell? ⟨bb, off + j, none⟩ = some u
theorem ListAt.keeps_if {S : Nat → Prop} {w w' : World} {v : Value} {xs : List Value} (h : ListAt w v xs) (hk : Keeps S w w') (hn : ∀ g, v.ownBlock = some g → xs ≠ [] → ¬ S g) : ListAt w' v xs := by
  rcases h with h | ⟨bb, off, cap, rfl, hb, hc⟩
  · exact .inl h
  · exact .inr ⟨bb, off, cap, rfl, Nat.lt_of_lt_of_le hb hk.size, fun j u hj => (hk.cell (p := ⟨bb, off + j, none⟩) hb (hn bb rfl (by rintro rfl; simp at hj))).trans (hc j u hj)⟩
theorem ListAt.keeps {S : Nat → Prop} {w w' : World} {v : Value} {xs : List Value} (h : ListAt w v xs) (hk : Keeps S w w') (hn : ∀ g, v.ownBlock = some g → ¬ S g) : ListAt w' v xs := h.keeps_if hk (fun g hg _ => hn g hg)
theorem ListAt.ofRow {w : World} {base : Nat} {e : TypeId} {v : Value} {n : Nat} {xs : List Value} (h : w.ownsRow base e 1 v n xs) : ListAt w v xs := by
  have hl := h.1
  rcases h.2 with ⟨rfl, rfl⟩ | ⟨g, cap, cur, rfl, _, hg, _⟩
  · exact .inl ⟨List.eq_nil_of_length_eq_zero (by simpa using hl), _, _, rfl⟩
  · refine .inr ⟨g, 0, cap, by simp at hl; rw [hl], lt_of_block hg, fun j u hj => ?_⟩
    have := h.cells (g := g) rfl j u hj
    rw [addr_add0] at this
    simpa using this

def rises : Int → List Int → Bool
  | _, [] => true
  | last, n :: r => decide (last < n) && decide (n ≤ 4611686018427387904) && rises n r
def deltas : Int → List Int → List UInt8
  | _, [] => []
  | last, n :: r => digs (n - (last + 1)).toNat ++ deltas n r
def wRising (st : List UInt8 × Int) (l : List Int) : List UInt8 × Int :=
  if rises (-1) l then (st.1 ++ digs l.length ++ deltas (-1) l, st.2) else wRefuse st 20

/-- the number ahead of place k, or -1 -/
def lastAt (l : List Int) (k : Nat) : Int := if k = 0 then -1 else l.getD (k - 1) 0
theorem drop_at {α : Type} {l : List α} {k : Nat} {x : α} (h : l[k]? = some x) : l.drop k = x :: l.drop (k + 1) := by
  obtain ⟨hk, rfl⟩ := List.getElem?_eq_some_iff.1 h
  exact List.drop_eq_getElem_cons hk
theorem lastAt_succ {l : List Int} {k : Nat} {x : Int} (h : l[k]? = some x) : lastAt l (k + 1) = x := by simp [lastAt, List.getD, h]
theorem lastAt_zero (l : List Int) : lastAt l 0 = -1 := rfl

/-- in numbers that rise each is above the one ahead, and none is below nought -/
theorem rises_at : ∀ (l : List Int) (last : Int) (k : Nat) (x : Int), rises last l = true → -1 ≤ last → l[k]? = some x → last < x ∧ x ≤ 4611686018427387904 ∧ (0 < k → ∀ y, l[k - 1]? = some y → y < x ∧ 0 ≤ y)
  | [], _, _, _, _, _, h => by simp at h
  | n :: r, last, 0, x, hr, hl, h => by
    simp [rises] at hr h
    subst h
    exact ⟨hr.1.1, hr.1.2, fun h => absurd h (by omega)⟩
  | n :: r, last, k + 1, x, hr, hl, h => by
    simp [rises] at hr
    obtain ⟨⟨h1, h2⟩, h3⟩ := hr
    simp only [List.getElem?_cons_succ] at h
    have ih := rises_at r n k x h3 (by omega) h
    refine ⟨by omega, ih.2.1, fun _ y hy => ?_⟩
    rcases k with _ | k
    · simp at hy; subst hy; exact ⟨ih.1, by omega⟩
    · simp at hy
      exact ih.2.2 (by omega) y (by simpa using hy)
theorem ints_at {l : List Int} {k : Nat} (h : k < l.length) : ∃ x, l[k]? = some x ∧ (ints l)[k]? = some (.int .i64 x) := ⟨l[k], by simp [h], by simp [ints, h]⟩

theorem digs_len10' {n : Nat} (h : n ≤ 4611686018427387904) : (digs n).length ≤ 10 := digs_len10 (by omega)

/-- one round of the check -/
theorem rises_step {l : List Int} {k : Nat} {x : Int} (h : l[k]? = some x) : rises (lastAt l k) (l.drop k) = (decide (lastAt l k < x) && decide (x ≤ 4611686018427387904) && rises (lastAt l (k + 1)) (l.drop (k + 1))) := by
  rw [drop_at h, lastAt_succ h]; rfl
theorem deltas_step {l : List Int} {k : Nat} {x : Int} (h : l[k]? = some x) : deltas (lastAt l k) (l.drop k) = digs (x - (lastAt l k + 1)).toNat ++ deltas (lastAt l (k + 1)) (l.drop (k + 1)) := by
  rw [drop_at h, lastAt_succ h]; rfl
theorem deltas_len : ∀ (l : List Int) (last : Int), rises last l = true → -1 ≤ last → (deltas last l).length ≤ 10 * l.length
  | [], _, _, _ => by simp [deltas]
  | n :: r, last, hr, hl => by
    simp [rises] at hr
    have := deltas_len r n hr.2 (by omega)
    have := digs_len10 (n := (n - (last + 1)).toNat) (by omega)
    simp [deltas]; omega

set_option maxRecDepth 100000 in
set_option maxHeartbeats 2000000 in
theorem wrising_if (S : Nat → Prop) (b : Nat) (st : List UInt8 × Int) (v : Value) (l : List Int) (w : World) (h : WRep S w b st) (hv : ListAt w v (ints l)) (hvS : ∀ g, v.ownBlock = some g → l ≠ [] → ¬ S g)
    (hlen : st.1.length + 10 * l.length + 10 < 70368744177664) :
    Calls Tryz.prog 112 #[.pointer (some ⟨b, 0, none⟩), v] w fun e w' => e = .returned (.tuple #[]) ∧ Acts S w w' fun S' => WRep S' w' b (wRising st l) := by
  have hll : (ints l).length = l.length := by simp [ints]
  rcases hv with ⟨hx, ao, cap, rfl⟩ | ⟨bb, off, cap, rfl, hbb, hc⟩
  · have hl0 : l = [] := by simpa [ints] using hx
    subst hl0
    have HF : Hid (wRising st [] = wNum st 0) := by simp [Hid, wRising, rises, deltas, wNum]
    go_enter Tryz.func112, Tryz.ntmps112
    go_wp2
    refine wp_loop_rounds 1 ?_
    rw [rounds_succ]
    go_wp2_with fail
    refine (wnum_any S b st 0 _ h (by omega)).mono ?_
    rintro e w1 ⟨rfl, hA⟩
    go_wp2
    refine wp_loop_rounds 1 ?_
    rw [rounds_succ]
    go_wp2
    go_end0
    rw [HF.out]
    exact ⟨rfl, hA⟩
  · rw [hll] at *
    have hcell : ∀ k x, l[k]? = some x → w.cell? ⟨bb, off + k, none⟩ = some (.int .i64 x) := fun k x hk => hc k _ (by simp [ints, hk])
    have HC := hid hcell
    have HV := hid hvS
    clear hc hcell hvS
    go_enter Tryz.func112, Tryz.ntmps112
    go_wp2
    go_loop [10] (fun i => ∃ k : Nat, i = .int .i64 (k : Int) ∧ k ≤ l.length ∧ Hid (rises (-1) l = rises (lastAt l k) (l.drop k)) ∧ -1 ≤ lastAt l k) (fun i => l.length - (intOf i).toNat)
    case atStart => exact ⟨0, rfl, by omega, rfl, by simp [lastAt]⟩
    case round =>
      obtain ⟨k, rfl, hk, HR, hla⟩ := hrel
      by_cases hkl : k < l.length
      · obtain ⟨x, hx, _⟩ := ints_at hkl
        have hcx := HC.out k x hx
        have HX := hid hx
        have hst := rises_step hx
        have hls := lastAt_succ hx
        by_cases hneg : x < 0
        · have HF : Hid (wRising st l = wRefuse st 20) := by
            have : ¬ lastAt l k < x := by omega
            simp [Hid, wRising, HR.out, hst, this]
          clear hst hls hx
          go_wp2_with fail
          refine (refuse_any S b st 20 _ (by decide) h).mono ?_
          rintro e w1 ⟨rfl, hA⟩
          go_wp2
          first | go_end0 | refine bodyPost_ret (results_none rfl _ _ _) rfl ?_
          rw [HF.out]
          exact ⟨rfl, hA⟩
        · by_cases hbig : 4611686018427387904 < x
          · have HF : Hid (wRising st l = wRefuse st 20) := by
              have : ¬ x ≤ 4611686018427387904 := by omega
              simp [Hid, wRising, HR.out, hst, this]
            clear hst hls hx
            go_wp2_with fail
            refine (refuse_any S b st 20 _ (by decide) h).mono ?_
            rintro e w1 ⟨rfl, hA⟩
            go_wp2
            first | go_end0 | refine bodyPost_ret (results_none rfl _ _ _) rfl ?_
            rw [HF.out]
            exact ⟨rfl, hA⟩
          · rcases k with _ | k
            · have HR2 : Hid (rises (-1) l = rises (lastAt l (0 + 1)) (l.drop (0 + 1))) := by
                have h1 : lastAt l 0 < x := by rw [lastAt_zero]; omega
                have h2 : x ≤ 4611686018427387904 := by omega
                rw [Hid, HR.out, hst]; simp [h1, h2]
              have hla2 : -1 ≤ lastAt l (0 + 1) := by rw [hls]; omega
              clear hst hls hx
              simp only [Nat.add_zero] at hcx
              go_wp2
              go_round
              case rel => exact ⟨0 + 1, by go_num, by omega, HR2, hla2⟩
              case measure => simp [intOf]; omega
            · obtain ⟨y, hy, _⟩ := ints_at (l := l) (k := k) (by omega)
              have hcy := HC.out k y hy
              have hly := lastAt_succ hy
              by_cases hle : x ≤ y
              · have HF : Hid (wRising st l = wRefuse st 20) := by
                  have : ¬ lastAt l (k + 1) < x := by rw [hly]; omega
                  simp [Hid, wRising, HR.out, hst, this]
                clear hst hls hx hly hy
                go_wp2_with fail
                refine (refuse_any S b st 20 _ (by decide) h).mono ?_
                rintro e w1 ⟨rfl, hA⟩
                go_wp2
                first | go_end0 | refine bodyPost_ret (results_none rfl _ _ _) rfl ?_
                rw [HF.out]
                exact ⟨rfl, hA⟩
              · have HR2 : Hid (rises (-1) l = rises (lastAt l (k + 1 + 1)) (l.drop (k + 1 + 1))) := by
                  have h1 : lastAt l (k + 1) < x := by rw [hly]; omega
                  have h2 : x ≤ 4611686018427387904 := by omega
                  rw [Hid, HR.out, hst]; simp [h1, h2]
                have hla2 : -1 ≤ lastAt l (k + 1 + 1) := by rw [hls]; omega
                clear hst hls hx hly hy
                go_wp2
                go_round
                case rel => exact ⟨k + 1 + 1, by go_num, by omega, HR2, hla2⟩
                case measure => simp [intOf]; omega
      · have hke : k = l.length := by omega
        have HRT : Hid (rises (-1) l = true) := by rw [Hid, HR.out, hke, List.drop_length]; rfl
        clear hke
        go_wp2_with fail
        refine (wnum_any S b st l.length _ h (by omega)).mono ?_
        rintro e w1 ⟨rfl, S1, hg1, hk1, hr1⟩
        have HN : Hid (wNum st l.length = (st.1 ++ digs l.length, st.2)) := by
          have e : ¬ ((l.length : Int) < 0 ∨ 4611686018427387904 < (l.length : Int)) := by omega
          simp [Hid, wNum, e]
        rw [HN.out] at hr1
        go_wp2
        go_loopw [43] (fun i wr => ∃ (k : Nat) (pre : List UInt8) (S2 : Nat → Prop), i = .int .i64 (k : Int) ∧ k ≤ l.length ∧ Hid (deltas (-1) l = pre ++ deltas (lastAt l k) (l.drop k)) ∧ pre.length ≤ 10 * k ∧
          WRep S2 wr b (st.1 ++ digs l.length ++ pre, st.2) ∧ Grows S S2 w wr ∧ Keeps S w wr) (fun i _ => l.length - (intOf i).toNat)
        case atStart => exact ⟨0, [], S1, rfl, by omega, rfl, by simp, by simpa using hr1, hg1, hk1⟩
        case round =>
          obtain ⟨k2, pre, S2, rfl, hk2l, HD, hpre, hr2, hg2, hk2⟩ := hrel
          have hdl := digs_len10' (n := l.length) (by omega)
          by_cases hkl2 : k2 < l.length
          · obtain ⟨x, hx, _⟩ := ints_at hkl2
            have hra := rises_at l (-1) k2 x HRT.out (by omega) hx
            have hcx := (hk2.cell (p := ⟨bb, off + k2, none⟩) hbb (HV.out bb rfl (by rintro rfl; simp at hx))).trans (HC.out k2 x hx)
            have hdst := deltas_step hx
            have HD2 : Hid (deltas (-1) l = (pre ++ digs (x - (lastAt l k2 + 1)).toNat) ++ deltas (lastAt l (k2 + 1)) (l.drop (k2 + 1))) := by
              rw [Hid, HD.out, hdst]; simp
            rcases k2 with _ | k2
            · have hlz : Hid (lastAt l 0 = -1) := lastAt_zero l
              simp only [Nat.add_zero] at hcx
              have hx0 : -1 < x := hra.1
              have hx1 := hra.2.1
              have HX0 := hid hx
              have e0 : x - (lastAt l 0 + 1) = x := by rw [hlz.out]; omega
              rw [e0] at HD2
              clear hra hdst hx
              go_wp2_with fail
              refine (wnum_any S2 b _ _ _ hr2 (by simp; omega)).mono ?_
              rintro e w3 ⟨rfl, S3, hg3, hk3, hr3⟩
              have hr4 : WRep S3 w3 b (st.1 ++ digs l.length ++ (pre ++ digs x.toNat), st.2) := by
                have e : ¬ (x < 0 ∨ 4611686018427387904 < x) := by omega
                simpa [wNum, e] using hr3
              have hpre2 : (pre ++ digs x.toNat).length ≤ 10 * (0 + 1) := by
                have := digs_len10' (n := x.toNat) (by omega)
                simp; omega
              obtain ⟨S4, a1, a2, a3⟩ := Acts.after (R := fun S4 => S4 = S3) hg2 hk2 ⟨S3, hg3, hk3, rfl⟩
              subst a3
              go_wp2
              go_roundw
              case rel => exact ⟨0 + 1, _, S4, by go_num, by omega, HD2, hpre2, hr4, a1, a2⟩
              case measure => simp [intOf]; omega
            · obtain ⟨y, hy, _⟩ := ints_at (l := l) (k := k2) (by omega)
              have hcy := (hk2.cell (p := ⟨bb, off + k2, none⟩) hbb (HV.out bb rfl (by rintro rfl; simp at hy))).trans (HC.out k2 y hy)
              have hly := lastAt_succ hy
              have hyx := hra.2.2 (by omega) y (by simpa using hy)
              have hx1 := hra.2.1
              rw [hly] at HD2
              clear hra hdst hx hy hly
              go_wp2_with fail
              refine (wnum_any S2 b _ _ _ hr2 (by simp; omega)).mono ?_
              rintro e w3 ⟨rfl, S3, hg3, hk3, hr3⟩
              have hr4 : WRep S3 w3 b (st.1 ++ digs l.length ++ (pre ++ digs (x - (y + 1)).toNat), st.2) := by
                have e : ¬ (x - (y + 1) < 0 ∨ 4611686018427387904 < x - (y + 1)) := by omega
                simpa [wNum, e] using hr3
              have hpre2 : (pre ++ digs (x - (y + 1)).toNat).length ≤ 10 * (k2 + 1 + 1) := by
                have := digs_len10' (n := (x - (y + 1)).toNat) (by omega)
                simp; omega
              obtain ⟨S4, a1, a2, a3⟩ := Acts.after (R := fun S4 => S4 = S3) hg2 hk2 ⟨S3, hg3, hk3, rfl⟩
              subst a3
              go_wp2
              go_roundw
              case rel => exact ⟨k2 + 1 + 1, _, S4, by go_num, by omega, HD2, hpre2, hr4, a1, a2⟩
              case measure => simp [intOf]; omega
          · have hke : k2 = l.length := by omega
            have HF : Hid (wRising st l = (st.1 ++ digs l.length ++ pre, st.2)) := by
              have hd : deltas (-1) l = pre := by rw [HD.out, hke, List.drop_length]; simp [deltas]
              simp only [Hid, wRising]; rw [if_pos HRT.out, hd]
            clear hke
            go_wp2
            go_end0
            rw [HF.out]
            exact ⟨rfl, S2, hg2, hk2, hr2⟩
theorem wrising_any (S : Nat → Prop) (b : Nat) (st : List UInt8 × Int) (v : Value) (l : List Int) (w : World) (h : WRep S w b st) (hv : ListAt w v (ints l)) (hvS : ∀ g, v.ownBlock = some g → ¬ S g)
    (hlen : st.1.length + 10 * l.length + 10 < 70368744177664) :
    Calls Tryz.prog 112 #[.pointer (some ⟨b, 0, none⟩), v] w fun e w' => e = .returned (.tuple #[]) ∧ Acts S w w' fun S' => WRep S' w' b (wRising st l) :=
  wrising_if S b st v l w h hv (fun g hg _ => hvS g hg) hlen
end Go.Proofs.YtpccaodkgboefaaGreatDoor
