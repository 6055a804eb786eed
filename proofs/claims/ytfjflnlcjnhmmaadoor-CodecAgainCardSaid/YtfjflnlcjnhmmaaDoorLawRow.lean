/-
  The law CodecRow: its walk.
-/
import Derived.Test.YtfjflnlcjnhmmaaDoorLawLong
import Derived.Test.YtfjflnlcjnhmmaaDoorArgs
namespace Go.Proofs.YtfjflnlcjnhmmaaDoor
open Go.RowKit

theorem addsUp_any (n m : Nat) (w : World) (h1 : n ≤ 9223372036854775807) (h2 : m ≤ 9223372036854775807) :
    Calls Tryd.prog 14 #[.int .i64 (n : Int), .int .i64 (m : Int)] w fun e w' => e = .returned (.int .i64 ((if 2147483647 < n ∨ 2147483647 < m then 2147483648 else n + m : Nat) : Int)) ∧ w = w' := by
  by_cases hn : 2147483647 < n
  · rw [if_pos (.inl hn)]
    go_enter Tryd.func14, Tryd.ntmps14
    go_wp2
    go_ret
    exact ⟨rfl, rfl⟩
  · by_cases hm : 2147483647 < m
    · rw [if_pos (.inr hm)]
      go_enter Tryd.func14, Tryd.ntmps14
      go_wp2
      go_ret
      exact ⟨rfl, rfl⟩
    · rw [if_neg (by omega)]
      go_enter Tryd.func14, Tryd.ntmps14
      go_wp2
      go_ret
      exact ⟨by simp, rfl⟩

/-- frames one behind the other -/
def frames : List (List UInt8) → List UInt8
  | [] => []
  | p :: r => digs p.length ++ (p ++ frames r)
theorem frames_append : ∀ (a b : List (List UInt8)), frames (a ++ b) = frames a ++ frames b
  | [], _ => rfl
  | p :: r, b => by simp [frames, frames_append r b]
theorem frames_len : ∀ (a : List (List UInt8)), (∀ p ∈ a, p.length ≤ 1000) → (frames a).length ≤ 1010 * a.length
  | [], _ => by simp [frames]
  | p :: r, h => by
    have h1 := h p (by simp)
    have h2 := frames_len r (fun q hq => h q (by simp [hq]))
    have := digs_len10 (n := p.length) (by omega)
    simp [frames]; omega

theorem take_at {α : Type} {l : List α} {k : Nat} {x : α} (h : l[k]? = some x) : l.take (k + 1) = l.take k ++ [x] := by
  obtain ⟨hk, rfl⟩ := List.getElem?_eq_some_iff.1 h
  rw [List.take_succ_eq_append_getElem hk]

set_option maxRecDepth 100000 in
set_option maxHeartbeats 4000000 in
theorem codecRow_walk (v : Value) (ps : List (List UInt8)) (behind : List UInt8) (cut : Int) (w : World) (hl : Laid w) (hv : ListAt w v (texts ps)) (hps : ps.length ≤ 9223372036854775807)
    (hpl : ∀ p ∈ ps, p.length ≤ 9223372036854775807) (hb : behind.length ≤ 9223372036854775807) (h1 : -9223372036854775808 ≤ cut) (h2 : cut ≤ 9223372036854775807) :
    Calls Tryd.prog 5 #[v, .string (str behind), .int .i64 cut] w fun e w' => e = .returned (.bool true) ∧ Fresh w w' := by
  have hll : (texts ps).length = ps.length := by simp [texts]
  obtain ⟨ao, cap, rfl, HC⟩ : ∃ ao cap, v = .slice ao ps.length cap ∧ Hid (∀ (k : Nat) (p : List UInt8), ps[k]? = some p → ∃ bb off, ao = some ⟨bb, off, none⟩ ∧ bb < w.heap.size ∧ w.cell? ⟨bb, off + k, none⟩ = some (.string (str p))) := by
    rcases hv with ⟨hx, ao, cap, rfl⟩ | ⟨bb, off, cap, rfl, hbb, hc⟩
    · have : ps = [] := by simpa [texts] using hx
      subst this
      exact ⟨ao, cap, rfl, fun k p hk => by simp at hk⟩
    · exact ⟨_, cap, by rw [hll], fun k p hk => ⟨bb, off, rfl, hbb, hc k _ (by simp [texts, hk])⟩⟩
  have HPL := hid hpl
  clear hpl hv hll
  have hsz := str_size behind
  by_cases hbig : 1073741823 < (if 2147483647 < ps.length ∨ 2147483647 < behind.length then 2147483648 else ps.length + behind.length : Nat)
  · go_enter Tryd.func5, Tryd.ntmps5
    go_wp2_with fail
    refine (addsUp_any ps.length behind.length w hps hb).mono ?_
    rintro e w1 ⟨rfl, rfl⟩
    generalize (if 2147483647 < ps.length ∨ 2147483647 < behind.length then 2147483648 else ps.length + behind.length : Nat) = t at *
    go_wp2
    go_ret
    exact ⟨rfl, Keeps.refl _ _⟩
  · have hsum : ps.length + behind.length ≤ 1073741823 := by
      by_cases h : 2147483647 < ps.length ∨ 2147483647 < behind.length
      · rw [if_pos h] at hbig; omega
      · rw [if_neg h] at hbig; omega
    have heq : Hid ((if 2147483647 < ps.length ∨ 2147483647 < behind.length then 2147483648 else ps.length + behind.length : Nat) = ps.length + behind.length) := by
      rw [Hid, if_neg (by omega)]
    clear hbig
    go_enter Tryd.func5, Tryd.ntmps5
    go_wp2_with fail
    refine (addsUp_any ps.length behind.length w hps hb).mono ?_
    rintro e w1 ⟨rfl, rfl⟩
    rw [heq.out]
    obtain ⟨t, ht⟩ : ∃ t, t = ps.length + behind.length := ⟨_, rfl⟩
    have htb : t ≤ 1073741823 := by omega
    rw [← ht]
    clear heq ht
    go_wp2_with fail
    refine (known_any w hl).mono ?_
    rintro e w1 ⟨rfl, f1⟩
    go_wp2
    go_loopw [8, 9] (fun s i wr => ∃ (k : Nat), i = .int .i64 (k : Int) ∧ k ≤ 30 ∧ k ≤ ps.length ∧ s = .string (str (frames (ps.take k))) ∧ Hid (∀ p ∈ ps.take k, p.length ≤ 1000) ∧ Fresh w wr) (fun _ i _ => 30 - (intOf i).toNat)
    case atStart => exact ⟨0, rfl, by omega, by omega, rfl, fun p h => by simp at h, f1⟩
    case round =>
      obtain ⟨k, rfl, hk30, hkl, rfl, HS, fr⟩ := hrel
      have hfl := frames_len _ HS.out
      have hflk : (frames (ps.take k)).length ≤ 1010 * 30 := by
        have : (ps.take k).length ≤ k := List.length_take_le _ _
        omega
      clear hfl
      by_cases hin : k < ps.length ∧ k < 30
      · obtain ⟨hk1, hk2⟩ := hin
        obtain ⟨p, hp, _⟩ := texts_at hk1
        obtain ⟨bb, off, hao, hbb, hcw⟩ := HC.out k p hp
        have hcell := (fr.cell (p := ⟨bb, off + k, none⟩) hbb (fun h => h)).trans hcw
        have HP := hid hp
        have hplen : p.length ≤ 9223372036854775807 := HPL.out p (List.mem_of_getElem? hp)
        have hszp := str_size p
        subst hao
        clear hp hcw
        by_cases hp1000 : 1000 < p.length
        · go_wp2
          go_ret
          exact ⟨rfl, fr⟩
        · have hlr := hl.keeps fr (fun h => h)
          go_wp2_with fail
          refine (frame_any p wr hplen).mono ?_
          rintro e w3 ⟨rfl, f3⟩
          have hF : framed p = (digs p.length ++ p, 0) := by simp only [framed]; rw [if_neg (by omega)]
          rw [hF]
          have hdp := digs_pos p.length
          have hd10 := digs_len10 (n := p.length) (by omega)
          obtain ⟨f, hf⟩ : ∃ f, f = digs p.length ++ p := ⟨_, rfl⟩
          have hfl1 : 0 < f.length := by rw [hf]; simp; omega
          have hfl2 : f.length ≤ 1010 := by rw [hf]; simp; omega
          have hne : (str f).toList.isEmpty = false := by rw [str_toList]; cases f with | nil => simp at hfl1 | cons _ _ => rfl
          have hne' : ¬ (str f).toList = [] := by rw [str_toList]; intro h; rw [h] at hfl1; simp at hfl1
          have hszf := str_size f
          have HF := hid hf
          rw [← hf]
          clear hf hF hdp hd10
          have f13 := fr.trans f3
          have hl3 := hl.keeps f13 (fun h => h)
          go_wp2_with fail
          refine (pick_any cut f.length w3 hfl1 (by omega) h1 h2).mono ?_
          rintro e w4 ⟨rfl, rfl⟩
          have hcl := pickN_lt cut hfl1
          generalize pickN cut f.length = c at *
          have hto := str_to f c
          have hU : Hid (unframed (f.take c) = ([], [], 21)) := by
            have := pText_short p 1048576 c (by omega) (by omega) (by rw [← HF.out]; exact hcl)
            rw [← HF.out] at this
            simp only [Hid, unframed, this]
          go_wp2_with fail
          refine (unframe_any (f.take c) w3 hl3 (by simp; omega)).mono ?_
          rw [hU.out]
          rintro e w5 ⟨rfl, f5⟩
          have f15 := f13.trans f5
          have hs0 : (str ([] : List UInt8)).toList = [] := str_toList []
          have hcat := str_append
          have hszs := str_size (frames (ps.take k))
          have hnext : Hid (frames (ps.take (k + 1)) = frames (ps.take k) ++ f) := by
            rw [Hid, take_at HP.out, frames_append, HF.out]; simp [frames]
          have hnextS : Hid (∀ q ∈ ps.take (k + 1), q.length ≤ 1000) := by
            intro q hq
            rw [take_at HP.out, List.mem_append] at hq
            rcases hq with hq | hq
            · exact HS.out q hq
            · simp at hq; subst hq; omega
          clear hto hU f13 hl3 hlr fr f3 f5
          go_wp2
          go_roundw
          case rel => exact ⟨k + 1, by go_num, by omega, by omega, by rw [hnext.out], hnextS, f15⟩
          case measure => simp [intOf]; omega
      · obtain ⟨K, hK⟩ : ∃ K, K = ps.take k := ⟨_, rfl⟩
        have hKl : Hid (K.length = k) := by rw [Hid, hK, List.length_take]; omega
        have hKle : k ≤ ps.length := hkl
        have HK := hid hK
        have hcat := str_append
        have hszs := str_size (frames (ps.take k))
        rw [← hK] at hflk hszs
        rw [← hK]
        clear hK
        by_cases hk1 : k < ps.length
        all_goals
          first | (have hk2 : ¬ k < 30 := by omega) | skip
          go_wp2
          go_loopw [8, 16] (fun s i wr2 => ∃ (j : Nat), i = .int .i64 (j : Int) ∧ j ≤ k ∧ s = .string (str (frames (K.drop j) ++ behind)) ∧ Fresh w wr2) (fun _ i _ => 30 - (intOf i).toNat)
          case atStart => exact ⟨0, rfl, by omega, rfl, fr⟩
          case round =>
            obtain ⟨j, rfl, hjk, rfl, fr2⟩ := hrel
            by_cases hjlt : j < k
            · have hkpos : ¬ k = j := by omega
              obtain ⟨p, hp, _⟩ := texts_at (ps := K) (k := j) (by rw [hKl.out]; exact hjlt)
              have hpps : ps[j]? = some p := by rw [HK.out, List.getElem?_take] at hp; rw [if_pos hjlt] at hp; exact hp
              obtain ⟨bb, off, hao, hbb, hcw⟩ := HC.out j p hpps
              have hcell := (fr2.cell (p := ⟨bb, off + j, none⟩) hbb (fun h => h)).trans hcw
              have hplen : p.length ≤ 1000 := HS.out p (by rw [← HK.out]; exact List.mem_of_getElem? hp)
              have hdj : Hid (frames (K.drop j) = digs p.length ++ (p ++ frames (K.drop (j + 1)))) := by rw [Hid, drop_at hp]; rfl
              have hfj : (frames (K.drop (j + 1))).length ≤ 1010 * 30 := by
                have h := frames_len (K.drop (j + 1)) (fun q hq => HS.out q (by rw [← HK.out]; exact List.mem_of_mem_drop hq))
                have : (K.drop (j + 1)).length ≤ k := by rw [List.length_drop, hKl.out]; omega
                omega
              have hU : Hid (unframed (frames (K.drop j) ++ behind) = (p, frames (K.drop (j + 1)) ++ behind, 0)) := by
                rw [Hid, hdj.out]
                have := pText_frame p (frames (K.drop (j + 1)) ++ behind) 1048576 (by omega) (by omega)
                simp only [List.append_assoc, unframed, this]
              have hd10 := digs_len10 (n := p.length) (by omega)
              have hdp := digs_pos p.length
              have hlen1 : (frames (K.drop j) ++ behind).length = (digs p.length).length + p.length + (frames (K.drop (j + 1)) ++ behind).length := by rw [hdj.out]; simp; omega
              have hlen2 : (frames (K.drop (j + 1)) ++ behind).length ≤ 1073741823 + 30300 := by simp; omega
              have hl2 := hl.keeps fr2 (fun h => h)
              subst hao
              clear hp hpps hcw hcat hszs
              obtain ⟨A, hA⟩ : ∃ A, A = frames (K.drop j) ++ behind := ⟨_, rfl⟩
              obtain ⟨B, hB⟩ : ∃ B, B = frames (K.drop (j + 1)) ++ behind := ⟨_, rfl⟩
              rw [← hA, ← hB] at hU hlen1
              rw [← hB] at hlen2
              rw [← hA]
              have hAl : A.length ≤ 2000000000 := by omega
              have hAB : B.length < A.length := by omega
              have HB := hid hB
              have hszA := str_size A
              have hszB := str_size B
              clear hA hB hlen1 hd10 hdp hfj
              go_wp2_with fail
              refine (unframe_any A wr hl2 (by omega)).mono ?_
              rw [hU.out]
              rintro e w5 ⟨rfl, f5⟩
              have f25 := fr2.trans f5
              have hcell5 := (f5.cell (p := ⟨bb, off + j, none⟩) (by have := fr2.size; simp only; omega) (fun h => h)).trans hcell
              clear hU hl2 hcell f5 fr2
              go_wp2
              go_roundw
              case rel => exact ⟨j + 1, by go_num, by omega, by rw [HB.out], f25⟩
              case measure => simp [intOf]; omega
            · have hjk2 : j = k := by omega
              subst hjk2
              have hd0 : frames (K.drop j) = [] := by rw [List.drop_of_length_le (by rw [hKl.out]; omega)]; rfl
              rw [hd0]
              simp only [List.nil_append]
              go_wp2
              go_ret
              exact ⟨rfl, fr2⟩
end Go.Proofs.YtfjflnlcjnhmmaaDoor
