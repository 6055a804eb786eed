/-
  The device: are all texts of a page's length?
-/
import Derived.Test.YtbhienlalpbflaaDvBase
namespace Go.Proofs.Ytbhienlalpbflaa
open Go.RowKit

def every256 : List (List UInt8) → Bool
  | [] => true
  | s :: r => decide (s.length = 256) && every256 r
set_option maxRecDepth 100000 in
theorem not256_any (s : List UInt8) (w : World) (_hs : s.length ≤ 9223372036854775807) :
    Calls Try.prog 30 #[.string (str s)] w fun e w' => e = .returned (.bool (!decide (s.length = 256))) ∧ w = w' := by
  have hsz := str_size s
  have hb : ((s.length : Int) != 256) = !decide (s.length = 256) := by
    by_cases h : s.length = 256
    · rw [h]; rfl
    · rw [decide_eq_false h]; simp; omega
  have HB := hid hb
  clear hb
  go_enter Try.func30, Try.ntmps30
  go_wp2_with fail
  go_ret
  exact ⟨congrArg (fun b => Ending.returned (Value.bool b)) HB.out, rfl⟩

set_option maxRecDepth 100000 in
set_option maxHeartbeats 1000000 in
theorem index_any (v : Value) (l : List (List UInt8)) (w : World) (hl : TextsAt w v l) (hll : l.length ≤ 9223372036854775807) (hs : ∀ s ∈ l, s.length ≤ 9223372036854775807) :
    Calls Try.prog 57 #[v, .func (.func 30) #[] #[]] w fun e w' => ∃ i : Int, e = .returned (.int .i64 i) ∧ w = w' ∧ (0 ≤ i ↔ every256 l = false) := by
  obtain ⟨ao, cap, rfl, hc⟩ := hl
  have HC := hid hc
  have HS := hid hs
  clear hc hs
  go_enter Try.func57, Try.ntmps57
  go_wp2_with fail
  go_loopw [8] (fun i wr => ∃ (n : Nat), i = .int .i64 (n : Int) ∧ n ≤ l.length ∧ Hid (every256 l = every256 (l.drop n)) ∧ w = wr) (fun i _ => l.length - (intOf i).toNat)
  case atStart => exact ⟨0, rfl, by omega, rfl, rfl⟩
  case round =>
    obtain ⟨n, rfl, hn, HE, rfl⟩ := hrel
    by_cases hlt : n < l.length
    · obtain ⟨s, hs⟩ : ∃ s, l[n]? = some s := ⟨l[n], by simp [hlt]⟩
      obtain ⟨bb, off, hao, hbb, hcell⟩ := HC.out n s hs
      have hE := HE.out
      rw [drop_cons hs] at hE
      simp only [every256] at hE
      have hsl := HS.out s (List.mem_of_getElem? hs)
      subst hao
      have hnot := not256_any s w hsl
      by_cases h256 : s.length = 256
      · rw [decide_eq_true h256] at hnot
        have HN := hid hnot
        have hE2 : Hid (every256 l = every256 (l.drop (n + 1))) := by rw [Hid, hE]; simp [h256]
        clear hE h256 hnot hs HE
        go_wp2_with fail
        refine HN.out.mono ?_
        rintro e w2 ⟨rfl, rfl⟩
        go_wp2
        go_roundw
        case rel => exact ⟨n + 1, by go_num, by omega, hE2, by first | rfl | trivial⟩
        case measure => simp [intOf]; omega
      · rw [decide_eq_false h256] at hnot
        have HN := hid hnot
        have hE2 : Hid (every256 l = false) := by rw [Hid, hE]; simp [h256]
        clear hE h256 hnot hs HE
        go_wp2_with fail
        refine HN.out.mono ?_
        rintro e w2 ⟨rfl, rfl⟩
        go_wp2
        go_ret
        exact ⟨_, rfl, rfl, by rw [hE2.out]; simp⟩
    · have hE2 : Hid (every256 l = true) := by rw [Hid, HE.out, List.drop_eq_nil_of_le (by omega)]; rfl
      clear HE
      go_wp2
      go_ret
      exact ⟨_, rfl, rfl, by rw [hE2.out]; simp⟩

set_option maxRecDepth 100000 in
theorem contains_any (v : Value) (l : List (List UInt8)) (w : World) (hl : TextsAt w v l) (hll : l.length ≤ 9223372036854775807) (hs : ∀ s ∈ l, s.length ≤ 9223372036854775807) :
    Calls Try.prog 29 #[v, .func (.func 30) #[] #[]] w fun e w' => e = .returned (.bool (!every256 l)) ∧ w = w' := by
  have hi := index_any v l w hl hll hs
  obtain ⟨ev, hev⟩ : ∃ ev, every256 l = ev := ⟨_, rfl⟩
  rw [hev] at hi ⊢
  have HI := hid hi
  clear hi hev
  go_enter Try.func29, Try.ntmps29
  go_wp2_with fail
  refine HI.out.mono ?_
  rintro e w2 ⟨i, rfl, rfl, hiff⟩
  cases ev with
  | true =>
    have hi : ¬ (0 ≤ i) := fun h => absurd (hiff.1 h) (by simp)
    clear hiff
    go_wp2
    go_ret
    exact ⟨by simp; omega, rfl⟩
  | false =>
    have hi : 0 ≤ i := hiff.2 rfl
    clear hiff
    go_wp2
    go_ret
    exact ⟨by simp, rfl⟩

end Go.Proofs.Ytbhienlalpbflaa
