/-
  The document's trie: has a lookup its form?
-/
import Derived.Test.YtmflbchiapdhbaaDoorTrNone
namespace Go.Proofs.YtmflbchiapdhbaaDoor
open Go.RowKit

def every32 : List (List UInt8) → Bool
  | [] => true
  | s :: r => decide (s.length = 32) && every32 r
/-- do the bits of two digests agree from place i on, so many? -/
def agree (a b : List UInt8) : Nat → Nat → Bool
  | _, 0 => true
  | i, n + 1 => decide (bitAt a i = bitAt b i) && agree a b (i + 1) n
def formOf (l : List (List UInt8)) (there : Bool) (key val k : List UInt8) : Bool :=
  decide (l.length ≤ 256) && every32 l && (if there then decide (key.length = 32) && decide (val.length = 32) && agree key k 0 l.length else decide (key = []) && decide (val = []))
theorem drop_cons {α : Type} {l : List α} {k : Nat} {x : α} (h : l[k]? = some x) : l.drop k = x :: l.drop (k + 1) := by
  obtain ⟨hk, rfl⟩ := List.getElem?_eq_some_iff.1 h
  exact List.drop_eq_getElem_cons hk

set_option maxRecDepth 100000 in
set_option maxHeartbeats 1000000 in
theorem refform_any (v : Value) (l : List (List UInt8)) (there : Bool) (key val k : List UInt8) (w : World) (hl : TextsAt w v l) (hk : k.length = 32) (hkey : key.length ≤ 9223372036854775807) (hval : val.length ≤ 9223372036854775807) (hll : l.length ≤ 9223372036854775807) (hs : ∀ s ∈ l, s.length ≤ 9223372036854775807) :
    Calls Tryd.prog 30 #[.agg #[v, .bool there, .string (str key), .string (str val)], .string (str k)] w fun e w' => e = .returned (.bool (formOf l there key val k)) ∧ Fresh w w' := by
  obtain ⟨ao, cap, rfl, hc⟩ := hl
  have HC := hid hc
  have HS := hid hs
  clear hc hs
  have hskey := str_size key
  have hsval := str_size val
  by_cases h256 : l.length ≤ 256
  · go_enter Tryd.func30, Tryd.ntmps30
    go_wp2_with fail
    go_loopw [5] (fun i wr => ∃ (n : Nat), i = .int .i64 (n : Int) ∧ n ≤ l.length ∧ Hid (every32 l = every32 (l.drop n)) ∧ wr.heap[w.heap.size]? = some (.cells #[.slice ao l.length cap, .bool there, .string (str key), .string (str val)] 24 (0, 0)) ∧ Fresh w wr) (fun i _ => l.length - (intOf i).toNat)
    case atStart => exact ⟨0, rfl, by omega, rfl, heap_alloc_new w _, (Keeps.refl _ _).alloc _⟩
    case round =>
      obtain ⟨n, rfl, hn, HE, hb, hf⟩ := hrel
      have c0 := cell_at hb 0
      have c1 := cell_at hb 1
      have c2 := cell_at hb 2
      have c3 := cell_at hb 3
      simp at c0 c1 c2 c3
      by_cases hlt : n < l.length
      · obtain ⟨s, hs⟩ : ∃ s, l[n]? = some s := ⟨l[n], by simp [hlt]⟩
        obtain ⟨bb, off, hao, hbb, hcw⟩ := HC.out n s hs
        have hcell := (hf.cell (p := ⟨bb, off + n, none⟩) hbb (fun h => h)).trans hcw
        have hE := HE.out
        rw [drop_cons hs] at hE
        simp only [every32] at hE
        have hsz := str_size s
        have hsl := HS.out s (List.mem_of_getElem? hs)
        subst hao
        clear hs hcw
        by_cases h32 : s.length = 32
        · have hE2 : Hid (every32 l = every32 (l.drop (n + 1))) := by simpa [Hid, h32] using hE
          have hb32 : ((s.length : Int) != 32) = false := by rw [h32]; rfl
          clear hE h32
          go_wp2
          go_roundw
          case rel => exact ⟨n + 1, by go_num, by omega, hE2, hb, hf⟩
          case measure => simp [intOf]; omega
        · have hF : Hid (formOf l there key val k = false) := by
            have : every32 l = false := by rw [hE]; simp [h32]
            simp [Hid, formOf, this]
          have hb32 : ((s.length : Int) != 32) = true := by rw [bne_iff_ne]; omega
          clear hE h32
          go_wp2
          go_ret
          exact ⟨by rw [hF.out]; rfl, hf⟩
      · have hne : n = l.length := by omega
        have hall : Hid (every32 l = true) := by rw [Hid, HE.out, hne, List.drop_length]; rfl
        clear hne HE
        cases there
        · have hkl := str_toList key
          have hvl := str_toList val
          have hF : Hid (formOf l false key val k = (decide (key = []) && decide (val = []))) := by simp [Hid, formOf, h256, hall.out]
          go_wp2_with fail
          · have hk0 : key = [] := by assumption
            go_ret
            refine ⟨?_, hf⟩
            rw [hF.out]
            cases val <;> simp [hk0]
          · have hk0 : ¬ key = [] := by assumption
            go_ret
            refine ⟨?_, hf⟩
            rw [hF.out]
            cases key with
            | nil => exact absurd rfl hk0
            | cons => simp
        · have hF : Hid (formOf l true key val k = (decide (key.length = 32) && decide (val.length = 32) && agree key k 0 l.length)) := by simp [Hid, formOf, h256, hall.out]
          by_cases hkk : key.length = 32
          · by_cases hvv : val.length = 32
            · have x1 : ((key.length : Int) != 32) = false := by rw [hkk]; rfl
              have x2 : ((val.length : Int) != 32) = false := by rw [hvv]; rfl
              have HKK := hid hkk
              have HVV := hid hvv
              clear hkk hvv
              go_wp2_with fail
              clear hlt hn
              go_loopw [6] (fun i wr2 => ∃ (m : Nat), i = .int .i64 (m : Int) ∧ m ≤ l.length ∧ Hid (agree key k 0 l.length = agree key k m (l.length - m)) ∧ wr2.heap[w.heap.size]? = some (.cells #[.slice ao l.length cap, .bool true, .string (str key), .string (str val)] 24 (0, 0)) ∧ Fresh w wr2) (fun i _ => l.length - (intOf i).toNat)
              case atStart => exact ⟨0, rfl, by omega, rfl, hb, hf⟩
              case round =>
                obtain ⟨m, rfl, hm, HA, hb, hf⟩ := hrel
                have c0 := cell_at hb 0
                have c1 := cell_at hb 1
                have c2 := cell_at hb 2
                have c3 := cell_at hb 3
                simp at c0 c1 c2 c3
                by_cases hlt : m < l.length
                · go_wp2_with fail
                  refine (refbit_any key m _ (by rw [HKK.out]; omega) hkey).mono ?_
                  rintro e w2 ⟨rfl, rfl⟩
                  go_wp2_with fail
                  refine (refbit_any k m _ (by rw [hk]; omega) (by omega)).mono ?_
                  rintro e w2 ⟨rfl, rfl⟩
                  by_cases hbb : bitAt key m = bitAt k m
                  · have hA2 : Hid (agree key k 0 l.length = agree key k (m + 1) (l.length - (m + 1))) := by
                      rw [Hid, HA.out]
                      obtain ⟨q, hq⟩ : ∃ q, l.length - m = q + 1 := ⟨l.length - m - 1, by omega⟩
                      rw [hq, show l.length - (m + 1) = q by omega, agree, decide_eq_true hbb, Bool.true_and]
                    have hne : ((bitAt key m : Int) != (bitAt k m : Int)) = false := by rw [hbb]; simp
                    clear hbb HA
                    go_wp2
                    go_roundw
                    case rel => exact ⟨m + 1, by go_num, by omega, hA2, hb, hf⟩
                    case measure => simp [intOf]; omega
                  · have hA2 : Hid (formOf l true key val k = false) := by
                      obtain ⟨q, hq⟩ : ∃ q, l.length - m = q + 1 := ⟨l.length - m - 1, by omega⟩
                      rw [Hid, hF.out, HA.out, hq, agree, decide_eq_false hbb]
                      simp
                    have hne : ((bitAt key m : Int) != (bitAt k m : Int)) = true := by rw [bne_iff_ne]; omega
                    clear hbb HA hF
                    go_wp2
                    go_ret
                    exact ⟨by rw [hA2.out]; rfl, hf⟩
                · have hA2 : Hid (formOf l true key val k = true) := by
                    rw [Hid, hF.out, HA.out, show l.length - m = 0 by omega]
                    simp [agree, HKK.out, HVV.out]
                  clear hF HA
                  go_wp2
                  go_ret
                  exact ⟨by rw [hA2.out]; rfl, hf⟩
            · have hA2 : Hid (formOf l true key val k = false) := by rw [Hid, hF.out, decide_eq_false hvv]; simp
              have x1 : ((key.length : Int) != 32) = false := by rw [hkk]; rfl
              have x2 : ((val.length : Int) != 32) = true := by rw [bne_iff_ne]; omega
              clear hF hkk hvv
              go_wp2_with fail
              go_ret
              exact ⟨by rw [hA2.out]; rfl, hf⟩
          · have hA2 : Hid (formOf l true key val k = false) := by rw [Hid, hF.out, decide_eq_false hkk]; simp
            have x1 : ((key.length : Int) != 32) = true := by rw [bne_iff_ne]; omega
            clear hF hkk
            go_wp2_with fail
            go_ret
            exact ⟨by rw [hA2.out]; rfl, hf⟩
  · have hF : Hid (formOf l there key val k = false) := by simp [Hid, formOf]; intro h; omega
    go_enter Tryd.func30, Tryd.ntmps30
    go_wp2
    go_ret
    exact ⟨by rw [hF.out]; rfl, (Keeps.refl _ _).alloc _⟩
end Go.Proofs.YtmflbchiapdhbaaDoor
