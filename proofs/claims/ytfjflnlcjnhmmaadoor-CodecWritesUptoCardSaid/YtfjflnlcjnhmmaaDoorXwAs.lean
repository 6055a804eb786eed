/-
  'asInts', 'asTexts': what was lent reads as it did; then it is written over.
-/
import Derived.Test.YtfjflnlcjnhmmaaDoorXwLent
namespace Go.Proofs.YtfjflnlcjnhmmaaDoor
open Go.RowKit

set_option maxRecDepth 100000 in
set_option maxHeartbeats 2000000 in
theorem asInts_any (B : Nat) (v v' : Value) (l : List Int) (w : World) (hv : ListAt w v (ints l)) (hvB : l ≠ [] → ∀ g, v.ownBlock = some g → g < B) (hL : LentAt B w 3 v' l.length (ints (l ++ [-7, -7, -7, -7]))) (hn : NilAlike v v') (hl : l.length ≤ 4294967296) :
    Calls Tryd.prog 45 #[v', v] w fun e w' => e = .returned (.bool true) ∧ Keeps (fun k => v'.ownBlock = some k) w w' ∧ ∃ xs, LentAt B w' 3 v' l.length xs := by
  rcases hn with ⟨rfl, rfl⟩ | ⟨a0, n0, cap0, a1, n1, cap1, rfl, rfl⟩
  · have hq := Tryd.noneInts
    have HL := hid hL
    clear hL hv hvB
    go_enter Tryd.func45, Tryd.ntmps45
    go_wp2
    go_ret
    exact ⟨rfl, Keeps.refl _ _, _, HL.out⟩
  · have hq := Tryd.someInts a0
    obtain ⟨ao, cap, he, hc⟩ := hv.intl
    injection he with he1 he2 he3
    subst he1; subst he2; subst he3
    obtain ⟨ao', cap', he, hxl, ⟨rfl, _, _⟩ | ⟨g, rfl, hgB, hrow⟩⟩ := hL
    · cases he
    injection he with he1 he2 he3
    injection he1 with he1
    subst he1; subst he2; subst he3
    have hcap : l.length + 4 ≤ cap1 := by
      rcases hrow.2 with ⟨h0, _⟩ | ⟨g', cap', cur, h0, _, _, hn, _⟩
      · cases h0
      · injection h0 with h1 h2 h3; omega
    have HC := hid hc
    have HB := hid hvB
    have HW := hid hrow
    clear hc hv hvB hrow hxl
    go_enter Tryd.func45, Tryd.ntmps45
    go_wp2
    go_loopw [6] (fun i wr => ∃ (k : Nat) (xs : List Value), i = .int .i64 (k : Int) ∧ k ≤ l.length + 4 ∧ wr.ownsRow 0 3 1 (.slice (some ⟨g, 0, none⟩) (l.length + 4) cap1) (l.length + 4) xs ∧
      Hid (xs.drop k = (ints (l ++ [-7, -7, -7, -7])).drop k) ∧ Keeps (fun k => k = g) w wr) (fun i _ => l.length + 4 - (intOf i).toNat)
    case atStart => exact ⟨0, _, rfl, by omega, HW.out, rfl, Keeps.refl _ _⟩
    case round =>
      obtain ⟨k, xs, rfl, hk, hrow, HD, hkp⟩ := hrel
      by_cases hlt : k < l.length + 4
      · obtain ⟨x, hx⟩ : ∃ x, (l ++ [-7, -7, -7, -7])[k]? = some x := ⟨(l ++ [-7, -7, -7, -7])[k]'(by simp; omega), by simp⟩
        have hxs : xs[k]? = some (Value.int .i64 x) := by
          have h1 := congrArg (·[0]?) HD.out
          simp only [List.getElem?_drop, Nat.add_zero] at h1
          rw [h1]; simp only [ints, List.getElem?_map, hx, Option.map_some]
        have hcg := hrow.cells (g := g) rfl k _ (by simpa using hxs)
        rw [addr_add0] at hcg
        have hfz : wr.frozen? ⟨g, k, none⟩ = false := by
          rcases hrow.2 with ⟨h0, _⟩ | ⟨g', cap', cur, h0, _, hg, _⟩
          · cases h0
          · injection h0 with h1 h2 h3; injection h1 with h1; injection h1 with h1; subst h1; exact free_at hg k
        have hset := fun u => ownsRow_set hrow hlt u
        have hdr : ∀ u, Hid ((xs.set k u).drop (k + 1) = (ints (l ++ [-7, -7, -7, -7])).drop (k + 1)) := fun u => by
          have h1 := congrArg (List.drop 1) HD.out
          simp only [List.drop_drop] at h1
          rw [Hid, List.drop_set_of_lt (by omega)]
          rw [Nat.add_comm] at h1 ⊢
          simpa [Nat.add_comm] using h1
        have HSET := hid hset
        have HDR := hid hdr
        clear hset hdr hxs hrow
        by_cases hin : k < l.length
        · have hx2 : l[k]? = some x := by simpa [List.getElem?_append, hin] using hx
          obtain ⟨bb, off, hao, hbb, hcw⟩ := HC.out k x hx2
          injection hao with hao
          subst hao
          have hne : bb ≠ g := by have := HB.out (List.ne_nil_of_length_pos (by omega)) bb rfl; omega
          have hcell := (hkp.cell (p := ⟨bb, off + k, none⟩) hbb hne).trans hcw
          clear hx hx2 hcw
          go_wp2
          go_roundw
          case rel => exact ⟨k + 1, _, by go_num, by omega, HSET.out _, HDR.out _, hkp.setCell (p := ⟨g, k, none⟩) (fun _ => rfl) _⟩
          case measure => simp [intOf]; omega
        · have hxm : x = -7 := by
            have h1 : (([-7, -7, -7, -7] : List Int))[k - l.length]? = some x := by simpa [List.getElem?_append, hin] using hx
            obtain ⟨j, hj⟩ : ∃ j, j = k - l.length := ⟨_, rfl⟩
            rw [← hj] at h1
            match j, h1 with
            | 0, h1 => simpa using h1.symm
            | 1, h1 => simpa using h1.symm
            | 2, h1 => simpa using h1.symm
            | 3, h1 => simpa using h1.symm
            | (j + 4), h1 => simp at h1
          subst hxm
          clear hx
          go_wp2
          go_roundw
          case rel => exact ⟨k + 1, _, by go_num, by omega, HSET.out _, HDR.out _, hkp.setCell (p := ⟨g, k, none⟩) (fun _ => rfl) _⟩
          case measure => simp [intOf]; omega
      · go_wp2
        go_ret
        exact ⟨rfl, hkp.mono fun k _ h => by subst h; rfl, _, _, _, rfl, by have := hrow.1; omega, .inr ⟨g, rfl, hgB, hrow⟩⟩

set_option maxRecDepth 100000 in
set_option maxHeartbeats 2000000 in
theorem asTexts_any (B : Nat) (v v' : Value) (l : List (List UInt8)) (w : World) (hv : ListAt w v (texts l)) (hvB : l ≠ [] → ∀ g, v.ownBlock = some g → g < B) (hL : LentAt B w 9 v' l.length (texts (l ++ [[126], [126], [126], [126]]))) (hn : NilAlike v v') (hl : l.length ≤ 4294967296) :
    Calls Tryd.prog 49 #[v', v] w fun e w' => e = .returned (.bool true) ∧ Keeps (fun k => v'.ownBlock = some k) w w' ∧ ∃ xs, LentAt B w' 9 v' l.length xs := by
  rcases hn with ⟨rfl, rfl⟩ | ⟨a0, n0, cap0, a1, n1, cap1, rfl, rfl⟩
  · have hq := Tryd.noneTexts
    have HL := hid hL
    clear hL hv hvB
    go_enter Tryd.func49, Tryd.ntmps49
    go_wp2
    go_ret
    exact ⟨rfl, Keeps.refl _ _, _, HL.out⟩
  · have hq := Tryd.someTexts a0
    obtain ⟨ao, cap, he, hc⟩ := hv.texts
    injection he with he1 he2 he3
    subst he1; subst he2; subst he3
    obtain ⟨ao', cap', he, hxl, ⟨rfl, _, _⟩ | ⟨g, rfl, hgB, hrow⟩⟩ := hL
    · cases he
    injection he with he1 he2 he3
    injection he1 with he1
    subst he1; subst he2; subst he3
    have hcap : l.length + 4 ≤ cap1 := by
      rcases hrow.2 with ⟨h0, _⟩ | ⟨g', cap', cur, h0, _, _, hn, _⟩
      · cases h0
      · injection h0 with h1 h2 h3; omega
    have HC := hid hc
    have HB := hid hvB
    have HW := hid hrow
    clear hc hv hvB hrow hxl
    go_enter Tryd.func49, Tryd.ntmps49
    go_wp2
    go_loopw [6] (fun i wr => ∃ (k : Nat) (xs : List Value), i = .int .i64 (k : Int) ∧ k ≤ l.length + 4 ∧ wr.ownsRow 0 9 1 (.slice (some ⟨g, 0, none⟩) (l.length + 4) cap1) (l.length + 4) xs ∧
      Hid (xs.drop k = (texts (l ++ [[126], [126], [126], [126]])).drop k) ∧ Keeps (fun k => k = g) w wr) (fun i _ => l.length + 4 - (intOf i).toNat)
    case atStart => exact ⟨0, _, rfl, by omega, HW.out, rfl, Keeps.refl _ _⟩
    case round =>
      obtain ⟨k, xs, rfl, hk, hrow, HD, hkp⟩ := hrel
      by_cases hlt : k < l.length + 4
      · obtain ⟨x, hx⟩ : ∃ x, (l ++ [[126], [126], [126], [126]])[k]? = some x := ⟨(l ++ [[126], [126], [126], [126]])[k]'(by simp; omega), by simp⟩
        have hxs : xs[k]? = some ((fun p => Value.string (str p)) x) := by
          have h1 := congrArg (·[0]?) HD.out
          simp only [List.getElem?_drop, Nat.add_zero] at h1
          rw [h1]; simp only [texts, List.getElem?_map, hx, Option.map_some]
        have hcg := hrow.cells (g := g) rfl k _ (by simpa using hxs)
        rw [addr_add0] at hcg
        have hfz : wr.frozen? ⟨g, k, none⟩ = false := by
          rcases hrow.2 with ⟨h0, _⟩ | ⟨g', cap', cur, h0, _, hg, _⟩
          · cases h0
          · injection h0 with h1 h2 h3; injection h1 with h1; injection h1 with h1; subst h1; exact free_at hg k
        have hset := fun u => ownsRow_set hrow hlt u
        have hdr : ∀ u, Hid ((xs.set k u).drop (k + 1) = (texts (l ++ [[126], [126], [126], [126]])).drop (k + 1)) := fun u => by
          have h1 := congrArg (List.drop 1) HD.out
          simp only [List.drop_drop] at h1
          rw [Hid, List.drop_set_of_lt (by omega)]
          rw [Nat.add_comm] at h1 ⊢
          simpa [Nat.add_comm] using h1
        have HSET := hid hset
        have HDR := hid hdr
        clear hset hdr hxs hrow
        by_cases hin : k < l.length
        · have hx2 : l[k]? = some x := by simpa [List.getElem?_append, hin] using hx
          obtain ⟨bb, off, hao, hbb, hcw⟩ := HC.out k x hx2
          injection hao with hao
          subst hao
          have hne : bb ≠ g := by have := HB.out (List.ne_nil_of_length_pos (by omega)) bb rfl; omega
          have hcell := (hkp.cell (p := ⟨bb, off + k, none⟩) hbb hne).trans hcw
          clear hx hx2 hcw
          go_wp2
          go_roundw
          case rel => exact ⟨k + 1, _, by go_num, by omega, HSET.out _, HDR.out _, hkp.setCell (p := ⟨g, k, none⟩) (fun _ => rfl) _⟩
          case measure => simp [intOf]; omega
        · have hxm : x = [126] := by
            have h1 : (([[126], [126], [126], [126]] : List (List UInt8)))[k - l.length]? = some x := by simpa [List.getElem?_append, hin] using hx
            obtain ⟨j, hj⟩ : ∃ j, j = k - l.length := ⟨_, rfl⟩
            rw [← hj] at h1
            match j, h1 with
            | 0, h1 => simpa using h1.symm
            | 1, h1 => simpa using h1.symm
            | 2, h1 => simpa using h1.symm
            | 3, h1 => simpa using h1.symm
            | (j + 4), h1 => simp at h1
          subst hxm
          have hst : (str [126]).toList = [126] := str_toList _
          clear hx
          go_wp2
          go_roundw
          case rel => exact ⟨k + 1, _, by go_num, by omega, HSET.out _, HDR.out _, hkp.setCell (p := ⟨g, k, none⟩) (fun _ => rfl) _⟩
          case measure => simp [intOf]; omega
      · go_wp2
        go_ret
        exact ⟨rfl, hkp.mono fun k _ h => by subst h; rfl, _, _, _, rfl, by have := hrow.1; omega, .inr ⟨g, rfl, hgB, hrow⟩⟩

end Go.Proofs.YtfjflnlcjnhmmaaDoor
