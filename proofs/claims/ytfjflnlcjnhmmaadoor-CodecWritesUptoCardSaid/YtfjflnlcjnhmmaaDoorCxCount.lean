/-
  Package codec: a Reader's 'count' and 'text'.
-/
import Derived.Test.YtfjflnlcjnhmmaaDoorCxNum
namespace Go.Proofs.YtfjflnlcjnhmmaaDoor
open Go.RowKit

def pCount (many : Int) (l : List UInt8) : Except Int (Nat × List UInt8) :=
  match pNum 0 0 l with
  | .error e => .error e
  | .ok (n, l') => if many < n then .error 22 else .ok (n, l')
def pText (most : Int) (l : List UInt8) : Except Int (List UInt8 × List UInt8) :=
  match pCount most l with
  | .error e => .error e
  | .ok (n, l') => if l'.length < n then .error 21 else .ok (l'.take n, l'.drop n)

theorem pNum_le : ∀ (l : List UInt8) (i n m : Nat) (l' : List UInt8), pNum i n l = .ok (m, l') → m ≤ 4611686018427387904 ∧ l'.length < l.length
  | [], _, _, _, _, h => by simp [pNum] at h
  | c :: l, i, n, m, l', h => by
    unfold pNum at h
    by_cases h1 : i = 8 ∧ 127 < c.toNat
    · rw [if_pos h1] at h; cases h
    · rw [if_neg h1] at h
      by_cases h2 : 127 < c.toNat
      · rw [if_pos h2] at h
        have := pNum_le l _ _ _ _ h
        exact ⟨this.1, by simp; omega⟩
      · rw [if_neg h2] at h
        by_cases h3 : c.toNat = 0 ∧ 0 < i
        · rw [if_pos h3] at h; cases h
        · rw [if_neg h3] at h
          by_cases h4 : 4611686018427387904 < n + c.toNat * 128 ^ i
          · rw [if_pos h4] at h; cases h
          · rw [if_neg h4] at h
            injection h with h
            injection h with h h'
            subst h; subst h'
            exact ⟨by omega, by simp⟩
theorem pCount_le {l : List UInt8} {many : Int} {m : Nat} {l' : List UInt8} (h : pCount many l = .ok (m, l')) : m ≤ 4611686018427387904 ∧ l'.length < l.length ∧ (m : Int) ≤ many := by
  unfold pCount at h
  cases hp : pNum 0 0 l with
  | error e => rw [hp] at h; cases h
  | ok x =>
    obtain ⟨n, l1⟩ := x
    rw [hp] at h
    simp only at h
    by_cases hm : many < n
    · rw [if_pos hm] at h; cases h
    · rw [if_neg hm] at h
      injection h with h
      injection h with h h'
      subst h; subst h'
      exact ⟨(pNum_le _ _ _ _ _ hp).1, (pNum_le _ _ _ _ _ hp).2, by omega⟩

theorem RRep.err {S : Nat → Prop} {w : World} {b : Nat} {r : RSt} (h : RRep S w b r) (h0 : r.2.2 ≠ 0) : ∃ k, w.cell? ⟨b, 2, none⟩ = some (.iface 84 (.pointer (some ⟨k, 0, none⟩))) := by
  obtain ⟨ev, _, _, c2, _, _, _, _, he, _⟩ := h.cells
  rcases he with ⟨h1, _⟩ | ⟨_, k, _, h1, _⟩
  · exact absurd h1 h0
  · exact ⟨k, by rw [c2, h1]⟩
theorem RRep.fine {S : Nat → Prop} {w : World} {b : Nat} {r : RSt} (h : RRep S w b r) (h0 : r.2.2 = 0) : w.cell? ⟨b, 2, none⟩ = some .nilIface := by
  obtain ⟨ev, _, _, c2, _, _, _, _, he, _⟩ := h.cells
  rcases he with ⟨_, h1⟩ | ⟨h1, _⟩
  · rw [c2, h1]
  · exact absurd h0 h1

set_option maxRecDepth 100000 in
set_option maxHeartbeats 1000000 in
theorem count_any (S : Nat → Prop) (b : Nat) (r : RSt) (many : Int) (w : World) (h : RRep S w b r) (h0 : r.2.2 = 0) (hm : 0 ≤ many) :
    Calls Tryd.prog 61 #[.pointer (some ⟨b, 0, none⟩), .int .i64 many] w fun e w' => ∃ v r', e = .returned v ∧ Parsed r (pCount many r.1) v (fun n => .int .i64 (n : Int)) (.int .i64 0) r' ∧ Acts S w w' fun S' => RRep S' w' b r' := by
  have hp : Hid (pCount many r.1 = match pNum 0 0 r.1 with | .error e => .error e | .ok (n, l') => if many < n then .error 22 else .ok (n, l')) := rfl
  go_enter Tryd.func61, Tryd.ntmps61
  go_wp2_with fail
  refine (num_any S b r _ h h0).mono ?_
  rintro e w1 ⟨v, r1, rfl, hv, S1, hg1, hk1, hr1⟩
  cases hq : pNum 0 0 r.1 with
  | error f =>
    rw [hq] at hv
    have hp2 := hp.out
    rw [hq] at hp2
    obtain ⟨rfl, h1, h2⟩ := hv
    obtain ⟨k, c2⟩ := hr1.err (by rw [h1]; exact h2)
    have HP : Hid (pCount many r.1 = .error f) := hp2
    have H1 : Hid (r1.2.2 = f) := h1
    clear hp hp2 hq h1
    go_wp2
    go_ret
    exact ⟨_, r1, rfl, by rw [HP.out]; exact ⟨rfl, H1.out, h2⟩, S1, hg1, hk1, hr1⟩
  | ok x =>
    obtain ⟨n, l'⟩ := x
    rw [hq] at hv
    have hp2 := hp.out
    rw [hq] at hp2
    simp only at hp2
    obtain ⟨rfl, h1, h2⟩ := hv
    have c2 := hr1.fine (by rw [h1])
    have HQ : Hid (pNum 0 0 r.1 = .ok (n, l')) := hq
    have H1 : Hid (r1 = (l', r.2.1 + (r.1.length - l'.length), 0)) := h1
    clear hp hq h1
    by_cases hmn : many < n
    · rw [if_pos hmn] at hp2
      have HP : Hid (pCount many r.1 = .error 22) := hp2
      clear hp2
      go_wp2_with fail
      refine (rrefuse_any S1 b _ 22 _ (by decide) hr1).mono ?_
      rintro e w2 ⟨rfl, S2, hg2, hk2, hr2⟩
      obtain ⟨k, c3⟩ := hr2.err (by rw [H1.out]; simp [rRefuse, first])
      go_wp2
      go_ret
      exact ⟨_, _, rfl, by rw [HP.out]; exact ⟨rfl, by rw [H1.out]; simp [rRefuse, first], by decide⟩, .after hg1 hk1 ⟨S2, hg2, hk2, hr2⟩⟩
    · rw [if_neg hmn] at hp2
      have HP : Hid (pCount many r.1 = .ok (n, l')) := hp2
      clear hp2
      go_wp2
      go_ret
      exact ⟨_, r1, rfl, by rw [HP.out]; exact ⟨rfl, H1.out, h2⟩, S1, hg1, hk1, hr1⟩

set_option maxRecDepth 100000 in
set_option maxHeartbeats 1000000 in
theorem text_any (S : Nat → Prop) (b : Nat) (r : RSt) (most : Int) (w : World) (h : RRep S w b r) (h0 : r.2.2 = 0) (hm : 0 ≤ most) :
    Calls Tryd.prog 63 #[.pointer (some ⟨b, 0, none⟩), .int .i64 most] w fun e w' => ∃ v r', e = .returned v ∧ Parsed r (pText most r.1) v (fun s => .string (str s)) (.string (str [])) r' ∧ Acts S w w' fun S' => RRep S' w' b r' := by
  have hp : Hid (pText most r.1 = match pCount most r.1 with | .error e => .error e | .ok (n, l') => if l'.length < n then .error 21 else .ok (l'.take n, l'.drop n)) := rfl
  go_enter Tryd.func63, Tryd.ntmps63
  go_wp2_with fail
  refine (count_any S b r most _ h h0 hm).mono ?_
  rintro e w1 ⟨v, r1, rfl, hv, S1, hg1, hk1, hr1⟩
  cases hq : pCount most r.1 with
  | error f =>
    rw [hq] at hv
    have hp2 := hp.out
    rw [hq] at hp2
    obtain ⟨rfl, h1, h2⟩ := hv
    have HP : Hid (pText most r.1 = .error f) := hp2
    have H1 : Hid (r1.2.2 = f) := h1
    have ht : Hid (rTake r1 0 = ([], r1)) := by simp [Hid, rTake, h1, h2]
    clear hp hp2 hq h1
    go_wp2_with fail
    refine (rtake_any S1 b r1 0 _ (by omega) hr1).mono ?_
    rw [ht.out]
    rintro e w2 ⟨rfl, S2, hg2, hk2, hr2⟩
    go_wp2
    go_ret
    exact ⟨_, r1, rfl, by rw [HP.out]; exact ⟨rfl, H1.out, h2⟩, .after hg1 hk1 ⟨S2, hg2, hk2, hr2⟩⟩
  | ok x =>
    obtain ⟨n, l'⟩ := x
    rw [hq] at hv
    have hle := pCount_le hq
    have hp2 := hp.out
    rw [hq] at hp2
    simp only at hp2
    obtain ⟨rfl, rfl, h2⟩ := hv
    clear hp hq
    go_wp2_with fail
    refine (rtake_any S1 b _ n _ hle.1 hr1).mono ?_
    rintro e w2 ⟨rfl, S2, hg2, hk2, hr2⟩
    by_cases hln : l'.length < n
    · rw [if_pos hln] at hp2
      have ht : Hid (rTake (l', r.2.1 + (r.1.length - l'.length), 0) n = ([], rRefuse (l', r.2.1 + (r.1.length - l'.length), 0) 21)) := by simp [Hid, rTake, hln]
      have HP : Hid (pText most r.1 = .error 21) := hp2
      clear hp2
      rw [ht.out] at hr2 ⊢
      go_wp2
      go_ret
      exact ⟨_, _, rfl, by rw [HP.out]; exact ⟨rfl, by simp [rRefuse, first], by decide⟩, .after hg1 hk1 ⟨S2, hg2, hk2, hr2⟩⟩
    · rw [if_neg hln] at hp2
      have ht : Hid (rTake (l', r.2.1 + (r.1.length - l'.length), 0) n = (l'.take n, (l'.drop n, r.2.1 + (r.1.length - l'.length) + n, 0))) := by simp [Hid, rTake, hln]
      have HP : Hid (pText most r.1 = .ok (l'.take n, l'.drop n)) := hp2
      clear hp2
      rw [ht.out] at hr2 ⊢
      go_wp2
      go_ret
      exact ⟨_, _, rfl, by rw [HP.out]; exact ⟨rfl, by simp; omega, by simp; omega⟩, .after hg1 hk1 ⟨S2, hg2, hk2, hr2⟩⟩
end Go.Proofs.YtfjflnlcjnhmmaaDoor
