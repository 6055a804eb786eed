/-
  What is laid down well has lists that a program can hold. Plain.
  Encode refuses by two errors alone: no request's payload is too long for a frame. Plain.
-/
import Derived.Test.YtpccaodkgboefaaGreatDoorMsSame
import Derived.Test.YtpccaodkgboefaaGreatDoorMMsK
import Derived.Test.YtpccaodkgboefaaGreatDoorMMsC
namespace Go.Proofs.YtpccaodkgboefaaGreatDoor
open Go.RowKit

def FlatR (x : Rep) : Prop := x.entries = [] ∧ x.replies = []
theorem rPart_flat (r : RSt) : FlatR (rPart r).1 := by
  unfold rPart
  dsimp only
  split
  · split <;> exact ⟨rfl, rfl⟩
  · exact ⟨rfl, rfl⟩
theorem rParts_flat : ∀ (n : Nat) (r : RSt), ∀ x ∈ (rParts n r).1, FlatR x
  | 0, r, x, h => by simp [rParts] at h
  | n + 1, r, x, h => by
    rw [rParts] at h
    split at h
    · simp at h
    · rcases List.mem_cons.1 h with rfl | h
      · exact rPart_flat r
      · exact rParts_flat n _ x h
theorem rFld_flat (f : Fld) (r : RSt) (R : Rep) (h : ∀ x ∈ R.replies, FlatR x) : ∀ x ∈ (rFld f r R).1.replies, FlatR x := by
  cases R
  cases f <;> try exact h
  intro x hx
  rcases List.mem_append.1 hx with hx | hx
  · exact h x hx
  · exact rParts_flat _ _ x hx
theorem rFlds_flat : ∀ (l : List Fld) (r : RSt) (R : Rep), (∀ x ∈ R.replies, FlatR x) → ∀ x ∈ (rFlds l r R).1.replies, FlatR x
  | [], _, _, h => h
  | f :: l, r, R, h => by
    rw [rFlds]
    exact rFlds_flat l _ _ (rFld_flat f r R h)
theorem takeRep_flat (k : Int) (p : List UInt8) : ∀ x ∈ (takeRep k p).2.1.replies, FlatR x := by
  rw [takeRep_eq]
  unfold bodyOf
  dsimp only
  split
  · exact rFlds_flat _ _ _ (fun x hx => by simp [Rep.replies] at hx)
  · intro x hx
    simp [Rep.replies] at hx
theorem FineRs.of : ∀ {l : List Rep}, (∀ x ∈ l, FineR x) → FineRs l
  | [], _ => by rw [FineRs]; trivial
  | x :: r, h => by
    rw [FineRs]
    exact ⟨h x (by simp), FineRs.of (fun y hy => h y (by simp [hy]))⟩
theorem wtP_mem : ∀ {l : List Rep} {x : Rep}, x ∈ l → wtP x ≤ wtPs l
  | y :: r, x, h => by
    unfold wtPs
    rcases List.mem_cons.1 h with rfl | h
    · omega
    · have := wtP_mem h; omega
theorem fineR_of {R : Rep} (hw : wtR R ≤ 9223372036854775807) (hf : ∀ x ∈ R.replies, FlatR x) : FineR R := by
  obtain ⟨z, s, a, b, r, h, e, p⟩ := R
  unfold wtR at hw
  simp only [Rep.hashes, Rep.entries, Rep.root, Rep.replies] at hw hf
  rw [FineR]
  refine ⟨by omega, by omega, FineRs.of fun x hx => ?_⟩
  obtain ⟨h1, h2⟩ := hf x hx
  have h3 := wtP_mem hx
  obtain ⟨z', s', a', b', r', h', e', p'⟩ := x
  simp only [Rep.entries, Rep.replies] at h1 h2
  subst h1 h2
  unfold wtP at h3
  simp only [Rep.hashes, Rep.root] at h3
  rw [FineR]
  exact ⟨by omega, by simp, by rw [FineRs]; trivial⟩
theorem encRep_fine {k : Int} {R : Rep} (h : (encRep k R).2 = 0) (hw : wtR R ≤ 9223372036854775807) : FineR R := by
  obtain ⟨p, c, _, _, ht, -⟩ := encRep_frame h
  have := takeRep_flat k p
  rw [ht] at this
  exact fineR_of hw this
theorem FineAll.of : ∀ {l : List Req}, (∀ x ∈ l, Fine x) → FineAll l
  | [], _ => by rw [FineAll]; trivial
  | x :: r, h => by
    rw [FineAll]
    exact ⟨h x (by simp), FineAll.of (fun y hy => h y (by simp [hy]))⟩
end Go.Proofs.YtpccaodkgboefaaGreatDoor

namespace Go.Proofs.YtpccaodkgboefaaGreatDoor
open Go.RowKit

theorem mRising_many {st : WSt} {l : List Int} {most : Int} (h : (mRising st l most).2 = 0) : (l.length : Int) ≤ most := by
  unfold mRising at h
  by_cases hc : l.length = 0 ∨ most < l.length ∨ 1099511627776 < l.getD (l.length - 1) 0
  · rw [if_pos hc] at h
    exact absurd h (wNum_minus st)
  · omega
theorem flat_small {st : WSt} {x : Req} (h : (fieldsFlat st x).2 = 0) (hk : 3 ≤ x.kind ∧ x.kind ≤ 7) (hp : plainOf x = true) : wtF x ≤ 2640 := by
  rw [plainOf_eq] at hp
  simp only [Bool.and_eq_true, Bool.not_eq_true'] at hp
  obtain ⟨hs, -⟩ := hp
  have hsf := spare_fields hs
  obtain ⟨k, a, b, s, l, e, qs⟩ := x
  simp only [Req.kind, Req.a, Req.b, Req.size, Req.list, Req.entries, Req.asks] at hk hsf
  obtain ⟨ha, hb, hz, hl, he, hq⟩ := hsf
  have h' : k = 3 ∨ k = 4 ∨ k = 5 ∨ k = 6 ∨ k = 7 := by omega
  rcases h' with rfl | rfl | rfl | rfl | rfl
  · cases hl rfl; cases he rfl; simp [wtF, Req.list, Req.entries, bulk]
  · cases hl rfl; cases he rfl; simp [wtF, Req.list, Req.entries, bulk]
  · cases hl rfl; cases he rfl; simp [wtF, Req.list, Req.entries, bulk]
  · cases he rfl
    have := mRising_many (st := mSize st s) (l := l) (most := 256) h
    simp [wtF, Req.list, Req.entries, bulk]
    omega
  · cases he rfl
    have := mRising_many (st := st) (l := l) (most := 64) h
    simp [wtF, Req.list, Req.entries, bulk]
    omega
theorem parts_small : ∀ (qs : List Req) (st : WSt), plainAll qs = true → (partsOf st qs).2 = 0 → wtAll qs ≤ 2641 * qs.length
  | [], _, _, _ => by simp [wtAll]
  | x :: qs, st, hp, h => by
    rw [plainAll_cons, Bool.and_eq_true] at hp
    rw [partsOf] at h
    split at h
    · exact absurd h (wNum_minus st)
    · rename_i hk
      have hk3 : 3 ≤ x.kind ∧ x.kind ≤ 7 := by simp [inPart] at hk; omega
      have h1 := (round_parts 0 qs _ hp.2 h).1
      have h2 := flat_small h1 hk3 hp.1
      have h3 := parts_small qs _ hp.2 h
      simp only [wtAll, List.length_cons]
      omega
theorem fields_small {R : Req} (h1 : 1 ≤ R.kind) (h2 : R.kind ≤ 12) (hp : plainOf R = true) (h : (fieldsOf (wByte ([], 0) R.kind) R).2 = 0) : (fieldsOf (wByte ([], 0) R.kind) R).1.length ≤ 1048576 := by
  have hF : wtF R ≤ 140000 := by
    obtain ⟨_, d, _, ht⟩ := round_fields 0 _ R h1 h2 hp h
    obtain ⟨c, hc⟩ := ht [] 0
    have := rReq_small 2 R.kind (d ++ [], 0, 0)
    rw [hc] at this
    exact this
  have hp' := hp
  rw [plainOf_eq] at hp'
  simp only [Bool.and_eq_true, Bool.not_eq_true'] at hp'
  have hA : wtAll R.asks ≤ 170000 := by
    by_cases h12 : R.kind = 12
    · unfold fieldsOf at h
      rw [if_pos h12] at h
      by_cases hc : R.asks.length = 0 ∨ 64 < R.asks.length
      · rw [if_pos hc] at h
        obtain ⟨e1, -⟩ := round_parts 0 _ _ hp'.2 h
        obtain ⟨e2, -⟩ := round_num _ _ e1
        exact absurd e2 (wNum_minus _)
      · rw [if_neg hc] at h
        have := parts_small _ _ hp'.2 h
        omega
    · have : R.asks = [] := (spare_fields hp'.1).2.2.2.2.2 (by unfold whichOf; simp; exact h12)
      rw [this]
      simp [wtAll]
  have hw : wt R ≤ 400000 := by unfold wt; omega
  have h4 := fieldsOf_len (R := R) (wByte ([], 0) R.kind) (by omega)
  have h5 := wByte_len ([], 0) R.kind
  simp at h5
  omega
theorem encOf_errors (R : Req) : (encOf R).2 = 0 ∨ encOf R = ([], 170) ∨ encOf R = ([], 171) := by
  unfold encOf
  by_cases hk : R.kind < 1 ∨ 12 < R.kind
  · rw [if_pos hk]
    exact .inr (.inl rfl)
  rw [if_neg hk]
  by_cases hp : plainOf R = false
  · rw [if_pos hp]
    exact .inr (.inr rfl)
  rw [if_neg hp]
  unfold framedW
  by_cases h0 : (fieldsOf (wByte ([], 0) R.kind) R).2 ≠ 0
  · rw [if_pos h0]
    exact .inr (.inr rfl)
  rw [if_neg h0]
  have := fields_small (R := R) (by omega) (by omega) (by simpa using hp) (by simpa using h0)
  have hf : framed (fieldsOf (wByte ([], 0) R.kind) R).1 = (digs (fieldsOf (wByte ([], 0) R.kind) R).1.length ++ (fieldsOf (wByte ([], 0) R.kind) R).1, 0) := by
    unfold framed
    rw [if_neg (by omega)]
  rw [hf]
  exact .inl rfl
theorem encOf_fine {R : Req} (h : (encOf R).2 = 0) (hw : wt R ≤ 9223372036854775807) : Fine R := by
  unfold encOf at h
  by_cases hk : R.kind < 1 ∨ 12 < R.kind
  · rw [if_pos hk] at h
    exact absurd h (by decide)
  rw [if_neg hk] at h
  by_cases hp : plainOf R = false
  · rw [if_pos hp] at h
    exact absurd h (by decide)
  rw [if_neg hp] at h
  have hpt : plainOf R = true := by simpa using hp
  have hp' := hpt
  rw [plainOf_eq] at hp'
  simp only [Bool.and_eq_true, Bool.not_eq_true'] at hp'
  unfold framedW at h
  by_cases h0 : (fieldsOf (wByte ([], 0) R.kind) R).2 ≠ 0
  · rw [if_pos h0] at h
    exact absurd h (by decide)
  have h0' : (fieldsOf (wByte ([], 0) R.kind) R).2 = 0 := by simpa using h0
  have hfine : ∀ x ∈ R.asks, Fine x := by
    by_cases h12 : R.kind = 12
    · unfold fieldsOf at h0'
      rw [if_pos h12] at h0'
      have key : ∀ (qs : List Req) (st : WSt), plainAll qs = true → (partsOf st qs).2 = 0 → ∀ x ∈ qs, Fine x := by
        intro qs
        induction qs with
        | nil => intro _ _ _ x hx; simp at hx
        | cons y qs ih =>
          intro st hp h x hx
          rw [plainAll_cons, Bool.and_eq_true] at hp
          rw [partsOf] at h
          split at h
          · exact absurd h (wNum_minus st)
          · rename_i hk
            have hk3 : 3 ≤ y.kind ∧ y.kind ≤ 7 := by simp [inPart] at hk; omega
            rcases List.mem_cons.1 hx with rfl | hx
            · have h1 := (round_parts 0 qs _ hp.2 h).1
              have h2 := flat_small h1 hk3 hp.1
              have hq := hp.1
              rw [plainOf_eq] at hq
              simp only [Bool.and_eq_true, Bool.not_eq_true'] at hq
              have ha := (spare_fields hq.1).2.2.2.2.2 (by unfold whichOf; simp; omega)
              obtain ⟨k, a, b, s, l, e, qq⟩ := x
              simp only [Req.asks] at ha
              subst ha
              simp only [wtF, Req.list, Req.entries] at h2
              rw [Fine]
              exact ⟨by omega, by omega, by rw [FineAll]; trivial⟩
            · exact ih _ hp.2 h x hx
      exact key _ _ hp'.2 h0'
    · have : R.asks = [] := (spare_fields hp'.1).2.2.2.2.2 (by unfold whichOf; simp; exact h12)
      rw [this]
      intro x hx
      simp at hx
  obtain ⟨k, a, b, s, l, e, qq⟩ := R
  simp only [wt, wtF, Req.list, Req.entries] at hw
  rw [Fine]
  exact ⟨by omega, by omega, FineAll.of hfine⟩
end Go.Proofs.YtpccaodkgboefaaGreatDoor
