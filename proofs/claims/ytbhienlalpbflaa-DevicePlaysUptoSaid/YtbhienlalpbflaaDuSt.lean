/-
  A device by its state, in plain words: what lasts, what is pending, is it dead, in how many acts it dies; what each call answers and leaves.
-/
import Derived.Test.YtbhienlalpbflaaRdCrash
namespace Go.Proofs.Ytbhienlalpbflaa
open Go.RowKit Go.Maps

structure St where
  l : List (List UInt8)
  f : Int → Option (List UInt8)
  dead : Bool
  left : Int
structure St.Ok (s : St) : Prop where
  l4 : 4 ≤ s.l.length
  ll : s.l.length ≤ 4096
  p256 : ∀ t ∈ s.l, t.length = 256
  fr : ∀ p, (s.f p).isSome = true → 0 ≤ p ∧ p < s.l.length
  f256 : ∀ p t, s.f p = some t → t.length = 256
  lt0 : 0 ≤ s.left
  lt1 : s.left ≤ 9223372036854775807
def newSt (l : List (List UInt8)) : St := ⟨l, fun _ => none, false, 0⟩
theorem newSt_ok {l : List (List UInt8)} (h4 : 4 ≤ l.length) (hl : l.length ≤ 4096) (hp : ∀ t ∈ l, t.length = 256) : (newSt l).Ok :=
  ⟨h4, hl, hp, (fun _ h => by cases h), (fun _ _ h => by cases h), Int.le_refl _, (by show (0 : Int) ≤ _; omega)⟩
def rdSt (s : St) (p : Int) : List UInt8 × Int := if askedErr s.dead s.l p = 0 then ((s.f p).getD ((s.l[p.toNat]?).getD []), 0) else ([], askedErr s.dead s.l p)
def wrSt (s : St) (p : Int) (t : List UInt8) : Int × St :=
  if askedErr s.dead s.l p ≠ 0 then (askedErr s.dead s.l p, s) else if t.length ≠ 256 then (91, s) else if s.left = 1 then (2, ⟨s.l, s.f, true, 0⟩) else (0, ⟨s.l, fun q => if q = p then some t else s.f q, s.dead, lower s.left⟩)
def flSt (s : St) : Int × St := if s.dead = true then (2, s) else if s.left = 1 then (2, ⟨s.l, s.f, true, 0⟩) else (0, ⟨flushed s.l s.f, fun _ => none, false, lower s.left⟩)
def armSt (s : St) (k : Int) : Int × St := if s.dead = true then (2, s) else if k < 0 then (1, s) else (0, ⟨s.l, s.f, s.dead, k⟩)
def pdSt (s : St) : List (Int × List UInt8) := (told s.f s.l.length).map fun p => (p, (s.f p).getD [])
open Classical in
noncomputable def crSt (s : St) (ks : List (Int × Int)) : Int × St := if KeepsOk (told s.f s.l.length).length ks then (0, ⟨crashed s.l s.f ks, fun _ => none, false, 0⟩) else (92, s)

theorem told_le (f : Int → Option (List UInt8)) (n : Nat) : (told f n).length ≤ n := by
  unfold told
  exact Nat.le_trans (List.length_filter_le _ _) (by simp)
theorem pdSt_len (s : St) : (pdSt s).length = (told s.f s.l.length).length := by simp [pdSt]
theorem lower_ok {a : Int} (h0 : 0 ≤ a) (h1 : a ≤ 9223372036854775807) : 0 ≤ lower a ∧ lower a ≤ 9223372036854775807 := by
  unfold lower
  split <;> omega
theorem asked_zero {dead : Bool} {l : List (List UInt8)} {p : Int} (h : askedErr dead l p = 0) : dead = false ∧ 0 ≤ p ∧ p < l.length := by
  unfold askedErr at h
  split at h
  · cases h
  · rename_i hd
    split at h
    · cases h
    · rename_i hp
      exact ⟨by cases dead <;> simp_all, by omega, by omega⟩
theorem wrSt_ok {s : St} (h : s.Ok) (p : Int) (t : List UInt8) : (wrSt s p t).2.Ok := by
  unfold wrSt
  split
  · exact h
  · rename_i ha
    split
    · exact h
    · rename_i ht
      obtain ⟨-, a1, a2⟩ := asked_zero (Classical.not_not.1 ha)
      split
      · exact ⟨h.l4, h.ll, h.p256, h.fr, h.f256, Int.le_refl _, (by show (0 : Int) ≤ _; omega)⟩
      · obtain ⟨q1, q2⟩ := lower_ok h.lt0 h.lt1
        refine ⟨h.l4, h.ll, h.p256, fun q hq => ?_, fun q u hq => ?_, q1, q2⟩
        · simp only at hq ⊢
          split at hq
          · rename_i e; rw [e]; exact ⟨a1, a2⟩
          · exact h.fr q hq
        · simp only at hq
          split at hq
          · cases hq; exact Classical.not_not.1 ht
          · exact h.f256 q u hq
theorem flushed_get (l : List (List UInt8)) (f : Int → Option (List UInt8)) (p : Nat) : (flushed l f)[p]? = (l[p]?).map fun s => (f p).getD s := by simp [flushed, List.getElem?_mapIdx]
theorem flSt_ok {s : St} (h : s.Ok) : (flSt s).2.Ok := by
  unfold flSt
  split
  · exact h
  · split
    · exact ⟨h.l4, h.ll, h.p256, h.fr, h.f256, Int.le_refl _, (by show (0 : Int) ≤ _; omega)⟩
    · obtain ⟨q1, q2⟩ := lower_ok h.lt0 h.lt1
      refine ⟨by show 4 ≤ (flushed _ _).length; rw [flushed_len]; exact h.l4, by show (flushed _ _).length ≤ _; rw [flushed_len]; exact h.ll, fun t ht => ?_, (fun _ h => by cases h), (fun _ _ h => by cases h), q1, q2⟩
      obtain ⟨p, hp⟩ := List.getElem?_of_mem ht
      rw [flushed_get] at hp
      cases hl : s.l[p]? with
      | none => rw [hl] at hp; cases hp
      | some u =>
        rw [hl] at hp
        simp only [Option.map_some, Option.some.injEq] at hp
        cases hf : s.f (p : Int) with
        | none => rw [hf] at hp; simp only [Option.getD_none] at hp; rw [← hp]; exact h.p256 u (List.mem_of_getElem? hl)
        | some v => rw [hf] at hp; simp only [Option.getD_some] at hp; rw [← hp]; exact h.f256 _ v hf
theorem armSt_ok {s : St} (h : s.Ok) {k : Int} (hk : k ≤ 9223372036854775807) : (armSt s k).2.Ok := by
  unfold armSt
  split
  · exact h
  · split
    · exact h
    · exact ⟨h.l4, h.ll, h.p256, h.fr, h.f256, by show 0 ≤ k; omega, hk⟩
theorem crashed_get {l : List (List UInt8)} {f : Int → Option (List UInt8)} {ks : List (Int × Int)} {p : Nat} {t : List UInt8} (h : (crashed l f ks)[p]? = some t) : ∃ u, l[p]? = some u ∧ (t = u ∨ ∃ s c, f (p : Int) = some s ∧ t = s.take c ++ u.drop c) := by
  have hp : p < l.length := by
    have := (List.getElem?_eq_some_iff.1 h).1
    rwa [crashed_len] at this
  refine ⟨l[p], List.getElem?_eq_getElem hp, ?_⟩
  cases hf : f (p : Int) with
  | none =>
    rw [crashed_none hf, List.getElem?_eq_getElem hp] at h
    cases h
    exact .inl rfl
  | some s =>
    rw [crashed_some hf (List.getElem?_eq_getElem hp)] at h
    cases h
    exact .inr ⟨s, _, rfl, rfl⟩
theorem crSt_ok {s : St} (h : s.Ok) (ks : List (Int × Int)) : (crSt s ks).2.Ok := by
  unfold crSt
  split
  · refine ⟨by show 4 ≤ (crashed _ _ _).length; rw [crashed_len]; exact h.l4, by show (crashed _ _ _).length ≤ _; rw [crashed_len]; exact h.ll, fun t ht => ?_, (fun _ h => by cases h), (fun _ _ h => by cases h), Int.le_refl _, (by show (0 : Int) ≤ _; omega)⟩
    obtain ⟨p, hp⟩ := List.getElem?_of_mem ht
    obtain ⟨u, hu, rfl | ⟨v, c, hf, rfl⟩⟩ := crashed_get hp
    · exact h.p256 _ (List.mem_of_getElem? hu)
    · have h1 := h.p256 u (List.mem_of_getElem? hu)
      have h2 := h.f256 _ v hf
      simp only [List.length_append, List.length_take, List.length_drop]
      omega
  · exact h

/-- how the document's cells say what is pending -/
def Agree (l : List (List UInt8)) (f : Int → Option (List UInt8)) (is : List Bool) (ps : List (List UInt8)) : Prop := ∀ p : Nat, p < l.length → f p = if is[p]? = some true then some ((ps[p]?).getD []) else none
theorem Agree.pend {l : List (List UInt8)} {f : Int → Option (List UInt8)} {is : List Bool} {ps : List (List UInt8)} (h : Agree l f is ps) : ∀ n, n ≤ l.length → rpend is ps n = (told f n).map fun p => (p, (f p).getD [])
  | 0, _ => rfl
  | n + 1, hn => by
    have ih := h.pend n (by omega)
    have hf := h n (by omega)
    rw [told_succ, List.map_append, ← ih]
    by_cases e : is[n]? = some true
    · rw [if_pos e] at hf
      simp [rpend, e, hf]
    · rw [if_neg e] at hf
      rw [hf]
      simp only [rpend, Option.isSome_none, Bool.false_eq_true, if_false, List.map_nil, List.append_nil]
theorem flIs_false (is : List Bool) : ∀ (n k : Nat), k < n → (flIs is n)[k]? ≠ some true
  | 0, _, h => by omega
  | n + 1, k, h => by
    simp only [flIs]
    by_cases e : k = n
    · subst e
      split
      · rename_i h2
        have hl : k < is.length := (List.getElem?_eq_some_iff.1 h2).1
        rw [List.getElem?_set_self (by rw [flIs_len]; exact hl)]
        simp
      · rename_i h2
        rw [flIs_get is k k (Nat.le_refl _)]
        exact h2
    · have ih := flIs_false is n k (by omega)
      split
      · rw [List.getElem?_set_ne (by omega)]; exact ih
      · exact ih
theorem Agree.flush {l : List (List UInt8)} {f : Int → Option (List UInt8)} {is : List Bool} {ps : List (List UInt8)} (h : Agree l f is ps) : flL l ps is l.length = flushed l f ∧ Agree (flushed l f) (fun _ => none) (flIs is l.length) ps := by
  constructor
  · apply List.ext_getElem?
    intro k
    rw [flL_get, flushed_get]
    by_cases hk : k < l.length
    · have hf := h k hk
      rw [List.getElem?_eq_getElem hk, Option.map_some]
      by_cases e : is[k]? = some true
      · rw [if_pos e] at hf
        rw [if_pos ⟨hk, e, hk⟩, hf]; rfl
      · rw [if_neg e] at hf
        rw [if_neg (fun h => e h.2.1), hf]; rfl
    · rw [if_neg (fun h => hk h.1), List.getElem?_eq_none (by omega)]; rfl
  · intro p hp
    rw [flushed_len] at hp
    rw [if_neg (flIs_false is _ p hp)]
theorem Agree.clear (l : List (List UInt8)) (n : Nat) (ps : List (List UInt8)) : Agree l (fun _ => none) (List.replicate n false) ps := fun p _ => by
  rw [if_neg]
  rw [List.getElem?_replicate]
  split <;> simp
theorem Agree.put {l : List (List UInt8)} {f : Int → Option (List UInt8)} {is : List Bool} {ps : List (List UInt8)} (h : Agree l f is ps) (hi : is.length = l.length) (hp : ps.length = l.length) {p : Nat} (hpl : p < l.length) (t : List UInt8) : Agree l (fun q => if q = (p : Int) then some t else f q) (is.set p true) (ps.set p t) := fun q hq => by
  simp only
  by_cases e : q = p
  · subst e
    rw [if_pos rfl, List.getElem?_set_self (by omega), List.getElem?_set_self (by omega)]
    simp
  · rw [if_neg (by omega), List.getElem?_set_ne (by omega), List.getElem?_set_ne (by omega)]
    exact h q hq
theorem told_idx {f : Int → Option (List UInt8)} {n j p : Nat} (h : (told f n)[j]? = some (p : Int)) : j = (told f p).length := by
  have hm := told_mem.1 (List.mem_of_getElem? h)
  have h2 := told_at hm.2.2 n (by omega)
  obtain ⟨a1, a2⟩ := List.getElem?_eq_some_iff.1 h
  obtain ⟨b1, b2⟩ := List.getElem?_eq_some_iff.1 h2
  have hs := told_sorted f n
  apply Classical.byContradiction
  intro hne
  rcases Nat.lt_or_gt_of_ne hne with hlt | hlt
  · have := List.pairwise_iff_getElem.1 hs _ _ a1 b1 hlt
    omega
  · have := List.pairwise_iff_getElem.1 hs _ _ b1 a1 hlt
    omega
theorem rmix_crashed (s : St) {ks : List (Int × Int)} (hk : KeepsOk (told s.f s.l.length).length ks) : rmix (pdSt s) ks s.l ks.length = crashed s.l s.f ks := by
  have hW : ∀ (j : Nat) (y : Int × List UInt8), (pdSt s)[j]? = some y → ∃ p : Nat, y.1 = (p : Int) ∧ p < s.l.length ∧ s.f (p : Int) = some y.2 ∧ j = (told s.f p).length := fun j y hy => by
    simp only [pdSt, List.getElem?_map, Option.map_eq_some_iff] at hy
    obtain ⟨p, h1, rfl⟩ := hy
    obtain ⟨m1, m2, m3⟩ := told_mem.1 (List.mem_of_getElem? h1)
    obtain ⟨q, rfl⟩ : ∃ q : Nat, p = (q : Int) := ⟨p.toNat, by omega⟩
    obtain ⟨u, hu⟩ := Option.isSome_iff_exists.1 m3
    exact ⟨q, rfl, by omega, by rw [hu]; rfl, told_idx h1⟩
  have hgood : ∀ (m : Nat) (k : Int × Int), ks[m]? = some k → 0 ≤ k.1 ∧ k.1 < ((told s.f s.l.length).length : Int) ∧ 0 ≤ k.2 ∧ stayOf (ks.take m) k.1 = none := fun m k hm => by
    have := hk m k hm
    unfold BadKeep at this
    simp only [not_or, Int.not_lt, Int.not_le] at this
    refine ⟨this.2.1, this.2.2.1, this.2.2.2.1, ?_⟩
    cases e : stayOf (ks.take m) k.1 with
    | none => rfl
    | some v => exact absurd (by rw [e]; rfl) this.1
  have key : ∀ (p : Nat) (t : List UInt8), s.l[p]? = some t → ∀ m, m ≤ ks.length → (rmix (pdSt s) ks s.l m)[p]? = some (match s.f (p : Int) with
      | some u => u.take (stay (ks.take m) (told s.f p).length) ++ t.drop (stay (ks.take m) (told s.f p).length)
      | none => t) := fun p t ht m => by
    induction m with
    | zero =>
      intro _
      rw [rmix, ht, List.take_zero]
      cases hf : s.f (p : Int) with
      | none => rfl
      | some u => simp [stay, stayOf]
    | succ m ih =>
      intro hm
      have ih := ih (by omega)
      obtain ⟨⟨N, b⟩, hkm⟩ : ∃ k, ks[m]? = some k := ⟨_, List.getElem?_eq_getElem (by omega)⟩
      obtain ⟨g1, g2, g3, g4⟩ := hgood m _ hkm
      simp only at g1 g2 g3 g4
      obtain ⟨j, rfl⟩ : ∃ j : Nat, N = (j : Int) := ⟨N.toNat, by omega⟩
      obtain ⟨c, rfl⟩ : ∃ c : Nat, b = (c : Int) := ⟨b.toNat, by omega⟩
      obtain ⟨⟨q0, u⟩, hwj⟩ : ∃ y, (pdSt s)[j]? = some y := ⟨_, List.getElem?_eq_getElem (by rw [pdSt_len]; omega)⟩
      obtain ⟨q, hq, hql, hqf, hqj⟩ := hW j _ hwj
      simp only at hq hqf
      subst hq
      obtain ⟨v, hv⟩ : ∃ v, (rmix (pdSt s) ks s.l m)[q]? = some v := ⟨_, List.getElem?_eq_getElem (by rw [rmix_len]; exact hql)⟩
      have htk : ks.take (m + 1) = ks.take m ++ [((j : Int), (c : Int))] := by rw [List.take_add_one, hkm]; rfl
      rw [rmix_succ hkm hwj hv, htk]
      by_cases e : q = p
      · subst e
        rw [List.getElem?_set_self (by rw [rmix_len]; exact hql)]
        rw [ih, hqf] at hv
        simp only at hv
        have hst0 : stay (ks.take m) (told s.f q).length = 0 := by
          unfold stay
          rw [← hqj, g4]; rfl
        rw [hst0] at hv
        simp only [List.take_zero, List.drop_zero, List.nil_append, Option.some.injEq] at hv
        subst hv
        have hst1 : stay (ks.take m ++ [((j : Int), (c : Int))]) (told s.f q).length = c := by
          unfold stay
          rw [stayOf_snoc]
          simp only [← hqj, if_true, Option.getD_some, Int.toNat_natCast]
        simp only [hqf, hst1]
      · rw [List.getElem?_set_ne e, ih]
        cases hf : s.f (p : Int) with
        | none => rfl
        | some u2 =>
          have hne : (told s.f p).length ≠ j := fun e2 => by
            have h1 := told_at (f := s.f) (p := p) (by rw [hf]; rfl) s.l.length (List.getElem?_eq_some_iff.1 ht).1
            have h2 := told_at (f := s.f) (p := q) (by rw [hqf]; rfl) s.l.length hql
            rw [← hqj, ← e2, h1] at h2
            simp only [Option.some.injEq] at h2
            omega
          have hst : stay (ks.take m ++ [((j : Int), (c : Int))]) (told s.f p).length = stay (ks.take m) (told s.f p).length := by
            unfold stay
            rw [stayOf_snoc]
            simp only
            rw [if_neg (by omega)]
          simp only [hst]
  apply List.ext_getElem?
  intro p
  by_cases hp : p < s.l.length
  · have ht := List.getElem?_eq_getElem hp
    rw [key p _ ht ks.length (Nat.le_refl _), List.take_length]
    cases hf : s.f (p : Int) with
    | none => rw [crashed_none hf, ht]
    | some u => rw [crashed_some hf ht]
  · rw [List.getElem?_eq_none (by rw [rmix_len]; omega), List.getElem?_eq_none (by rw [crashed_len]; omega)]
end Go.Proofs.Ytbhienlalpbflaa
