/-
  Plain: of a run that is right, what the subtrees come to.
-/
import Derived.Test.YtgikabafaocemaaDoorRnCut
import Derived.Test.YtgikabafaocemaaDoorRnComp
import Derived.Test.YtgikabafaocemaaDoorRnFold
import Derived.Test.YtgikabafaocemaaDoorMSpA
import Derived.Test.YtgikabafaocemaaDoorSpRootS
namespace Go.Proofs.YtgikabafaocemaaDoor

theorem ctF_whole {p s t : Nat} (h : t ≤ p) (h2 : powB (t - s) = true) : ∀ f, (ctF f p s t).length ≤ 1
  | 0 => by rw [ctF]; split <;> simp
  | f + 1 => by rw [ctF]; split <;> simp [h, h2]
theorem ctF_few : ∀ (f p s t : Nat), (ctF f p s t).length ≤ f + 1
  | 0, p, s, t => by rw [ctF]; split <;> simp
  | f + 1, p, s, t => by
    rw [ctF]
    split
    · simp
    · split
      · simp
      · rw [List.length_append]
        by_cases q : p ≤ s + splitN (t - s)
        · have e : ctF f p (s + splitN (t - s)) t = [] := ctF_nil q
          have := ctF_few f p s (s + splitN (t - s))
          rw [e]; simp; omega
        · have h1 := ctF_whole (p := p) (s := s) (t := s + splitN (t - s)) (by omega) (by rw [show s + splitN (t - s) - s = splitN (t - s) by omega]; exact splitN_powB _) f
          have h2 := ctF_few f p (s + splitN (t - s)) t
          omega
theorem rtF_few : ∀ (f p s t : Nat), (rtF f p s t).length ≤ f + 1
  | 0, p, s, t => by rw [rtF]; split <;> simp
  | f + 1, p, s, t => by
    rw [rtF]
    split
    · simp
    · split
      · simp
      · rename_i h1 h2
        obtain ⟨g1, -, -⟩ := splitN_facts (n := t - s) (by omega)
        rw [List.length_append]
        by_cases q : p ≤ s + splitN (t - s)
        · have e : rtF f p (s + splitN (t - s)) t = [(s + splitN (t - s), t)] := rtF_out q
          have := rtF_few f p s (s + splitN (t - s))
          rw [e]; simp; omega
        · have e : rtF f p s (s + splitN (t - s)) = [] := rtF_nil (by omega) (by omega)
          have := rtF_few f p (s + splitN (t - s)) t
          rw [e]; simp; omega
theorem rtF_mem : ∀ (f p s t : Nat), ∀ y ∈ rtF f p s t, p ≤ y.1
  | 0, p, s, t, y, h => by
    rw [rtF] at h
    split at h
    · simp at h; subst h; assumption
    · simp at h
  | f + 1, p, s, t, y, h => by
    rw [rtF] at h
    split at h
    · simp at h; subst h; assumption
    · split at h
      · simp at h
      · rcases List.mem_append.1 h with h | h
        · exact rtF_mem f p _ _ y h
        · exact rtF_mem f p _ _ y h
theorem toldF_nodup : ∀ (f rb re b e : Nat), b < e → e - b ≤ 2 ^ f → (toldF f rb re b e).Nodup
  | 0, rb, re, b, e, h1, h2 => by
    have : e = b + 1 := by simp at h2; omega
    subst this
    rw [toldF]
    split <;> simp
  | f + 1, rb, re, b, e, h1, h2 => by
    by_cases q : re ≤ b ∨ e ≤ rb
    · rw [toldF_out q]; simp
    by_cases q2 : rb ≤ b ∧ e ≤ re
    · rw [toldF_in _ rb re b e q2.1 q2.2 h1]; simp
    have h3 : 2 ≤ e - b := by omega
    obtain ⟨g1, g2, g3⟩ := splitN_facts (n := e - b) h3
    have g4 := splitN_le (n := e - b) (f := f) h3 h2
    rw [toldF_cut q q2, List.nodup_append]
    refine ⟨toldF_nodup f rb re b _ (by omega) (by omega), toldF_nodup f rb re _ e (by omega) (by omega), fun x hx y hy e1 => ?_⟩
    have i1 := toldF_within f rb re b _ (by omega) (by omega) x hx
    have i2 := toldF_within f rb re _ e (by omega) (by omega) y hy
    subst e1
    omega

/-- the n-th of a list of hashes -/
def nthH (l : List (List UInt8)) (i : Nat) : List UInt8 := l.getD i (List.replicate 32 0)
theorem nthH_len {l : List (List UInt8)} (h : all32P l) (i : Nat) : (nthH l i).length = 32 := by
  unfold nthH
  rw [List.getD_eq_getElem?_getD]
  cases e : l[i]? with
  | none => simp
  | some s => simpa using h s (List.mem_of_getElem? e)
theorem nthH_get {l : List (List UInt8)} {i : Nat} {s : List UInt8} (h : l[i]? = some s) : nthH l i = s := by
  unfold nthH
  rw [List.getD_eq_getElem?_getD, h]
  rfl
theorem map_nth (T : List (Nat × Nat)) (H : List (List UInt8)) (hT : T.Nodup) (hl : H.length = T.length) : T.map (fun x => nthH H (T.idxOf x)) = H := by
  apply List.ext_getElem?
  intro i
  rw [List.getElem?_map]
  by_cases h : i < T.length
  · have e : T[i]? = some T[i] := by simp
    rw [e, Option.map_some, hT.idxOf_getElem i h]
    have e2 : H[i]? = some (H[i]'(by omega)) := by simp
    rw [nthH_get e2, e2]
  · rw [List.getElem?_eq_none (by omega), List.getElem?_eq_none (by omega)]
    rfl
theorem map_range (L : List (List UInt8)) (b m : Nat) (hm : L.length = m) : (List.range' b m).map (fun i => nthH L (i - b)) = L := by
  apply List.ext_getElem?
  intro i
  rw [List.getElem?_map]
  by_cases h : i < m
  · rw [List.getElem?_range' h]
    have e2 : L[i]? = some (L[i]'(by omega)) := by simp
    simp only [Option.map_some, Nat.one_mul, Nat.add_sub_cancel_left]
    rw [nthH_get e2, e2]
  · rw [List.getElem?_eq_none (by simp; omega), List.getElem?_eq_none (by omega)]
    rfl
theorem valN_len {rb re : Nat} {A : Nat × Nat → List UInt8} {lf : Nat → List UInt8} (hA : ∀ x, (A x).length = 32) (hl : ∀ i, (lf i).length = 32) (s t : Nat) : (valN rb re A lf s t).length = 32 := by
  rw [valN]
  split
  · exact hA _
  · split
    · exact hl _
    · exact nodeH_len _ _

theorem cut_few {e n : Nat} {l : List (Nat × Nat)} (h : Cut 0 e l) (he : 0 < e) (hen : e ≤ n) (hn : n ≤ 1099511627776) : ctF 40 e 0 n = l.map spanOf ∧ l.length ≤ 41 := by
  obtain ⟨l2, c2, e2⟩ := ct_cut 40 e 0 n 40 (by omega) (by omega) (by omega) (by simp) (by omega)
  rw [Nat.min_eq_left hen] at c2
  have := c2.unique h
  subst this
  refine ⟨e2, ?_⟩
  have := ctF_few 40 e 0 n
  rw [e2, List.length_map] at this
  exact this
theorem cover_told {n b e : Nat} {la : List (Nat × Nat)} (hbe : b < e) (hen : e ≤ n) (hn : n ≤ 1099511627776) (ca : Cut 0 b la) : toldF 40 b e 0 n = la.map spanOf ++ rtF 40 e 0 n ∧ la.length ≤ 41 := by
  rw [told_ct 40 b e 0 n (by omega) (by omega) hbe (fun z => by omega)]
  by_cases h : 0 < b
  · obtain ⟨e1, h1⟩ := cut_few ca h (by omega) hn
    rw [e1]
    exact ⟨rfl, h1⟩
  · obtain rfl : b = 0 := by omega
    have := ca.unique (.nil 0)
    subst this
    rw [ctF_nil (Nat.le_refl _)]
    exact ⟨rfl, by simp⟩

structure RunsF (n b e : Nat) (X Y : List (List UInt8)) (la le : List (Nat × Nat)) (VS : Nat × Nat → List UInt8) : Prop where
  root : rootOf n b e X Y = (VS (0, n), 0)
  len32 : ∀ x, (VS x).length = 32
  takeX : X.take la.length = la.map (fun y => VS (spanOf y))
  halves : Halves (fun y => VS (spanOf y)) b e
  leaf : ∀ i s, Y[i]? = some s → VS (spanOf (b + i, 0)) = s
  spans : le.map spanOf ++ (toldF 40 b e 0 n).drop la.length = dF 40 e 0 n
  few : (dF 40 e 0 n).length ≤ 82
  hashes : le.map (fun y => VS (spanOf y)) ++ X.drop la.length = (dF 40 e 0 n).map VS
  cut : ∀ s t, s < t → 2 ≤ t - s → s < e → ¬ (t ≤ e ∧ powB (t - s) = true) → OkN b s t → VS (s, t) = nodeH (VS (s, s + splitN (t - s))) (VS (s + splitN (t - s), t))

theorem runsF {n b e : Nat} {X Y : List (List UInt8)} {la le : List (Nat × Nat)} (hbe : b < e) (hen : e ≤ n) (hn : n ≤ 1099511627776) (few : e - b ≤ 300) (hX : X.length = (toldF 40 b e 0 n).length) (hY : Y.length = e - b) (aX : all32P X) (aY : all32P Y) (ca : Cut 0 b la) (ce : Cut 0 e le) :
    ∃ VS, RunsF n b e X Y la le VS := by
  obtain ⟨t1, -⟩ := cover_told hbe hen hn ca
  obtain ⟨e1, h1⟩ := cut_few ce (by omega) hen hn
  have hnd := toldF_nodup 40 b e 0 n (by omega) (by omega)
  have hmap := map_nth _ X hnd hX
  have hrng := map_range Y b (e - b) hY
  obtain ⟨A, hA⟩ : ∃ A : Nat × Nat → List UInt8, A = fun x => nthH X ((toldF 40 b e 0 n).idxOf x) := ⟨_, rfl⟩
  obtain ⟨lf, hlf⟩ : ∃ lf : Nat → List UInt8, lf = fun i => nthH Y (i - b) := ⟨_, rfl⟩
  have hA32 : ∀ x, (A x).length = 32 := fun x => by rw [hA]; exact nthH_len aX _
  have hl32 : ∀ x, (lf x).length = 32 := fun x => by rw [hlf]; exact nthH_len aY _
  rw [← hA] at hmap
  rw [← hlf] at hrng
  have hla : ∀ y ∈ la, valN b e A lf (spanOf y).1 (spanOf y).2 = A (spanOf y) := fun y hy => valN_out (.inr (ca.mem y hy).2)
  have hrt : ∀ y ∈ rtF 40 e 0 n, valN b e A lf y.1 y.2 = A y := fun y hy => valN_out (.inl (rtF_mem 40 e 0 n y hy))
  have hXs : X = la.map (fun y => A (spanOf y)) ++ (rtF 40 e 0 n).map A := by
    rw [← hmap, t1, List.map_append, List.map_map]; rfl
  have hdr : (toldF 40 b e 0 n).drop la.length = rtF 40 e 0 n := by
    rw [t1, List.drop_append_of_le_length (by simp), List.drop_eq_nil_of_le (by simp)]; rfl
  have hXd : X.drop la.length = (rtF 40 e 0 n).map A := by
    rw [hXs, List.drop_append_of_le_length (by simp), List.drop_eq_nil_of_le (by simp)]; rfl
  have hXt : X.take la.length = la.map (fun y => A (spanOf y)) := by
    rw [hXs, List.take_append_of_le_length (by simp), List.take_of_length_le (by simp)]
  refine ⟨fun x => valN b e A lf x.1 x.2, ⟨?_, fun x => valN_len hA32 hl32 _ _, ?_, ?_, ?_, ?_, ?_, ?_, ?_⟩⟩
  · rw [rootOf_good hbe hen hn ⟨by omega, by omega, hX.symm, aX, aY⟩]
    have hw := walkF_val (A := A) (lf := lf) 40 0 n [] [] (by omega) (by omega) hbe
    rw [List.append_nil, List.append_nil, hmap, show max b 0 = b by omega, show min e n - b = e - b by omega, hrng] at hw
    rw [hw]
  · rw [hXt]
    exact List.map_congr_left (fun y hy => (hla y hy).symm)
  · intro a j h2 h3 h4
    have := pow_pos2 (j + 1)
    show valN b e A lf a (a + 2 ^ (j + 1)) = nodeH (valN b e A lf a (a + 2 ^ j)) (valN b e A lf (a + 2 ^ j) (a + 2 ^ j + 2 ^ j))
    exact valN_pow (by omega)
  · intro i s hs
    have hi := (List.getElem?_eq_some_iff.1 hs).1
    show valN b e A lf (b + i) (b + i + 2 ^ 0) = s
    rw [show (2 : Nat) ^ 0 = 1 from rfl, valN_leaf (by omega), hlf]
    show nthH Y (b + i - b) = s
    rw [Nat.add_sub_cancel_left, nthH_get hs]
  · rw [hdr, dF, e1]
  · have a1 := ctF_few 40 e 0 n
    have a2 := rtF_few 40 e 0 n
    rw [dF, List.length_append]
    omega
  · rw [hXd, dF, e1, List.map_append, List.map_map]
    congr 1
    exact List.map_congr_left (fun y hy => (hrt y hy).symm)
  · intro s t h2 h3 h4 h5 h6
    refine valN_node ?_ h3
    rintro (q | q)
    · omega
    · exact h5 ⟨by omega, h6 q⟩
end Go.Proofs.YtgikabafaocemaaDoor
