/-
  A statement whose order is drawn, and which stores into a cell that it loads: a load may be taken first, if all that may come ahead of it keeps a condition S; behind the first operation that hangs on the load (kp says which do not) S is asked no more. No program is in sight.
-/
import Derived.OrdersHeld
import Derived.RegionTactic
import Derived.Test.YtbhienlalpbflaaMShaA
namespace Go.Proofs.Ytbhienlalpbflaa
open Go Go.RowKit

theorem not_early {b : Bool} {p : Prop} (h : b = false) (he : b = true) : p := by subst h; cases he
section
variable {P : Program} {ops : Array Oper} {Q : Exit → Act → World → Prop} {md : Region.Mode} {T S : World → Prop} {kp : Nat → Bool}

/-- none of those that hang on the load has come up -/
def early (kp : Nat → Bool) (n : Nat) (listed : Array Bool) : Bool := (List.range n).all fun j => kp j || !listed.getD j true
/-- each that is no keeper waits for i, or for another that is none -/
def hangs (md : Region.Mode) (ops : Array Oper) (kp : Nat → Bool) (i : Nat) : Bool :=
  (List.range ops.size).all fun j => kp j || match ops[j]? with
    | none => true
    | some o => o.after.any fun e => Region.binds md e && (e.on == i || (!kp e.on && decide (e.on < ops.size)))
theorem early_spec {n : Nat} {listed : Array Bool} (h : early kp n listed = true) {j : Nat} (hj : j < n) (hk : kp j = false) : listed.getD j true = false := by
  unfold early at h
  rw [List.all_eq_true] at h
  have := h j (by simpa using hj)
  simpa [hk] using this
theorem early_set {n : Nat} {listed : Array Bool} {i : Nat} (h : early kp n listed = true) (hi : kp i = true) : early kp n (listed.setIfInBounds i true) = true := by
  unfold early
  rw [List.all_eq_true]
  intro j hj
  cases hk : kp j with
  | true => rfl
  | false =>
    have hne : i ≠ j := fun e => by subst e; rw [hi] at hk; cases hk
    rw [getD_set_ne true hne, early_spec h (by simpa using hj) hk]
    rfl
theorem listed_both {listed : Array Bool} {j : Nat} (h1 : listed.getD j true = false) (h2 : listed.getD j false = true) : False := by
  rcases Nat.lt_or_ge j listed.size with h' | h'
  · simp [h'] at h1 h2
    rw [h1] at h2
    cases h2
  · simp [Array.getElem?_eq_none h'] at h2

theorem early_unset {n : Nat} {listed : Array Bool} {i : Nat} (h : early kp n (listed.setIfInBounds i true) = true) (hi : kp i = true) : early kp n listed = true := by
  unfold early
  rw [List.all_eq_true]
  intro j hj
  cases hk : kp j with
  | true => rfl
  | false =>
    have hne : i ≠ j := fun e => by subst e; rw [hi] at hk; cases hk
    have := early_spec h (by simpa using hj) hk
    rw [getD_set_ne true hne] at this
    rw [this]
    rfl

/-- T holds behind each operation, S as long as it is early -/
def wpKeep (P : Program) (md : Region.Mode) (ops : Array Oper) (Q : Exit → Act → World → Prop) (T S : World → Prop) (kp : Nat → Bool) : Nat → Array Bool → Act → World → Prop
  | 0, listed, a, w => Region.ready md ops listed = [] ∧ Q .normal a w
  | fuel + 1, listed, a, w => (Region.ready md ops listed = [] → Q .normal a w) ∧
    ∀ i ∈ Region.ready md ops listed, wpOp P ops Q i (fun a' w' => (T w' ∧ (early kp ops.size (listed.setIfInBounds i true) = true → S w')) ∧ wpKeep P md ops Q T S kp fuel (listed.setIfInBounds i true) a' w') a w
theorem wpAny_of_keep : ∀ (fuel : Nat) (listed : Array Bool) (a : Act) (w : World), wpKeep P md ops Q T S kp fuel listed a w → wpAny P md ops Q fuel listed a w
  | 0, _, _, _, h => h
  | fuel + 1, _, _, _, h => ⟨h.1, fun i hi => wpOp_mono (fun a' w' h' => wpAny_of_keep fuel _ a' w' h'.2) (h.2 i hi)⟩

/-- what yields wherever T holds may be taken first -/
theorem wpKeep_firstT {i : Nat} {oi : Oper} {v : Value} (hi : ops[i]? = some oi) (hsel : ∀ (j : Nat) (o : Oper) cs b, ops[j]? = some o → o.op ≠ .select cs b) (hQ : ∀ c a w, Q (.panic c) (a.put oi.dst v) w → Q (.panic c) a w)
    (hki : kp i = true) : ∀ (fuel : Nat) (listed : Array Bool) (a : Act) (w : World),
      (∀ j oj, ops[j]? = some oj → j ≠ i → listed.getD j true = false → (∀ e ∈ oj.after, Region.binds md e = true → e.on ≠ i) → oi.apart ops oj = true) →
      i ∈ Region.ready md ops listed → YieldsIf P ops T oi v a → T w → (early kp ops.size listed = true → S w) →
      wpKeep P md ops Q T S kp fuel (listed.setIfInBounds i true) (a.put oi.dst v) w → wpKeep P md ops Q T S kp (fuel + 1) listed a w
  | 0, listed, a, w, _, hr, hy, hT, hS, H => by
    refine ⟨fun h => (by rw [h] at hr; cases hr), fun j hj => ?_⟩
    by_cases hji : j = i
    · subst hji
      exact hy.wpOp hi hT ⟨⟨hT, fun h => hS (early_unset h hki)⟩, H⟩
    · have := ready_mono hj hji
      rw [H.1] at this
      cases this
  | fuel + 1, listed, a, w, hfree, hr, hy, hT, hS, H => by
    refine ⟨fun h => (by rw [h] at hr; cases hr), fun j hj => ?_⟩
    by_cases hji : j = i
    · subst hji
      exact hy.wpOp hi hT ⟨⟨hT, fun h => hS (early_unset h hki)⟩, H⟩
    · have h1 := H.2 j (ready_mono hj hji)
      obtain ⟨hjun, oj, hoj, hall⟩ := mem_ready.1 hj
      have hiun := (mem_ready.1 hr).1
      have hnot : ∀ e ∈ oj.after, Region.binds md e = true → e.on ≠ i := fun e he hb heq => by
        have h3 := hall e he hb
        rw [heq] at h3
        exact listed_both hiun h3
      have h2 := wpOp_putIf hoj (hfree j oj hoj hji hjun hnot) (fun cs b => hsel i oi cs b hi) (fun cs b => hsel j oj cs b hoj) hQ hy h1
      have hfree' : ∀ k ok, ops[k]? = some ok → k ≠ i → (listed.setIfInBounds j true).getD k true = false → (∀ e ∈ ok.after, Region.binds md e = true → e.on ≠ i) → oi.apart ops ok = true := fun k ok hk hk2 hun hno => by
        refine hfree k ok hk hk2 ?_ hno
        by_cases hjk : j = k
        · subst hjk
          exact hjun
        · rwa [getD_set_ne true hjk] at hun
      refine wpOp_mono (fun a' w' h3 => ?_) h2
      have hS' : early kp ops.size (listed.setIfInBounds j true) = true → S w' := fun he => h3.2.1.2 (by rw [← Array.setIfInBounds_comm _ _ hji]; exact early_set he hki)
      refine ⟨⟨h3.2.1.1, hS'⟩, wpKeep_firstT hi hsel hQ hki fuel (listed.setIfInBounds j true) a' w' hfree' (ready_mono hr (Ne.symm hji)) h3.1 h3.2.1.1 hS' ?_⟩
      rw [Array.setIfInBounds_comm _ _ hji]
      exact h3.2.2
/-- what yields wherever T and S hold may be taken first, if all that hang not on it keep S -/
theorem wpKeep_first {i : Nat} {oi : Oper} {v : Value} (hi : ops[i]? = some oi) (hsel : ∀ (j : Nat) (o : Oper) cs b, ops[j]? = some o → o.op ≠ .select cs b) (hQ : ∀ c a w, Q (.panic c) (a.put oi.dst v) w → Q (.panic c) a w)
    (hki : kp i = true) (hh : hangs md ops kp i = true) : ∀ (fuel : Nat) (listed : Array Bool) (a : Act) (w : World),
      (∀ j oj, ops[j]? = some oj → j ≠ i → listed.getD j true = false → (∀ e ∈ oj.after, Region.binds md e = true → e.on ≠ i) → oi.apart ops oj = true) →
      i ∈ Region.ready md ops listed → early kp ops.size listed = true → YieldsIf P ops (fun w => T w ∧ S w) oi v a → T w ∧ S w →
      wpKeep P md ops Q T S kp fuel (listed.setIfInBounds i true) (a.put oi.dst v) w → wpKeep P md ops Q T S kp (fuel + 1) listed a w
  | 0, listed, a, w, _, hr, _, hy, hS, H => by
    refine ⟨fun h => (by rw [h] at hr; cases hr), fun j hj => ?_⟩
    by_cases hji : j = i
    · subst hji
      exact hy.wpOp hi hS ⟨⟨hS.1, fun _ => hS.2⟩, H⟩
    · have := ready_mono hj hji
      rw [H.1] at this
      cases this
  | fuel + 1, listed, a, w, hfree, hr, hea, hy, hS, H => by
    refine ⟨fun h => (by rw [h] at hr; cases hr), fun j hj => ?_⟩
    by_cases hji : j = i
    · subst hji
      exact hy.wpOp hi hS ⟨⟨hS.1, fun _ => hS.2⟩, H⟩
    · have h1 := H.2 j (ready_mono hj hji)
      obtain ⟨hjun, oj, hoj, hall⟩ := mem_ready.1 hj
      have hiun := (mem_ready.1 hr).1
      have hjlt : j < ops.size := (Array.getElem?_eq_some_iff.1 hoj).1
      have hkj : kp j = true := by
        cases hk : kp j with
        | true => rfl
        | false =>
          unfold hangs at hh
          rw [List.all_eq_true] at hh
          have hx := hh j (by simpa using hjlt)
          rw [hk, hoj] at hx
          simp only [Bool.false_or] at hx
          obtain ⟨e, he, hb⟩ := Array.any_eq_true'.1 hx
          simp only [Bool.and_eq_true, Bool.or_eq_true, beq_iff_eq, Bool.not_eq_true', decide_eq_true_eq] at hb
          have h3 := hall e he hb.1
          rcases hb.2 with h4 | ⟨h4, h5⟩
          · rw [h4] at h3
            exact (listed_both hiun h3).elim
          · exact (listed_both (early_spec hea h5 h4) h3).elim
      have hnot : ∀ e ∈ oj.after, Region.binds md e = true → e.on ≠ i := fun e he hb heq => by
        have h3 := hall e he hb
        rw [heq] at h3
        exact listed_both hiun h3
      have h2 := wpOp_putIf hoj (hfree j oj hoj hji hjun hnot) (fun cs b => hsel i oi cs b hi) (fun cs b => hsel j oj cs b hoj) hQ hy h1
      have hfree' : ∀ k ok, ops[k]? = some ok → k ≠ i → (listed.setIfInBounds j true).getD k true = false → (∀ e ∈ ok.after, Region.binds md e = true → e.on ≠ i) → oi.apart ops ok = true := fun k ok hk hk2 hun hno => by
        refine hfree k ok hk hk2 ?_ hno
        by_cases hjk : j = k
        · subst hjk
          exact hjun
        · rwa [getD_set_ne true hjk] at hun
      refine wpOp_mono (fun a' w' h3 => ?_) h2
      have hS' : T w' ∧ S w' := ⟨h3.2.1.1, h3.2.1.2 (early_set (early_set hea hki) hkj)⟩
      refine ⟨⟨hS'.1, fun _ => hS'.2⟩, wpKeep_first hi hsel hQ hki hh fuel (listed.setIfInBounds j true) a' w' hfree' (ready_mono hr (Ne.symm hji)) (early_set hea hkj) h3.1 hS' ?_⟩
      rw [Array.setIfInBounds_comm _ _ hji]
      exact h3.2.2

theorem wpKeep_takeT {i : Nat} {oi : Oper} {v : Value} {fuel : Nat} {listed : Array Bool} {a : Act} {w : World} (hi : ops[i]? = some oi) (hs : Region.noSelect ops = true) (hf : Region.free md ops listed i = true) (hr : (Region.ready md ops listed).contains i = true)
    (hk : kp i = true) (hQ : ∀ c a w, Q (.panic c) (a.put oi.dst v) w → Q (.panic c) a w) (hy : YieldsIf P ops T oi v a) (hT : T w) (hS : early kp ops.size listed = true → S w)
    (h : wpKeep P md ops Q T S kp fuel (listed.setIfInBounds i true) (a.put oi.dst v) w) : wpKeep P md ops Q T S kp (fuel + 1) listed a w :=
  wpKeep_firstT hi (Region.noSelect_spec hs) hQ hk fuel listed a w (Region.free_spec hi hf) (by simpa using hr) hy hT hS h
theorem wpKeep_take {i : Nat} {oi : Oper} {v : Value} {fuel : Nat} {listed : Array Bool} {a : Act} {w : World} (hi : ops[i]? = some oi) (hs : Region.noSelect ops = true) (hf : Region.free md ops listed i = true) (hr : (Region.ready md ops listed).contains i = true)
    (hk : (kp i && hangs md ops kp i && early kp ops.size listed) = true) (hQ : ∀ c a w, Q (.panic c) (a.put oi.dst v) w → Q (.panic c) a w) (hy : YieldsIf P ops (fun w => T w ∧ S w) oi v a) (hS : T w ∧ S w)
    (h : wpKeep P md ops Q T S kp fuel (listed.setIfInBounds i true) (a.put oi.dst v) w) : wpKeep P md ops Q T S kp (fuel + 1) listed a w := by
  simp only [Bool.and_eq_true] at hk
  exact wpKeep_first hi (Region.noSelect_spec hs) hQ hk.1.1 hk.1.2 fuel listed a w (Region.free_spec hi hf) (by simpa using hr) hk.2 hy hS h
/-- each of some that may come up -/
def AllKeep (P : Program) (md : Region.Mode) (ops : Array Oper) (Q : Exit → Act → World → Prop) (T S : World → Prop) (kp : Nat → Bool) (fuel : Nat) (listed : Array Bool) (a : Act) (w : World) (rs : List Nat) : Prop :=
  ∀ i ∈ rs, wpOp P ops Q i (fun a' w' => (T w' ∧ (early kp ops.size (listed.setIfInBounds i true) = true → S w')) ∧ wpKeep P md ops Q T S kp fuel (listed.setIfInBounds i true) a' w') a w
theorem AllKeep.nil {fuel : Nat} {listed : Array Bool} {a : Act} {w : World} : AllKeep P md ops Q T S kp fuel listed a w [] := fun _ h => by cases h
theorem AllKeep.cons {fuel : Nat} {listed : Array Bool} {a : Act} {w : World} {i : Nat} {o : Oper} {rs : List Nat} (ho : ops[i]? = some o)
    (h : ∀ K' : Act → World → Prop, Hid (∀ a w, T w → (early kp ops.size (listed.setIfInBounds i true) = true → S w) → wpKeep P md ops Q T S kp fuel (listed.setIfInBounds i true) a w → K' a w) → if Region.wanted o (yielded ops a.tmps) = true then Oper.wp P o a w K' Q else K' (a.put o.dst undef) w)
    (hs : AllKeep P md ops Q T S kp fuel listed a w rs) : AllKeep P md ops Q T S kp fuel listed a w (i :: rs) := fun j hj => by
  rcases List.mem_cons.1 hj with rfl | hj
  · exact wpOp_step ho (fun K' hK => h K' (fun a w hT hS hW => hK a w ⟨⟨hT, hS⟩, hW⟩))
  · exact hs j hj
theorem wpKeep_ready {rs : List Nat} {fuel : Nat} {listed : Array Bool} {a : Act} {w : World} (hr : Region.ready md ops listed = rs) (hne : rs ≠ []) (h : AllKeep P md ops Q T S kp fuel listed a w rs) : wpKeep P md ops Q T S kp (fuel + 1) listed a w :=
  ⟨fun h0 => absurd (hr ▸ h0) hne, hr ▸ h⟩
theorem wpKeep_done {listed : Array Bool} {a : Act} {w : World} (hr : Region.ready md ops listed = []) (h : Q .normal a w) : ∀ fuel, wpKeep P md ops Q T S kp fuel listed a w
  | 0 => ⟨hr, h⟩
  | _ + 1 => ⟨fun _ => h, by rw [hr]; simp⟩
theorem wp_region_keep (n : Nat) (T S : World → Prop) (kp : Nat → Bool) {id : Nat} {a : Act} {w : World} (hn : ops.size = n) (hm : P.follows .mixedOrders = true) (h : wpKeep P .any ops Q T S kp n (Array.replicate n false) a w.drew) : (Code.region id ops true).wp P Q a w :=
  wp_region_any hm (wpAny_of_keep _ _ _ _ (by rw [hn]; exact h))
end
end Go.Proofs.Ytbhienlalpbflaa
