/-
  Crash in plain words: keeps, what stays of what, what lasts then.
  The device: Flush.
-/
import Derived.Test.YtbhienlalpbflaaDvTold
import Derived.Test.YtbhienlalpbflaaMDvD
namespace Go.Proofs.Ytbhienlalpbflaa
open Go.RowKit Go.Maps

theorem str_join (a b : List UInt8) : str a ++ str b = str (a ++ b) := by
  apply ByteArray.ext
  simp [str]
/-- what is kept of each, by the keeps so far -/
def stayOf (ks : List (Int × Int)) : Int → Option Int := ks.foldl (fun g k q => if q = k.1 then some k.2 else g q) (fun _ => none)
theorem stayOf_snoc (ks : List (Int × Int)) (k : Int × Int) : stayOf (ks ++ [k]) = fun q => if q = k.1 then some k.2 else stayOf ks q := by
  simp [stayOf, List.foldl_append]
def BadKeep (g : Int → Option Int) (np : Nat) (k : Int × Int) : Prop := (g k.1).isSome = true ∨ k.1 < 0 ∨ (np : Int) ≤ k.1 ∨ k.2 < 0 ∨ 256 < k.2
def KeepsOk (np : Nat) (ks : List (Int × Int)) : Prop := ∀ m k, ks[m]? = some k → ¬ BadKeep (stayOf (ks.take m)) np k
theorem stayOf_le {np : Nat} : ∀ (m : Nat) (ks : List (Int × Int)), ks.length = m → KeepsOk np ks → ∀ q b, stayOf ks q = some b → 0 ≤ b ∧ b ≤ 256
  | 0, ks, h, _, q, b, hb => by
    rw [List.length_eq_zero_iff.1 h] at hb
    cases hb
  | m + 1, ks, h, hk, q, b, hb => by
    obtain ⟨r, k, rfl⟩ : ∃ r k, ks = r ++ [k] := ⟨ks.dropLast, ks.getLast (by intro e; rw [e] at h; cases h), (List.dropLast_concat_getLast _).symm⟩
    have hr : r.length = m := by simpa using h
    rw [stayOf_snoc] at hb
    simp only at hb
    by_cases e : q = k.1
    · rw [if_pos e] at hb
      cases hb
      have h1 := hk r.length k (by simp)
      unfold BadKeep at h1
      omega
    · rw [if_neg e] at hb
      refine stayOf_le (np := np) m r hr (fun i x hx => ?_) q b hb
      have hi : i < r.length := (List.getElem?_eq_some_iff.1 hx).1
      have := hk i x (by rw [List.getElem?_append_left hi]; exact hx)
      rw [List.take_append_of_le_length (by omega)] at this
      exact this
/-- how much is kept of the i-th -/
def stay (ks : List (Int × Int)) (i : Nat) : Nat := ((stayOf ks (i : Int)).getD 0).toNat
theorem stay_le {np : Nat} {ks : List (Int × Int)} (h : KeepsOk np ks) (i : Nat) : stay ks i ≤ 256 ∧ (stayOf ks (i : Int)).getD 0 = ((stay ks i : Nat) : Int) := by
  unfold stay
  cases e : stayOf ks (i : Int) with
  | none => simp
  | some b =>
    have := stayOf_le _ _ rfl h _ _ e
    simp only [Option.getD_some]
    omega
/-- what lasts, when so many of the pages told have been dealt with -/
def mix (f : Int → Option (List UInt8)) (ks : List (Int × Int)) (L : List Int) (l : List (List UInt8)) : Nat → List (List UInt8)
  | 0 => l
  | m + 1 => match L[m]? with
    | some p => (mix f ks L l m).set p.toNat (((f p).getD []).take (stay ks m) ++ (((mix f ks L l m)[p.toNat]?).getD []).drop (stay ks m))
    | none => mix f ks L l m
theorem mix_len (f : Int → Option (List UInt8)) (ks : List (Int × Int)) (L : List Int) (l : List (List UInt8)) : ∀ m, (mix f ks L l m).length = l.length
  | 0 => rfl
  | m + 1 => by
    unfold mix
    split
    · rw [List.length_set, mix_len f ks L l m]
    · exact mix_len f ks L l m
theorem mix_succ {f : Int → Option (List UInt8)} {ks : List (Int × Int)} {L : List Int} {l : List (List UInt8)} {m p : Nat} {s t : List UInt8} (hp : L[m]? = some (p : Int)) (hs : f (p : Int) = some s) (ht : (mix f ks L l m)[p]? = some t) :
    mix f ks L l (m + 1) = (mix f ks L l m).set p (s.take (stay ks m) ++ t.drop (stay ks m)) := by
  rw [mix, hp]
  simp only [Int.toNat_natCast, hs, ht, Option.getD_some]
theorem mix_other {f : Int → Option (List UInt8)} {ks : List (Int × Int)} {L : List Int} {l : List (List UInt8)} (hL : ∀ p ∈ L, 0 ≤ p) : ∀ (m : Nat) (p : Nat), (p : Int) ∉ L.take m → (mix f ks L l m)[p]? = l[p]?
  | 0, p, _ => rfl
  | m + 1, p, h => by
    unfold mix
    split
    · rename_i q hq
      have hm : L.take (m + 1) = L.take m ++ [q] := by rw [List.take_add_one, hq]; rfl
      rw [hm] at h
      simp only [List.mem_append, List.mem_singleton, not_or] at h
      have h0 := hL q (List.mem_of_getElem? hq)
      rw [List.getElem?_set_ne (by omega)]
      exact mix_other hL m p h.1
    · rename_i hq
      refine mix_other hL m p fun hm => h ?_
      rw [List.take_add_one, hq]
      simpa using hm
theorem mix_at {f : Int → Option (List UInt8)} {ks : List (Int × Int)} {L : List Int} {l : List (List UInt8)} (hL : ∀ p ∈ L, 0 ≤ p) (hs : L.Pairwise (fun a b => a < b)) {j p : Nat} {s t : List UInt8} (hj : L[j]? = some (p : Int)) (hf : f (p : Int) = some s) (hl : l[p]? = some t) :
    ∀ m, j < m → (mix f ks L l m)[p]? = some (s.take (stay ks j) ++ t.drop (stay ks j))
  | 0, h => by omega
  | m + 1, h => by
    by_cases e : j = m
    · subst e
      have h1 := mix_other (f := f) (ks := ks) (l := l) hL j p (take_not_mem hs hj)
      rw [mix_succ hj hf (h1.trans hl), List.getElem?_set_self]
      rw [mix_len]
      exact (List.getElem?_eq_some_iff.1 hl).1
    · have ih := mix_at hL hs hj hf hl (ks := ks) m (by omega)
      unfold mix
      split
      · rename_i q hq
        have h0 := hL q (List.mem_of_getElem? hq)
        have hne : q.toNat ≠ p := fun e2 => by
          have hqp : q = (p : Int) := by omega
          obtain ⟨a1, a2⟩ := List.getElem?_eq_some_iff.1 hq
          obtain ⟨b1, b2⟩ := List.getElem?_eq_some_iff.1 hj
          have := List.pairwise_iff_getElem.1 hs j m b1 a1 (by omega)
          omega
        rw [List.getElem?_set_ne hne]
        exact ih
      · exact ih
/-- behind a crash -/
def crashed (l : List (List UInt8)) (f : Int → Option (List UInt8)) (ks : List (Int × Int)) : List (List UInt8) := mix f ks (told f l.length) l (told f l.length).length
theorem told_succ (f : Int → Option (List UInt8)) (n : Nat) : told f (n + 1) = told f n ++ (if (f (n : Int)).isSome then [(n : Int)] else []) := by
  unfold told
  rw [List.range_succ, List.map_append, List.filter_append]
  congr 1
  simp only [List.map_cons, List.map_nil, List.filter_cons, List.filter_nil]
theorem told_at {f : Int → Option (List UInt8)} {p : Nat} (hp : (f (p : Int)).isSome = true) : ∀ n, p < n → (told f n)[(told f p).length]? = some (p : Int)
  | 0, h => by omega
  | n + 1, h => by
    rw [told_succ]
    by_cases e : p = n
    · subst e
      rw [if_pos hp, List.getElem?_append_right (Nat.le_refl _)]
      simp
    · have ih := told_at hp n (by omega)
      rw [List.getElem?_append_left (List.getElem?_eq_some_iff.1 ih).1]
      exact ih
theorem crashed_some {l : List (List UInt8)} {f : Int → Option (List UInt8)} {ks : List (Int × Int)} {p : Nat} {s t : List UInt8} (hf : f (p : Int) = some s) (hl : l[p]? = some t) :
    (crashed l f ks)[p]? = some (s.take (stay ks (told f p).length) ++ t.drop (stay ks (told f p).length)) := by
  have hp : p < l.length := (List.getElem?_eq_some_iff.1 hl).1
  have h1 := told_at (f := f) (p := p) (by rw [hf]; rfl) l.length hp
  exact mix_at (fun q hq => (told_mem.1 hq).1) (told_sorted f _) h1 hf hl _ (List.getElem?_eq_some_iff.1 h1).1
theorem crashed_none {l : List (List UInt8)} {f : Int → Option (List UInt8)} {ks : List (Int × Int)} {p : Nat} (hf : f (p : Int) = none) : (crashed l f ks)[p]? = l[p]? := by
  refine mix_other (fun q hq => (told_mem.1 hq).1) _ p fun h => ?_
  have := (told_mem.1 (List.mem_of_mem_take h)).2.2
  rw [hf] at this
  cases this
theorem crashed_len (l : List (List UInt8)) (f : Int → Option (List UInt8)) (ks : List (Int × Int)) : (crashed l f ks).length = l.length := mix_len ..

/-- numbers by numbers -/
def Stays (D : DD) (g : Int → Option Int) : Prop := IsMap D ∧ ∀ p : Int, Maps.has D (pkey p) = (g p).isSome ∧ D.atKey (pkey p) (.lit (.int .i64 0)) = .lit (.int .i64 ((g p).getD 0))
theorem Stays.empty : Stays (.map []) (fun _ => none) := ⟨isMap_empty, fun _ => ⟨rfl, rfl⟩⟩
theorem Stays.put {D : DD} {g : Int → Option Int} (h : Stays D g) (p b : Int) : Stays (D.put (pkey p) (.lit (.int .i64 b))) (fun q => if q = p then some b else g q) := by
  refine ⟨h.1.put _ _, fun q => ?_⟩
  by_cases e : q = p
  · subst e
    simp only [if_true]
    exact ⟨has_put_same h.1 (pkey_is q) _, atKey_put_same h.1 (pkey_is q) _ _⟩
  · simp only [if_neg e]
    rw [has_put_other (pkey_ne e), atKey_put_other (pkey_ne e)]
    exact h.2 q
theorem look_ok_num {P : Program} {t k e : TypeId} {w : World} {mb n : Nat} {D : DD} {g : Int → Option Int} (hown : w.ownsMap P k (plainElem P e) mb n D) (K : Keyed P k) (hk : P.underlying k = some (.int .i64)) (ht : P.underlying t = some (.map k e)) (he : P.underlying e = some (.int .i64)) (hz : ∀ w, (zeroValue e).run P w = .ok (.int .i64 0) w)
    (hP : Stays D g) (p : Int) (hp : (Lit.int .i64 p).wf = true) :
    (Instr.lookup t (.map (some mb)) (.int .i64 p) true).run P w = .ok (.tuple #[.int .i64 ((g p).getD 0), .bool (g p).isSome]) w := by
  obtain ⟨v, ps, hrun, hv⟩ := hown.look_ok K ht (hz w) (plainElem_int he (by decide)) (keyOf_int_mk hk hp)
  have h2 := hP.2 p
  rw [show (Lit.int .i64 p) = pkey p from rfl, h2.2] at hv
  obtain ⟨a, rfl, hc, _⟩ := plainElem_int_inv he hv
  simp only [Prod.mk.injEq, DataW.lit.injEq, Lit.int.injEq, true_and] at hc
  rw [hrun, show (Lit.int .i64 p) = pkey p from rfl, h2.1, hc.1]
theorem look_num {P : Program} {t k e : TypeId} {w : World} {mb n : Nat} {D : DD} {g : Int → Option Int} (hown : w.ownsMap P k (plainElem P e) mb n D) (K : Keyed P k) (hk : P.underlying k = some (.int .i64)) (ht : P.underlying t = some (.map k e)) (he : P.underlying e = some (.int .i64)) (hz : ∀ w, (zeroValue e).run P w = .ok (.int .i64 0) w)
    (hP : Stays D g) (p : Int) (hp : (Lit.int .i64 p).wf = true) :
    (Instr.lookup t (.map (some mb)) (.int .i64 p) false).run P w = .ok (.int .i64 ((g p).getD 0)) w := by
  obtain ⟨c, hrun, hat, _⟩ := hown.lookup_int K ht he (hz w) (keyOf_int_mk hk hp)
  have h2 := (hP.2 p).2
  rw [show (Lit.int .i64 p) = pkey p from rfl, h2] at hat
  simp only [DataW.lit.injEq, Lit.int.injEq, true_and] at hat
  rw [hrun, hat]
end Go.Proofs.Ytbhienlalpbflaa

namespace Go.Proofs.Ytbhienlalpbflaa
open Go.RowKit Go.Maps

set_option maxRecDepth 100000 in
set_option maxHeartbeats 1000000 in
theorem actf_idle (d : Nat) (cap : Array Value) (pv mv : Value) (S : Nat → Prop) (R : World → Prop) (w : World) (h1 : w.heap[d]? = some (.cells #[pv, mv, .bool false, .int .i64 0] 82 (0, 0)))
    (hw : Calls Try.prog 48 cap (w.alloc (.cells #[.pointer (some ⟨d, 0, none⟩)] 23)) fun e w2 => e = .returned (.tuple #[]) ∧ R w2 ∧ Keeps S (w.alloc (.cells #[.pointer (some ⟨d, 0, none⟩)] 23)) w2) (hS : ¬ S d) (hS2 : ¬ S w.heap.size) :
    Calls Try.prog 47 #[.pointer (some ⟨d, 0, none⟩), .func (.func 48) #[] cap] w fun e w' => e = .returned (.int .i64 0) ∧ R w' ∧ Keeps S w w' := by
  have hmf : ∀ (fn : Fn) (first cap : Array Value) (w : World), (Instr.makeFunc fn first cap).run Try.prog w = .ok (.func fn first cap) w := fun _ _ _ _ => rfl
  have f0 : Fresh w (w.alloc (.cells #[.pointer (some ⟨d, 0, none⟩)] 23)) := (Keeps.refl _ _).alloc _
  have hbox := heap_alloc_new w (.cells #[.pointer (some ⟨d, 0, none⟩)] 23)
  have cb : (w.alloc (.cells #[.pointer (some ⟨d, 0, none⟩)] 23)).cell? ⟨w.heap.size, 0, none⟩ = some (.pointer (some ⟨d, 0, none⟩)) := (cell_at hbox 0).trans rfl
  have hd2 := f0.at_ h1 (fun h => h)
  have c3 := cell_at hd2 3
  simp at c3
  have c3 : (w.alloc (.cells #[.pointer (some ⟨d, 0, none⟩)] 23)).cell? ⟨d, 3, none⟩ = some (.int .i64 0) := by rw [cell_at hd2 3]; rfl
  have HB := hid (lt_of_block hbox)
  have HD := hid hd2
  have HW := hid hw
  clear hw h1 hbox hd2
  go_enter_defers Try.func47, Try.ntmps47
  go_wp2_with (go_at_call 48; refine HW.out.mono ?_; rintro e w2 ⟨rfl, hR, k2⟩)
  have cb2 := (k2.cell (p := ⟨w.heap.size, 0, none⟩) HB.out hS2).trans cb
  have hd3 := k2.at_ HD.out hS
  have c32 := cell_at hd3 3
  refine leaves_cons (f := 63) (args := #[.pointer (some ⟨w.heap.size, 0, none⟩)]) (by simp) (by simp [go_sem]) ?_
  refine (act1_idle w.heap.size d w2 cb2 (by rw [c32]; rfl)).mono ?_
  rintro e u' w'' ⟨rfl, rfl, rfl⟩
  exact ⟨_, results_tmp rfl _ _ _, rfl, hR, (f0.mono (fun _ _ h => h.elim)).trans k2⟩

theorem flushed_len (l : List (List UInt8)) (f : Int → Option (List UInt8)) : (flushed l f).length = l.length := by simp [flushed]
set_option maxRecDepth 100000 in
theorem actf_end (B : Nat → Prop) (bx d : Nat) (l : List (List UInt8)) (D : DD) (n : Nat) (armed : Int) (f : Int → Option (List UInt8)) (w : World) (hx : w.heap[bx]? = some (.cells #[.pointer (some ⟨d, 0, none⟩)] 23 (0, 0))) (h : Dev B w d l D n false armed) (ha : 0 ≤ armed) (ha2 : armed ≤ 9223372036854775807)
    (hP : Pends D f) (hr : ∀ p, (f p).isSome = true → 0 ≤ p ∧ p < l.length) (hll : l.length ≤ 4096) (hn : n ≤ 100000) :
    Calls Try.prog 47 #[.pointer (some ⟨d, 0, none⟩), .func (.func 48) #[] #[.pointer (some ⟨bx, 0, none⟩)]] w fun e w' => (armed = 1 ∧ e = .returned (.int .i64 2) ∧ Dev B w' d l D n true 1 ∧ Keeps B w w') ∨
      (armed ≠ 1 ∧ e = .returned (.int .i64 0) ∧ (∃ D', Dev B w' d (flushed l f) D' n false (lower armed) ∧ Pends D' (fun _ => none)) ∧ Keeps B w w') := by
  obtain ⟨pv, mb, h1, h2, h3, h4, h5⟩ := h.ex
  have g0 : Fresh w (w.alloc (.cells #[.pointer (some ⟨d, 0, none⟩)] 23)) := (Keeps.refl _ _).alloc _
  have nd := cells_ne_map h1 h3
  have ndp := cells_ne_row h1 h2.1 (by decide)
  have nmp := row_ne_map h2.1 h3
  have hml := h3.lt
  have hpl := fun g hg => (h2.1.lt g hg).2
  by_cases hd : armed = 1
  · subst hd
    refine (act_dies d _ _ pv (.map (some mb)) w h1).mono ?_
    rintro e w' ⟨rfl, rfl⟩
    have k2 : Keeps (fun q => q = d) w ((w.alloc (.cells #[.pointer (some ⟨d, 0, none⟩)] 23)).setCell ⟨d, 2, none⟩ (.bool true)) := Keeps.setCell (S := fun q => q = d) (p := ⟨d, 2, none⟩) (g0.mono (fun _ _ h => h.elim)) (fun _ => rfl) _
    exact .inl ⟨rfl, rfl, ⟨⟨pv, mb, heap_setCell_at (g0.at_ h1 (fun h => h)) 2 _, ⟨ownsRow_keeps h2.1 k2 (fun g hg e => ndp (by rw [hg, e])), h2.2⟩, map_keeps h3 k2 (fun e => nd e.symm), h4, h5⟩⟩, k2.mono (fun q _ h => by rw [show q = d from h]; exact h5)⟩
  · have hfl := flush1_any bx d mb n pv l D false armed f (w.alloc (.cells #[.pointer (some ⟨d, 0, none⟩)] 23)) (g0.at_ hx (fun h => h)) (g0.at_ h1 (fun h => h)) (ownsRow_keeps h2.1 g0 (fun _ _ h => h)) (map_keeps h3 g0 (fun h => h)) hP hr hll hn
    have hSd : ¬ (d = mb ∨ pv.ownBlock = some d) := fun e => e.elim nd ndp
    have hSw : ¬ (w.heap.size = mb ∨ pv.ownBlock = some w.heap.size) := fun e => e.elim (fun e => by omega) (fun e => by have := hpl _ e; omega)
    have hSB : ∀ q, (q = mb ∨ pv.ownBlock = some q) → B q := fun q e => e.elim (fun e => by rw [e]; exact h4) (fun e => h2.2 q e)
    by_cases h0 : armed = 0
    · subst h0
      refine (actf_idle d _ pv (.map (some mb)) (fun q => q = mb ∨ pv.ownBlock = some q) _ w h1 hfl hSd hSw).mono ?_
      rintro e w' ⟨rfl, ⟨hrow, D', hown, hPn⟩, k2⟩
      exact .inr ⟨hd, rfl, ⟨D', ⟨⟨pv, mb, k2.at_ h1 hSd, ⟨by rw [flushed_len]; exact hrow, h2.2⟩, hown, h4, h5⟩⟩, hPn⟩, k2.mono (fun q _ h => hSB q h)⟩
    · obtain ⟨k, rfl⟩ : ∃ k : Nat, armed = ((k + 1 : Nat) : Int) := ⟨(armed - 1).toNat, by omega⟩
      have e1 : lower ((k + 1 : Nat) : Int) = (k : Int) := by unfold lower; rw [if_neg (by omega)]; omega
      refine (act_flush d k _ pv (.map (some mb)) (fun q => q = mb ∨ pv.ownBlock = some q) _ w h1 (by omega) (by omega) hfl hSd hSw).mono ?_
      rintro e w' ⟨rfl, w2, ⟨hrow, D', hown, hPn⟩, k2, rfl⟩
      have k3 : Keeps (fun q => q = d) w2 (w2.setCell ⟨d, 3, none⟩ (.int .i64 (k : Int))) := Keeps.setCell (S := fun q => q = d) (p := ⟨d, 3, none⟩) (Keeps.refl _ _) (fun _ => rfl) _
      refine .inr ⟨hd, rfl, ⟨D', ?_, hPn⟩, (k2.mono (fun q _ h => hSB q h)).trans (k3.mono (fun q _ h => by rw [show q = d from h]; exact h5))⟩
      rw [e1]
      exact ⟨⟨pv, mb, heap_setCell_at (k2.at_ h1 hSd) 3 _, ⟨by rw [flushed_len]; exact ownsRow_keeps hrow k3 (fun g hg e => ndp (by rw [hg, e])), h2.2⟩, map_keeps hown k3 (fun e => nd e.symm), h4, h5⟩⟩

set_option maxRecDepth 100000 in
set_option maxHeartbeats 1000000 in
/-- Flush, of a device that lives -/
theorem flush_end (B : Nat → Prop) (d : Nat) (l : List (List UInt8)) (D : DD) (n : Nat) (armed : Int) (f : Int → Option (List UInt8)) (w : World) (h : Dev B w d l D n false armed) (ha : 0 ≤ armed) (ha2 : armed ≤ 9223372036854775807)
    (hP : Pends D f) (hr : ∀ p, (f p).isSome = true → 0 ≤ p ∧ p < l.length) (hll : l.length ≤ 4096) (hn : n ≤ 100000) :
    Calls Try.prog 24 #[.pointer (some ⟨d, 0, none⟩)] w fun e w' => (armed = 1 ∧ e = .returned (.int .i64 2) ∧ Dev B w' d l D n true 1 ∧ Keeps B w w') ∨
      (armed ≠ 1 ∧ e = .returned (.int .i64 0) ∧ (∃ D', Dev B w' d (flushed l f) D' n false (lower armed) ∧ Pends D' (fun _ => none)) ∧ Keeps B w w') := by
  have hmf : ∀ (fn : Fn) (first cap : Array Value) (w : World), (Instr.makeFunc fn first cap).run Try.prog w = .ok (.func fn first cap) w := fun _ _ _ _ => rfl
  have f0 : Fresh w (w.alloc (.cells #[.pointer (some ⟨d, 0, none⟩)] 23)) := (Keeps.refl _ _).alloc _
  have hbox := heap_alloc_new w (.cells #[.pointer (some ⟨d, 0, none⟩)] 23)
  have hdev0 := h.fresh f0
  have hact := actf_end B w.heap.size d l D n armed f (w.alloc (.cells #[.pointer (some ⟨d, 0, none⟩)] 23)) hbox hdev0 ha ha2 hP hr hll hn
  obtain ⟨pv, mb, h1, -⟩ := hdev0.ex
  have X0 := cell_at hbox 0
  have D2 := cell_at h1 2
  simp at X0 D2
  have HACT := hid hact
  clear hact hdev0 hbox h1 h hP hr
  go_enter Try.func24, Try.ntmps24
  go_wp2_with fail
  refine HACT.out.mono ?_
  rintro e w2 (⟨h1, rfl, h2, h3⟩ | ⟨h1, rfl, h2, h3⟩)
  · go_wp2_with fail
    go_ret
    exact .inl ⟨h1, rfl, h2, (f0.mono (fun _ _ h => h.elim)).trans h3⟩
  · go_wp2_with fail
    go_ret
    exact .inr ⟨h1, rfl, h2, (f0.mono (fun _ _ h => h.elim)).trans h3⟩
end Go.Proofs.Ytbhienlalpbflaa
