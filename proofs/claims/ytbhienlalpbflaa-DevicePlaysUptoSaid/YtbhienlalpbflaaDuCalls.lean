/-
  Both devices by their states: every call, the program's and the document's in the same words.
-/
import Derived.Test.YtbhienlalpbflaaDuSt
import Derived.Test.YtbhienlalpbflaaDvOwnL
import Derived.Test.YtbhienlalpbflaaRdPages
import Derived.Test.YtbhienlalpbflaaRdWrites
import Derived.Test.YtbhienlalpbflaaMDvD
import Derived.Test.YtbhienlalpbflaaDvReads
namespace Go.Proofs.Ytbhienlalpbflaa
open Go.RowKit Go.Maps

/-- the program's device in memory, its blocks among these -/
structure DevAt (B : Nat → Prop) (w : World) (d : Nat) (s : St) (n : Nat) : Prop where
  ex : ∃ D m armed, m ≤ n ∧ Dev B w d s.l D m s.dead armed ∧ Pends D s.f ∧ (s.dead = false → armed = s.left)
/-- the document's -/
structure RefAt (B : Nat → Prop) (w : World) (x : Nat) (s : St) : Prop where
  ex : ∃ is ps, RDev B w x s.l is ps s.left s.dead ∧ Agree s.l s.f is ps
section
variable {B B' : Nat → Prop} {w w' : World} {d x n : Nat} {s : St}
theorem DevAt.fresh (h : DevAt B w d s n) (f : Fresh w w') : DevAt B w' d s n := by
  obtain ⟨D, m, a, h0, h1, h2⟩ := h.ex
  exact ⟨D, m, a, h0, h1.fresh f, h2⟩
theorem RefAt.fresh (h : RefAt B w x s) (f : Fresh w w') : RefAt B w' x s := by
  obtain ⟨is, ps, h1, h2⟩ := h.ex
  exact ⟨is, ps, h1.fresh f, h2⟩
theorem DevAt.mono (h : DevAt B w d s n) (hb : ∀ q, q < w.heap.size → B q → B' q) {n' : Nat} (hn : n ≤ n') : DevAt B' w d s n' := by
  obtain ⟨D, m, a, h0, h1, h2⟩ := h.ex
  obtain ⟨pv, mb, e1, e2, e3, e4, e5⟩ := h1.ex
  exact ⟨D, m, a, by omega, ⟨pv, mb, e1, ⟨e2.1, fun g hg => hb g (e2.1.lt g hg).2 (e2.2 g hg)⟩, e3, hb _ e3.lt e4, hb _ (lt_of_block e1) e5⟩, h2⟩
theorem RefAt.mono (h : RefAt B w x s) (hb : ∀ q, q < w.heap.size → B q → B' q) : RefAt B' w x s := by
  obtain ⟨is, ps, h1, h2⟩ := h.ex
  obtain ⟨lv, iv, pv, e1, e2, e3, e4, e5, e6, e7, e8⟩ := h1.ex
  exact ⟨is, ps, ⟨lv, iv, pv, e1, ⟨e2.1, fun g hg => hb g (e2.1.lt g hg).2 (e2.2 g hg)⟩, ⟨e3.1, fun g hg => hb g (e3.1.lt g hg).2 (e3.2 g hg)⟩, ⟨e4.1, fun g hg => hb g (e4.1.lt g hg).2 (e4.2 g hg)⟩, e5, e6, e7, hb _ (lt_of_block e1) e8⟩, h2⟩
/-- what turns is none of theirs -/
theorem DevAt.keeps {S : Nat → Prop} (h : DevAt B w d s n) (k : Keeps S w w') (hS : ∀ q, q < w.heap.size → S q → ¬ B q) : DevAt B w' d s n := by
  obtain ⟨D, m, a, h0, h1, h2⟩ := h.ex
  obtain ⟨pv, mb, e1, e2, e3, e4, e5⟩ := h1.ex
  exact ⟨D, m, a, h0, ⟨pv, mb, k.at_ e1 (fun q => hS _ (lt_of_block e1) q e5), ⟨ownsRow_keeps e2.1 k fun g hg q => hS g (e2.1.lt g hg).2 q (e2.2 g hg), e2.2⟩, map_keeps e3 k (fun q => hS _ e3.lt q e4), e4, e5⟩, h2⟩
theorem RefAt.keeps {S : Nat → Prop} (h : RefAt B w x s) (k : Keeps S w w') (hS : ∀ q, q < w.heap.size → S q → ¬ B q) : RefAt B w' x s := by
  obtain ⟨is, ps, h1, h2⟩ := h.ex
  obtain ⟨lv, iv, pv, e1, e2, e3, e4, e5, e6, e7, e8⟩ := h1.ex
  exact ⟨is, ps, ⟨lv, iv, pv, k.at_ e1 (fun q => hS _ (lt_of_block e1) q e8), ⟨ownsRow_keeps e2.1 k fun g hg q => hS g (e2.1.lt g hg).2 q (e2.2 g hg), e2.2⟩, ⟨ownsRow_keeps e3.1 k fun g hg q => hS g (e3.1.lt g hg).2 q (e3.2 g hg), e3.2⟩, ⟨ownsRow_keeps e4.1 k fun g hg q => hS g (e4.1.lt g hg).2 q (e4.2 g hg), e4.2⟩, e5, e6, e7, e8⟩, h2⟩
theorem DevAt.keeps2 {S : Nat → Prop} (h : DevAt B w d s n) (k : Keeps S w w') (hS : ∀ q, q < w.heap.size → S q → ¬ B q) (hb : ∀ q, q < w.heap.size → B q → B' q) : DevAt B' w' d s n := by
  obtain ⟨D, m, a, h0, h1, h2⟩ := h.ex
  obtain ⟨pv, mb, e1, e2, e3, e4, e5⟩ := h1.ex
  exact ⟨D, m, a, h0, ⟨pv, mb, k.at_ e1 (fun q => hS _ (lt_of_block e1) q e5), ⟨ownsRow_keeps e2.1 k fun g hg q => hS g (e2.1.lt g hg).2 q (e2.2 g hg), fun g hg => hb g (e2.1.lt g hg).2 (e2.2 g hg)⟩, map_keeps e3 k (fun q => hS _ e3.lt q e4), hb _ e3.lt e4, hb _ (lt_of_block e1) e5⟩, h2⟩
theorem RefAt.keeps2 {S : Nat → Prop} (h : RefAt B w x s) (k : Keeps S w w') (hS : ∀ q, q < w.heap.size → S q → ¬ B q) (hb : ∀ q, q < w.heap.size → B q → B' q) : RefAt B' w' x s := by
  obtain ⟨is, ps, h1, h2⟩ := h.ex
  obtain ⟨lv, iv, pv, e1, e2, e3, e4, e5, e6, e7, e8⟩ := h1.ex
  exact ⟨is, ps, ⟨lv, iv, pv, k.at_ e1 (fun q => hS _ (lt_of_block e1) q e8), ⟨ownsRow_keeps e2.1 k fun g hg q => hS g (e2.1.lt g hg).2 q (e2.2 g hg), fun g hg => hb g (e2.1.lt g hg).2 (e2.2 g hg)⟩, ⟨ownsRow_keeps e3.1 k fun g hg q => hS g (e3.1.lt g hg).2 q (e3.2 g hg), fun g hg => hb g (e3.1.lt g hg).2 (e3.2 g hg)⟩, ⟨ownsRow_keeps e4.1 k fun g hg q => hS g (e4.1.lt g hg).2 q (e4.2 g hg), fun g hg => hb g (e4.1.lt g hg).2 (e4.2 g hg)⟩, e5, e6, e7, hb _ (lt_of_block e1) e8⟩, h2⟩
theorem DevAt.lt (h : DevAt B w d s n) : d < w.heap.size ∧ B d := by
  obtain ⟨D, m, a, h0, h1, h2⟩ := h.ex
  obtain ⟨pv, mb, e1, e2, e3, e4, e5⟩ := h1.ex
  exact ⟨lt_of_block e1, e5⟩
theorem RefAt.lt (h : RefAt B w x s) : x < w.heap.size ∧ B x := by
  obtain ⟨is, ps, h1, h2⟩ := h.ex
  obtain ⟨lv, iv, pv, e1, e2, e3, e4, e5, e6, e7, e8⟩ := h1.ex
  exact ⟨lt_of_block e1, e8⟩
end

theorem readOf_rd {s : St} {p : Nat} (hp : p < s.l.length) : readOf s.l s.f p = (s.f (p : Int)).getD ((s.l[(p : Int).toNat]?).getD []) := by
  simp [readOf, List.getElem?_eq_getElem hp]

set_option maxRecDepth 100000 in
theorem rflush_dead (B : Nat → Prop) (x : Nat) (l : List (List UInt8)) (is : List Bool) (ps : List (List UInt8)) (left : Int) (w : World) (h : RDev B w x l is ps left true) :
    Calls Try.prog 39 #[.pointer (some ⟨x, 0, none⟩)] w fun e w' => e = .returned (.int .i64 2) ∧ Fresh w w' := by
  obtain ⟨lv, iv, pv, h1, -⟩ := h.ex
  have c4 := cell_at h1 4
  simp at c4
  clear h h1
  go_enter Try.func39, Try.ntmps39
  go_wp2_with fail
  go_ret
  exact ⟨rfl, Keeps.refl _ _⟩

section
variable (B : Nat → Prop) (d x n : Nat) (s : St) (w : World)
theorem dread (p : Int) (h : DevAt B w d s n) (ok : s.Ok) : Calls Try.prog 27 #[.pointer (some ⟨d, 0, none⟩), .int .i64 p] w fun e w' => e = .returned (.tuple #[.string (str (rdSt s p).1), .int .i64 (rdSt s p).2]) ∧ Fresh w w' := by
  obtain ⟨D, m, a, h0, h1, h2, h3⟩ := h.ex
  unfold rdSt
  by_cases e : askedErr s.dead s.l p = 0
  · rw [if_pos e]
    obtain ⟨hd, hp0, hp1⟩ := asked_zero e
    obtain ⟨q, rfl⟩ : ∃ q : Nat, p = (q : Int) := ⟨p.toNat, by omega⟩
    rw [hd] at h1
    have := read_any B d s.l D m a q s.f w h1 h2 (by omega) ok.ll
    rwa [readOf_rd (by omega)] at this
  · rw [if_neg e]
    exact read_wrong d p _ w e (asked_any B d s.l D m s.dead a p w h1)
theorem xread (p : Int) (h : RefAt B w x s) : Calls Try.prog 36 #[.pointer (some ⟨x, 0, none⟩), .int .i64 p] w fun e w' => e = .returned (.tuple #[.string (str (rdSt s p).1), .int .i64 (rdSt s p).2]) ∧ Fresh w w' := by
  obtain ⟨is, ps, h1, h2⟩ := h.ex
  unfold rdSt
  by_cases e : askedErr s.dead s.l p = 0
  · rw [if_pos e]
    obtain ⟨hd, hp0, hp1⟩ := asked_zero e
    obtain ⟨q, rfl⟩ : ∃ q : Nat, p = (q : Int) := ⟨p.toNat, by omega⟩
    rw [hd] at h1
    obtain ⟨_, _, _, _, _, _, _, _, q6, q7, _⟩ := h1.ex
    have := rread_ok B x s.l is ps s.left q (s.l[q]'(by omega)) (ps[q]'(by omega)) (is[q]'(by omega)) w h1 (List.getElem?_eq_getElem _) (List.getElem?_eq_getElem _) (List.getElem?_eq_getElem _)
    have hf := h2 q (by omega)
    rw [List.getElem?_eq_getElem (show q < is.length by omega), List.getElem?_eq_getElem (show q < ps.length by omega)] at hf
    rw [hf, Int.toNat_natCast, List.getElem?_eq_getElem (show q < s.l.length by omega)]
    cases hb : is[q]'(by omega) with
    | true => rw [hb] at this; simpa using this
    | false => rw [hb] at this; simpa using this
  · rw [if_neg e]
    exact rread_wrong B x s.l is ps s.left s.dead p w h1 e
theorem dwrite (p : Int) (t : List UInt8) (h : DevAt B w d s n) (ok : s.Ok) (hn : n ≤ 100000) : Calls Try.prog 25 #[.pointer (some ⟨d, 0, none⟩), .int .i64 p, .string (str t)] w fun e w' => e = .returned (.int .i64 (wrSt s p t).1) ∧ DevAt B w' d (wrSt s p t).2 (n + 1) ∧ Keeps B w w' := by
  have hF := fun w' (f : Fresh w w') => (h.fresh f).mono (fun _ _ h => h) (Nat.le_succ n)
  obtain ⟨D, m, a, h0, h1, h2, h3⟩ := h.ex
  unfold wrSt
  by_cases e : askedErr s.dead s.l p = 0
  · rw [if_neg (fun h => h e)]
    obtain ⟨hd, hp0, hp1⟩ := asked_zero e
    by_cases ht : t.length = 256
    · rw [if_neg (fun h => h ht)]
      rw [hd] at h1
      have ha := h3 hd
      have hl0 := ok.lt0
      have hl1 := ok.lt1
      refine (write_end B d s.l D m a p t w h1 (by omega) (by omega) (by omega) hp0 hp1 ok.ll ht).mono ?_
      rintro e w' (⟨q1, rfl, q2, q3⟩ | ⟨q1, rfl, q2, q3⟩)
      · rw [if_pos (by omega)]
        exact ⟨rfl, ⟨D, m, 1, by omega, q2, h2, fun h => by cases h⟩, q3⟩
      · rw [if_neg (by omega), hd]
        exact ⟨rfl, ⟨_, m + 1, _, by omega, q2, h2.put p t, fun _ => by rw [ha]⟩, q3⟩
    · rw [if_pos ht]
      refine (write_size d p t w ht fun W f => ?_).mono ?_
      · have := asked_any B d s.l D m s.dead a p W (h1.fresh f)
        rwa [e] at this
      · rintro e w' ⟨rfl, f⟩
        exact ⟨rfl, hF w' f, f.mono fun _ _ h => h.elim⟩
  · rw [if_pos e]
    refine (write_wrong d p _ t w e fun W f => asked_any B d s.l D m s.dead a p W (h1.fresh f)).mono ?_
    rintro e w' ⟨rfl, f⟩
    exact ⟨rfl, hF w' f, f.mono fun _ _ h => h.elim⟩
theorem xwrite (p : Int) (t : List UInt8) (h : RefAt B w x s) (ok : s.Ok) : Calls Try.prog 37 #[.pointer (some ⟨x, 0, none⟩), .int .i64 p, .string (str t)] w fun e w' => e = .returned (.int .i64 (wrSt s p t).1) ∧ RefAt B w' x (wrSt s p t).2 ∧ Keeps B w w' := by
  have hF := fun w' (f : Fresh w w') => h.fresh f
  obtain ⟨is, ps, h1, h2⟩ := h.ex
  unfold wrSt
  by_cases e : askedErr s.dead s.l p = 0
  · rw [if_neg (fun h => h e)]
    by_cases ht : t.length = 256
    · obtain ⟨hd, hp0, hp1⟩ := asked_zero e
      obtain ⟨q, rfl⟩ : ∃ q : Nat, p = (q : Int) := ⟨p.toNat, by omega⟩
      rw [if_neg (fun h => h ht)]
      rw [hd] at h1
      obtain ⟨_, _, _, _, _, _, _, _, q6, q7, _⟩ := h1.ex
      refine (rwrite_end B x s.l is ps s.left q t w h1 ok.lt0 ok.lt1 (by omega) ht).mono ?_
      rintro e w' (⟨q1, rfl, q2, q3⟩ | ⟨q1, rfl, q2, q3⟩)
      · rw [if_pos q1]
        rw [q1] at q2
        exact ⟨rfl, ⟨is, ps, q2, h2⟩, q3⟩
      · rw [if_neg q1, hd]
        exact ⟨rfl, ⟨_, _, q2, h2.put q6 q7 (by omega) t⟩, q3⟩
    · rw [if_pos ht]
      refine (rwrite_size B x s.l is ps s.left s.dead p t w h1 e ht).mono ?_
      rintro e w' ⟨rfl, f⟩
      exact ⟨rfl, hF w' f, f.mono fun _ _ h => h.elim⟩
  · rw [if_pos e]
    refine (rwrite_wrong B x s.l is ps s.left s.dead p t w h1 e).mono ?_
    rintro e w' ⟨rfl, f⟩
    exact ⟨rfl, hF w' f, f.mono fun _ _ h => h.elim⟩
theorem dflush (h : DevAt B w d s n) (ok : s.Ok) (hn : n ≤ 100000) : Calls Try.prog 24 #[.pointer (some ⟨d, 0, none⟩)] w fun e w' => e = .returned (.int .i64 (flSt s).1) ∧ DevAt B w' d (flSt s).2 n ∧ Keeps B w w' := by
  have hF := fun w' (f : Fresh w w') => h.fresh f
  obtain ⟨D, m, a, h0, h1, h2, h3⟩ := h.ex
  unfold flSt
  by_cases hd : s.dead = true
  · rw [if_pos hd]
    rw [hd] at h1
    refine (flush_dead B d s.l D m a w h1).mono ?_
    rintro e w' ⟨rfl, f⟩
    exact ⟨rfl, hF w' f, f.mono fun _ _ h => h.elim⟩
  · rw [if_neg hd]
    have hd2 : s.dead = false := by cases e : s.dead <;> simp_all
    rw [hd2] at h1
    have ha := h3 hd2
    have hl0 := ok.lt0
    have hl1 := ok.lt1
    refine (flush_end B d s.l D m a s.f w h1 (by omega) (by omega) h2 ok.fr ok.ll (by omega)).mono ?_
    rintro e w' (⟨q1, rfl, q2, q3⟩ | ⟨q1, rfl, ⟨D', q2, q4⟩, q3⟩)
    · rw [if_pos (by omega)]
      exact ⟨rfl, ⟨D, m, 1, h0, q2, h2, fun h => by cases h⟩, q3⟩
    · rw [if_neg (by omega)]
      exact ⟨rfl, ⟨D', m, _, h0, q2, q4, fun _ => by rw [ha]⟩, q3⟩
theorem xflush (h : RefAt B w x s) (ok : s.Ok) : Calls Try.prog 39 #[.pointer (some ⟨x, 0, none⟩)] w fun e w' => e = .returned (.int .i64 (flSt s).1) ∧ RefAt B w' x (flSt s).2 ∧ Keeps B w w' := by
  have hF := fun w' (f : Fresh w w') => h.fresh f
  obtain ⟨is, ps, h1, h2⟩ := h.ex
  unfold flSt
  by_cases hd : s.dead = true
  · rw [if_pos hd]
    rw [hd] at h1
    refine (rflush_dead B x s.l is ps s.left w h1).mono ?_
    rintro e w' ⟨rfl, f⟩
    exact ⟨rfl, hF w' f, f.mono fun _ _ h => h.elim⟩
  · rw [if_neg hd]
    have hd2 : s.dead = false := by cases e : s.dead <;> simp_all
    rw [hd2] at h1
    refine (rflush_end B x s.l is ps s.left w h1 ok.lt0 ok.lt1 ok.ll).mono ?_
    rintro e w' (⟨q1, rfl, q2, q3⟩ | ⟨q1, rfl, q2, q3⟩)
    · rw [if_pos q1]
      rw [q1] at q2
      exact ⟨rfl, ⟨is, ps, q2, h2⟩, q3⟩
    · rw [if_neg q1]
      obtain ⟨r1, r2⟩ := h2.flush
      rw [r1] at q2
      exact ⟨rfl, ⟨_, ps, q2, r2⟩, q3⟩
theorem darm (k : Int) (h : DevAt B w d s n) : Calls Try.prog 23 #[.pointer (some ⟨d, 0, none⟩), .int .i64 k] w fun e w' => e = .returned (.int .i64 (armSt s k).1) ∧ DevAt B w' d (armSt s k).2 n ∧ Keeps B w w' := by
  have hF := fun w' (f : Fresh w w') => h.fresh f
  obtain ⟨D, m, a, h0, h1, h2, h3⟩ := h.ex
  unfold armSt
  by_cases hd : s.dead = true
  · rw [if_pos hd]
    rw [hd] at h1
    refine (arm_dead B d s.l D m a k w h1).mono ?_
    rintro e w' ⟨rfl, f⟩
    exact ⟨rfl, hF w' f, f.mono fun _ _ h => h.elim⟩
  · rw [if_neg hd]
    have hd2 : s.dead = false := by cases e : s.dead <;> simp_all
    rw [hd2] at h1
    by_cases hk : k < 0
    · rw [if_pos hk]
      refine (arm_neg B d s.l D m a k w h1 hk).mono ?_
      rintro e w' ⟨rfl, f⟩
      exact ⟨rfl, hF w' f, f.mono fun _ _ h => h.elim⟩
    · rw [if_neg hk]
      refine (arm_any B d s.l D m a k w h1 (by omega)).mono ?_
      rintro e w' ⟨rfl, q2, q3⟩
      exact ⟨rfl, ⟨D, m, k, h0, by rw [hd2]; exact q2, h2, fun _ => rfl⟩, q3⟩
theorem xarm (k : Int) (h : RefAt B w x s) : Calls Try.prog 40 #[.pointer (some ⟨x, 0, none⟩), .int .i64 k] w fun e w' => e = .returned (.int .i64 (armSt s k).1) ∧ RefAt B w' x (armSt s k).2 ∧ Keeps B w w' := by
  obtain ⟨is, ps, h1, h2⟩ := h.ex
  have e1 : (if s.dead = true then (2 : Int) else if k < 0 then 1 else 0) = (armSt s k).1 := by
    unfold armSt
    split
    · rfl
    · split <;> rfl
  have e2 : (armSt s k).2 = ⟨s.l, s.f, s.dead, if s.dead = true ∨ k < 0 then s.left else k⟩ := by
    unfold armSt
    by_cases hd : s.dead = true
    · rw [if_pos hd, if_pos (.inl hd)]
    · rw [if_neg hd]
      by_cases hk : k < 0
      · rw [if_pos hk, if_pos (.inr hk)]
      · rw [if_neg hk, if_neg (by rintro (h | h) <;> contradiction)]
  refine (rarm_any B x s.l is ps s.left s.dead k w h1).mono ?_
  rintro e w' ⟨rfl, q2, q3⟩
  rw [← e1, e2]
  exact ⟨rfl, ⟨is, ps, q2, h2⟩, q3⟩
theorem dpages (h : DevAt B w d s n) (ok : s.Ok) : Calls Try.prog 16 #[.pointer (some ⟨d, 0, none⟩)] w fun e w' => ∃ v y, e = .returned v ∧ Clip v y ∧ OwnTexts w.heap.size w' y s.l ∧ Fresh w w' := by
  obtain ⟨D, m, a, h0, h1, h2, h3⟩ := h.ex
  exact pages_own B d s.l D m s.dead a w h1 ok.ll
theorem xpages (h : RefAt B w x s) (ok : s.Ok) : Calls Try.prog 20 #[.pointer (some ⟨x, 0, none⟩)] w fun e w' => ∃ v, e = .returned v ∧ OwnTexts w.heap.size w' v s.l ∧ Fresh w w' := by
  obtain ⟨is, ps, h1, h2⟩ := h.ex
  exact rpages_any B x s.l is ps s.left s.dead w h1 ok.ll
theorem DevAt.keys (h : DevAt B w d s n) (ok : s.Ok) : ∃ D m a, Dev B w d s.l D m s.dead a ∧ Pends D s.f ∧ m ≤ n ∧ (s.dead = false → a = s.left) ∧ rise (intKeys D) = told s.f s.l.length ∧ Maps.size D ≤ 4096 ∧ (∀ p ∈ intKeys D, 0 ≤ p ∧ p < 4096) := by
  obtain ⟨D, m, a, h0, h1, h2, h3⟩ := h.ex
  obtain ⟨pv, mb, e1, e2, e3, e4, e5⟩ := h1.ex
  have hr := rise_told e3 Try.intKeyed Try.underlying3 h2 ok.fr
  have hll := ok.ll
  refine ⟨D, m, a, h1, h2, h0, h3, hr, ?_, fun p hp => ?_⟩
  · have hl := rise_len (intKeys D)
    rw [hr] at hl
    have ht := told_le s.f s.l.length
    obtain ⟨es, clock, hb, F, hs, rfl⟩ := e3
    simp only [Maps.size, intKeys, List.length_map] at hl ⊢
    omega
  · have := told_mem.1 (by rw [← hr]; exact rise_mem.2 hp)
    omega
theorem dpend (h : DevAt B w d s n) (ok : s.Ok) : Calls Try.prog 17 #[.pointer (some ⟨d, 0, none⟩)] w fun e w' => ∃ v y, e = .returned v ∧ Clip v y ∧ w'.ownsRow 0 69 2 y (pdSt s).length (writeCells (pdSt s)) ∧ (∀ g, y.ownBlock = some g → w.heap.size ≤ g) ∧ Fresh w w' := by
  obtain ⟨D, m, a, h1, h2, h0, h3, hr, h4, h5⟩ := h.keys B d n s w ok
  have hp : pendList D s.f = pdSt s := by
    show (rise (intKeys D)).map _ = _
    rw [hr]; rfl
  have := pending_own B d s.l D m s.dead a s.f w h1 h2 h4 h5
  rwa [hp] at this
theorem xpend (h : RefAt B w x s) (ok : s.Ok) : Calls Try.prog 22 #[.pointer (some ⟨x, 0, none⟩)] w fun e w' => ∃ v, e = .returned v ∧ w'.ownsRow 0 69 2 v (pdSt s).length (writeCells (pdSt s)) ∧ (∀ g, v.ownBlock = some g → w.heap.size ≤ g) ∧ Fresh w w' := by
  obtain ⟨is, ps, h1, h2⟩ := h.ex
  have := rpending_any B x s.l is ps s.left s.dead w h1 ok.ll
  rwa [h2.pend _ (Nat.le_refl _)] at this
theorem dcrash (v : Value) (ks : List (Int × Int)) (h : DevAt B w d s n) (ok : s.Ok) (hn : n ≤ 100000) (hv : KeepsAt w v ks) (hkl : ks.length ≤ 1000000000) (hkw : ∀ k ∈ ks, (Lit.int .i64 k.1).wf = true ∧ (Lit.int .i64 k.2).wf = true) : Calls Try.prog 26 #[.pointer (some ⟨d, 0, none⟩), v] w fun e w' => e = .returned (.int .i64 (crSt s ks).1) ∧ DevAt B w' d (crSt s ks).2 n ∧ Keeps B w w' := by
  have hF := fun w' (f : Fresh w w') => h.fresh f
  obtain ⟨D, m, a, h0, h1, h2, h3⟩ := h.ex
  refine (crash_any B d s.l D m s.dead a s.f v ks w h1 h2 ok.fr ok.ll (by omega) ok.p256 ok.f256 hv hkl hkw).mono ?_
  unfold crSt
  rintro e w' (⟨q1, rfl, f⟩ | ⟨q1, rfl, ⟨D', q2, q4⟩, q3⟩)
  · rw [if_neg q1]
    exact ⟨rfl, hF w' f, f.mono fun _ _ h => h.elim⟩
  · rw [if_pos q1]
    exact ⟨rfl, ⟨D', m, 0, h0, q2, q4, fun _ => rfl⟩, q3⟩
theorem xcrash (v : Value) (ks : List (Int × Int)) (h : RefAt B w x s) (ok : s.Ok) (hv : KeepsAt w v ks) (hvb : 0 < ks.length → ∀ a n c, v = .slice (some a) n c → ¬ B a.block) (hkl : ks.length ≤ 1000000000) : Calls Try.prog 62 #[.pointer (some ⟨x, 0, none⟩), v] w fun e w' => e = .returned (.int .i64 (crSt s ks).1) ∧ RefAt B w' x (crSt s ks).2 ∧ Keeps B w w' := by
  have hF := fun w' (f : Fresh w w') => h.fresh f
  obtain ⟨is, ps, h1, h2⟩ := h.ex
  have hl4 := ok.l4
  have hpd : rpend is ps s.l.length = pdSt s := h2.pend _ (Nat.le_refl _)
  refine (rcrash_any B x s.l is ps s.left s.dead v ks w h1 (by omega) ok.ll ok.p256 (fun p t hi ht => ?_) hv hvb hkl).mono ?_
  · have hp : p < s.l.length := by
      obtain ⟨_, _, _, _, _, _, _, _, q6, _, _⟩ := h1.ex
      have := (List.getElem?_eq_some_iff.1 hi).1
      omega
    have hf := h2 p hp
    rw [if_pos hi, ht] at hf
    exact ok.f256 _ _ hf
  unfold crSt
  rw [hpd, pdSt_len]
  rintro e w' (⟨q1, rfl, f⟩ | ⟨q1, rfl, q2, q3⟩)
  · rw [if_neg q1]
    exact ⟨rfl, hF w' f, f.mono fun _ _ h => h.elim⟩
  · rw [if_pos q1]
    rw [rmix_crashed s q1] at q2
    exact ⟨rfl, ⟨_, ps, q2, Agree.clear _ _ ps⟩, q3⟩
theorem dsize (h : DevAt B w d s n) : Calls Try.prog 13 #[.pointer (some ⟨d, 0, none⟩)] w fun e w' => e = .returned (.int .i64 (s.l.length : Int)) ∧ Fresh w w' := by
  obtain ⟨D, m, a, h0, h1, h2, h3⟩ := h.ex
  exact size_any B d s.l D m s.dead a w h1
theorem xsize (h : RefAt B w x s) : Calls Try.prog 38 #[.pointer (some ⟨x, 0, none⟩)] w fun e w' => e = .returned (.int .i64 (s.l.length : Int)) ∧ Fresh w w' := by
  obtain ⟨is, ps, h1, h2⟩ := h.ex
  exact rsize_any B x s.l is ps s.left s.dead w h1
theorem ddead (h : DevAt B w d s n) : Calls Try.prog 14 #[.pointer (some ⟨d, 0, none⟩)] w fun e w' => e = .returned (.bool s.dead) ∧ Fresh w w' := by
  obtain ⟨D, m, a, h0, h1, h2, h3⟩ := h.ex
  exact dead_any B d s.l D m s.dead a w h1
theorem RefAt.dead (h : RefAt B w x s) : w.cell? ⟨x, 4, none⟩ = some (.bool s.dead) := by
  obtain ⟨is, ps, h1, h2⟩ := h.ex
  obtain ⟨_, _, _, q, _⟩ := h1.ex
  have := cell_at q 4
  simpa using this
end
/-- one that was loaded -/
theorem Loaded.at_ {w w' : World} {l : List (List UInt8)} {ev : Int} {p : Option Addr} (h : Loaded w w' l ev p) (he : ev = 0) : ∃ d, p = some ⟨d, 0, none⟩ ∧ w.heap.size ≤ d ∧ DevAt (fun q => w.heap.size ≤ q ∧ q < w'.heap.size) w' d (newSt l) 0 := by
  rcases h with ⟨h0, -⟩ | ⟨-, d, h1, h2, h3⟩
  · exact absurd he h0
  · exact ⟨d, h1, h2, ⟨_, 0, 0, Nat.le_refl _, h3, Pends.empty, fun _ => rfl⟩⟩
theorem RLoaded.at_ {w w' : World} {l : List (List UInt8)} {ev : Int} {p : Option Addr} (h : RLoaded w w' l ev p) (he : ev = 0) : ∃ x, p = some ⟨x, 0, none⟩ ∧ w.heap.size ≤ x ∧ RefAt (fun q => w.heap.size ≤ q ∧ q < w'.heap.size) w' x (newSt l) := by
  rcases h with ⟨h0, -⟩ | ⟨-, d, h1, h2, h3⟩
  · exact absurd he h0
  · exact ⟨d, h1, h2, ⟨_, _, h3, Agree.clear _ _ _⟩⟩
end Go.Proofs.Ytbhienlalpbflaa
