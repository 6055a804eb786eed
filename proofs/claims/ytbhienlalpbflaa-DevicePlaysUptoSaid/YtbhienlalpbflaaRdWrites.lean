/-
  The document's device: Write.
-/
import Derived.Test.YtbhienlalpbflaaMDvD
namespace Go.Proofs.Ytbhienlalpbflaa
open Go.RowKit Go.Maps

set_option maxRecDepth 100000 in
set_option maxHeartbeats 1000000 in
theorem rwrite_wrong (B : Nat → Prop) (x : Nat) (l : List (List UInt8)) (is : List Bool) (ps : List (List UInt8)) (left : Int) (dead : Bool) (p : Int) (s : List UInt8) (w : World) (h : RDev B w x l is ps left dead) (he : ¬ askedErr dead l p = 0) :
    Calls Try.prog 37 #[.pointer (some ⟨x, 0, none⟩), .int .i64 p, .string (str s)] w fun e w' => e = .returned (.int .i64 (askedErr dead l p)) ∧ Fresh w w' := by
  have HASK := hid (rasked_any B x l is ps left dead p w h)
  clear h
  obtain ⟨E, hE⟩ : ∃ E, askedErr dead l p = E := ⟨_, rfl⟩
  rw [hE] at HASK he ⊢
  clear hE
  go_enter Try.func37, Try.ntmps37
  go_wp2_with fail
  refine HASK.out.mono ?_
  rintro e w1 ⟨rfl, fa⟩
  clear HASK
  go_wp2_with fail
  go_ret
  exact ⟨rfl, fa⟩

set_option maxRecDepth 100000 in
set_option maxHeartbeats 1000000 in
theorem rwrite_size (B : Nat → Prop) (x : Nat) (l : List (List UInt8)) (is : List Bool) (ps : List (List UInt8)) (left : Int) (dead : Bool) (p : Int) (s : List UInt8) (w : World) (h : RDev B w x l is ps left dead) (he : askedErr dead l p = 0) (hs : s.length ≠ 256) :
    Calls Try.prog 37 #[.pointer (some ⟨x, 0, none⟩), .int .i64 p, .string (str s)] w fun e w' => e = .returned (.int .i64 91) ∧ Fresh w w' := by
  have hask := rasked_any B x l is ps left dead p w h
  rw [he] at hask
  have HASK := hid hask
  have hsz := str_size s
  have hs3 : ¬ ((str s).size : Int) = 256 := by omega
  clear h hask he
  go_enter Try.func37, Try.ntmps37
  go_wp2_with fail
  refine HASK.out.mono ?_
  rintro e w1 ⟨rfl, fa⟩
  clear HASK
  go_wp2_with fail
  go_ret
  exact ⟨rfl, fa⟩

set_option maxRecDepth 100000 in
set_option maxHeartbeats 2000000 in
theorem rwrite_end (B : Nat → Prop) (x : Nat) (l : List (List UInt8)) (is : List Bool) (ps : List (List UInt8)) (left : Int) (p : Nat) (s : List UInt8) (w : World) (h : RDev B w x l is ps left false) (hl : 0 ≤ left) (hl2 : left ≤ 9223372036854775807) (hp : p < l.length) (hs : s.length = 256) :
    Calls Try.prog 37 #[.pointer (some ⟨x, 0, none⟩), .int .i64 (p : Int), .string (str s)] w fun e w' =>
      (left = 1 ∧ e = .returned (.int .i64 2) ∧ RDev B w' x l is ps (lower left) true ∧ Keeps B w w') ∨ (left ≠ 1 ∧ e = .returned (.int .i64 0) ∧ RDev B w' x l (is.set p true) (ps.set p s) (lower left) false ∧ Keeps B w w') := by
  have hask := rasked_any B x l is ps left false (p : Int) w h
  have e : askedErr false l (p : Int) = 0 := by simp [askedErr]; omega
  rw [e] at hask
  have HASK := hid hask
  have hsz := str_size s
  have hs3 : ((str s).size : Int) = 256 := by omega
  have HR := hid h
  clear h hask e
  go_enter Try.func37, Try.ntmps37
  go_wp2_with fail
  refine HASK.out.mono ?_
  rintro e w1 ⟨rfl, fa⟩
  have HACT := hid (ract_any B x l is ps left w1 (HR.out.fresh fa) hl hl2)
  clear HASK
  go_wp2_with fail
  refine HACT.out.mono ?_
  rintro e w2 ⟨rfl, h2, k2⟩
  have hk2 : Keeps B w w2 := (fa.mono (fun _ _ h => h.elim)).trans k2
  by_cases h1 : left = 1
  · have e1 : decide (left = 1) = true := decide_eq_true h1
    rw [e1] at h2
    have H2 := hid h2
    have HK2 := hid hk2
    clear HACT h2 k2 fa hk2
    rw [e1]
    go_wp2_with fail
    go_ret
    exact .inl ⟨h1, rfl, H2.out, HK2.out⟩
  · have e1 : decide (left = 1) = false := decide_eq_false h1
    rw [e1] at h2
    obtain ⟨lv, iv, pv, q1, q2, q3, q4, -, q6, q7, -⟩ := h2.ex
    obtain ⟨a2, c2, rfl, r2⟩ := ownsRow_at q3.1
    obtain ⟨g2, rfl, -, r2⟩ := r2 p (.bool (is[p]'(by omega))) (by rw [List.getElem?_map, List.getElem?_eq_getElem (by omega)]; rfl)
    obtain ⟨g3, c3, rfl, -, r3, z3⟩ := row_here q4.1 (p := p) (by omega) rfl
    have z2 : w2.frozen? ⟨g2, p, none⟩ = false := by
      rcases q3.1.2 with ⟨h0, _⟩ | ⟨g', cap', cur, h0, hb, hg, _⟩
      · cases h0
      · injection h0 with h1 h2 h3
        injection h1 with h1
        injection h1 with h1
        subst h1
        exact free_at hg p
    obtain ⟨m2, b2⟩ := h2.setIs q1 p true
    have hg23 : g2 ≠ g3 := fun e => rows_ne q3.1 q4.1 (by decide) rfl (by rw [e]; rfl)
    have q1' : (w2.setCell ⟨g2, p, none⟩ (.bool true)).heap[x]? = _ := (Keeps.setCell (S := fun q => q = g2) (Keeps.refl _ w2) (p := ⟨g2, p, none⟩) (fun _ => rfl) (.bool true)).at_ q1 (fun e => cells_ne_row q1 q3.1 (by decide) (by rw [show x = g2 from e]; rfl))
    obtain ⟨m3, b3⟩ := m2.setP q1' p s
    have kk : Keeps B w2 ((w2.setCell ⟨g2, p, none⟩ (.bool true)).setCell ⟨g3, p, none⟩ (.string (str s))) := Keeps.setCell (p := ⟨g3, p, none⟩) (Keeps.setCell (p := ⟨g2, p, none⟩) (Keeps.refl _ _) (fun _ => b2) _) (fun _ => b3) _
    have hxg : x ≠ g2 := fun e => cells_ne_row q1 q3.1 (by decide) (by rw [e]; rfl)
    have d1 := cell_at q1 1
    have d2 := cell_at q1' 2
    have z3' : (w2.setCell ⟨g2, p, none⟩ (.bool true)).frozen? ⟨g3, p, none⟩ = false := by
      rcases q4.1.2 with ⟨h0, _⟩ | ⟨g', cap', cur, h0, hb, hg, _⟩
      · cases h0
      · injection h0 with h1 h2 h3
        injection h1 with h1
        injection h1 with h1
        subst h1
        exact free_at ((Keeps.setCell (S := fun q => q = g2) (Keeps.refl _ w2) (p := ⟨g2, p, none⟩) (fun _ => rfl) (.bool true)).at_ hg (fun e => hg23 e.symm)) p
    have r3' : (w2.setCell ⟨g2, p, none⟩ (.bool true)).cell? ⟨g3, p, none⟩ = _ := ((Keeps.setCell (S := fun q => q = g2) (Keeps.refl _ w2) (p := ⟨g2, p, none⟩) (fun _ => rfl) (.bool true)).cell (p := ⟨g3, p, none⟩) (by
      have := q4.1.lt g3 rfl; exact this.2) (fun e => hg23 (show g3 = g2 from e).symm)).trans r3
    simp at d1 d2
    rw [q7] at d2
    have M3 := hid m3
    have HK := hid (hk2.trans kk)
    clear HACT h2 k2 fa hk2 q1 q2 q3 q4 q1' m2 m3 kk b2 b3
    rw [e1]
    go_wp2_with fail
    go_ret
    exact .inr ⟨h1, rfl, M3.out, HK.out⟩
end Go.Proofs.Ytbhienlalpbflaa
