/-
  The device: Write, of a device that dies in it, or is armed for later.
-/
import Derived.Test.YtbhienlalpbflaaDvFlush
namespace Go.Proofs.Ytbhienlalpbflaa
open Go.RowKit Go.Maps

set_option maxRecDepth 100000 in
set_option maxHeartbeats 1000000 in
theorem write_dies (B : Nat → Prop) (d : Nat) (l : List (List UInt8)) (D : DD) (n : Nat) (p : Int) (s : List UInt8) (w : World) (h : Dev B w d l D n false 1) (hn : n ≤ 1000000) (hp : 0 ≤ p) (hp2 : p < l.length) (hll : l.length ≤ 4096) (hs : s.length = 256) :
    Calls Try.prog 25 #[.pointer (some ⟨d, 0, none⟩), .int .i64 p, .string (str s)] w fun e w' => e = .returned (.int .i64 2) ∧ Dev B w' d l D n true 1 ∧ Keeps B w w' := by
  have hsz := str_size s
  have hmf : ∀ (fn : Fn) (first cap : Array Value) (w : World), (Instr.makeFunc fn first cap).run Try.prog w = .ok (.func fn first cap) w := fun _ _ _ _ => rfl
  obtain ⟨pv, mb, h1, h2, h3, h4, h5⟩ := h.ex
  have hml := h3.lt
  have hmd : mb ≠ d := fun e => by
    obtain ⟨es, clock, hb, _⟩ := h3
    rw [e, h1] at hb
    cases hb
  have hdl := lt_of_block h1
  have hpv : ∀ g, pv.ownBlock = some g → ¬ g = mb := fun g hg e => by
    obtain ⟨es, clock, hb, _⟩ := h3
    rcases h2.1.2 with ⟨rfl, _⟩ | ⟨g', cap, cur, rfl, _, hb2, _⟩
    · cases hg
    · simp only [Value.ownBlock, Option.some.injEq] at hg
      rw [hg, e, hb] at hb2
      cases hb2
  have f0 : Fresh w (((w.alloc (.cells #[.pointer (some ⟨d, 0, none⟩)] 23)).alloc (.cells #[.int .i64 p] 3)).alloc (.cells #[.string (str s)] 9)) := (((Keeps.refl _ _).alloc _).alloc _).alloc _
  have bx := (((Keeps.refl (fun _ => False) _).alloc (.cells #[.int .i64 p] 3)).alloc (.cells #[.string (str s)] 9)).at_ (heap_alloc_new w (.cells #[.pointer (some ⟨d, 0, none⟩)] 23)) (fun h => h)
  have bp := ((Keeps.refl (fun _ => False) _).alloc (.cells #[.string (str s)] 9)).at_ (heap_alloc_new (w.alloc (.cells #[.pointer (some ⟨d, 0, none⟩)] 23)) (.cells #[.int .i64 p] 3)) (fun h => h)
  have bs := heap_alloc_new ((w.alloc (.cells #[.pointer (some ⟨d, 0, none⟩)] 23)).alloc (.cells #[.int .i64 p] 3)) (.cells #[.string (str s)] 9)
  simp only [World.size_alloc] at bp bs
  have hdev0 := h.fresh f0
  obtain ⟨W0, hW0⟩ : ∃ W0, ((w.alloc (.cells #[.pointer (some ⟨d, 0, none⟩)] 23)).alloc (.cells #[.int .i64 p] 3)).alloc (.cells #[.string (str s)] 9) = W0 := ⟨_, rfl⟩
  rw [hW0] at bx bp bs f0 hdev0
  have hask := asked_ok B d l D n 1 p W0 hdev0 hp hp2
  have HASK := hid hask
  have X0 := cell_at bx 0
  have P0 := cell_at bp 0
  have S0 := cell_at bs 0
  simp at X0 P0 S0
  obtain ⟨B0, hB0⟩ : ∃ B0, w.heap.size = B0 := ⟨_, rfl⟩
  rw [hB0] at bx bp bs X0 P0 S0
  have HDEV := hid hdev0
  have HH := hid (And.intro h1 (And.intro h2 h3))
  clear hask h1 h2 h3 hdev0 h
  go_enter Try.func25, Try.ntmps25
  go_wp2_with fail
  refine HASK.out.mono ?_
  rintro e w1 ⟨rfl, fa⟩
  have bx := fa.at_ bx (fun h => h)
  have bp := fa.at_ bp (fun h => h)
  have bs := fa.at_ bs (fun h => h)
  have X1 := cell_at bx 0
  have P1 := cell_at bp 0
  have S1 := cell_at bs 0
  simp at X1 P1 S1
  have hd1 := HDEV.out.fresh fa
  have f1 := f0.trans fa
  have lx := lt_of_block bx
  have lp := lt_of_block bp
  have ls := lt_of_block bs
  obtain ⟨e1, e2, e3⟩ := HH.out
  have e1 := f1.at_ e1 (fun h => h)
  have e2 := e2.fresh f1
  have e3 := map_keeps e3 f1 (fun h => h)
  have D1 := cell_at e1 1
  have D3 := cell_at e1 3
  simp at D1 D3
  have hact := act_dies d #[.pointer (some ⟨B0 + 1 + 1, 0, none⟩), .pointer (some ⟨B0, 0, none⟩), .pointer (some ⟨B0 + 1, 0, none⟩)] (.func 50) pv (.map (some mb)) w1 e1
  have HACT := hid hact
  have E1 := hid (And.intro e1 (And.intro e2 e3))
  clear hact X0 P0 S0 HDEV HH fa hd1 e1 e2 e3 D1 D3 HASK bx bp bs
  go_wp2_with fail
  refine HACT.out.mono ?_
  rintro e w2 ⟨rfl, hw2⟩
  obtain ⟨e1, e2, e3⟩ := E1.out
  go_wp2_with fail
  go_ret
  subst hw2
  have g0 : Fresh w1 (w1.alloc (.cells #[.pointer (some ⟨d, 0, none⟩)] 23)) := (Keeps.refl _ _).alloc _
  have k2 : Keeps (fun q => q = d) w1 ((w1.alloc (.cells #[.pointer (some ⟨d, 0, none⟩)] 23)).setCell ⟨d, 2, none⟩ (.bool true)) := Keeps.setCell (S := fun q => q = d) (p := ⟨d, 2, none⟩) (g0.mono (fun _ _ h => h.elim)) (fun _ => rfl) _
  refine ⟨rfl, ⟨⟨pv, mb, heap_setCell_at (g0.at_ e1 (fun h => h)) 2 _, ⟨ownsRow_keeps e2.1 k2 (fun g hg e => cells_ne_row e1 e2.1 (by decide) (by rw [hg, e])), e2.2⟩, map_keeps e3 k2 hmd, h4, h5⟩⟩, (f1.mono (fun _ _ h => h.elim)).trans (k2.mono (fun q _ h => by rw [show q = d from h]; exact h5))⟩

set_option maxRecDepth 100000 in
set_option maxHeartbeats 1000000 in
theorem write_armed (B : Nat → Prop) (d k : Nat) (l : List (List UInt8)) (D : DD) (n : Nat) (p : Int) (s : List UInt8) (w : World) (h : Dev B w d l D n false ((k + 1 : Nat) : Int)) (hk : 1 ≤ k) (hk2 : k ≤ 1000000) (hn : n ≤ 1000000) (hp : 0 ≤ p) (hp2 : p < l.length) (hll : l.length ≤ 4096) (hs : s.length = 256) :
    Calls Try.prog 25 #[.pointer (some ⟨d, 0, none⟩), .int .i64 p, .string (str s)] w fun e w' => e = .returned (.int .i64 0) ∧ Dev B w' d l (D.put (pkey p) (.lit (.string s))) (n + 1) false (k : Int) ∧ Keeps B w w' := by
  have hsz := str_size s
  have hmf : ∀ (fn : Fn) (first cap : Array Value) (w : World), (Instr.makeFunc fn first cap).run Try.prog w = .ok (.func fn first cap) w := fun _ _ _ _ => rfl
  obtain ⟨pv, mb, h1, h2, h3, h4, h5⟩ := h.ex
  have hml := h3.lt
  have hmd : mb ≠ d := fun e => by
    obtain ⟨es, clock, hb, _⟩ := h3
    rw [e, h1] at hb
    cases hb
  have hdl := lt_of_block h1
  have hpv : ∀ g, pv.ownBlock = some g → ¬ g = mb := fun g hg e => by
    obtain ⟨es, clock, hb, _⟩ := h3
    rcases h2.1.2 with ⟨rfl, _⟩ | ⟨g', cap, cur, rfl, _, hb2, _⟩
    · cases hg
    · simp only [Value.ownBlock, Option.some.injEq] at hg
      rw [hg, e, hb] at hb2
      cases hb2
  have f0 : Fresh w (((w.alloc (.cells #[.pointer (some ⟨d, 0, none⟩)] 23)).alloc (.cells #[.int .i64 p] 3)).alloc (.cells #[.string (str s)] 9)) := (((Keeps.refl _ _).alloc _).alloc _).alloc _
  have bx := (((Keeps.refl (fun _ => False) _).alloc (.cells #[.int .i64 p] 3)).alloc (.cells #[.string (str s)] 9)).at_ (heap_alloc_new w (.cells #[.pointer (some ⟨d, 0, none⟩)] 23)) (fun h => h)
  have bp := ((Keeps.refl (fun _ => False) _).alloc (.cells #[.string (str s)] 9)).at_ (heap_alloc_new (w.alloc (.cells #[.pointer (some ⟨d, 0, none⟩)] 23)) (.cells #[.int .i64 p] 3)) (fun h => h)
  have bs := heap_alloc_new ((w.alloc (.cells #[.pointer (some ⟨d, 0, none⟩)] 23)).alloc (.cells #[.int .i64 p] 3)) (.cells #[.string (str s)] 9)
  simp only [World.size_alloc] at bp bs
  have hdev0 := h.fresh f0
  obtain ⟨W0, hW0⟩ : ∃ W0, ((w.alloc (.cells #[.pointer (some ⟨d, 0, none⟩)] 23)).alloc (.cells #[.int .i64 p] 3)).alloc (.cells #[.string (str s)] 9) = W0 := ⟨_, rfl⟩
  rw [hW0] at bx bp bs f0 hdev0
  have hask := asked_ok B d l D n ((k + 1 : Nat) : Int) p W0 hdev0 hp hp2
  have HASK := hid hask
  have X0 := cell_at bx 0
  have P0 := cell_at bp 0
  have S0 := cell_at bs 0
  simp at X0 P0 S0
  obtain ⟨B0, hB0⟩ : ∃ B0, w.heap.size = B0 := ⟨_, rfl⟩
  rw [hB0] at bx bp bs X0 P0 S0
  have HDEV := hid hdev0
  have HH := hid (And.intro h1 (And.intro h2 h3))
  clear hask h1 h2 h3 hdev0 h
  go_enter Try.func25, Try.ntmps25
  go_wp2_with fail
  refine HASK.out.mono ?_
  rintro e w1 ⟨rfl, fa⟩
  have bx := fa.at_ bx (fun h => h)
  have bp := fa.at_ bp (fun h => h)
  have bs := fa.at_ bs (fun h => h)
  have X1 := cell_at bx 0
  have P1 := cell_at bp 0
  have S1 := cell_at bs 0
  simp at X1 P1 S1
  have hd1 := HDEV.out.fresh fa
  have f1 := f0.trans fa
  have lx := lt_of_block bx
  have lp := lt_of_block bp
  have ls := lt_of_block bs
  obtain ⟨e1, e2, e3⟩ := HH.out
  have e1 := f1.at_ e1 (fun h => h)
  have e2 := e2.fresh f1
  have e3 := map_keeps e3 f1 (fun h => h)
  have D1 := cell_at e1 1
  have D3 := cell_at e1 3
  simp at D1 D3
  have g0 : Fresh w1 (w1.alloc (.cells #[.pointer (some ⟨d, 0, none⟩)] 23)) := (Keeps.refl _ _).alloc _
  have hw1 := write1_any (B0 + 1 + 1) B0 (B0 + 1) d mb n D s p _ ((g0.cell (p := ⟨B0 + 1 + 1, 0, none⟩) ls (fun h => h)).trans S1) ((g0.cell (p := ⟨B0, 0, none⟩) lx (fun h => h)).trans X1) ((g0.cell (p := ⟨B0 + 1, 0, none⟩) lp (fun h => h)).trans P1) ((g0.cell (p := ⟨d, 1, none⟩) (lt_of_block e1) (fun h => h)).trans D1) (map_keeps e3 g0 (fun h => h)) hn (by omega) (WalkArith.wf_i64 (by omega))
  have hact := act_write d k #[.pointer (some ⟨B0 + 1 + 1, 0, none⟩), .pointer (some ⟨B0, 0, none⟩), .pointer (some ⟨B0 + 1, 0, none⟩)] pv (.map (some mb)) (fun q => q = mb) (fun W => W.ownsMap Try.prog 3 (plainElem Try.prog 9) mb (n + 1) (D.put (pkey p) (.lit (.string s)))) w1 e1 hk hk2 hw1 (fun h => hmd h.symm) (fun h => by have := e3.lt; omega)
  clear hw1
  have HACT := hid hact
  have E1 := hid (And.intro e1 (And.intro e2 e3))
  clear hact X0 P0 S0 HDEV HH fa hd1 e1 e2 e3 D1 D3 HASK bx bp bs
  go_wp2_with fail
  refine HACT.out.mono ?_
  rintro e w2 ⟨rfl, w3, hown2, k2, hw2⟩
  obtain ⟨e1, e2, e3⟩ := E1.out
  go_wp2_with fail
  go_ret
  subst hw2
  have k3 : Keeps (fun q => q = mb ∨ q = d) w1 (w3.setCell ⟨d, 3, none⟩ (.int .i64 (k : Int))) := Keeps.setCell (S := fun q => q = mb ∨ q = d) (p := ⟨d, 3, none⟩) (k2.mono (fun _ _ h => Or.inl h)) (fun _ => Or.inr rfl) _
  have k4 : Keeps (fun q => q = d) w3 (w3.setCell ⟨d, 3, none⟩ (.int .i64 (k : Int))) := Keeps.setCell (S := fun q => q = d) (p := ⟨d, 3, none⟩) (Keeps.refl _ _) (fun _ => rfl) _
  refine ⟨rfl, ⟨⟨pv, mb, heap_setCell_at (k2.at_ e1 (fun e => hmd e.symm)) 3 _, ⟨ownsRow_keeps e2.1 k3 (fun g hg e => by
    rcases e with e | e
    · exact row_ne_map e2.1 e3 (by rw [hg, e])
    · exact cells_ne_row e1 e2.1 (by decide) (by rw [hg, e])), e2.2⟩, map_keeps hown2 k4 hmd, h4, h5⟩⟩, (f1.mono (fun _ _ h => h.elim)).trans (k3.mono (fun q _ h => h.elim (fun h => by rw [h]; exact h4) (fun h => by rw [h]; exact h5)))⟩

/-- in how many acts it dies, behind one -/
def lower (a : Int) : Int := if a = 0 then 0 else a - 1
/-- Write, of a device that lives -/
theorem write_end (B : Nat → Prop) (d : Nat) (l : List (List UInt8)) (D : DD) (n : Nat) (armed p : Int) (s : List UInt8) (w : World) (h : Dev B w d l D n false armed) (ha : 0 ≤ armed) (ha2 : armed ≤ 1000000) (hn : n ≤ 1000000) (hp : 0 ≤ p) (hp2 : p < l.length) (hll : l.length ≤ 4096) (hs : s.length = 256) :
    Calls Try.prog 25 #[.pointer (some ⟨d, 0, none⟩), .int .i64 p, .string (str s)] w fun e w' => (armed = 1 ∧ e = .returned (.int .i64 2) ∧ Dev B w' d l D n true 1 ∧ Keeps B w w') ∨
      (armed ≠ 1 ∧ e = .returned (.int .i64 0) ∧ Dev B w' d l (D.put (pkey p) (.lit (.string s))) (n + 1) false (lower armed) ∧ Keeps B w w') := by
  by_cases h1 : armed = 1
  · subst h1
    refine (write_dies B d l D n p s w h hn hp hp2 hll hs).mono ?_
    rintro e w' ⟨rfl, h1, h2⟩
    exact .inl ⟨rfl, rfl, h1, h2⟩
  · by_cases h0 : armed = 0
    · subst h0
      refine (write_ok B d l D n p s w h hn hp hp2 hll hs).mono ?_
      rintro e w' ⟨rfl, h1, h2⟩
      exact .inr ⟨by omega, rfl, h1, h2⟩
    · obtain ⟨k, rfl⟩ : ∃ k : Nat, armed = ((k + 1 : Nat) : Int) := ⟨(armed - 1).toNat, by omega⟩
      refine (write_armed B d k l D n p s w h (by omega) (by omega) hn hp hp2 hll hs).mono ?_
      rintro e w' ⟨rfl, h3, h2⟩
      have e1 : lower ((k + 1 : Nat) : Int) = (k : Int) := by unfold lower; rw [if_neg (by omega)]; omega
      exact .inr ⟨by omega, rfl, by rw [e1]; exact h3, h2⟩
end Go.Proofs.Ytbhienlalpbflaa
