/-
  The device: Write, of a device that lives and is not armed.
-/
import Derived.Test.YtbhienlalpbflaaDvAct
namespace Go.Proofs.Ytbhienlalpbflaa
open Go.RowKit Go.Maps

set_option maxRecDepth 100000 in
theorem act1_idle (bx d : Nat) (w : World) (hx : w.cell? ⟨bx, 0, none⟩ = some (.pointer (some ⟨d, 0, none⟩))) (h3 : w.cell? ⟨d, 3, none⟩ = some (.int .i64 0)) :
    CallsD Try.prog 63 #[.pointer (some ⟨bx, 0, none⟩)] .returning w fun e u' w' => u' = .returning ∧ (e = .returned (.tuple #[]) ∧ w' = w) := by
  go_enter_d Try.func63, Try.ntmps63
  go_wp2
  go_end0
  exact ⟨rfl, rfl⟩

set_option maxRecDepth 100000 in
set_option maxHeartbeats 1000000 in
theorem actw_ok (bs bx bp d mb n : Nat) (D : DD) (s : List UInt8) (p : Int) (w : World) (hs : w.cell? ⟨bs, 0, none⟩ = some (.string (str s))) (hx : w.cell? ⟨bx, 0, none⟩ = some (.pointer (some ⟨d, 0, none⟩))) (hp : w.cell? ⟨bp, 0, none⟩ = some (.int .i64 p))
    (hls : bs < w.heap.size) (hlx : bx < w.heap.size) (hlp : bp < w.heap.size) (hld : d < w.heap.size) (hmd : mb ≠ d)
    (hm : w.cell? ⟨d, 1, none⟩ = some (.map (some mb))) (h3 : w.cell? ⟨d, 3, none⟩ = some (.int .i64 0)) (hown : w.ownsMap Try.prog 3 (plainElem Try.prog 9) mb n D) (hn : n ≤ 1000000000000000000) (hsl : s.length ≤ 9223372036854775807) (hpw : (Lit.int .i64 p).wf = true) :
    Calls Try.prog 47 #[.pointer (some ⟨d, 0, none⟩), .func (.func 50) #[] #[.pointer (some ⟨bs, 0, none⟩), .pointer (some ⟨bx, 0, none⟩), .pointer (some ⟨bp, 0, none⟩)]] w fun e w' => e = .returned (.int .i64 0) ∧ w'.ownsMap Try.prog 3 (plainElem Try.prog 9) mb (n + 1) (D.put (pkey p) (.lit (.string s))) ∧ Keeps (fun q => q = mb) w w' := by
  have hmf : ∀ (fn : Fn) (first cap : Array Value) (w : World), (Instr.makeFunc fn first cap).run Try.prog w = .ok (.func fn first cap) w := fun _ _ _ _ => rfl
  have f0 : Fresh w (w.alloc (.cells #[.pointer (some ⟨d, 0, none⟩)] 23)) := (Keeps.refl _ _).alloc _
  have hbox := heap_alloc_new w (.cells #[.pointer (some ⟨d, 0, none⟩)] 23)
  have w1 := write1_any bs bx bp d mb n D s p _ ((f0.cell (p := ⟨bs, 0, none⟩) hls (fun h => h)).trans hs) ((f0.cell (p := ⟨bx, 0, none⟩) hlx (fun h => h)).trans hx) ((f0.cell (p := ⟨bp, 0, none⟩) hlp (fun h => h)).trans hp) ((f0.cell (p := ⟨d, 1, none⟩) hld (fun h => h)).trans hm) (map_keeps hown f0 (fun h => h)) hn hsl hpw
  have c3 := (f0.cell (p := ⟨d, 3, none⟩) hld (fun h => h)).trans h3
  have cb : (w.alloc (.cells #[.pointer (some ⟨d, 0, none⟩)] 23)).cell? ⟨w.heap.size, 0, none⟩ = some (.pointer (some ⟨d, 0, none⟩)) := (cell_at hbox 0).trans rfl
  have hml := hown.lt
  have H3 := hid c3
  have HB := hid hbox
  have HW := hid w1
  have hld1 : d < (w.alloc (.cells #[.pointer (some ⟨d, 0, none⟩)] 23)).heap.size := Nat.lt_of_lt_of_le hld f0.size
  clear w1 hs hx hp hm h3 hown
  go_enter_defers Try.func47, Try.ntmps47
  go_wp2_with (go_at_call 50; refine HW.out.mono ?_; rintro e w2 ⟨rfl, hown2, k2⟩)
  have cb2 := (k2.cell (p := ⟨w.heap.size, 0, none⟩) (by simp) (by simp only; omega)).trans cb
  have c32 := (k2.cell (p := ⟨d, 3, none⟩) hld1 (fun e => hmd e.symm)).trans H3.out
  refine leaves_cons (f := 63) (args := #[.pointer (some ⟨w.heap.size, 0, none⟩)]) (by simp) (by simp [go_sem]) ?_
  refine (act1_idle w.heap.size d w2 cb2 c32).mono ?_
  rintro e u' w'' ⟨rfl, rfl, rfl⟩
  exact ⟨_, results_tmp rfl _ _ _, rfl, hown2, (f0.mono (fun _ _ h => h.elim)).trans k2⟩

set_option maxRecDepth 100000 in
set_option maxHeartbeats 1000000 in
theorem write_ok (B : Nat → Prop) (d : Nat) (l : List (List UInt8)) (D : DD) (n : Nat) (p : Int) (s : List UInt8) (w : World) (h : Dev B w d l D n false 0) (hn : n ≤ 1000000000000000000) (hp : 0 ≤ p) (hp2 : p < l.length) (hll : l.length ≤ 4096) (hs : s.length = 256) :
    Calls Try.prog 25 #[.pointer (some ⟨d, 0, none⟩), .int .i64 p, .string (str s)] w fun e w' => e = .returned (.int .i64 0) ∧ Dev B w' d l (D.put (pkey p) (.lit (.string s))) (n + 1) false 0 ∧ Keeps B w w' := by
  have hsz := str_size s
  have hmf : ∀ (fn : Fn) (first cap : Array Value) (w : World), (Instr.makeFunc fn first cap).run Try.prog w = .ok (.func fn first cap) w := fun _ _ _ _ => rfl
  obtain ⟨pv, mb, h1, h2, h3, h4, h5⟩ := h.ex
  have hml := h3.lt
  have hmd : mb ≠ d := fun e => by
    obtain ⟨es, clock, hb, _⟩ := h3
    rw [e, h1] at hb
    cases hb
  have hdl := lt_of_block h1
  have hpv : ∀ g, pv.ownBlock = some g → ¬ g = mb := fun g hg e => by
    obtain ⟨es, clock, hb, _⟩ := h3
    rcases h2.1.2 with ⟨rfl, _⟩ | ⟨g', cap, cur, rfl, _, hb2, _⟩
    · cases hg
    · simp only [Value.ownBlock, Option.some.injEq] at hg
      rw [hg, e, hb] at hb2
      cases hb2
  have f0 : Fresh w (((w.alloc (.cells #[.pointer (some ⟨d, 0, none⟩)] 23)).alloc (.cells #[.int .i64 p] 3)).alloc (.cells #[.string (str s)] 9)) := (((Keeps.refl _ _).alloc _).alloc _).alloc _
  have bx := (((Keeps.refl (fun _ => False) _).alloc (.cells #[.int .i64 p] 3)).alloc (.cells #[.string (str s)] 9)).at_ (heap_alloc_new w (.cells #[.pointer (some ⟨d, 0, none⟩)] 23)) (fun h => h)
  have bp := ((Keeps.refl (fun _ => False) _).alloc (.cells #[.string (str s)] 9)).at_ (heap_alloc_new (w.alloc (.cells #[.pointer (some ⟨d, 0, none⟩)] 23)) (.cells #[.int .i64 p] 3)) (fun h => h)
  have bs := heap_alloc_new ((w.alloc (.cells #[.pointer (some ⟨d, 0, none⟩)] 23)).alloc (.cells #[.int .i64 p] 3)) (.cells #[.string (str s)] 9)
  simp only [World.size_alloc] at bp bs
  have hdev0 := h.fresh f0
  obtain ⟨W0, hW0⟩ : ∃ W0, ((w.alloc (.cells #[.pointer (some ⟨d, 0, none⟩)] 23)).alloc (.cells #[.int .i64 p] 3)).alloc (.cells #[.string (str s)] 9) = W0 := ⟨_, rfl⟩
  rw [hW0] at bx bp bs f0 hdev0
  have hask := asked_ok B d l D n 0 p W0 hdev0 hp hp2
  have HASK := hid hask
  have X0 := cell_at bx 0
  have P0 := cell_at bp 0
  have S0 := cell_at bs 0
  simp at X0 P0 S0
  obtain ⟨B0, hB0⟩ : ∃ B0, w.heap.size = B0 := ⟨_, rfl⟩
  rw [hB0] at bx bp bs X0 P0 S0
  have HDEV := hid hdev0
  have HH := hid (And.intro h1 (And.intro h2 h3))
  clear hask h1 h2 h3 hdev0 h
  go_enter Try.func25, Try.ntmps25
  go_wp2_with fail
  refine HASK.out.mono ?_
  rintro e w1 ⟨rfl, fa⟩
  have bx := fa.at_ bx (fun h => h)
  have bp := fa.at_ bp (fun h => h)
  have bs := fa.at_ bs (fun h => h)
  have X1 := cell_at bx 0
  have P1 := cell_at bp 0
  have S1 := cell_at bs 0
  simp at X1 P1 S1
  have hd1 := HDEV.out.fresh fa
  have f1 := f0.trans fa
  have lx := lt_of_block bx
  have lp := lt_of_block bp
  have ls := lt_of_block bs
  obtain ⟨e1, e2, e3⟩ := HH.out
  have e1 := f1.at_ e1 (fun h => h)
  have e2 := e2.fresh f1
  have e3 := map_keeps e3 f1 (fun h => h)
  have D1 := cell_at e1 1
  have D3 := cell_at e1 3
  simp at D1 D3
  have hact := actw_ok (B0 + 1 + 1) B0 (B0 + 1) d mb n D s p w1 S1 X1 P1 ls lx lp (lt_of_block e1) hmd D1 D3 e3 hn (by omega) (WalkArith.wf_i64 (by omega))
  have HACT := hid hact
  have E1 := hid (And.intro e1 e2)
  clear hact X0 P0 S0 HDEV HH fa hd1 e1 e2 e3 D1 D3 HASK bx bp bs
  go_wp2_with fail
  refine HACT.out.mono ?_
  rintro e w2 ⟨rfl, hown2, k2⟩
  obtain ⟨e1, e2⟩ := E1.out
  go_wp2_with fail
  go_ret
  refine ⟨rfl, ⟨⟨pv, mb, k2.at_ e1 (fun e => hmd e.symm), ⟨ownsRow_keeps e2.1 k2 hpv, e2.2⟩, hown2, h4, h5⟩⟩, (f1.mono (fun _ _ h => h.elim)).trans (k2.mono (fun q _ h => by rw [show q = mb from h]; exact h4))⟩
end Go.Proofs.Ytbhienlalpbflaa
