/-
  The law's world: a list that came out, and its copy, noted. Printed by gen_dwout.py.
-/
import Derived.Test.YtbhienlalpbflaaDwWorld
import Derived.Test.YtbhienlalpbflaaMMsF
namespace Go.Proofs.Ytbhienlalpbflaa
open Go.RowKit Go.Maps

theorem Appended.undrew {e : TypeId} {size n : Nat} {w w' : World} {v v' : Value} {xs : List Value} (h : Appended e size w.drew w' v v' n xs) : Appended e size w w' v v' n xs :=
  ⟨h.row, (Keeps.refl (fun k => v.ownBlock = some k) w).drew.trans h.keeps, h.own⟩

section
variable {α : Type} {cells : α → List Value} {len : α → Nat} {e T tw : TypeId} {size cf cw cc ob B fi : Nat} {col : Nat → Nat} {fv wv fv' wv' x y wx : Value} {F Wv : List Value} {C : List α} {l : α} {c : Nat → Nat} {w w1 w2 w3 : World} {bx : Array Value}
/-- a list and its copy noted -/
theorem outs (hbox : w.heap[ob]? = some (.cells bx tw (0, 0))) (hcb : c ob = 1) (hfr : Frees c w e T size cells len cf cw cc col fv wv F Wv C) (h1 : 2 ≤ cf) (h2 : 2 ≤ cw) (h3 : 2 ≤ cc) (h12 : cf ≠ cw) (h13 : cf ≠ cc) (h23 : cw ≠ cc) (hc1 : ∀ i, 2 ≤ col i ∧ col i ≠ cf ∧ col i ≠ cw ∧ col i ≠ cc)
    (hx : Clip x y) (hv : w.ownsRow 0 e size y (len l) (cells l)) (hvc : ∀ g, y.ownBlock = some g → c g = 0)
    (ha : Appended T 1 w w1 fv fv' (F.length + 1) (F ++ [x]))
    (hm : Appended e size (w1.setCell ⟨ob, fi, none⟩ fv') w2 (.slice none 0 0) wx (len l) (cells l))
    (hb : Appended T 1 w2 w3 wv wv' (Wv.length + 1) (Wv ++ [wx])) :
    ∃ c', (w3.setCell ⟨ob, fi + 1, none⟩ wv').heap[ob]? = some (.cells ((bx.setIfInBounds fi fv').setIfInBounds (fi + 1) wv') tw (0, 0)) ∧
      Frees c' (w3.setCell ⟨ob, fi + 1, none⟩ wv') e T size cells len cf cw cc col fv' wv' (F ++ [x]) (Wv ++ [wx]) (C ++ [l]) ∧
      Keeps (fun q => c q = 1 ∨ c q = cf ∨ c q = cw) w (w3.setCell ⟨ob, fi + 1, none⟩ wv') ∧ (∀ g, g < w.heap.size → y.ownBlock ≠ some g → c' g = c g) ∧ (∀ g, (w3.setCell ⟨ob, fi + 1, none⟩ wv').heap.size ≤ g → c' g = 0) := by
  have hob := lt_of_block hbox
  have k1 : Keeps (fun q => q = ob ∨ fv.ownBlock = some q) w (w1.setCell ⟨ob, fi, none⟩ fv') := (ha.keeps.mono (fun q _ e => .inr e)).setCell (p := ⟨ob, fi, none⟩) (fun _ => .inl rfl) fv'
  have f2 : Fresh (w1.setCell ⟨ob, fi, none⟩ fv') w2 := hm.keeps.mono (fun q _ e => by simp [Value.ownBlock] at e)
  have k2 : Keeps (fun q => q = ob ∨ fv.ownBlock = some q) w w2 := k1.trans (f2.mono (fun _ _ h => h.elim))
  have k3 : Keeps (fun q => q = ob ∨ fv.ownBlock = some q ∨ wv.ownBlock = some q) w (w3.setCell ⟨ob, fi + 1, none⟩ wv') := ((k2.mono (fun q _ e => e.elim .inl (fun e => .inr (.inl e)))).trans (hb.keeps.mono (fun q _ e => .inr (.inr e)))).setCell (p := ⟨ob, fi + 1, none⟩) (fun _ => .inl rfl) wv'
  have s1 := k1.size
  have s2 := f2.size
  have s3 := hb.keeps.size
  have s12 := ha.keeps.size
  have z1 : (w1.setCell ⟨ob, fi, none⟩ fv').heap.size = w1.heap.size := by simp
  have z3 : (w3.setCell ⟨ob, fi + 1, none⟩ wv').heap.size = w3.heap.size := by simp
  have hn0 : ∀ g, y.ownBlock = some g → g < w.heap.size := fun g hg => (hv.lt g hg).2
  obtain ⟨c', hc'⟩ : ∃ c' : Nat → Nat, ∀ g, c' g = if y.ownBlock = some g then col F.length else if g < w.heap.size then c g else if g < w1.heap.size then cf else if g < w2.heap.size then cc else if g < w3.heap.size then cw else 0 := ⟨_, fun _ => rfl⟩
  have pv : ∀ g, y.ownBlock = some g → c' g = col F.length := fun g hg => by rw [hc', if_pos hg]
  have p0 : ∀ g, g < w.heap.size → y.ownBlock ≠ some g → c' g = c g := fun g hg hn => by rw [hc', if_neg hn, if_pos hg]
  have pn : ∀ g, w.heap.size ≤ g → y.ownBlock ≠ some g := fun g hg e => by have := hn0 g e; omega
  have p1 : ∀ g, w.heap.size ≤ g → g < w1.heap.size → c' g = cf := fun g h1 h2 => by rw [hc', if_neg (pn g h1), if_neg (by omega), if_pos h2]
  have p2 : ∀ g, w1.heap.size ≤ g → g < w2.heap.size → c' g = cc := fun g h1 h2 => by rw [hc', if_neg (pn g (by omega)), if_neg (by omega), if_neg (by omega), if_pos h2]
  have p3 : ∀ g, w2.heap.size ≤ g → g < w3.heap.size → c' g = cw := fun g h1 h2 => by rw [hc', if_neg (pn g (by omega)), if_neg (by omega), if_neg (by omega), if_neg (by omega), if_pos h2]
  have hnv : ∀ g, c g ≠ 0 → y.ownBlock ≠ some g := fun g hg e => hg (hvc g e)
  have hf' : ∀ g, fv'.ownBlock = some g → c' g = cf ∧ g < w1.heap.size := fun g hg => by
    rcases ha.own g hg with q | q
    · have q1 := (hfr.frow.lt g q).2
      have q2 := hfr.cfrow g q
      exact ⟨by rw [p0 g q1 (hnv g (by omega))]; exact q2, by omega⟩
    · exact ⟨p1 g q.1 q.2, q.2⟩
  have hx' : ∀ g, wx.ownBlock = some g → c' g = cc ∧ g < w2.heap.size := fun g hg => by
    rcases hm.own g hg with q | q
    · simp [Value.ownBlock] at q
    · exact ⟨p2 g (by omega) q.2, q.2⟩
  have hw' : ∀ g, wv'.ownBlock = some g → c' g = cw := fun g hg => by
    rcases hb.own g hg with q | q
    · have q1 : g < w.heap.size := (hfr.wrow.lt g q).2
      have q2 := hfr.cwrow g q
      rw [p0 g q1 (hnv g (by omega))]; exact q2
    · exact p3 g q.1 q.2
  have cb : c' ob = 1 := by rw [p0 ob hob (hnv ob (by omega))]; exact hcb
  have b1 : w1.heap[ob]? = some (.cells bx tw (0, 0)) := ha.keeps.at_ hbox (fun e => by have := hfr.cfrow _ e; omega)
  have b2 := heap_setCell_at b1 fi fv'
  have b3 := hb.keeps.at_ (f2.at_ b2 (fun h => h)) (fun e => by have := hfr.cwrow _ e; omega)
  have ncb : ∀ g, c' g ≠ 1 → g ≠ ob := fun g hg e => hg (by rw [e]; exact cb)
  have kc : Keeps (fun q => c q = 1 ∨ c q = cf ∨ c q = cw) w (w3.setCell ⟨ob, fi + 1, none⟩ wv') := k3.mono fun q _ e => by
    rcases e with rfl | e | e
    · exact .inl hcb
    · exact .inr (.inl (hfr.cfrow q e))
    · exact .inr (.inr (hfr.cwrow q e))
  have hfr2 : (w3.setCell ⟨ob, fi + 1, none⟩ wv').ownsRow 0 T 1 fv' (F.length + 1) (F ++ [x]) := by
    refine ownsRow_setCell_ne (ownsRow_keeps (ownsRow_keeps (ownsRow_setCell_ne ha.row (fun e => ncb ob (by have e2 : c' ob = cf := (hf' _ e).1; omega) rfl) fv') f2 (fun _ _ h => h)) hb.keeps (fun g hg e => ?_)) (fun e => ncb ob (by have e2 : c' ob = cf := (hf' _ e).1; omega) rfl) wv'
    have q1 := (hf' g hg).1
    have q2 := (hfr.wrow.lt g e).2
    have q3 := hfr.cwrow g e
    rw [p0 g q2 (hnv g (by omega))] at q1
    omega
  have hwr2 : (w3.setCell ⟨ob, fi + 1, none⟩ wv').ownsRow 0 T 1 wv' (Wv.length + 1) (Wv ++ [wx]) := ownsRow_setCell_ne hb.row (fun e => ncb ob (by have e2 : c' ob = cw := hw' _ e; omega) rfl) wv'
  have hxr : (w3.setCell ⟨ob, fi + 1, none⟩ wv').ownsRow 0 e size wx (len l) (cells l) := by
    refine ownsRow_setCell_ne (ownsRow_keeps hm.row hb.keeps (fun g hg e => ?_)) (fun e => ncb ob (by have e2 : c' ob = cc := (hx' _ e).1; omega) rfl) wv'
    have q1 := (hx' g hg).1
    have q2 := (hfr.wrow.lt g e).2
    have q3 := hfr.cwrow g e
    rw [p0 g q2 (hnv g (by omega))] at q1
    omega
  have hvr : (w3.setCell ⟨ob, fi + 1, none⟩ wv').ownsRow 0 e size y (len l) (cells l) := ownsRow_keeps hv k3 (fun g hg e => by
    have h0 := hvc g hg
    rcases e with rfl | e | e
    · omega
    · have := hfr.cfrow g e; omega
    · have := hfr.cwrow g e; omega)
  refine ⟨c', heap_setCell_at b3 (fi + 1) wv', ?_, kc, p0, fun g hg => ?_⟩
  · refine Frees.more hfr.lenC hfr.lenW (fun j v l hv hl => (hfr.lists j v l hv hl).keeps kc (fun g hg _ e => ?_) fun g hg e => ?_) (fun j v l hv hl => (hfr.was j v l hv hl).keeps kc (fun g hg _ e => ?_) fun g hg e => ?_) ⟨y, hx, hvr, pv⟩ ⟨wx, ?_, hxr, fun g hg => (hx' g hg).1⟩ hfr2 (fun g hg => (hf' g hg).1) hwr2 hw'
    · have := hc1 j; omega
    · have := hc1 j
      rw [p0 g hg (hnv g (by omega))]; exact e
    · omega
    · rw [p0 g hg (hnv g (by omega))]; exact e
    · obtain ⟨xo, xc, rfl⟩ := ownsRow_slice hxr
      exact Clip.same
  · rw [hc', if_neg (pn g (by omega)), if_neg (by omega), if_neg (by omega), if_neg (by omega), if_neg (by omega)]
end

/-- what 'pages' and 'writes' leave -/
def Outed (B : Nat) (c : Nat → Nat) (w w' : World) (ob : Nat) (sd sx : Nat → St) (n N : Nat) (y : Value) : Prop := ∃ c' v', DW B c' w' ob v' sd sx n (N + 1) ∧ Keeps (fun q => c q = 1 ∨ (5 ≤ c q ∧ c q ≤ 10)) w w' ∧ ∀ g, g < w.heap.size → y.ownBlock ≠ some g → c' g = c g
section
variable {B ob n N : Nat} {c : Nat → Nat} {w w1 w2 w3 : World} {v : WV} {sd sx : Nat → St} {fv' wv' x y wx : Value}
theorem DW.outT {l : Texts} (h : DW B c w ob v sd sx n N) (hx : Clip x y) (hv : w.ownsRow 0 9 1 y l.length (texts l)) (hvc : ∀ g, y.ownBlock = some g → B ≤ g ∧ c g = 0) (hl : l.length ≤ 4096)
    (ha : Appended 30 1 w w1 v.fv fv' (v.F.length + 1) (v.F ++ [x]))
    (hm : Appended 9 1 (w1.setCell ⟨ob, 1, none⟩ fv') w2 (.slice none 0 0) wx l.length (texts l))
    (hb : Appended 30 1 w2 w3 v.wv wv' (v.Wv.length + 1) (v.Wv ++ [wx])) :
    Outed B c w (w3.setCell ⟨ob, 2, none⟩ wv') ob sd sx n N y := by
  obtain ⟨c', q1, q2, q3, q4, q5⟩ := outs h.box h.cbox h.lw.free (by omega) (by omega) (by omega) (by omega) (by omega) (by omega) (fun i => by unfold fcolT; omega) hx hv (fun g hg => (hvc g hg).2) ha hm hb
  have q4' : ∀ g, g < w.heap.size → c g ≠ 0 → c' g = c g := fun g hg hn => q4 g hg fun e => hn (hvc g e).2
  obtain ⟨G, g1, g2⟩ := h.lw.lists
  refine ⟨c', { v with fv := fv', wv := wv', F := v.F ++ [x], Wv := v.Wv ++ [wx], C := v.C ++ [l] }, ⟨q1, (q4' ob (lt_of_block h.box) (by rw [h.cbox]; omega)).trans h.cbox, ⟨?_, ?_, q2, ?_, ⟨G, g1, by simp only [List.length_append, List.length_singleton]; omega⟩, ?_, ?_, h.lw.smallW⟩, ?_, fun g hg => ?_, Nat.le_trans h.size q3.size, q5⟩, q3.mono fun q _ e => by omega, q4⟩
  · exact h.lw.pack.keeps q3 (fun g hs _ => ⟨by omega, fun i => by unfold gcolT; omega⟩) fun g hg e => q4' g hg (by
      rcases e with e | ⟨i, e⟩
      · omega
      · unfold gcolT at e; omega)
  · exact h.lw.packW.keeps q3 (fun g hs _ => ⟨by omega, fun i => by unfold gcolW; omega⟩) fun g hg e => q4' g hg (by
      rcases e with e | ⟨i, e⟩
      · omega
      · unfold gcolW at e; omega)
  · exact h.lw.freeW.keeps q3 (fun g hs _ => ⟨by omega, by omega, by omega, fun i => by unfold fcolW; omega⟩) fun g hg e => q4' g hg (by
      rcases e with e | e | e | ⟨i, e⟩
      · omega
      · omega
      · omega
      · unfold fcolW at e; omega)
  · obtain ⟨G, g1, g2⟩ := h.lw.listsW
    exact ⟨G, g1, by show G + v.F2.length ≤ N + 1; omega⟩
  · intro z hz
    rcases List.mem_append.1 hz with hz | hz
    · exact h.lw.small z hz
    · rw [List.mem_singleton] at hz
      rw [hz]; exact hl
  · have q := h.vw.keeps q3 (fun g hs _ => by omega) (fun g hg e => q4' g hg (by omega))
    exact ⟨q.row, q.crow, q.few, q.dev, q.ref, q.okd, q.okx, q.hand, q.chand⟩
  · have := h.size
    rw [q4 g (by omega) (fun e => by have := (hvc g e).1; omega)]
    exact h.low g hg
theorem DW.outW {l : Wrs} (h : DW B c w ob v sd sx n N) (hx : Clip x y) (hv : w.ownsRow 0 69 2 y l.length (writeCells l)) (hvc : ∀ g, y.ownBlock = some g → B ≤ g ∧ c g = 0) (hl : l.length ≤ 4096)
    (ha : Appended 38 1 w w1 v.gv fv' (v.F2.length + 1) (v.F2 ++ [x]))
    (hm : Appended 69 2 (w1.setCell ⟨ob, 3, none⟩ fv') w2 (.slice none 0 0) wx l.length (writeCells l))
    (hb : Appended 38 1 w2 w3 v.hv wv' (v.Wv2.length + 1) (v.Wv2 ++ [wx])) :
    Outed B c w (w3.setCell ⟨ob, 4, none⟩ wv') ob sd sx n N y := by
  obtain ⟨c', q1, q2, q3, q4, q5⟩ := outs h.box h.cbox h.lw.freeW (by omega) (by omega) (by omega) (by omega) (by omega) (by omega) (fun i => by unfold fcolW; omega) hx hv (fun g hg => (hvc g hg).2) ha hm hb
  have q4' : ∀ g, g < w.heap.size → c g ≠ 0 → c' g = c g := fun g hg hn => q4 g hg fun e => hn (hvc g e).2
  obtain ⟨G, g1, g2⟩ := h.lw.listsW
  refine ⟨c', { v with gv := fv', hv := wv', F2 := v.F2 ++ [x], Wv2 := v.Wv2 ++ [wx], C2 := v.C2 ++ [l] }, ⟨q1, (q4' ob (lt_of_block h.box) (by rw [h.cbox]; omega)).trans h.cbox, ⟨?_, ?_, ?_, q2, ?_, ⟨G, g1, by simp only [List.length_append, List.length_singleton]; omega⟩, h.lw.small, ?_⟩, ?_, fun g hg => ?_, Nat.le_trans h.size q3.size, q5⟩, q3.mono fun q _ e => by omega, q4⟩
  · exact h.lw.pack.keeps q3 (fun g hs _ => ⟨by omega, fun i => by unfold gcolT; omega⟩) fun g hg e => q4' g hg (by
      rcases e with e | ⟨i, e⟩
      · omega
      · unfold gcolT at e; omega)
  · exact h.lw.packW.keeps q3 (fun g hs _ => ⟨by omega, fun i => by unfold gcolW; omega⟩) fun g hg e => q4' g hg (by
      rcases e with e | ⟨i, e⟩
      · omega
      · unfold gcolW at e; omega)
  · exact h.lw.free.keeps q3 (fun g hs _ => ⟨by omega, by omega, by omega, fun i => by unfold fcolT; omega⟩) fun g hg e => q4' g hg (by
      rcases e with e | e | e | ⟨i, e⟩
      · omega
      · omega
      · omega
      · unfold fcolT at e; omega)
  · obtain ⟨G, g1, g2⟩ := h.lw.lists
    exact ⟨G, g1, by show G + v.F.length ≤ N + 1; omega⟩
  · intro z hz
    rcases List.mem_append.1 hz with hz | hz
    · exact h.lw.smallW z hz
    · rw [List.mem_singleton] at hz
      rw [hz]; exact hl
  · have q := h.vw.keeps q3 (fun g hs _ => by omega) (fun g hg e => q4' g hg (by omega))
    exact ⟨q.row, q.crow, q.few, q.dev, q.ref, q.okd, q.okx, q.hand, q.chand⟩
  · have := h.size
    rw [q4 g (by omega) (fun e => by have := (hvc g e).1; omega)]
    exact h.low g hg
end

theorem step_appendN {P : Program} {ops : Array Oper} {o : Oper} {a : Act} {K : Act → World → Prop} {Q : Exit → Act → World → Prop} {F : Prop} {w : World} (hgd : o.guard = none) (s x : Operand) (t : TypeId)
    (ho : o.op = .call { callee := .builtin .append, args := #[s, x], argTypes := #[t, t] })
    (e : TypeId) (i : TypeInfo) (z : Value) (size bytes : Nat) (ht : P.underlying t = some (.slice e)) (hi : P.info? e = some i) (hz : i.zero = some z) (hsize : i.size = size) (hby : i.bytes = bytes) (hzs : z.cells.size = size) (hs0 : 0 < size)
    {v : Value} {n : Nat} {xs : List Value} (hown : w.ownsRow 0 e size v n xs) (xv : Value) (m : Nat) (news : List Value) (hs : a.eval s = v) (hx : a.eval x = xv) (hsrc : Src P size t xv m news w)
    (hn : n + m ≤ maxLen) (hb : (n + m) * bytes ≤ 140737488355328)
    (h : ∀ v' w', Appended e size w w' v v' (n + m) (xs ++ news) → K (a.put o.dst v') w') :
    if Region.wanted o (yielded ops a.tmps) = true then Oper.wp P o a w K Q else F := by
  have hw : Region.wanted o (yielded ops a.tmps) = true := by simp [Region.wanted, hgd]
  rw [if_pos hw]
  obtain ⟨v', w', hr, h1, h4⟩ := run_append_row (P := P) w t t o.type e i z size bytes ht hi hz hsize hby hzs hs0 v n xs hown xv m news hsrc hn hb
  unfold Oper.wp
  simp [execOp, ho, resolve, invoke, builtin, hs, hx, hr, Result.andThen]
  exact h v' w' h1
theorem Src.clipT {w : World} {xo : Option Addr} {xc xc' : Nat} {l : Texts} (h : w.ownsRow 0 9 1 (.slice xo l.length xc') l.length (texts l)) : Src Try.prog 1 30 (.slice xo l.length xc) l.length (texts l) w :=
  Src.ofTexts (P := Try.prog) Try.underlying30 (by
    obtain ⟨ao, cap, e, hc⟩ := OwnTexts_at h
    simp only [Value.slice.injEq] at e
    obtain ⟨rfl, -, rfl⟩ := e
    exact ⟨xo, xc, rfl, hc⟩)
theorem Src.clipW {w : World} {xo : Option Addr} {xc xc' : Nat} {l : Wrs} (h : w.ownsRow 0 69 2 (.slice xo l.length xc') l.length (writeCells l)) : Src Try.prog 2 38 (.slice xo l.length xc) l.length (writeCells l) w := by
  have hl : (writeCells l).length = l.length * 2 := by rw [h.1]
  by_cases h0 : 0 < l.length
  · obtain ⟨g, rfl, hg, hc⟩ := ownsRow_cells h h0
    exact Src.ofSlice _ Try.underlying38 ⟨g, 0, none⟩ l.length xc (writeCells l) hl (fun j u hu => by rw [addr_add0]; exact hc j u hu) (fun u hu => by
      simp only [writeCells, List.mem_flatMap] at hu
      obtain ⟨x, -, hu⟩ := hu
      simp only [List.mem_cons, List.not_mem_nil, or_false] at hu
      rcases hu with rfl | rfl <;> rfl)
  · have : l = [] := List.eq_nil_of_length_eq_zero (by omega)
    subst this
    cases xo with
    | none => exact Src.ofNil w Try.underlying38 xc
    | some a => exact Src.ofSlice w Try.underlying38 a 0 xc [] rfl (fun j u hj => by simp at hj) (fun u hu => by simp at hu)

set_option maxRecDepth 100000 in
set_option maxHeartbeats 4000000 in
theorem pages_w (B ob n N : Nat) (c : Nat → Nat) (w : World) (v : WV) (sd sx : Nat → St) (x y : Value) (l : Texts) (h : DW B c w ob v sd sx n N) (hN : N ≤ 1000) (hx : Clip x y) (hv : w.ownsRow 0 9 1 y l.length (texts l)) (hvc : ∀ g, y.ownBlock = some g → B ≤ g ∧ c g = 0) (hl : l.length ≤ 4096) :
    Calls Try.prog 42 #[.pointer (some ⟨ob, 0, none⟩), x] w fun e w' => e = .returned (.tuple #[]) ∧ Outed B c w w' ob sd sx n N y := by
  obtain ⟨i0, hi, hz0, hz1, hz2⟩ := info_parts Try.infoText
  obtain ⟨i1, hi', hz0', hz1', hz2'⟩ := info_parts Try.infoListT
  obtain ⟨aof, cpf, ef⟩ := ownsRow_slice h.lw.free.frow
  obtain ⟨aow, cpw, ew⟩ := ownsRow_slice h.lw.free.wrow
  have hx2 := hx
  obtain ⟨xo, xn, xc, xc', rfl, rfl, -⟩ := hx2
  obtain ⟨yo, yc, ey⟩ := ownsRow_slice hv
  simp only [Value.slice.injEq] at ey
  obtain ⟨-, rfl, -⟩ := ey
  have H := hid h
  have HX := hid hx
  have HV := hid hv
  have HVC := hid hvc
  have HFR := hid h.lw.free
  rw [ef, ew] at HFR
  have c0 := (cell_at h.box 1).trans (show _ = some (Value.slice aof v.F.length cpf) by rw [← ef]; rfl)
  have d0 := free_at h.box 1
  have bl := lt_of_block h.box
  have hF : v.F.length ≤ 1000 := by obtain ⟨G, -, h2⟩ := h.lw.lists; omega
  have hFW : v.Wv.length ≤ 1000 := by rw [h.lw.free.lenW]; exact hF
  have HF := hid hF
  have HW := hid hFW
  have HL := hid hl
  have EF := hid ef
  have EW := hid ew
  clear h hx hv hvc hF hFW hl ef ew
  go_enter Try.func42, Try.ntmps42
  go_wp2_with (at_builtin; refine wpList_push rfl (.tmp 8) (.tmp 10) 44 rfl 30 i1 (.slice none 0 0) 24 Try.underlying44 hi' hz0' hz1' hz2' rfl w HFR.out.frow _ (by rfl) (by rfl) rfl (by have := HF.out; omega) (by have := HF.out; unfold maxLen; omega) ?_)
  intro v1 w1 ha
  have b1 : w1.heap[ob]? = some (.cells (boxOf v) 47 (0, 0)) := ha.keeps.at_ H.out.box (fun e => by have := HFR.out.cfrow _ e; have := H.out.cbox; omega)
  have d1 := free_at b1 1
  obtain ⟨c1v, c1⟩ : ∃ u, w1.cell? ⟨ob, 1, none⟩ = some u := ⟨_, (cell_at b1 1).trans rfl⟩
  have bl1 := lt_of_block b1
  obtain ⟨ao1, cp1, rfl⟩ := ownsRow_slice ha.row
  have b2 := heap_setCell_at b1 1 (.slice ao1 (v.F.length + 1) cp1)
  have HA := hid ha
  clear ha c0 d0
  go_wp2_with fail
  have k2 : Keeps (fun q => q = ob ∨ (Value.slice aof v.F.length cpf).ownBlock = some q) w (w1.setCell ⟨ob, 1, none⟩ (.slice ao1 (v.F.length + 1) cp1)) := (HA.out.keeps.mono (fun q _ e => .inr e)).setCell (p := ⟨ob, 1, none⟩) (fun _ => .inl rfl) _
  obtain ⟨W1, hW1⟩ : ∃ W1, w1.setCell ⟨ob, 1, none⟩ (.slice ao1 (v.F.length + 1) cp1) = W1 := ⟨_, rfl⟩
  rw [hW1] at b2 k2 ⊢
  have HW1 := hid hW1
  have c2 : W1.cell? ⟨ob, 2, none⟩ = some (.slice aow v.Wv.length cpw) := (cell_at b2 2).trans (by rw [← EW.out]; rfl)
  have d2 := free_at b2 2
  have bl2 := lt_of_block b2
  have hwr : W1.ownsRow 0 30 1 (.slice aow v.Wv.length cpw) v.Wv.length v.Wv := ownsRow_keeps HFR.out.wrow k2 (fun g hg e => by
    have h1 := HFR.out.cwrow g hg
    rcases e with rfl | e
    · have := H.out.cbox; omega
    · have := HFR.out.cfrow g e; omega)
  have hsrc : ∀ W, Fresh W1 W → Src Try.prog 1 30 (.slice xo l.length xc) l.length (texts l) W := fun W f => by
    have h4 : W.ownsRow 0 9 1 (.slice xo l.length xc') l.length (texts l) := ownsRow_keeps (ownsRow_keeps HV.out k2 (fun g hg e => by
      have h1 := (HVC.out g hg).2
      rcases e with rfl | e
      · have := H.out.cbox; omega
      · have := HFR.out.cfrow g e; omega)) f (fun _ _ h => h)
    exact Src.clipT h4
  have HS := hid hsrc
  have hne : (Value.slice aow v.Wv.length cpw).ownBlock ≠ some ob := fun e => by have := HFR.out.cwrow _ e; have := H.out.cbox; omega
  clear hW1 hsrc b1 c1 d1
  refine wp_region_keep 12 (fun w' => Keeps (fun q => q = ob ∨ (Value.slice aow v.Wv.length cpw).ownBlock = some q) W1 w') (fun w' => w'.cell? ⟨ob, 2, none⟩ = some (.slice aow v.Wv.length cpw) ∧ w'.frozen? ⟨ob, 2, none⟩ = false) (fun j => !(j == 11)) (by kernel_rfl) (by kernel_rfl) ?_
  (try (change wpKeep _ _ _ _ _ _ _ _ _ _ (World.drew _)))
  refine wpKeep_takeT (i := 0) (oi := ⟨some 14, _, _, _, _, _⟩) (v := ?_) rfl (by kernel_rfl) (by kernel_rfl) (by kernel_rfl) (by kernel_rfl) (fun _ _ _ h => h) (Or.inl ⟨by rfl, ?_⟩) (Keeps.refl _ _).drew (fun _ => ⟨c2, d2⟩) ?_
  rotate_left
  · intro w' hT
    go_simp
    (try rw [if_pos (by omega)])
    (try with_reducible rfl)
  rotate_left
  (try simp only [Act.put, List.setIfInBounds_toArray, List.set_cons_zero, List.set_cons_succ])
  refine wpKeep_takeT (i := 1) (oi := ⟨some 15, _, _, _, _, _⟩) (v := ?_) rfl (by kernel_rfl) (by kernel_rfl) (by kernel_rfl) (by kernel_rfl) (fun _ _ _ h => h) (Or.inl ⟨by rfl, ?_⟩) (Keeps.refl _ _).drew (fun _ => ⟨c2, d2⟩) ?_
  rotate_left
  · intro w' hT
    go_simp
    (try rw [if_pos (by omega)])
    (try with_reducible rfl)
  rotate_left
  (try simp only [Act.put, List.setIfInBounds_toArray, List.set_cons_zero, List.set_cons_succ])
  refine wpKeep_takeT (i := 2) (oi := ⟨some 16, _, _, _, _, _⟩) (v := ?_) rfl (by kernel_rfl) (by kernel_rfl) (by kernel_rfl) (by kernel_rfl) (fun _ _ _ h => h) (Or.inl ⟨by rfl, ?_⟩) (Keeps.refl _ _).drew (fun _ => ⟨c2, d2⟩) ?_
  rotate_left
  · intro w' hT
    go_simp
    (try rw [if_pos (by omega)])
    (try with_reducible rfl)
  rotate_left
  (try simp only [Act.put, List.setIfInBounds_toArray, List.set_cons_zero, List.set_cons_succ])
  refine wpKeep_takeT (i := 3) (oi := ⟨some 17, _, _, _, _, _⟩) (v := ?_) rfl (by kernel_rfl) (by kernel_rfl) (by kernel_rfl) (by kernel_rfl) (fun _ _ _ h => h) (Or.inl ⟨by rfl, ?_⟩) (Keeps.refl _ _).drew (fun _ => ⟨c2, d2⟩) ?_
  rotate_left
  · intro w' hT
    go_simp
    (try rw [if_pos (by omega)])
    (try with_reducible rfl)
  rotate_left
  (try simp only [Act.put, List.setIfInBounds_toArray, List.set_cons_zero, List.set_cons_succ])
  refine wpKeep_take (i := 4) (oi := ⟨some 18, _, _, _, _, _⟩) (v := ?_) rfl (by kernel_rfl) (by kernel_rfl) (by kernel_rfl) (by kernel_rfl) (fun _ _ _ h => h) (Or.inl ⟨by rfl, ?_⟩) ⟨(Keeps.refl _ _).drew, ⟨c2, d2⟩⟩ ?_
  rotate_left
  · intro w' hT
    have hS0 := hT.2
    replace hT := hT.1
    go_simp
    (try rw [if_pos (by omega)])
    (try with_reducible rfl)
  rotate_left
  (try simp only [Act.put, List.setIfInBounds_toArray, List.set_cons_zero, List.set_cons_succ])
  refine wpKeep_takeT (i := 5) (oi := ⟨some 19, _, _, _, _, _⟩) (v := ?_) rfl (by kernel_rfl) (by kernel_rfl) (by kernel_rfl) (by kernel_rfl) (fun _ _ _ h => h) (Or.inl ⟨by rfl, ?_⟩) (Keeps.refl _ _).drew (fun _ => ⟨c2, d2⟩) ?_
  rotate_left
  · intro w' hT
    go_simp
    (try rw [if_pos (by omega)])
    (try with_reducible rfl)
  rotate_left
  (try simp only [Act.put, List.setIfInBounds_toArray, List.set_cons_zero, List.set_cons_succ])
  refine wpKeep_ready (rs := [6]) (by kernel_rfl) (by simp) ?_
  refine AllKeep.cons (o := ⟨some 20, _, _, _, _, _⟩) rfl (fun K hK => ?_) AllKeep.nil
  refine step_append rfl (.const (.slice none 0 0)) (.tmp 19) 30 rfl 9 i0 (.string ⟨#[]⟩) 16 Try.underlying30 hi hz0 hz1 hz2 rfl (World.ownsRow_nil _ _ _ _) (.slice xo l.length xc) l.length (texts l) (by rfl) (by rfl) (HS.out _ (Keeps.refl (fun _ => False) W1).drew) (by have := HL.out; unfold maxLen; omega) (by have := HL.out; omega) ?_
  intro vx w2 hm
  replace hm : Appended 9 1 W1 w2 (.slice none 0 0) vx l.length (texts l) := by
    have := hm.undrew
    rwa [Nat.zero_add, List.nil_append] at this
  have f2 : Fresh W1 w2 := hm.keeps.mono (fun q _ e => by simp [Value.ownBlock] at e)
  have s20 := (f2.cell (p := ⟨ob, 2, none⟩) bl2 (fun h => h)).trans c2
  have s21 := (f2.frozen (p := ⟨ob, 2, none⟩) bl2 (fun h => h)).trans d2
  have T2 : Keeps (fun q => q = ob ∨ (Value.slice aow v.Wv.length cpw).ownBlock = some q) W1 w2 := f2.mono (fun _ _ h => h.elim)
  have hw2 := ownsRow_keeps hwr f2 (fun _ _ h => h)
  obtain ⟨aox, cpx, rfl⟩ := ownsRow_slice hm.row
  refine hK.out _ _ T2 (fun _ => ⟨s20, s21⟩) ?_
  clear hK K
  (try simp only [Act.put, List.setIfInBounds_toArray, List.set_cons_zero, List.set_cons_succ])
  refine wpKeep_ready (rs := [7]) (by kernel_rfl) (by simp) ?_
  refine AllKeep.cons (o := ⟨some 21, _, _, _, _, _⟩) rfl (fun K hK => ?_) AllKeep.nil
  go_simp
  have fal := (Keeps.refl (fun _ => False) w2).alloc (.cells #[.slice aox l.length cpx] 30)
  have n22 : ob < w2.heap.size := Nat.lt_of_lt_of_le bl2 f2.size
  refine hK.out _ _ (T2.alloc _) (fun _ => ⟨(fal.cell (p := ⟨ob, 2, none⟩) n22 (fun h => h)).trans s20, (fal.frozen (p := ⟨ob, 2, none⟩) n22 (fun h => h)).trans s21⟩) ?_
  clear hK K
  (try simp only [Act.put, List.setIfInBounds_toArray, List.set_cons_zero, List.set_cons_succ])
  refine wpKeep_ready (rs := [8]) (by kernel_rfl) (by simp) ?_
  refine AllKeep.cons (o := ⟨some 22, _, _, _, _, _⟩) rfl (fun K hK => ?_) AllKeep.nil
  refine step_push rfl (.tmp 18) (.tmp 21) 44 rfl 30 i1 (.slice none 0 0) 24 Try.underlying44 hi' hz0' hz1' hz2' rfl w2 hw2 (.slice aox l.length cpx) (by rfl) (by rfl) rfl (by have := HW.out; omega) (by have := HW.out; unfold maxLen; omega) ?_
  intro v3 w3 hb
  have s30 := (hb.keeps.cell (p := ⟨ob, 2, none⟩) n22 hne).trans s20
  have s31 := (hb.keeps.frozen (p := ⟨ob, 2, none⟩) n22 hne).trans s21
  have T3 : Keeps (fun q => q = ob ∨ (Value.slice aow v.Wv.length cpw).ownBlock = some q) W1 w3 := T2.trans (hb.keeps.mono (fun _ _ h => .inr h))
  refine hK.out _ _ T3 (fun _ => ⟨s30, s31⟩) ?_
  clear hK K
  (try simp only [Act.put, List.setIfInBounds_toArray, List.set_cons_zero, List.set_cons_succ])
  refine wpKeep_takeT (i := 9) (oi := ⟨some 23, _, _, _, _, _⟩) (v := ?_) rfl (by kernel_rfl) (by kernel_rfl) (by kernel_rfl) (by kernel_rfl) (fun _ _ _ h => h) (Or.inl ⟨by rfl, ?_⟩) T3 (fun _ => ⟨s30, s31⟩) ?_
  rotate_left
  · intro w' hT
    go_simp
    (try rw [if_pos (by omega)])
    (try with_reducible rfl)
  rotate_left
  (try simp only [Act.put, List.setIfInBounds_toArray, List.set_cons_zero, List.set_cons_succ])
  refine wpKeep_takeT (i := 10) (oi := ⟨some 24, _, _, _, _, _⟩) (v := ?_) rfl (by kernel_rfl) (by kernel_rfl) (by kernel_rfl) (by kernel_rfl) (fun _ _ _ h => h) (Or.inl ⟨by rfl, ?_⟩) T3 (fun _ => ⟨s30, s31⟩) ?_
  rotate_left
  · intro w' hT
    go_simp
    (try rw [if_pos (by omega)])
    (try with_reducible rfl)
  rotate_left
  (try simp only [Act.put, List.setIfInBounds_toArray, List.set_cons_zero, List.set_cons_succ])
  refine wpKeep_ready (rs := [11]) (by kernel_rfl) (by simp) ?_
  refine AllKeep.cons (o := ⟨none, _, _, _, _, _⟩) rfl (fun K hK => ?_) AllKeep.nil
  obtain ⟨ao3, cp3, e3⟩ := ownsRow_slice hb.row
  subst e3
  have n33 : ob < w3.heap.size := Nat.lt_of_lt_of_le n22 hb.keeps.size
  go_simp
  refine hK.out _ _ (T3.setCell (p := ⟨ob, 2, none⟩) (fun _ => .inl rfl) _) (not_early (by kernel_rfl)) ?_
  clear hK K
  (try simp only [Act.put, List.setIfInBounds_toArray, List.set_cons_zero, List.set_cons_succ])
  refine wpKeep_done (by kernel_rfl) ?_ _
  have hN' := H.out.outT HX.out HV.out HVC.out HL.out (by rw [EF.out]; exact HA.out) (by rw [HW1.out]; exact hm) (by rw [EW.out]; exact hb)
  go_wp2_with fail
  first | go_end0 | refine bodyPost_ret (results_none rfl _ _ _) rfl ?_
  exact ⟨rfl, hN'⟩

set_option maxRecDepth 100000 in
set_option maxHeartbeats 4000000 in
theorem writes_w (B ob n N : Nat) (c : Nat → Nat) (w : World) (v : WV) (sd sx : Nat → St) (x y : Value) (l : Wrs) (h : DW B c w ob v sd sx n N) (hN : N ≤ 1000) (hx : Clip x y) (hv : w.ownsRow 0 69 2 y l.length (writeCells l)) (hvc : ∀ g, y.ownBlock = some g → B ≤ g ∧ c g = 0) (hl : l.length ≤ 4096) :
    Calls Try.prog 41 #[.pointer (some ⟨ob, 0, none⟩), x] w fun e w' => e = .returned (.tuple #[]) ∧ Outed B c w w' ob sd sx n N y := by
  obtain ⟨i0, hi, hz0, hz1, hz2⟩ := info_parts Try.infoWrite
  obtain ⟨i1, hi', hz0', hz1', hz2'⟩ := info_parts Try.infoListW
  obtain ⟨aof, cpf, ef⟩ := ownsRow_slice h.lw.freeW.frow
  obtain ⟨aow, cpw, ew⟩ := ownsRow_slice h.lw.freeW.wrow
  have hx2 := hx
  obtain ⟨xo, xn, xc, xc', rfl, rfl, -⟩ := hx2
  obtain ⟨yo, yc, ey⟩ := ownsRow_slice hv
  simp only [Value.slice.injEq] at ey
  obtain ⟨-, rfl, -⟩ := ey
  have H := hid h
  have HX := hid hx
  have HV := hid hv
  have HVC := hid hvc
  have HFR := hid h.lw.freeW
  rw [ef, ew] at HFR
  have c0 := (cell_at h.box 3).trans (show _ = some (Value.slice aof v.F2.length cpf) by rw [← ef]; rfl)
  have d0 := free_at h.box 3
  have bl := lt_of_block h.box
  have hF : v.F2.length ≤ 1000 := by obtain ⟨G, -, h2⟩ := h.lw.listsW; omega
  have hFW : v.Wv2.length ≤ 1000 := by rw [h.lw.freeW.lenW]; exact hF
  have HF := hid hF
  have HW := hid hFW
  have HL := hid hl
  have EF := hid ef
  have EW := hid ew
  clear h hx hv hvc hF hFW hl ef ew
  go_enter Try.func41, Try.ntmps41
  go_wp2_with (at_builtin; refine wpList_push rfl (.tmp 8) (.tmp 10) 45 rfl 38 i1 (.slice none 0 0) 24 Try.underlying45 hi' hz0' hz1' hz2' rfl w HFR.out.frow _ (by rfl) (by rfl) rfl (by have := HF.out; omega) (by have := HF.out; unfold maxLen; omega) ?_)
  intro v1 w1 ha
  have b1 : w1.heap[ob]? = some (.cells (boxOf v) 47 (0, 0)) := ha.keeps.at_ H.out.box (fun e => by have := HFR.out.cfrow _ e; have := H.out.cbox; omega)
  have d1 := free_at b1 3
  obtain ⟨c1v, c1⟩ : ∃ u, w1.cell? ⟨ob, 3, none⟩ = some u := ⟨_, (cell_at b1 3).trans rfl⟩
  have bl1 := lt_of_block b1
  obtain ⟨ao1, cp1, rfl⟩ := ownsRow_slice ha.row
  have b2 := heap_setCell_at b1 3 (.slice ao1 (v.F2.length + 1) cp1)
  have HA := hid ha
  clear ha c0 d0
  go_wp2_with fail
  have k2 : Keeps (fun q => q = ob ∨ (Value.slice aof v.F2.length cpf).ownBlock = some q) w (w1.setCell ⟨ob, 3, none⟩ (.slice ao1 (v.F2.length + 1) cp1)) := (HA.out.keeps.mono (fun q _ e => .inr e)).setCell (p := ⟨ob, 3, none⟩) (fun _ => .inl rfl) _
  obtain ⟨W1, hW1⟩ : ∃ W1, w1.setCell ⟨ob, 3, none⟩ (.slice ao1 (v.F2.length + 1) cp1) = W1 := ⟨_, rfl⟩
  rw [hW1] at b2 k2 ⊢
  have HW1 := hid hW1
  have c2 : W1.cell? ⟨ob, 4, none⟩ = some (.slice aow v.Wv2.length cpw) := (cell_at b2 4).trans (by rw [← EW.out]; rfl)
  have d2 := free_at b2 4
  have bl2 := lt_of_block b2
  have hwr : W1.ownsRow 0 38 1 (.slice aow v.Wv2.length cpw) v.Wv2.length v.Wv2 := ownsRow_keeps HFR.out.wrow k2 (fun g hg e => by
    have h1 := HFR.out.cwrow g hg
    rcases e with rfl | e
    · have := H.out.cbox; omega
    · have := HFR.out.cfrow g e; omega)
  have hsrc : ∀ W, Fresh W1 W → Src Try.prog 2 38 (.slice xo l.length xc) l.length (writeCells l) W := fun W f => by
    have h4 : W.ownsRow 0 69 2 (.slice xo l.length xc') l.length (writeCells l) := ownsRow_keeps (ownsRow_keeps HV.out k2 (fun g hg e => by
      have h1 := (HVC.out g hg).2
      rcases e with rfl | e
      · have := H.out.cbox; omega
      · have := HFR.out.cfrow g e; omega)) f (fun _ _ h => h)
    exact Src.clipW h4
  have HS := hid hsrc
  have hne : (Value.slice aow v.Wv2.length cpw).ownBlock ≠ some ob := fun e => by have := HFR.out.cwrow _ e; have := H.out.cbox; omega
  clear hW1 hsrc b1 c1 d1
  refine wp_region_keep 12 (fun w' => Keeps (fun q => q = ob ∨ (Value.slice aow v.Wv2.length cpw).ownBlock = some q) W1 w') (fun w' => w'.cell? ⟨ob, 4, none⟩ = some (.slice aow v.Wv2.length cpw) ∧ w'.frozen? ⟨ob, 4, none⟩ = false) (fun j => !(j == 11)) (by kernel_rfl) (by kernel_rfl) ?_
  (try (change wpKeep _ _ _ _ _ _ _ _ _ _ (World.drew _)))
  refine wpKeep_takeT (i := 0) (oi := ⟨some 14, _, _, _, _, _⟩) (v := ?_) rfl (by kernel_rfl) (by kernel_rfl) (by kernel_rfl) (by kernel_rfl) (fun _ _ _ h => h) (Or.inl ⟨by rfl, ?_⟩) (Keeps.refl _ _).drew (fun _ => ⟨c2, d2⟩) ?_
  rotate_left
  · intro w' hT
    go_simp
    (try rw [if_pos (by omega)])
    (try with_reducible rfl)
  rotate_left
  (try simp only [Act.put, List.setIfInBounds_toArray, List.set_cons_zero, List.set_cons_succ])
  refine wpKeep_takeT (i := 1) (oi := ⟨some 15, _, _, _, _, _⟩) (v := ?_) rfl (by kernel_rfl) (by kernel_rfl) (by kernel_rfl) (by kernel_rfl) (fun _ _ _ h => h) (Or.inl ⟨by rfl, ?_⟩) (Keeps.refl _ _).drew (fun _ => ⟨c2, d2⟩) ?_
  rotate_left
  · intro w' hT
    go_simp
    (try rw [if_pos (by omega)])
    (try with_reducible rfl)
  rotate_left
  (try simp only [Act.put, List.setIfInBounds_toArray, List.set_cons_zero, List.set_cons_succ])
  refine wpKeep_takeT (i := 2) (oi := ⟨some 16, _, _, _, _, _⟩) (v := ?_) rfl (by kernel_rfl) (by kernel_rfl) (by kernel_rfl) (by kernel_rfl) (fun _ _ _ h => h) (Or.inl ⟨by rfl, ?_⟩) (Keeps.refl _ _).drew (fun _ => ⟨c2, d2⟩) ?_
  rotate_left
  · intro w' hT
    go_simp
    (try rw [if_pos (by omega)])
    (try with_reducible rfl)
  rotate_left
  (try simp only [Act.put, List.setIfInBounds_toArray, List.set_cons_zero, List.set_cons_succ])
  refine wpKeep_takeT (i := 3) (oi := ⟨some 17, _, _, _, _, _⟩) (v := ?_) rfl (by kernel_rfl) (by kernel_rfl) (by kernel_rfl) (by kernel_rfl) (fun _ _ _ h => h) (Or.inl ⟨by rfl, ?_⟩) (Keeps.refl _ _).drew (fun _ => ⟨c2, d2⟩) ?_
  rotate_left
  · intro w' hT
    go_simp
    (try rw [if_pos (by omega)])
    (try with_reducible rfl)
  rotate_left
  (try simp only [Act.put, List.setIfInBounds_toArray, List.set_cons_zero, List.set_cons_succ])
  refine wpKeep_take (i := 4) (oi := ⟨some 18, _, _, _, _, _⟩) (v := ?_) rfl (by kernel_rfl) (by kernel_rfl) (by kernel_rfl) (by kernel_rfl) (fun _ _ _ h => h) (Or.inl ⟨by rfl, ?_⟩) ⟨(Keeps.refl _ _).drew, ⟨c2, d2⟩⟩ ?_
  rotate_left
  · intro w' hT
    have hS0 := hT.2
    replace hT := hT.1
    go_simp
    (try rw [if_pos (by omega)])
    (try with_reducible rfl)
  rotate_left
  (try simp only [Act.put, List.setIfInBounds_toArray, List.set_cons_zero, List.set_cons_succ])
  refine wpKeep_takeT (i := 5) (oi := ⟨some 19, _, _, _, _, _⟩) (v := ?_) rfl (by kernel_rfl) (by kernel_rfl) (by kernel_rfl) (by kernel_rfl) (fun _ _ _ h => h) (Or.inl ⟨by rfl, ?_⟩) (Keeps.refl _ _).drew (fun _ => ⟨c2, d2⟩) ?_
  rotate_left
  · intro w' hT
    go_simp
    (try rw [if_pos (by omega)])
    (try with_reducible rfl)
  rotate_left
  (try simp only [Act.put, List.setIfInBounds_toArray, List.set_cons_zero, List.set_cons_succ])
  refine wpKeep_ready (rs := [6]) (by kernel_rfl) (by simp) ?_
  refine AllKeep.cons (o := ⟨some 20, _, _, _, _, _⟩) rfl (fun K hK => ?_) AllKeep.nil
  refine step_appendN rfl (.const (.slice none 0 0)) (.tmp 19) 38 rfl 69 i0 (.agg #[.int .i64 0, .string ⟨#[]⟩]) 2 24 Try.underlying38 hi hz0 hz1 hz2 rfl (by decide) (World.ownsRow_nil _ _ _ _) (.slice xo l.length xc) l.length (writeCells l) (by rfl) (by rfl) (HS.out _ (Keeps.refl (fun _ => False) W1).drew) (by have := HL.out; unfold maxLen; omega) (by have := HL.out; omega) ?_
  intro vx w2 hm
  replace hm : Appended 69 2 W1 w2 (.slice none 0 0) vx l.length (writeCells l) := by
    have := hm.undrew
    rwa [Nat.zero_add, List.nil_append] at this
  have f2 : Fresh W1 w2 := hm.keeps.mono (fun q _ e => by simp [Value.ownBlock] at e)
  have s20 := (f2.cell (p := ⟨ob, 4, none⟩) bl2 (fun h => h)).trans c2
  have s21 := (f2.frozen (p := ⟨ob, 4, none⟩) bl2 (fun h => h)).trans d2
  have T2 : Keeps (fun q => q = ob ∨ (Value.slice aow v.Wv2.length cpw).ownBlock = some q) W1 w2 := f2.mono (fun _ _ h => h.elim)
  have hw2 := ownsRow_keeps hwr f2 (fun _ _ h => h)
  obtain ⟨aox, cpx, rfl⟩ := ownsRow_slice hm.row
  refine hK.out _ _ T2 (fun _ => ⟨s20, s21⟩) ?_
  clear hK K
  (try simp only [Act.put, List.setIfInBounds_toArray, List.set_cons_zero, List.set_cons_succ])
  refine wpKeep_ready (rs := [7]) (by kernel_rfl) (by simp) ?_
  refine AllKeep.cons (o := ⟨some 21, _, _, _, _, _⟩) rfl (fun K hK => ?_) AllKeep.nil
  go_simp
  have fal := (Keeps.refl (fun _ => False) w2).alloc (.cells #[.slice aox l.length cpx] 38)
  have n22 : ob < w2.heap.size := Nat.lt_of_lt_of_le bl2 f2.size
  refine hK.out _ _ (T2.alloc _) (fun _ => ⟨(fal.cell (p := ⟨ob, 4, none⟩) n22 (fun h => h)).trans s20, (fal.frozen (p := ⟨ob, 4, none⟩) n22 (fun h => h)).trans s21⟩) ?_
  clear hK K
  (try simp only [Act.put, List.setIfInBounds_toArray, List.set_cons_zero, List.set_cons_succ])
  refine wpKeep_ready (rs := [8]) (by kernel_rfl) (by simp) ?_
  refine AllKeep.cons (o := ⟨some 22, _, _, _, _, _⟩) rfl (fun K hK => ?_) AllKeep.nil
  refine step_push rfl (.tmp 18) (.tmp 21) 45 rfl 38 i1 (.slice none 0 0) 24 Try.underlying45 hi' hz0' hz1' hz2' rfl w2 hw2 (.slice aox l.length cpx) (by rfl) (by rfl) rfl (by have := HW.out; omega) (by have := HW.out; unfold maxLen; omega) ?_
  intro v3 w3 hb
  have s30 := (hb.keeps.cell (p := ⟨ob, 4, none⟩) n22 hne).trans s20
  have s31 := (hb.keeps.frozen (p := ⟨ob, 4, none⟩) n22 hne).trans s21
  have T3 : Keeps (fun q => q = ob ∨ (Value.slice aow v.Wv2.length cpw).ownBlock = some q) W1 w3 := T2.trans (hb.keeps.mono (fun _ _ h => .inr h))
  refine hK.out _ _ T3 (fun _ => ⟨s30, s31⟩) ?_
  clear hK K
  (try simp only [Act.put, List.setIfInBounds_toArray, List.set_cons_zero, List.set_cons_succ])
  refine wpKeep_takeT (i := 9) (oi := ⟨some 23, _, _, _, _, _⟩) (v := ?_) rfl (by kernel_rfl) (by kernel_rfl) (by kernel_rfl) (by kernel_rfl) (fun _ _ _ h => h) (Or.inl ⟨by rfl, ?_⟩) T3 (fun _ => ⟨s30, s31⟩) ?_
  rotate_left
  · intro w' hT
    go_simp
    (try rw [if_pos (by omega)])
    (try with_reducible rfl)
  rotate_left
  (try simp only [Act.put, List.setIfInBounds_toArray, List.set_cons_zero, List.set_cons_succ])
  refine wpKeep_takeT (i := 10) (oi := ⟨some 24, _, _, _, _, _⟩) (v := ?_) rfl (by kernel_rfl) (by kernel_rfl) (by kernel_rfl) (by kernel_rfl) (fun _ _ _ h => h) (Or.inl ⟨by rfl, ?_⟩) T3 (fun _ => ⟨s30, s31⟩) ?_
  rotate_left
  · intro w' hT
    go_simp
    (try rw [if_pos (by omega)])
    (try with_reducible rfl)
  rotate_left
  (try simp only [Act.put, List.setIfInBounds_toArray, List.set_cons_zero, List.set_cons_succ])
  refine wpKeep_ready (rs := [11]) (by kernel_rfl) (by simp) ?_
  refine AllKeep.cons (o := ⟨none, _, _, _, _, _⟩) rfl (fun K hK => ?_) AllKeep.nil
  obtain ⟨ao3, cp3, e3⟩ := ownsRow_slice hb.row
  subst e3
  have n33 : ob < w3.heap.size := Nat.lt_of_lt_of_le n22 hb.keeps.size
  go_simp
  refine hK.out _ _ (T3.setCell (p := ⟨ob, 4, none⟩) (fun _ => .inl rfl) _) (not_early (by kernel_rfl)) ?_
  clear hK K
  (try simp only [Act.put, List.setIfInBounds_toArray, List.set_cons_zero, List.set_cons_succ])
  refine wpKeep_done (by kernel_rfl) ?_ _
  have hN' := H.out.outW HX.out HV.out HVC.out HL.out (by rw [EF.out]; exact HA.out) (by rw [HW1.out]; exact hm) (by rw [EW.out]; exact hb)
  go_wp2_with fail
  first | go_end0 | refine bodyPost_ret (results_none rfl _ _ _) rfl ?_
  exact ⟨rfl, hN'⟩
end Go.Proofs.Ytbhienlalpbflaa
