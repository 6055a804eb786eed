/-
  Replies in memory; replies each of whose lists lies in a block of its own.
-/
import Derived.Test.YtpccaodkgboefaaGreatDoorMsOwn
import Derived.Test.YtpccaodkgboefaaGreatDoorMMsE
namespace Go.Proofs.YtpccaodkgboefaaGreatDoor
open Go.RowKit

mutual
def RepAt (B : Nat → Prop) (w : World) : Rep → Value → Prop
  | .mk z s a b t h e p, v => ∃ hv ev ap cp, v = .agg #[.int .i64 z, .int .i64 s, .int .i64 a, .int .i64 b, .string (str t), hv, ev, .slice ap p.length cp] ∧ (ListAt w hv (texts h) ∧ Low B hv h) ∧ (ListAt w ev (texts e) ∧ Low B ev e) ∧ RepsAt B w p ap 0 ∧ p.length ≤ 9223372036854775807
def RepsAt (B : Nat → Prop) (w : World) : List Rep → Option Addr → Nat → Prop
  | [], _, _ => True
  | x :: r, ao, k => (∃ bb off c0 c1 c2 c3 c4 c5 c6 c7, ao = some ⟨bb, off, none⟩ ∧ B bb ∧ bb < w.heap.size ∧ w.cell? ⟨bb, off + k * 8, none⟩ = some c0 ∧ w.cell? ⟨bb, off + k * 8 + 1, none⟩ = some c1 ∧ w.cell? ⟨bb, off + k * 8 + 2, none⟩ = some c2 ∧ w.cell? ⟨bb, off + k * 8 + 3, none⟩ = some c3 ∧ w.cell? ⟨bb, off + k * 8 + 4, none⟩ = some c4 ∧ w.cell? ⟨bb, off + k * 8 + 5, none⟩ = some c5 ∧ w.cell? ⟨bb, off + k * 8 + 6, none⟩ = some c6 ∧ w.cell? ⟨bb, off + k * 8 + 7, none⟩ = some c7 ∧ RepAt B w x (.agg #[c0, c1, c2, c3, c4, c5, c6, c7])) ∧ RepsAt B w r ao (k + 1)
end
mutual
theorem RepAt.keeps {B : Nat → Prop} {w w' : World} {T : Nat → Prop} (hk : Keeps T w w') (hT : ∀ q, T q → ¬ B q) : ∀ (R : Rep) (v : Value), RepAt B w R v → RepAt B w' R v
  | .mk z s a b t h e p, v, hh => by
    rw [RepAt] at hh ⊢
    obtain ⟨hv, ev, ap, cp, rfl, ⟨h1, h2⟩, ⟨h3, h4⟩, h5, h6⟩ := hh
    exact ⟨hv, ev, ap, cp, rfl, ⟨h1.keeps_if hk (fun g hg hx h => hT g h (h2 g hg (fun e => hx (by rw [e]; rfl)))), h2⟩, ⟨h3.keeps_if hk (fun g hg hx h => hT g h (h4 g hg (fun e => hx (by rw [e]; rfl)))), h4⟩, RepsAt.keeps hk hT p ap 0 h5, h6⟩
theorem RepsAt.keeps {B : Nat → Prop} {w w' : World} {T : Nat → Prop} (hk : Keeps T w w') (hT : ∀ q, T q → ¬ B q) : ∀ (l : List Rep) (ao : Option Addr) (k : Nat), RepsAt B w l ao k → RepsAt B w' l ao k
  | [], _, _, _ => by rw [RepsAt]; trivial
  | x :: r, ao, k, h => by
    rw [RepsAt] at h ⊢
    obtain ⟨⟨bb, off, c0, c1, c2, c3, c4, c5, c6, c7, rfl, hb, hb2, e0, e1, e2, e3, e4, e5, e6, e7, hx⟩, hr⟩ := h
    have hn : ¬ T bb := fun h => hT bb h hb
    exact ⟨⟨bb, off, c0, c1, c2, c3, c4, c5, c6, c7, rfl, hb, Nat.lt_of_lt_of_le hb2 hk.size, (hk.cell (p := ⟨bb, off + k * 8, none⟩) hb2 hn).trans e0, (hk.cell (p := ⟨bb, off + k * 8 + 1, none⟩) hb2 hn).trans e1, (hk.cell (p := ⟨bb, off + k * 8 + 2, none⟩) hb2 hn).trans e2, (hk.cell (p := ⟨bb, off + k * 8 + 3, none⟩) hb2 hn).trans e3, (hk.cell (p := ⟨bb, off + k * 8 + 4, none⟩) hb2 hn).trans e4, (hk.cell (p := ⟨bb, off + k * 8 + 5, none⟩) hb2 hn).trans e5, (hk.cell (p := ⟨bb, off + k * 8 + 6, none⟩) hb2 hn).trans e6, (hk.cell (p := ⟨bb, off + k * 8 + 7, none⟩) hb2 hn).trans e7,
      RepAt.keeps hk hT x _ hx⟩, RepsAt.keeps hk hT r _ _ hr⟩
end
mutual
theorem RepAt.mono {B B' : Nat → Prop} {w : World} (hb : ∀ q, B q → B' q) : ∀ (R : Rep) (v : Value), RepAt B w R v → RepAt B' w R v
  | .mk z s a b t h e p, v, hh => by
    rw [RepAt] at hh ⊢
    obtain ⟨hv, ev, ap, cp, rfl, ⟨h1, h2⟩, ⟨h3, h4⟩, h5, h6⟩ := hh
    exact ⟨hv, ev, ap, cp, rfl, ⟨h1, fun g hg hx => hb g (h2 g hg hx)⟩, ⟨h3, fun g hg hx => hb g (h4 g hg hx)⟩, RepsAt.mono hb p ap 0 h5, h6⟩
theorem RepsAt.mono {B B' : Nat → Prop} {w : World} (hb : ∀ q, B q → B' q) : ∀ (l : List Rep) (ao : Option Addr) (k : Nat), RepsAt B w l ao k → RepsAt B' w l ao k
  | [], _, _, _ => by rw [RepsAt]; trivial
  | x :: r, ao, k, h => by
    rw [RepsAt] at h ⊢
    obtain ⟨⟨bb, off, c0, c1, c2, c3, c4, c5, c6, c7, rfl, hB, hb2, e0, e1, e2, e3, e4, e5, e6, e7, hx⟩, hr⟩ := h
    exact ⟨⟨bb, off, c0, c1, c2, c3, c4, c5, c6, c7, rfl, hb bb hB, hb2, e0, e1, e2, e3, e4, e5, e6, e7, RepAt.mono hb x _ hx⟩, RepsAt.mono hb r _ _ hr⟩
end
theorem RepAt.fresh {B : Nat → Prop} {w w' : World} {R : Rep} {v : Value} (h : RepAt B w R v) (hk : Fresh w w') : RepAt B w' R v := RepAt.keeps hk (fun _ h => h.elim) R v h
theorem RepAt.parts {B : Nat → Prop} {w : World} {R : Rep} {v : Value} (h : RepAt B w R v) : ∃ hv ev ap cp, v = .agg #[.int .i64 R.status, .int .i64 R.size, .int .i64 R.a, .int .i64 R.b, .string (str R.root), hv, ev, .slice ap R.replies.length cp] ∧ (ListAt w hv (texts R.hashes) ∧ Low B hv R.hashes) ∧ (ListAt w ev (texts R.entries) ∧ Low B ev R.entries) ∧ RepsAt B w R.replies ap 0 ∧ R.replies.length ≤ 9223372036854775807 := by
  cases R
  rw [RepAt] at h
  exact h
theorem RepsAt.get {B : Nat → Prop} {w : World} : ∀ {l : List Rep} {ao : Option Addr} {k0 : Nat}, RepsAt B w l ao k0 → ∀ {k : Nat} {x : Rep}, l[k]? = some x →
    ∃ bb off c0 c1 c2 c3 c4 c5 c6 c7, ao = some ⟨bb, off, none⟩ ∧ B bb ∧ bb < w.heap.size ∧ w.cell? ⟨bb, off + (k0 + k) * 8, none⟩ = some c0 ∧ w.cell? ⟨bb, off + (k0 + k) * 8 + 1, none⟩ = some c1 ∧ w.cell? ⟨bb, off + (k0 + k) * 8 + 2, none⟩ = some c2 ∧ w.cell? ⟨bb, off + (k0 + k) * 8 + 3, none⟩ = some c3 ∧ w.cell? ⟨bb, off + (k0 + k) * 8 + 4, none⟩ = some c4 ∧ w.cell? ⟨bb, off + (k0 + k) * 8 + 5, none⟩ = some c5 ∧ w.cell? ⟨bb, off + (k0 + k) * 8 + 6, none⟩ = some c6 ∧ w.cell? ⟨bb, off + (k0 + k) * 8 + 7, none⟩ = some c7 ∧ RepAt B w x (.agg #[c0, c1, c2, c3, c4, c5, c6, c7])
  | [], ao, k0, _, k, x, hx => by simp at hx
  | y :: r, ao, k0, h, 0, x, hx => by
    rw [RepsAt] at h
    simp at hx
    subst hx
    exact h.1
  | y :: r, ao, k0, h, k + 1, x, hx => by
    rw [RepsAt] at h
    have := h.2.get (k := k) (x := x) (by simpa using hx)
    rw [show k0 + (k + 1) = k0 + 1 + k by omega]
    exact this

mutual
/-- a reply; bl: the blocks of its lists, and of those within -/
def RepOwn (w : World) : Rep → Value → List Nat → Prop
  | .mk z s a b t h e p, v, bl => ∃ hv ev pv cs b1, v = .agg #[.int .i64 z, .int .i64 s, .int .i64 a, .int .i64 b, .string (str t), hv, ev, pv] ∧ w.ownsRow 0 9 1 hv h.length (texts h) ∧ w.ownsRow 0 9 1 ev e.length (texts e) ∧
      w.ownsRow 0 48 8 pv p.length cs ∧ ReplsOwn w p cs b1 ∧ bl = hv.ownBlock.toList ++ (ev.ownBlock.toList ++ (pv.ownBlock.toList ++ b1))
def ReplsOwn (w : World) : List Rep → List Value → List Nat → Prop
  | [], cs, bl => cs = [] ∧ bl = []
  | x :: r, cs, bl => ∃ c0 c1 c2 c3 c4 c5 c6 c7 cs' b1 b2, cs = c0 :: c1 :: c2 :: c3 :: c4 :: c5 :: c6 :: c7 :: cs' ∧ RepOwn w x (.agg #[c0, c1, c2, c3, c4, c5, c6, c7]) b1 ∧ ReplsOwn w r cs' b2 ∧ bl = b1 ++ b2
end
mutual
theorem RepOwn.keeps {T : Nat → Prop} {w w' : World} (hk : Keeps T w w') : ∀ (R : Rep) (v : Value) (bl : List Nat), RepOwn w R v bl → (∀ q ∈ bl, ¬ T q) → RepOwn w' R v bl
  | .mk z s a b t h e p, v, bl, hh, hT => by
    rw [RepOwn] at hh ⊢
    obtain ⟨hv, ev, pv, cs, b1, rfl, h1, h2, h3, h4, rfl⟩ := hh
    exact ⟨hv, ev, pv, cs, b1, rfl, ownsRow_keeps h1 hk (fun g hg => hT g (by simp [mem_ownBlock.2 hg])), ownsRow_keeps h2 hk (fun g hg => hT g (by simp [mem_ownBlock.2 hg])), ownsRow_keeps h3 hk (fun g hg => hT g (by simp [mem_ownBlock.2 hg])),
      ReplsOwn.keeps hk p cs b1 h4 (fun q hq => hT q (by simp [hq])), rfl⟩
theorem ReplsOwn.keeps {T : Nat → Prop} {w w' : World} (hk : Keeps T w w') : ∀ (l : List Rep) (cs : List Value) (bl : List Nat), ReplsOwn w l cs bl → (∀ q ∈ bl, ¬ T q) → ReplsOwn w' l cs bl
  | [], cs, bl, h, _ => by rw [ReplsOwn] at h ⊢; exact h
  | x :: r, cs, bl, h, hT => by
    rw [ReplsOwn] at h ⊢
    obtain ⟨c0, c1, c2, c3, c4, c5, c6, c7, cs', b1, b2, rfl, h1, h2, rfl⟩ := h
    exact ⟨c0, c1, c2, c3, c4, c5, c6, c7, cs', b1, b2, rfl, RepOwn.keeps hk x _ b1 h1 (fun q hq => hT q (by simp [hq])), ReplsOwn.keeps hk r cs' b2 h2 (fun q hq => hT q (by simp [hq])), rfl⟩
end
theorem RepOwn.fresh {w w' : World} (hk : Fresh w w') {R : Rep} {v : Value} {bl : List Nat} (h : RepOwn w R v bl) : RepOwn w' R v bl := RepOwn.keeps hk R v bl h (fun _ _ h => h)
mutual
theorem RepOwn.there {w : World} : ∀ (R : Rep) (v : Value) (bl : List Nat), RepOwn w R v bl → ∀ q ∈ bl, q < w.heap.size
  | .mk z s a b t h e p, v, bl, hh, q, hq => by
    rw [RepOwn] at hh
    obtain ⟨hv, ev, pv, cs, b1, rfl, h1, h2, h3, h4, rfl⟩ := hh
    simp only [List.mem_append, mem_ownBlock] at hq
    rcases hq with hq | hq | hq | hq
    · exact (h1.lt q hq).2
    · exact (h2.lt q hq).2
    · exact (h3.lt q hq).2
    · exact ReplsOwn.there p cs b1 h4 q hq
theorem ReplsOwn.there {w : World} : ∀ (l : List Rep) (cs : List Value) (bl : List Nat), ReplsOwn w l cs bl → ∀ q ∈ bl, q < w.heap.size
  | [], cs, bl, h, q, hq => by
    rw [ReplsOwn] at h
    rw [h.2] at hq
    cases hq
  | x :: r, cs, bl, h, q, hq => by
    rw [ReplsOwn] at h
    obtain ⟨c0, c1, c2, c3, c4, c5, c6, c7, cs', b1, b2, rfl, h1, h2, rfl⟩ := h
    rcases List.mem_append.1 hq with hq | hq
    · exact RepOwn.there x _ b1 h1 q hq
    · exact ReplsOwn.there r cs' b2 h2 q hq
end
theorem ReplsOwn.snoc {w : World} : ∀ {l : List Rep} {cs : List Value} {bl : List Nat}, ReplsOwn w l cs bl → ∀ {x : Rep} {c0 c1 c2 c3 c4 c5 c6 c7 : Value} {b1 : List Nat}, RepOwn w x (.agg #[c0, c1, c2, c3, c4, c5, c6, c7]) b1 → ReplsOwn w (l ++ [x]) (cs ++ [c0, c1, c2, c3, c4, c5, c6, c7]) (bl ++ b1)
  | [], cs, bl, h, x, c0, c1, c2, c3, c4, c5, c6, c7, b1, hx => by
    rw [ReplsOwn] at h
    obtain ⟨rfl, rfl⟩ := h
    rw [List.nil_append, List.nil_append, List.nil_append, ReplsOwn]
    exact ⟨c0, c1, c2, c3, c4, c5, c6, c7, [], b1, [], rfl, hx, by rw [ReplsOwn]; exact ⟨rfl, rfl⟩, by simp⟩
  | y :: r, cs, bl, h, x, c0, c1, c2, c3, c4, c5, c6, c7, b1, hx => by
    rw [ReplsOwn] at h
    obtain ⟨d0, d1, d2, d3, d4, d5, d6, d7, cs', b2, b3, rfl, h1, h2, rfl⟩ := h
    rw [List.cons_append, ReplsOwn]
    exact ⟨d0, d1, d2, d3, d4, d5, d6, d7, cs' ++ [c0, c1, c2, c3, c4, c5, c6, c7], b2, b3 ++ b1, by simp, h1, ReplsOwn.snoc h2 hx, by simp⟩
theorem ReplsOwn.length {w : World} : ∀ {l : List Rep} {cs : List Value} {bl : List Nat}, ReplsOwn w l cs bl → cs.length = l.length * 8
  | [], cs, bl, h => by
    rw [ReplsOwn] at h
    rw [h.1]
    rfl
  | y :: r, cs, bl, h => by
    rw [ReplsOwn] at h
    obtain ⟨d0, d1, d2, d3, d4, d5, d6, d7, cs', b2, b3, rfl, h1, h2, rfl⟩ := h
    have := ReplsOwn.length h2
    simp
    omega
mutual
theorem RepOwn.at {w : World} : ∀ (R : Rep) (v : Value) (bl : List Nat), RepOwn w R v bl → ∀ (B : Nat → Prop), (∀ q ∈ bl, B q) → RepAt B w R v
  | .mk z s a b t h e p, v, bl, hh, B, hB => by
    rw [RepOwn] at hh
    rw [RepAt]
    obtain ⟨hv, ev, pv, cs, b1, rfl, h1, h2, h3, h4, rfl⟩ := hh
    obtain ⟨ao, cap, rfl⟩ := ownsRow_slice h3
    have hn : p.length ≤ 9223372036854775807 := by
      rcases h3.2 with ⟨he, h0⟩ | ⟨g, cap', cur, he, _, _, h1, h2, _⟩
      · have := h4.length
        rw [h0] at this
        simp at this
        omega
      · unfold maxLen at h2; omega
    refine ⟨hv, ev, ao, cap, rfl, ⟨ListAt.ofRow h1, fun g hg _ => hB g (by simp [mem_ownBlock.2 hg])⟩, ⟨ListAt.ofRow h2, fun g hg _ => hB g (by simp [mem_ownBlock.2 hg])⟩, ?_, ?_⟩
    · refine ReplsOwn.at_ p cs b1 h4 B (fun q hq => hB q (by simp [hq])) ao 0 (fun j u hu => ?_)
      rcases h3.2 with ⟨he, h0⟩ | ⟨g, cap', cur, he, _, _, _⟩
      · have := h4.length
        rw [h0] at this
        have : cs = [] := List.eq_nil_of_length_eq_zero (by simpa using this)
        subst this
        simp at hu
      · injection he with e1 e2 e3
        subst e1
        refine ⟨g, 0, rfl, hB g (by simp [Value.ownBlock]), (h3.lt g rfl).2, ?_⟩
        have := h3.cells (g := g) rfl j u hu
        rw [addr_add0] at this
        rw [Nat.zero_mul, Nat.add_zero, Nat.zero_add]
        exact this
    · exact hn
theorem ReplsOwn.at_ {w : World} : ∀ (l : List Rep) (cs : List Value) (bl : List Nat), ReplsOwn w l cs bl → ∀ (B : Nat → Prop), (∀ q ∈ bl, B q) → ∀ (ao : Option Addr) (k : Nat), (∀ (j : Nat) (u : Value), cs[j]? = some u → ∃ bb off, ao = some ⟨bb, off, none⟩ ∧ B bb ∧ bb < w.heap.size ∧ w.cell? ⟨bb, off + k * 8 + j, none⟩ = some u) → RepsAt B w l ao k
  | [], _, _, _, _, _, _, _, _ => by rw [RepsAt]; trivial
  | x :: r, cs, bl, h, B, hB, ao, k, hc => by
    rw [ReplsOwn] at h
    obtain ⟨c0, c1, c2, c3, c4, c5, c6, c7, cs', b1, b2, rfl, h1, h2, rfl⟩ := h
    rw [RepsAt]
    obtain ⟨bb, off, rfl, g1, g2, y0⟩ := hc 0 c0 rfl
    have get : ∀ (j : Nat) (u : Value), (c0 :: c1 :: c2 :: c3 :: c4 :: c5 :: c6 :: c7 :: cs')[j]? = some u → w.cell? ⟨bb, off + k * 8 + j, none⟩ = some u := fun j u hu => by
      obtain ⟨bb', off', he, -, -, h⟩ := hc j u hu
      injection he with he
      injection he with e1 e2
      subst e1
      subst e2
      exact h
    refine ⟨⟨bb, off, c0, c1, c2, c3, c4, c5, c6, c7, rfl, g1, g2, y0, get 1 c1 rfl, get 2 c2 rfl, get 3 c3 rfl, get 4 c4 rfl, get 5 c5 rfl, get 6 c6 rfl, get 7 c7 rfl, RepOwn.at x _ b1 h1 B (fun q hq => hB q (by simp [hq]))⟩,
      ReplsOwn.at_ r cs' b2 h2 B (fun q hq => hB q (by simp [hq])) (some ⟨bb, off, none⟩) (k + 1) (fun j u hu => ⟨bb, off, rfl, g1, g2, ?_⟩)⟩
    have := get (j + 8) u (by simpa using hu)
    rw [show off + (k + 1) * 8 + j = off + k * 8 + (j + 8) by omega]
    exact this
end
theorem RepOwn.shape {w : World} {x : Rep} {v : Value} {bl : List Nat} (h : RepOwn w x v bl) : ∃ al cl ae ce aq cq, v = .agg #[.int .i64 x.status, .int .i64 x.size, .int .i64 x.a, .int .i64 x.b, .string (str x.root), .slice al x.hashes.length cl, .slice ae x.entries.length ce, .slice aq x.replies.length cq] := by
  cases x
  rw [RepOwn] at h
  obtain ⟨lv, ev, av, cs, b1, rfl, h1, h2, h3, -⟩ := h
  obtain ⟨al, cl, rfl⟩ := ownsRow_slice h1
  obtain ⟨ae, ce, rfl⟩ := ownsRow_slice h2
  obtain ⟨aq, cq, rfl⟩ := ownsRow_slice h3
  exact ⟨al, cl, ae, ce, aq, cq, rfl⟩
theorem Tryz.infoRep : (Tryz.prog.info? 48).map (fun i => (i.zero, i.size, i.bytes)) = some (some (.agg #[.int .i64 0, .int .i64 0, .int .i64 0, .int .i64 0, .string ⟨#[]⟩, .slice none 0 0, .slice none 0 0, .slice none 0 0]), 8, 120) := by kernel_rfl
end Go.Proofs.YtpccaodkgboefaaGreatDoor
