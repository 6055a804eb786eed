/-
  Requests in memory, each of whose lists lies in a block of its own.
-/
import Derived.Test.YtpccaodkgboefaaGreatDoorMMsA
namespace Go.Proofs.YtpccaodkgboefaaGreatDoor
open Go.RowKit

mutual
/-- a request; bl: the blocks of its lists, and of those within -/
def ReqOwn (w : World) : Req → Value → List Nat → Prop
  | .mk k a b s l e qs, v, bl => ∃ lv ev av cs b1, v = .agg #[.int .i64 k, .int .i64 a, .int .i64 b, .int .i64 s, lv, ev, av] ∧ w.ownsRow 0 3 1 lv l.length (ints l) ∧ w.ownsRow 0 9 1 ev e.length (texts e) ∧
      w.ownsRow 0 26 7 av qs.length cs ∧ ElemsOwn w qs cs b1 ∧ bl = lv.ownBlock.toList ++ (ev.ownBlock.toList ++ (av.ownBlock.toList ++ b1))
def ElemsOwn (w : World) : List Req → List Value → List Nat → Prop
  | [], cs, bl => cs = [] ∧ bl = []
  | x :: r, cs, bl => ∃ c0 c1 c2 c3 c4 c5 c6 cs' b1 b2, cs = c0 :: c1 :: c2 :: c3 :: c4 :: c5 :: c6 :: cs' ∧ ReqOwn w x (.agg #[c0, c1, c2, c3, c4, c5, c6]) b1 ∧ ElemsOwn w r cs' b2 ∧ bl = b1 ++ b2
end

theorem mem_ownBlock {v : Value} {g : Nat} : g ∈ v.ownBlock.toList ↔ v.ownBlock = some g := by cases v.ownBlock <;> simp [eq_comm]
mutual
theorem ReqOwn.keeps {T : Nat → Prop} {w w' : World} (hk : Keeps T w w') : ∀ (R : Req) (v : Value) (bl : List Nat), ReqOwn w R v bl → (∀ q ∈ bl, ¬ T q) → ReqOwn w' R v bl
  | .mk k a b s l e qs, v, bl, h, hT => by
    rw [ReqOwn] at h ⊢
    obtain ⟨lv, ev, av, cs, b1, rfl, h1, h2, h3, h4, rfl⟩ := h
    exact ⟨lv, ev, av, cs, b1, rfl, ownsRow_keeps h1 hk (fun g hg => hT g (by simp [mem_ownBlock.2 hg])), ownsRow_keeps h2 hk (fun g hg => hT g (by simp [mem_ownBlock.2 hg])), ownsRow_keeps h3 hk (fun g hg => hT g (by simp [mem_ownBlock.2 hg])),
      ElemsOwn.keeps hk qs cs b1 h4 (fun q hq => hT q (by simp [hq])), rfl⟩
theorem ElemsOwn.keeps {T : Nat → Prop} {w w' : World} (hk : Keeps T w w') : ∀ (l : List Req) (cs : List Value) (bl : List Nat), ElemsOwn w l cs bl → (∀ q ∈ bl, ¬ T q) → ElemsOwn w' l cs bl
  | [], cs, bl, h, _ => by rw [ElemsOwn] at h ⊢; exact h
  | x :: r, cs, bl, h, hT => by
    rw [ElemsOwn] at h ⊢
    obtain ⟨c0, c1, c2, c3, c4, c5, c6, cs', b1, b2, rfl, h1, h2, rfl⟩ := h
    exact ⟨c0, c1, c2, c3, c4, c5, c6, cs', b1, b2, rfl, ReqOwn.keeps hk x _ b1 h1 (fun q hq => hT q (by simp [hq])), ElemsOwn.keeps hk r cs' b2 h2 (fun q hq => hT q (by simp [hq])), rfl⟩
end
theorem ReqOwn.fresh {w w' : World} (hk : Fresh w w') {R : Req} {v : Value} {bl : List Nat} (h : ReqOwn w R v bl) : ReqOwn w' R v bl := ReqOwn.keeps hk R v bl h (fun _ _ h => h)
theorem ReqOwn.lift {w w' : World} {S1 : Nat → Prop} (hk : Keeps S1 w w') {R : Req} {v : Value} {bl : List Nat} (h : ReqOwn w R v bl) (hn : ∀ q ∈ bl, ¬ S1 q) : ReqOwn w' R v bl := ReqOwn.keeps hk R v bl h hn
mutual
theorem ReqOwn.there {w : World} : ∀ (R : Req) (v : Value) (bl : List Nat), ReqOwn w R v bl → ∀ q ∈ bl, q < w.heap.size
  | .mk k a b s l e qs, v, bl, h, q, hq => by
    rw [ReqOwn] at h
    obtain ⟨lv, ev, av, cs, b1, rfl, h1, h2, h3, h4, rfl⟩ := h
    simp only [List.mem_append, mem_ownBlock] at hq
    rcases hq with hq | hq | hq | hq
    · exact (h1.lt q hq).2
    · exact (h2.lt q hq).2
    · exact (h3.lt q hq).2
    · exact ElemsOwn.there qs cs b1 h4 q hq
theorem ElemsOwn.there {w : World} : ∀ (l : List Req) (cs : List Value) (bl : List Nat), ElemsOwn w l cs bl → ∀ q ∈ bl, q < w.heap.size
  | [], cs, bl, h, q, hq => by
    rw [ElemsOwn] at h
    rw [h.2] at hq
    cases hq
  | x :: r, cs, bl, h, q, hq => by
    rw [ElemsOwn] at h
    obtain ⟨c0, c1, c2, c3, c4, c5, c6, cs', b1, b2, rfl, h1, h2, rfl⟩ := h
    rcases List.mem_append.1 hq with hq | hq
    · exact ReqOwn.there x _ b1 h1 q hq
    · exact ElemsOwn.there r cs' b2 h2 q hq
end
theorem ElemsOwn.snoc {w : World} : ∀ {l : List Req} {cs : List Value} {bl : List Nat}, ElemsOwn w l cs bl → ∀ {x : Req} {c0 c1 c2 c3 c4 c5 c6 : Value} {b1 : List Nat}, ReqOwn w x (.agg #[c0, c1, c2, c3, c4, c5, c6]) b1 → ElemsOwn w (l ++ [x]) (cs ++ [c0, c1, c2, c3, c4, c5, c6]) (bl ++ b1)
  | [], cs, bl, h, x, c0, c1, c2, c3, c4, c5, c6, b1, hx => by
    rw [ElemsOwn] at h
    obtain ⟨rfl, rfl⟩ := h
    rw [List.nil_append, List.nil_append, List.nil_append, ElemsOwn]
    exact ⟨c0, c1, c2, c3, c4, c5, c6, [], b1, [], rfl, hx, by rw [ElemsOwn]; exact ⟨rfl, rfl⟩, by simp⟩
  | y :: r, cs, bl, h, x, c0, c1, c2, c3, c4, c5, c6, b1, hx => by
    rw [ElemsOwn] at h
    obtain ⟨d0, d1, d2, d3, d4, d5, d6, cs', b2, b3, rfl, h1, h2, rfl⟩ := h
    rw [List.cons_append, ElemsOwn]
    exact ⟨d0, d1, d2, d3, d4, d5, d6, cs' ++ [c0, c1, c2, c3, c4, c5, c6], b2, b3 ++ b1, by simp, h1, ElemsOwn.snoc h2 hx, by simp⟩
theorem ElemsOwn.length {w : World} : ∀ {l : List Req} {cs : List Value} {bl : List Nat}, ElemsOwn w l cs bl → cs.length = l.length * 7
  | [], cs, bl, h => by
    rw [ElemsOwn] at h
    rw [h.1]
    rfl
  | y :: r, cs, bl, h => by
    rw [ElemsOwn] at h
    obtain ⟨d0, d1, d2, d3, d4, d5, d6, cs', b2, b3, rfl, h1, h2, rfl⟩ := h
    have := ElemsOwn.length h2
    simp
    omega

mutual
theorem ReqOwn.at {w : World} : ∀ (R : Req) (v : Value) (bl : List Nat), ReqOwn w R v bl → ∀ (B : Nat → Prop), (∀ q ∈ bl, B q) → ReqAt B w R v
  | .mk k a b s l e qs, v, bl, h, B, hB => by
    rw [ReqOwn] at h
    rw [ReqAt]
    obtain ⟨lv, ev, av, cs, b1, rfl, h1, h2, h3, h4, rfl⟩ := h
    obtain ⟨ao, cap, rfl⟩ := ownsRow_slice h3
    have hn : qs.length ≤ 9223372036854775807 := by
      rcases h3.2 with ⟨he, h0⟩ | ⟨g, cap', cur, he, _, _, h1, h2, _⟩
      · have := h4.length
        rw [h0] at this
        simp at this
        omega
      · unfold maxLen at h2; omega
    refine ⟨lv, ev, ao, cap, rfl, ⟨ListAt.ofRow h1, fun g hg _ => hB g (by simp [mem_ownBlock.2 hg])⟩, ⟨ListAt.ofRow h2, fun g hg _ => hB g (by simp [mem_ownBlock.2 hg])⟩, ?_, ?_⟩
    · refine ElemsOwn.at_ qs cs b1 h4 B (fun q hq => hB q (by simp [hq])) ao 0 (fun j u hu => ?_)
      rcases h3.2 with ⟨he, h0⟩ | ⟨g, cap', cur, he, _, _, _⟩
      · have := h4.length
        rw [h0] at this
        have : cs = [] := List.eq_nil_of_length_eq_zero (by simpa using this)
        subst this
        simp at hu
      · injection he with e1 e2 e3
        subst e1
        refine ⟨g, 0, rfl, hB g (by simp [Value.ownBlock]), (h3.lt g rfl).2, ?_⟩
        have := h3.cells (g := g) rfl j u hu
        rw [addr_add0] at this
        rw [Nat.zero_mul, Nat.add_zero, Nat.zero_add]
        exact this
    · exact hn
theorem ElemsOwn.at_ {w : World} : ∀ (l : List Req) (cs : List Value) (bl : List Nat), ElemsOwn w l cs bl → ∀ (B : Nat → Prop), (∀ q ∈ bl, B q) → ∀ (ao : Option Addr) (k : Nat), (∀ (j : Nat) (u : Value), cs[j]? = some u → ∃ bb off, ao = some ⟨bb, off, none⟩ ∧ B bb ∧ bb < w.heap.size ∧ w.cell? ⟨bb, off + k * 7 + j, none⟩ = some u) → ReqsAt B w l ao k
  | [], _, _, _, _, _, _, _, _ => by rw [ReqsAt]; trivial
  | x :: r, cs, bl, h, B, hB, ao, k, hc => by
    rw [ElemsOwn] at h
    obtain ⟨c0, c1, c2, c3, c4, c5, c6, cs', b1, b2, rfl, h1, h2, rfl⟩ := h
    rw [ReqsAt]
    obtain ⟨bb, off, rfl, g1, g2, y0⟩ := hc 0 c0 rfl
    have get : ∀ (j : Nat) (u : Value), (c0 :: c1 :: c2 :: c3 :: c4 :: c5 :: c6 :: cs')[j]? = some u → w.cell? ⟨bb, off + k * 7 + j, none⟩ = some u := fun j u hu => by
      obtain ⟨bb', off', he, -, -, h⟩ := hc j u hu
      injection he with he
      injection he with e1 e2
      subst e1
      subst e2
      exact h
    refine ⟨⟨bb, off, c0, c1, c2, c3, c4, c5, c6, rfl, g1, g2, y0, get 1 c1 rfl, get 2 c2 rfl, get 3 c3 rfl, get 4 c4 rfl, get 5 c5 rfl, get 6 c6 rfl, ReqOwn.at x _ b1 h1 B (fun q hq => hB q (by simp [hq]))⟩,
      ElemsOwn.at_ r cs' b2 h2 B (fun q hq => hB q (by simp [hq])) (some ⟨bb, off, none⟩) (k + 1) (fun j u hu => ⟨bb, off, rfl, g1, g2, ?_⟩)⟩
    have := get (j + 7) u (by simpa using hu)
    rw [show off + (k + 1) * 7 + j = off + k * 7 + (j + 7) by omega]
    exact this
end
end Go.Proofs.YtpccaodkgboefaaGreatDoor
