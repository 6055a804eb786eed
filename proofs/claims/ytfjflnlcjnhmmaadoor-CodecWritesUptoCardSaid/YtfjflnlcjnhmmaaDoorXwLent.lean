/-
  A list that is handed in with four marked places behind it: how it lies; 'append' of a list to none.
-/
import Derived.Test.YtfjflnlcjnhmmaaDoorXwPlain
namespace Go.Proofs.YtfjflnlcjnhmmaaDoor
open Go.RowKit

theorem Src.ofList {P : Program} {w : World} {tx e : TypeId} {v : Value} {xs : List Value} (hk : P.underlying tx = some (.slice e)) (h : ListAt w v xs) (h1 : ∀ u ∈ xs, u.oneCell' = true) : Src P 1 tx v xs.length xs w := by
  rcases h with ⟨rfl, ao, cap, rfl⟩ | ⟨bb, off, cap, rfl, hbb, hc⟩
  · cases ao with
    | none => exact Src.ofNil w hk cap
    | some a => exact Src.ofSlice w hk a 0 cap [] rfl (fun j u hj => by simp at hj) (fun u hu => by simp at hu)
  · refine Src.ofSlice w hk _ _ cap xs (by simp) (fun j u hj => ?_) h1
    have e : (⟨bb, off, none⟩ : Addr).add j = ⟨bb, off + j, none⟩ := by unfold Addr.add; split <;> simp_all
    rw [e]
    exact hc j u hj

theorem ownsRow_set {w : World} {base g n cap : Nat} {e : TypeId} {xs : List Value} (h : w.ownsRow base e 1 (.slice (some ⟨g, 0, none⟩) n cap) n xs) {i : Nat} (_hi : i < n) (u : Value) :
    (w.setCell ⟨g, i, none⟩ u).ownsRow base e 1 (.slice (some ⟨g, 0, none⟩) n cap) n (xs.set i u) := by
  have hl := h.1
  rcases h.2 with ⟨h0, _⟩ | ⟨g', cap', cur, h0, hb, hg, hn, hc, hs, ht⟩
  · cases h0
  · injection h0 with h1 h2 h3
    injection h1 with h1
    injection h1 with h1
    subst h1; subst h3
    refine ⟨by simpa using hl, .inr ⟨g, cap, _, rfl, hb, heap_setCell_at hg i u, hn, hc, by simpa using hs, ?_⟩⟩
    simp only [Nat.mul_one] at ht ⊢
    rw [← ht]
    simp [List.take_set]

theorem ListAt.ofTake {w : World} {base g n cap m : Nat} {e : TypeId} {xs : List Value} (h : w.ownsRow base e 1 (.slice (some ⟨g, 0, none⟩) n cap) n xs) (hm : m ≤ n) : ListAt w (.slice (some ⟨g, 0, none⟩) m cap) (xs.take m) := by
  have hl := h.1
  simp only [Nat.mul_one] at hl
  have htl : (xs.take m).length = m := by simp; omega
  rcases Nat.eq_zero_or_pos m with rfl | h0
  · exact .inl ⟨by simp, _, _, rfl⟩
  · refine .inr ⟨g, 0, cap, by rw [htl], (h.lt g rfl).2, fun j u hj => ?_⟩
    have hjm : j < m := by have := (List.getElem?_eq_some_iff.1 hj).1; omega
    have := h.cells (g := g) rfl j u (by simpa [List.getElem?_take, hjm] using hj)
    rw [addr_add0] at this
    simpa using this

/-- a list of n things with four behind it: its value, and all that it holds -/
def LentAt (B : Nat) (w : World) (e : TypeId) (v : Value) (n : Nat) (xs : List Value) : Prop :=
  ∃ ao cap, v = .slice ao n cap ∧ xs.length = n + 4 ∧ ((ao = none ∧ n = 0 ∧ cap = 0) ∨ ∃ g, ao = some ⟨g, 0, none⟩ ∧ B ≤ g ∧ w.ownsRow 0 e 1 (.slice (some ⟨g, 0, none⟩) (n + 4) cap) (n + 4) xs)
theorem LentAt.keeps {B : Nat} {w w' : World} {e : TypeId} {v : Value} {n : Nat} {xs : List Value} {T : Nat → Prop} (h : LentAt B w e v n xs) (hk : Keeps T w w') (hn : ∀ g, v.ownBlock = some g → ¬ T g) : LentAt B w' e v n xs := by
  obtain ⟨ao, cap, rfl, hl, h⟩ := h
  refine ⟨ao, cap, rfl, hl, h.imp id fun ⟨g, h1, h2, h3⟩ => ⟨g, h1, h2, ownsRow_keeps h3 hk fun g' hg => hn g' ?_⟩⟩
  subst h1
  exact hg
theorem LentAt.list {B : Nat} {w : World} {e : TypeId} {v : Value} {n : Nat} {xs : List Value} (h : LentAt B w e v n xs) : ListAt w v (xs.take n) := by
  obtain ⟨ao, cap, rfl, hl, ⟨rfl, rfl, rfl⟩ | ⟨g, rfl, h2, h3⟩⟩ := h
  · exact .inl ⟨by simp, _, _, rfl⟩
  · exact ListAt.ofTake h3 (by omega)
theorem LentAt.own {B : Nat} {w : World} {e : TypeId} {v : Value} {n : Nat} {xs : List Value} (h : LentAt B w e v n xs) : ∀ g, v.ownBlock = some g → B ≤ g ∧ g < w.heap.size := by
  obtain ⟨ao, cap, rfl, hl, ⟨rfl, rfl, rfl⟩ | ⟨g, rfl, h2, h3⟩⟩ := h
  · intro g hg; cases hg
  · intro g' hg
    simp [Value.ownBlock] at hg
    subst hg
    exact ⟨h2, (h3.lt g rfl).2⟩

/-- both none, or both some -/
def NilAlike (v v' : Value) : Prop := (v = .slice none 0 0 ∧ v' = .slice none 0 0) ∨ ∃ a n cap a' n' cap', v = .slice (some a) n cap ∧ v' = .slice (some a') n' cap'

theorem Tryd.infoString : (Tryd.prog.info? 9).map (fun i => (i.zero, i.size, i.bytes)) = some (some (.string ⟨#[]⟩), 1, 16) := by kernel_rfl
theorem Tryd.someInts (a : Addr) (n c : Nat) (w : World) : (binOp .eql 41 (.slice (some a) n c) (.slice none 0 0)).run Tryd.prog w = .ok (.bool false) w := by kernel_rfl
theorem Tryd.noneInts (w : World) : (binOp .eql 41 (.slice none 0 0) (.slice none 0 0)).run Tryd.prog w = .ok (.bool true) w := by kernel_rfl
theorem Tryd.someTexts (a : Addr) (n c : Nat) (w : World) : (binOp .eql 32 (.slice (some a) n c) (.slice none 0 0)).run Tryd.prog w = .ok (.bool false) w := by kernel_rfl
theorem Tryd.noneTexts (w : World) : (binOp .eql 32 (.slice none 0 0) (.slice none 0 0)).run Tryd.prog w = .ok (.bool true) w := by kernel_rfl

set_option maxRecDepth 100000 in
set_option maxHeartbeats 1000000 in
theorem lentInts_any (v : Value) (l : List Int) (w : World) (hv : ListAt w v (ints l)) (hnil : v = .slice none 0 0 ∨ ∃ a n cap, v = .slice (some a) n cap) (hl : l.length ≤ 4294967296) :
    Calls Tryd.prog 43 #[v] w fun e w' => ∃ v', e = .returned v' ∧ NilAlike v v' ∧ Fresh w w' ∧ LentAt w.heap.size w' 3 v' l.length (ints (l ++ [-7, -7, -7, -7])) := by
  rcases hnil with rfl | ⟨a0, n0, cap0, rfl⟩
  · have hl0 : l = [] := by
      rcases hv with ⟨h, _⟩ | ⟨_, _, _, h, _⟩
      · simpa [ints] using h
      · cases h
    subst hl0
    have hq := Tryd.noneInts
    go_enter Tryd.func43, Tryd.ntmps43
    go_wp2
    go_ret
    exact ⟨_, rfl, .inl ⟨rfl, rfl⟩, Keeps.refl _ _, none, 0, rfl, rfl, .inl ⟨rfl, rfl, rfl⟩⟩
  · obtain ⟨i0, hi, hz0, hz1, hz2⟩ := info_parts Tryd.infoInt
    have hll : (ints l).length = l.length := by simp [ints]
    obtain rfl : n0 = l.length := by
      rcases hv with ⟨h, ao, cap, he⟩ | ⟨bb, off, cap, he, _⟩
      · injection he with h1 h2 h3; rw [h2, ← hll, h]; rfl
      · injection he with h1 h2 h3; rw [h2, hll]
    have hsrc := Src.ofList (P := Tryd.prog) (tx := 41) Tryd.underlying41 hv (fun u hu => by obtain ⟨x, _, rfl⟩ := List.mem_map.1 hu; rfl)
    rw [hll] at hsrc
    have hq := Tryd.someInts a0
    clear hv
    go_enter Tryd.func43, Tryd.ntmps43
    go_wp2_with (at_builtin; refine wpList_append_src rfl (.const (.slice none 0 0)) (.tmp 5) 41 41 rfl 3 i0 (.int .i64 0) 1 8 Tryd.underlying41 hi hz0 hz1 hz2 rfl (by decide) (World.ownsRow_nil _ _ _ _) (.slice (some a0) l.length cap0) l.length (ints l) (by rfl) (by rfl) hsrc (by unfold maxLen; omega) (by omega) ?_)
    intro v1 w1 ha1
    have hsrc4 : Src Tryd.prog 1 41 (.slice (some ⟨w1.heap.size, 0, none⟩) 4 4) 4 (ints [-7, -7, -7, -7]) (w1.alloc (.cells #[.int .i64 (-7), .int .i64 (-7), .int .i64 (-7), .int .i64 (-7)] 3)) :=
      Src.ofSlice _ Tryd.underlying41 _ 4 4 _ rfl (fun j y hj => by
        match j, hj with
        | 0, hj => simp [ints] at hj; subst hj; simp [Addr.add]
        | 1, hj => simp [ints] at hj; subst hj; simp [Addr.add]
        | 2, hj => simp [ints] at hj; subst hj; simp [Addr.add]
        | 3, hj => simp [ints] at hj; subst hj; simp [Addr.add]
        | (j + 4), hj => simp [ints] at hj) (fun u hu => by obtain ⟨x, _, rfl⟩ := List.mem_map.1 hu; rfl)
    go_wp2_with (at_builtin; refine wpList_append_src rfl (.tmp 6) (.tmp 7) 41 41 rfl 3 i0 (.int .i64 0) 1 8 Tryd.underlying41 hi hz0 hz1 hz2 rfl (by decide) (ha1.row.alloc _) (.slice (some ⟨w1.heap.size, 0, none⟩) 4 4) 4 (ints [-7, -7, -7, -7]) (by rfl) (by rfl) hsrc4 (by unfold maxLen; omega) (by omega) ?_)
    intro v2 w2 ha2
    have hxs : ints l ++ ints [-7, -7, -7, -7] = ints (l ++ [-7, -7, -7, -7]) := by simp [ints]
    rw [hxs] at ha2
    have hrow := ha2.row
    have hf : Fresh w w2 := by
      have k1 := ha1.keeps
      have k2 := ha2.keeps
      refine (((k1.mono (S' := fun _ => False) fun _ _ h => by cases h)).alloc (.cells #[.int .i64 (-7), .int .i64 (-7), .int .i64 (-7), .int .i64 (-7)] 3)).trans' k2 fun i hi h => ?_
      rcases ha1.own i h with h1 | h1
      · cases h1
      · omega
    have hnew : ∀ g, v2.ownBlock = some g → w.heap.size ≤ g := fun g hg => by
      have := ha1.keeps.size
      rcases ha2.own g hg with h1 | h1
      · rcases ha1.own g h1 with h2 | h2
        · cases h2
        · omega
      · have := h1.1; simp at this; omega
    rcases hrow.2 with ⟨_, h0⟩ | ⟨g, cap, cur, rfl, hg0, hgc, hcap, hmax, hcs, htk⟩
    · omega
    have hgn := hnew g rfl
    clear hsrc hsrc4 ha1 ha2 hnew hxs
    have hcap2 : l.length ≤ cap := by omega
    have HR := hid hrow
    clear hrow hgc hcs htk
    go_wp2
    go_ret
    exact ⟨_, rfl, .inr ⟨_, _, _, _, _, _, rfl, rfl⟩, hf, _, _, rfl, by simp [ints], .inr ⟨g, rfl, hgn, HR.out⟩⟩

set_option maxRecDepth 100000 in
set_option maxHeartbeats 1000000 in
theorem lentTexts_any (v : Value) (l : List (List UInt8)) (w : World) (hv : ListAt w v (texts l)) (hnil : v = .slice none 0 0 ∨ ∃ a n cap, v = .slice (some a) n cap) (hl : l.length ≤ 4294967296) :
    Calls Tryd.prog 47 #[v] w fun e w' => ∃ v', e = .returned v' ∧ NilAlike v v' ∧ Fresh w w' ∧ LentAt w.heap.size w' 9 v' l.length (texts (l ++ [[126], [126], [126], [126]])) := by
  rcases hnil with rfl | ⟨a0, n0, cap0, rfl⟩
  · have hl0 : l = [] := by
      rcases hv with ⟨h, _⟩ | ⟨_, _, _, h, _⟩
      · simpa [texts] using h
      · cases h
    subst hl0
    have hq := Tryd.noneTexts
    go_enter Tryd.func47, Tryd.ntmps47
    go_wp2
    go_ret
    exact ⟨_, rfl, .inl ⟨rfl, rfl⟩, Keeps.refl _ _, none, 0, rfl, rfl, .inl ⟨rfl, rfl, rfl⟩⟩
  · obtain ⟨i0, hi, hz0, hz1, hz2⟩ := info_parts Tryd.infoString
    have hll : (texts l).length = l.length := by simp [texts]
    obtain rfl : n0 = l.length := by
      rcases hv with ⟨h, ao, cap, he⟩ | ⟨bb, off, cap, he, _⟩
      · injection he with h1 h2 h3; rw [h2, ← hll, h]; rfl
      · injection he with h1 h2 h3; rw [h2, hll]
    have hsrc := Src.ofList (P := Tryd.prog) (tx := 32) Tryd.underlying32 hv (fun u hu => by obtain ⟨x, _, rfl⟩ := List.mem_map.1 hu; rfl)
    rw [hll] at hsrc
    have hq := Tryd.someTexts a0
    clear hv
    go_enter Tryd.func47, Tryd.ntmps47
    go_wp2_with (at_builtin; refine wpList_append_src rfl (.const (.slice none 0 0)) (.tmp 5) 32 32 rfl 9 i0 (.string ⟨#[]⟩) 1 16 Tryd.underlying32 hi hz0 hz1 hz2 rfl (by decide) (World.ownsRow_nil _ _ _ _) (.slice (some a0) l.length cap0) l.length (texts l) (by rfl) (by rfl) hsrc (by unfold maxLen; omega) (by omega) ?_)
    intro v1 w1 ha1
    have hsrc4 : Src Tryd.prog 1 32 (.slice (some ⟨w1.heap.size, 0, none⟩) 4 4) 4 (texts [[126], [126], [126], [126]]) (w1.alloc (.cells #[.string ⟨#[126]⟩, .string ⟨#[126]⟩, .string ⟨#[126]⟩, .string ⟨#[126]⟩] 9)) :=
      Src.ofSlice _ Tryd.underlying32 _ 4 4 _ rfl (fun j y hj => by
        match j, hj with
        | 0, hj => simp [texts] at hj; subst hj; simp [Addr.add]; rfl
        | 1, hj => simp [texts] at hj; subst hj; simp [Addr.add]; rfl
        | 2, hj => simp [texts] at hj; subst hj; simp [Addr.add]; rfl
        | 3, hj => simp [texts] at hj; subst hj; simp [Addr.add]; rfl
        | (j + 4), hj => simp [texts] at hj) (fun u hu => by obtain ⟨x, _, rfl⟩ := List.mem_map.1 hu; rfl)
    go_wp2_with (at_builtin; refine wpList_append_src rfl (.tmp 6) (.tmp 7) 32 32 rfl 9 i0 (.string ⟨#[]⟩) 1 16 Tryd.underlying32 hi hz0 hz1 hz2 rfl (by decide) (ha1.row.alloc _) (.slice (some ⟨w1.heap.size, 0, none⟩) 4 4) 4 (texts [[126], [126], [126], [126]]) (by rfl) (by rfl) hsrc4 (by unfold maxLen; omega) (by omega) ?_)
    intro v2 w2 ha2
    have hxs : texts l ++ texts [[126], [126], [126], [126]] = texts (l ++ [[126], [126], [126], [126]]) := by simp [texts]
    rw [hxs] at ha2
    have hrow := ha2.row
    have hf : Fresh w w2 := by
      have k1 := ha1.keeps
      have k2 := ha2.keeps
      refine (((k1.mono (S' := fun _ => False) fun _ _ h => by cases h)).alloc (.cells #[.string ⟨#[126]⟩, .string ⟨#[126]⟩, .string ⟨#[126]⟩, .string ⟨#[126]⟩] 9)).trans' k2 fun i hi h => ?_
      rcases ha1.own i h with h1 | h1
      · cases h1
      · omega
    have hnew : ∀ g, v2.ownBlock = some g → w.heap.size ≤ g := fun g hg => by
      have := ha1.keeps.size
      rcases ha2.own g hg with h1 | h1
      · rcases ha1.own g h1 with h2 | h2
        · cases h2
        · omega
      · have := h1.1; simp at this; omega
    rcases hrow.2 with ⟨_, h0⟩ | ⟨g, cap, cur, rfl, hg0, hgc, hcap, hmax, hcs, htk⟩
    · omega
    have hgn := hnew g rfl
    clear hsrc hsrc4 ha1 ha2 hnew hxs
    have hcap2 : l.length ≤ cap := by omega
    have HR := hid hrow
    clear hrow hgc hcs htk
    go_wp2
    go_ret
    exact ⟨_, rfl, .inr ⟨_, _, _, _, _, _, rfl, rfl⟩, hf, _, _, rfl, by simp [texts], .inr ⟨g, rfl, hgn, HR.out⟩⟩

end Go.Proofs.YtfjflnlcjnhmmaaDoor
