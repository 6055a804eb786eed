/-
  The trie in plain words: a leaf put in, a key cut out; the shape that all tries have.
  What a trie proves of a key is accepted for what it has of it, and for nothing else.
  What a trie has of each key; tries that have the same are the same.
-/
import Derived.Test.YtmflbchiapdhbaaGreatDoorTrProve
namespace Go.Proofs.YtmflbchiapdhbaaGreatDoor
open Go.RowKit

def Tr.mk (l r : Tr) : Tr := .fork l r (sha (3 :: (l.hash ++ r.hash)))
/-- a and x, two leaves of different digests, under place d, with n bits left -/
def Tr.two (a x : Tr) (ak xk : List UInt8) : Nat → Nat → Tr
  | 0, _ => x
  | n + 1, d => if bitAt ak d = bitAt xk d then (if bitAt xk d = 0 then Tr.mk (Tr.two a x ak xk n (d + 1)) .none else Tr.mk .none (Tr.two a x ak xk n (d + 1)))
    else (if bitAt xk d = 0 then Tr.mk x a else Tr.mk a x)
def Tr.put (x : Tr) (xk : List UInt8) : Nat → Tr → Tr
  | _, .none => x
  | d, .leaf k s key val => if k = xk then x else Tr.two (.leaf k s key val) x k xk (256 - d) d
  | d, .fork l r _ => if bitAt xk d = 0 then Tr.mk (Tr.put x xk (d + 1) l) r else Tr.mk l (Tr.put x xk (d + 1) r)
/-- two sides, of which one has been made less -/
def Tr.join : Tr → Tr → Tr
  | .leaf a b c d, .none => .leaf a b c d
  | .none, .leaf a b c d => .leaf a b c d
  | l, r => Tr.mk l r
def Tr.cut (k : List UInt8) : Nat → Tr → Tr × Bool
  | _, .none => (.none, false)
  | _, .leaf a b c d => if a = k then (.none, true) else (.leaf a b c d, false)
  | d, .fork l r s => if bitAt k d = 0 then (if (Tr.cut k (d + 1) l).2 then (Tr.join (Tr.cut k (d + 1) l).1 r, true) else (.fork l r s, false))
    else (if (Tr.cut k (d + 1) r).2 then (Tr.join l (Tr.cut k (d + 1) r).1, true) else (.fork l r s, false))

def sideOf (p : Nat → Nat) (d b : Nat) : Nat → Nat := fun i => if i = d then b else p i
def LeafOk (k sum key val : List UInt8) : Prop := k = sha key ∧ sum = sha (2 :: (k ++ sha val)) ∧ key.length ≤ 200 ∧ val.length ≤ 1000
def Tr.isFork : Tr → Bool
  | .fork _ _ _ => true
  | _ => false
/-- what all tries are: under place d, by the path p -/
def Tr.Good : (Nat → Nat) → Nat → Tr → Prop
  | _, _, .none => True
  | p, d, .leaf k s key val => LeafOk k s key val ∧ ∀ i, i < d → bitAt k i = p i
  | p, d, .fork l r s => d < 256 ∧ s = sha (3 :: (l.hash ++ r.hash)) ∧ Tr.Good (sideOf p d 0) (d + 1) l ∧ Tr.Good (sideOf p d 1) (d + 1) r ∧ (l = .none → r.isFork = true) ∧ (r = .none → l.isFork = true)

theorem LeafOk.len {k s key val : List UInt8} (h : LeafOk k s key val) : k.length = 32 := by rw [h.1]; exact sha_len _

theorem bits_byte (x y : UInt8) (h : ∀ j, j < 8 → x.toNat / 2 ^ (7 - j) % 2 = y.toNat / 2 ^ (7 - j) % 2) : x = y := by
  apply UInt8.toNat_inj.1
  apply Nat.eq_of_testBit_eq
  intro i
  by_cases hi : i < 8
  · have := h (7 - i) (by omega)
    rw [show 7 - (7 - i) = i by omega] at this
    rw [Nat.testBit_eq_decide_div_mod_eq, Nat.testBit_eq_decide_div_mod_eq, this]
  · have hp : 2 ^ 8 ≤ 2 ^ i := Nat.pow_le_pow_right (by omega) (by omega)
    have hx := x.toNat_lt
    have hy := y.toNat_lt
    rw [Nat.testBit_lt_two_pow (by omega), Nat.testBit_lt_two_pow (by omega)]

theorem bits_inj {a b : List UInt8} (ha : a.length = 32) (hb : b.length = 32) (h : ∀ i, i < 256 → bitAt a i = bitAt b i) : a = b := by
  apply List.ext_getElem (by omega)
  intro j h1 h2
  apply bits_byte
  intro i hi
  have := h (8 * j + i) (by omega)
  unfold bitAt at this
  rw [show (8 * j + i) / 8 = j by omega, show (8 * j + i) % 8 = i by omega] at this
  simpa [byteAt, h1, h2] using this

theorem bit_one {k : List UInt8} {d : Nat} (h : ¬ bitAt k d = 0) : bitAt k d = 1 := by have := bitAt_le k d; omega
theorem sideOf_agree {p : Nat → Nat} {k : List UInt8} {d b : Nat} (h : ∀ i, i < d → bitAt k i = p i) (hb : bitAt k d = b) : ∀ i, i < d + 1 → bitAt k i = sideOf p d b i := by
  intro i hi
  unfold sideOf
  by_cases he : i = d
  · rw [if_pos he, he, hb]
  · rw [if_neg he]; exact h i (by omega)

theorem Good.hash_len {p : Nat → Nat} {d : Nat} {t : Tr} (h : Tr.Good p d t) : t.hash.length = 32 := by
  cases t with
  | none => simp [Tr.hash, nought32]
  | leaf k s key val => simp only [Tr.Good] at h; rw [Tr.hash, h.1.2.1]; exact sha_len _
  | fork l r s => simp only [Tr.Good] at h; rw [Tr.hash, h.2.1]; exact sha_len _

section
variable {ak sa akey aval xk xs xkey xval : List UInt8}
theorem two_good (ha : LeafOk ak sa akey aval) (hx : LeafOk xk xs xkey xval) (hne : ak ≠ xk) : ∀ (n d : Nat) (p : Nat → Nat), d + n = 256 → (∀ i, i < d → bitAt ak i = p i) → (∀ i, i < d → bitAt xk i = p i) →
    Tr.Good p d (Tr.two (.leaf ak sa akey aval) (.leaf xk xs xkey xval) ak xk n d) ∧ (Tr.two (.leaf ak sa akey aval) (.leaf xk xs xkey xval) ak xk n d).isFork = true
  | 0, d, p, hd, h1, h2 => by
    exact absurd (bits_inj ha.len hx.len fun i hi => (h1 i (by omega)).trans (h2 i (by omega)).symm) hne
  | n + 1, d, p, hd, h1, h2 => by
    unfold Tr.two
    by_cases hb : bitAt ak d = bitAt xk d
    · rw [if_pos hb]
      by_cases h0 : bitAt xk d = 0
      · rw [if_pos h0]
        obtain ⟨g, f⟩ := two_good ha hx hne n (d + 1) (sideOf p d 0) (by omega) (sideOf_agree h1 (by omega)) (sideOf_agree h2 h0)
        refine ⟨?_, rfl⟩
        rw [Tr.mk, Tr.Good]
        refine ⟨by omega, rfl, g, trivial, fun e => ?_, fun _ => f⟩
        rw [e] at f; cases f
      · rw [if_neg h0]
        obtain ⟨g, f⟩ := two_good ha hx hne n (d + 1) (sideOf p d 1) (by omega) (sideOf_agree h1 (by rw [hb]; exact bit_one h0)) (sideOf_agree h2 (bit_one h0))
        refine ⟨?_, rfl⟩
        rw [Tr.mk, Tr.Good]
        refine ⟨by omega, rfl, trivial, g, fun _ => f, fun e => ?_⟩
        rw [e] at f; cases f
    · rw [if_neg hb]
      by_cases h0 : bitAt xk d = 0
      · rw [if_pos h0]
        refine ⟨?_, rfl⟩
        rw [Tr.mk, Tr.Good]
        exact ⟨by omega, rfl, ⟨hx, sideOf_agree h2 h0⟩, ⟨ha, sideOf_agree h1 (bit_one (by omega))⟩, (fun e => nomatch e), (fun e => nomatch e)⟩
      · rw [if_neg h0]
        refine ⟨?_, rfl⟩
        rw [Tr.mk, Tr.Good]
        have := bit_one h0
        have := bitAt_le ak d
        exact ⟨by omega, rfl, ⟨ha, sideOf_agree h1 (by omega)⟩, ⟨hx, sideOf_agree h2 (bit_one h0)⟩, (fun e => nomatch e), (fun e => nomatch e)⟩

theorem put_good (hx : LeafOk xk xs xkey xval) : ∀ (t : Tr) (d : Nat) (p : Nat → Nat), d ≤ 256 → Tr.Good p d t → (∀ i, i < d → bitAt xk i = p i) →
    Tr.Good p d (Tr.put (.leaf xk xs xkey xval) xk d t) ∧ (Tr.put (.leaf xk xs xkey xval) xk d t) ≠ .none ∧ (t.isFork = true → (Tr.put (.leaf xk xs xkey xval) xk d t).isFork = true)
  | .none, d, p, hd, _, h2 => ⟨⟨hx, h2⟩, (fun e => nomatch e), fun h => nomatch h⟩
  | .leaf ak sa akey aval, d, p, hd, hg, h2 => by
    rw [Tr.put]
    by_cases he : ak = xk
    · rw [if_pos he]; exact ⟨⟨hx, h2⟩, (fun e => nomatch e), fun h => nomatch h⟩
    · rw [if_neg he]
      obtain ⟨g, f⟩ := two_good hg.1 hx he (256 - d) d p (by omega) hg.2 h2
      exact ⟨g, (fun e => by rw [e] at f; cases f), fun _ => f⟩
  | .fork l r s, d, p, hd, hg, h2 => by
    obtain ⟨h256, hs, hl, hr, c1, c2⟩ := hg
    rw [Tr.put]
    by_cases h0 : bitAt xk d = 0
    · rw [if_pos h0]
      obtain ⟨g, n, f⟩ := put_good hx l (d + 1) (sideOf p d 0) (by omega) hl (sideOf_agree h2 h0)
      refine ⟨⟨h256, rfl, g, hr, fun e => absurd e n, fun e => f (c2 e)⟩, (fun e => nomatch e), fun _ => rfl⟩
    · rw [if_neg h0]
      obtain ⟨g, n, f⟩ := put_good hx r (d + 1) (sideOf p d 1) (by omega) hr (sideOf_agree h2 (bit_one h0))
      refine ⟨⟨h256, rfl, hl, g, fun e => f (c1 e), fun e => absurd e n⟩, (fun e => nomatch e), fun _ => rfl⟩

theorem dig_len (k : List UInt8) : ∀ (t : Tr) (d : Nat) (p : Nat → Nat), d ≤ 256 → Tr.Good p d t → (t.dig k d).2.length + d ≤ 256
  | .none, d, p, hd, _ => by simpa [Tr.dig] using hd
  | .leaf _ _ _ _, d, p, hd, _ => by simpa [Tr.dig] using hd
  | .fork l r s, d, p, hd, hg => by
    obtain ⟨h256, hs, hl, hr, c1, c2⟩ := hg
    rw [Tr.dig]
    split
    · have := dig_len k l (d + 1) _ (by omega) hl
      simp; omega
    · have := dig_len k r (d + 1) _ (by omega) hr
      simp; omega

theorem dig_sides (k : List UInt8) : ∀ (t : Tr) (d : Nat) (p : Nat → Nat), Tr.Good p d t → ∀ s ∈ (t.dig k d).2, s.length = 32
  | .none, d, p, _ => by simp [Tr.dig]
  | .leaf _ _ _ _, d, p, _ => by simp [Tr.dig]
  | .fork l r s, d, p, hg => by
    obtain ⟨h256, hs, hl, hr, c1, c2⟩ := hg
    rw [Tr.dig]
    split
    · have h1 := dig_sides k l (d + 1) _ hl
      intro x hx
      rcases List.mem_cons.1 hx with rfl | hx
      · exact Good.hash_len hr
      · exact h1 x hx
    · have h1 := dig_sides k r (d + 1) _ hr
      intro x hx
      rcases List.mem_cons.1 hx with rfl | hx
      · exact Good.hash_len hl
      · exact h1 x hx

theorem dig_leaf (k : List UInt8) : ∀ (t : Tr) (d : Nat) (p : Nat → Nat), Tr.Good p d t → (∀ i, i < d → bitAt k i = p i) → ∀ kk sm key val, (t.dig k d).1 = .leaf kk sm key val →
    LeafOk kk sm key val ∧ ∀ i, i < d + (t.dig k d).2.length → bitAt kk i = bitAt k i
  | .none, d, p, _, _ => by simp [Tr.dig]
  | .leaf _ _ _ _, d, p, hg, ha => by
    intro kk sm key val he
    simp only [Tr.dig, Tr.leaf.injEq] at he
    obtain ⟨rfl, rfl, rfl, rfl⟩ := he
    exact ⟨hg.1, fun i hi => (hg.2 i (by simpa [Tr.dig] using hi)).trans (ha i (by simpa [Tr.dig] using hi)).symm⟩
  | .fork l r s, d, p, hg, ha => by
    obtain ⟨h256, hs, hl, hr, c1, c2⟩ := hg
    rw [Tr.dig]
    split
    · rename_i h0
      intro kk sm key val he
      obtain ⟨q1, q2⟩ := dig_leaf k l (d + 1) _ hl (sideOf_agree ha h0) kk sm key val he
      refine ⟨q1, fun i hi => q2 i (by simp at hi; omega)⟩
    · rename_i h0
      intro kk sm key val he
      obtain ⟨q1, q2⟩ := dig_leaf k r (d + 1) _ hr (sideOf_agree ha (bit_one h0)) kk sm key val he
      refine ⟨q1, fun i hi => q2 i (by simp at hi; omega)⟩

theorem dig_node (k : List UInt8) : ∀ (t : Tr) (d : Nat), (t.dig k d).1.isFork = false
  | .none, d => rfl
  | .leaf _ _ _ _, d => rfl
  | .fork l r s, d => by
    rw [Tr.dig]
    split
    · exact dig_node k l (d + 1)
    · exact dig_node k r (d + 1)

theorem dig_climb (k : List UInt8) : ∀ (t : Tr) (d : Nat) (p : Nat → Nat), Tr.Good p d t → climb k d (t.dig k d).2 (t.dig k d).1.hash = t.hash
  | .none, d, p, _ => rfl
  | .leaf _ _ _ _, d, p, _ => rfl
  | .fork l r s, d, p, hg => by
    obtain ⟨h256, hs, hl, hr, c1, c2⟩ := hg
    rw [Tr.dig]
    split
    · rename_i h0
      rw [climb, dig_climb k l (d + 1) _ hl, rung, if_pos h0, Tr.hash, hs]
    · rename_i h0
      rw [climb, dig_climb k r (d + 1) _ hr, rung, if_neg h0, Tr.hash, hs]

theorem put_hash (key1 val1 sm key0 val0 : List UInt8) (k : List UInt8) : ∀ (t : Tr) (d : Nat) (p : Nat → Nat), Tr.Good p d t → (t.dig k d).1 = .leaf k sm key0 val0 → (Tr.put (.leaf k sm key1 val1) k d t).hash = t.hash
  | .none, d, p, _, h => by simp [Tr.dig] at h
  | .leaf _ _ _ _, d, p, _, h => by
    simp only [Tr.dig, Tr.leaf.injEq] at h
    obtain ⟨rfl, rfl, rfl, rfl⟩ := h
    rw [Tr.put, if_pos rfl]; rfl
  | .fork l r s, d, p, hg, h => by
    obtain ⟨h256, hs, hl, hr, c1, c2⟩ := hg
    rw [Tr.dig] at h
    rw [Tr.put]
    split at h
    · rename_i h0
      rw [if_pos h0, Tr.mk, Tr.hash, put_hash key1 val1 sm key0 val0 k l (d + 1) _ hl h, Tr.hash, hs]
    · rename_i h0
      rw [if_neg h0, Tr.mk, Tr.hash, put_hash key1 val1 sm key0 val0 k r (d + 1) _ hr h, Tr.hash, hs]

theorem two_cut (ha : LeafOk ak sa akey aval) (hx : LeafOk xk xs xkey xval) (hne : ak ≠ xk) : ∀ (n d : Nat), d + n = 256 → (∀ i, i < d → bitAt ak i = bitAt xk i) →
    Tr.cut xk d (Tr.two (.leaf ak sa akey aval) (.leaf xk xs xkey xval) ak xk n d) = (.leaf ak sa akey aval, true)
  | 0, d, hd, h1 => absurd (bits_inj ha.len hx.len fun i hi => h1 i (by omega)) hne
  | n + 1, d, hd, h1 => by
    unfold Tr.two
    by_cases hb : bitAt ak d = bitAt xk d
    · rw [if_pos hb]
      have ih := two_cut ha hx hne n (d + 1) (by omega) (fun i hi => by
        by_cases he : i = d
        · rw [he]; exact hb
        · exact h1 i (by omega))
      by_cases h0 : bitAt xk d = 0
      · rw [if_pos h0, Tr.mk, Tr.cut, if_pos h0, ih]; rfl
      · rw [if_neg h0, Tr.mk, Tr.cut, if_neg h0, ih]; rfl
    · rw [if_neg hb]
      by_cases h0 : bitAt xk d = 0
      · rw [if_pos h0, Tr.mk, Tr.cut, if_pos h0, Tr.cut, if_pos rfl]; rfl
      · rw [if_neg h0, Tr.mk, Tr.cut, if_neg h0, Tr.cut, if_pos rfl]; rfl

theorem join_fork {l r s : _} {p : Nat → Nat} {d : Nat} (h : Tr.Good p d (.fork l r s)) : Tr.join l r = .fork l r s := by
  obtain ⟨h256, hs, hl, hr, c1, c2⟩ := h
  cases l with
  | none =>
    have := c1 rfl
    cases r with
    | none => cases this
    | leaf => cases this
    | fork => rw [Tr.join, Tr.mk, hs] <;> simp
  | leaf =>
    cases r with
    | none => have := c2 rfl; cases this
    | leaf => rw [Tr.join, Tr.mk, hs] <;> simp
    | fork => rw [Tr.join, Tr.mk, hs] <;> simp
  | fork => rw [Tr.join, Tr.mk, hs] <;> simp

theorem put_cut (hx : LeafOk xk xs xkey xval) : ∀ (t : Tr) (d : Nat) (p : Nat → Nat), d ≤ 256 → Tr.Good p d t → (∀ i, i < d → bitAt xk i = p i) → (∀ a b c, (t.dig xk d).1 ≠ .leaf xk a b c) →
    Tr.cut xk d (Tr.put (.leaf xk xs xkey xval) xk d t) = (t, true)
  | .none, d, p, hd, _, h2, _ => by rw [Tr.put, Tr.cut, if_pos rfl]
  | .leaf ak sa akey aval, d, p, hd, hg, h2, hn => by
    have he : ak ≠ xk := fun e => hn sa akey aval (by rw [Tr.dig, e]; simp)
    rw [Tr.put, if_neg he]
    exact two_cut hg.1 hx he (256 - d) d (by omega) (fun i hi => (hg.2 i hi).trans (h2 i hi).symm)
  | .fork l r s, d, p, hd, hg, h2, hn => by
    have hj := join_fork hg
    obtain ⟨h256, hs, hl, hr, c1, c2⟩ := hg
    rw [Tr.dig] at hn
    rw [Tr.put]
    by_cases h0 : bitAt xk d = 0
    · rw [if_pos h0] at hn
      rw [if_pos h0, Tr.mk, Tr.cut, if_pos h0, put_cut hx l (d + 1) (sideOf p d 0) (by omega) hl (sideOf_agree h2 h0) hn]
      simp [hj]
    · rw [if_neg h0] at hn
      rw [if_neg h0, Tr.mk, Tr.cut, if_neg h0, put_cut hx r (d + 1) (sideOf p d 1) (by omega) hr (sideOf_agree h2 (bit_one h0)) hn]
      simp [hj]
end
end Go.Proofs.YtmflbchiapdhbaaGreatDoor

namespace Go.Proofs.YtmflbchiapdhbaaGreatDoor
open Go.RowKit

theorem every32_of {l : List (List UInt8)} (h : ∀ s ∈ l, s.length = 32) : every32 l = true := by
  induction l with
  | nil => rfl
  | cons x r ih =>
    rw [every32, ih (fun s hs => h s (List.mem_cons_of_mem _ hs)), h x (List.mem_cons_self ..)]; rfl
theorem agree_of {a b : List UInt8} : ∀ (n i : Nat), (∀ j, j < i + n → bitAt a j = bitAt b j) → agree a b i n = true
  | 0, _, _ => rfl
  | n + 1, i, h => by
    rw [agree, h i (by omega), agree_of n (i + 1) (fun j hj => h j (by omega))]; simp

/-- is it a proof of its form? and what does it lead up to? -/
theorem dug_form {t : Tr} {p : Nat → Nat} (hg : Tr.Good p 0 t) (k : List UInt8) :
    formOf (t.dig k 0).2 (t.dig k 0).1.told.1 (t.dig k 0).1.told.2.1 (t.dig k 0).1.told.2.2 k = true ∧
    climb k 0 (t.dig k 0).2 (ground (t.dig k 0).1.told.1 (t.dig k 0).1.told.2.1 (t.dig k 0).1.told.2.2) = t.hash := by
  have h1 := dig_len k t 0 p (by omega) hg
  have h2 := every32_of (dig_sides k t 0 p hg)
  have h3 := dig_leaf k t 0 p hg (fun i hi => by omega)
  have h4 := dig_node k t 0
  have h5 := dig_climb k t 0 p hg
  unfold formOf
  rw [h2]
  generalize (t.dig k 0).2 = sides at h1 h2 h3 h5 ⊢
  generalize (t.dig k 0).1 = node at h3 h4 h5 ⊢
  cases node with
  | none =>
    refine ⟨?_, h5⟩
    simp only [Tr.told, Bool.and_true, Bool.and_eq_true, decide_eq_true_eq]
    exact ⟨by omega, by simp⟩
  | fork => cases h4
  | leaf kk sm key val =>
    obtain ⟨q1, q2⟩ := h3 kk sm key val rfl
    refine ⟨?_, ?_⟩
    · simp only [Tr.told, Bool.and_true, if_true, Bool.and_eq_true, decide_eq_true_eq]
      exact ⟨by omega, ⟨decide_eq_true q1.len, decide_eq_true (sha_len _)⟩, agree_of _ _ (fun j hj => q2 j (by omega))⟩
    · rw [← h5, Tr.hash, q1.2.1]; rfl

theorem told_has {t : Tr} (k : List UInt8) : (t.dig k 0).1.told.1 = true ∧ (t.dig k 0).1.told.2.1 = k ↔ t.has k = true := by
  unfold Tr.has Tr.get
  cases (t.dig k 0).1 with
  | none => simp [Tr.told]
  | fork => simp [Tr.told]
  | leaf kk sm key val =>
    by_cases h : kk = k <;> simp [Tr.told, h]
theorem told_value {t : Tr} (k : List UInt8) (h : t.has k = true) : (t.dig k 0).1.told.2.2 = sha (t.got k) := by
  unfold Tr.has at h
  unfold Tr.got
  unfold Tr.get at h ⊢
  revert h
  cases (t.dig k 0).1 with
  | none => intro h; cases h
  | fork => intro h; cases h
  | leaf kk sm key val =>
    by_cases h : kk = k <;> simp [Tr.told, h]
theorem got_short {t : Tr} {p : Nat → Nat} (hg : Tr.Good p 0 t) (k : List UInt8) : (t.got k).length ≤ 1000 := by
  have h3 := dig_leaf k t 0 p hg (fun i hi => by omega)
  unfold Tr.got Tr.get
  generalize (t.dig k 0).1 = node at h3 ⊢
  cases node with
  | none => simp
  | fork => simp
  | leaf kk sm key val =>
    have := (h3 kk sm key val rfl).1.2.2.2
    by_cases h : kk = k <;> simp [h, this]
theorem has_leaf {t : Tr} {p : Nat → Nat} (hg : Tr.Good p 0 t) (k : List UInt8) (h : t.has k = true) : ∃ key0, (t.dig k 0).1 = .leaf k (sha (2 :: (k ++ sha (t.got k)))) key0 (t.got k) := by
  have h3 := dig_leaf k t 0 p hg (fun i hi => by omega)
  unfold Tr.has at h
  unfold Tr.got
  unfold Tr.get at h ⊢
  revert h
  generalize (t.dig k 0).1 = node at h3 ⊢
  cases node with
  | none => intro h; cases h
  | fork => intro h; cases h
  | leaf kk sm key val =>
    have hs := (h3 kk sm key val rfl).1.2.1
    by_cases h : kk = k
    · intro _
      refine ⟨key, ?_⟩
      subst h
      simp [hs]
    · simp [h]
theorem hasnt_leaf {t : Tr} (k : List UInt8) (h : t.has k = false) : ∀ a b c, (t.dig k 0).1 ≠ .leaf k a b c := by
  intro a b c e
  unfold Tr.has Tr.get at h
  rw [e] at h
  simp at h

section
variable {t : Tr} {p : Nat → Nat} (hg : Tr.Good p 0 t) {key : List UInt8} (hkey : key.length ≤ 200)
include hg hkey
theorem own_right (root : List UInt8) : checkOf (t.dig (sha key) 0).2 (t.dig (sha key) 0).1.told.1 (t.dig (sha key) 0).1.told.2.1 (t.dig (sha key) 0).1.told.2.2 key (t.got (sha key)) (t.has (sha key)) root = if t.hash = root then 0 else 241 := by
  obtain ⟨h1, h2⟩ := dug_form hg (sha key)
  have h3 := told_has (t := t) (sha key)
  have h4 := got_short hg (sha key)
  have h5 := told_value (t := t) (sha key)
  have hlong : tooLong key (t.got (sha key)) (t.has (sha key)) = false := by
    unfold tooLong
    rw [decide_eq_false (by omega), decide_eq_false (by omega)]; simp
  have hfits : fits (t.dig (sha key) 0).2 (t.dig (sha key) 0).1.told.1 (t.dig (sha key) 0).1.told.2.1 (t.dig (sha key) 0).1.told.2.2 key (t.got (sha key)) (t.has (sha key)) = true := by
    unfold fits
    rw [h1, Bool.true_and]
    by_cases hh : t.has (sha key) = true
    · obtain ⟨a, b⟩ := h3.2 hh
      rw [if_pos hh, a, b, h5 hh]; simp
    · rw [if_neg hh]
      by_cases a : (t.dig (sha key) 0).1.told.1 = true
      · rw [a, decide_eq_false (fun b => hh (h3.1 ⟨a, b⟩))]; rfl
      · rw [Bool.not_eq_true] at a; rw [a]; rfl
  unfold checkOf
  rw [hlong, hfits, h2]
  simp
theorem own_wrong (root : List UInt8) : checkOf (t.dig (sha key) 0).2 (t.dig (sha key) 0).1.told.1 (t.dig (sha key) 0).1.told.2.1 (t.dig (sha key) 0).1.told.2.2 key (t.got (sha key)) (!t.has (sha key)) root = 240 := by
  have h3 := told_has (t := t) (sha key)
  have h4 := got_short hg (sha key)
  have hlong : tooLong key (t.got (sha key)) (!t.has (sha key)) = false := by
    unfold tooLong
    rw [decide_eq_false (by omega), decide_eq_false (by omega)]; simp
  have hfits : fits (t.dig (sha key) 0).2 (t.dig (sha key) 0).1.told.1 (t.dig (sha key) 0).1.told.2.1 (t.dig (sha key) 0).1.told.2.2 key (t.got (sha key)) (!t.has (sha key)) = false := by
    unfold fits
    by_cases hh : t.has (sha key) = true
    · obtain ⟨a, b⟩ := h3.2 hh
      rw [hh, a, b]; simp
    · rw [Bool.not_eq_true] at hh
      rw [hh, if_pos (by rfl)]
      by_cases a : (t.dig (sha key) 0).1.told.1 = true
      · rw [a, decide_eq_false (fun b => by have := h3.1 ⟨a, b⟩; rw [hh] at this; cases this)]; simp
      · rw [Bool.not_eq_true] at a; rw [a]; simp
  unfold checkOf
  rw [hlong, hfits]
  simp
omit hg in
theorem own_other (other root : List UInt8) (ho : other.length ≤ 1000) (hh : t.has (sha key) = true) (hne : sha other ≠ sha (t.got (sha key))) : checkOf (t.dig (sha key) 0).2 (t.dig (sha key) 0).1.told.1 (t.dig (sha key) 0).1.told.2.1 (t.dig (sha key) 0).1.told.2.2 key other true root = 240 := by
  have h5 := told_value (t := t) (sha key) hh
  have hlong : tooLong key other true = false := by
    unfold tooLong
    rw [decide_eq_false (by omega), decide_eq_false (by omega)]; simp
  have hfits : fits (t.dig (sha key) 0).2 (t.dig (sha key) 0).1.told.1 (t.dig (sha key) 0).1.told.2.1 (t.dig (sha key) 0).1.told.2.2 key other true = false := by
    unfold fits
    have hd : decide (sha (t.got (sha key)) = sha other) = false := decide_eq_false (fun e => hne e.symm)
    rw [h5, if_pos rfl, hd]; simp
  unfold checkOf
  rw [hlong, hfits]
  simp
end
theorem Good.deep {t : Tr} {p : Nat → Nat} (hg : Tr.Good p 0 t) (k : List UInt8) : (t.dig k 0).2.length ≤ 256 := by
  have := dig_len k t 0 p (by omega) hg
  omega
end Go.Proofs.YtmflbchiapdhbaaGreatDoor

namespace Go.Proofs.YtmflbchiapdhbaaGreatDoor
open Go.RowKit

/-- key and value of a digest -/
def Tr.look (k : List UInt8) (d : Nat) (t : Tr) : Option (List UInt8 × List UInt8) := match (t.dig k d).1 with
  | .leaf kk _ key val => if kk = k then Option.some (key, val) else Option.none
  | _ => Option.none
theorem look_none (k : List UInt8) (d : Nat) : Tr.none.look k d = Option.none := rfl
theorem look_leaf (k a b c e : List UInt8) (d : Nat) : (Tr.leaf a b c e).look k d = if a = k then some (c, e) else none := rfl
theorem look_fork (k : List UInt8) (d : Nat) (l r : Tr) (s : List UInt8) : (Tr.fork l r s).look k d = if bitAt k d = 0 then l.look k (d + 1) else r.look k (d + 1) := by
  unfold Tr.look
  rw [Tr.dig]
  by_cases h : bitAt k d = 0
  · rw [if_pos h, if_pos h]
  · rw [if_neg h, if_neg h]
theorem get_look (k : List UInt8) (t : Tr) : t.get k = (t.look k 0).map Prod.snd := by
  unfold Tr.look Tr.get
  cases (t.dig k 0).1 with
  | none => rfl
  | fork => rfl
  | leaf kk a b c => by_cases h : kk = k <;> simp [h]

theorem look_ok (k : List UInt8) (t : Tr) (d : Nat) (p : Nat → Nat) (hg : Tr.Good p d t) (ha : ∀ i, i < d → bitAt k i = p i) (key val : List UInt8) (h : t.look k d = some (key, val)) : k = sha key ∧ key.length ≤ 200 ∧ val.length ≤ 1000 := by
  have h3 := dig_leaf k t d p hg ha
  unfold Tr.look at h
  generalize (t.dig k d).1 = node at h h3
  cases node with
  | none => cases h
  | fork => cases h
  | leaf kk sm key0 val0 =>
    simp only at h
    by_cases hk : kk = k
    · simp only [hk, if_true, Option.some.injEq, Prod.mk.injEq] at h
      obtain ⟨rfl, rfl⟩ := h
      obtain ⟨q, -⟩ := h3 kk sm key0 val0 rfl
      exact ⟨by rw [← hk]; exact q.1, q.2.2⟩
    · simp [hk] at h

theorem sideOf_down {p : Nat → Nat} {k : List UInt8} {d b : Nat} (h : ∀ i, i < d + 1 → bitAt k i = sideOf p d b i) : (∀ i, i < d → bitAt k i = p i) ∧ bitAt k d = b := by
  refine ⟨fun i hi => ?_, ?_⟩
  · have := h i (by omega)
    rwa [sideOf, if_neg (by omega)] at this
  · have := h d (by omega)
    rwa [sideOf, if_pos rfl] at this

/-- a trie that is not nothing has a key; a fork has two -/
theorem some_key : ∀ (t : Tr) (d : Nat) (p : Nat → Nat), Tr.Good p d t → t ≠ .none → (∃ k : List UInt8, k.length = 32 ∧ (∀ i, i < d → bitAt k i = p i) ∧ t.look k d ≠ none) ∧
    (t.isFork = true → ∃ k1 k2 : List UInt8, k1 ≠ k2 ∧ k1.length = 32 ∧ k2.length = 32 ∧ (∀ i, i < d → bitAt k1 i = p i) ∧ (∀ i, i < d → bitAt k2 i = p i) ∧ t.look k1 d ≠ none ∧ t.look k2 d ≠ none)
  | .none, d, p, _, h => absurd rfl h
  | .leaf k s key val, d, p, hg, _ => ⟨⟨k, hg.1.len, hg.2, by rw [look_leaf, if_pos rfl]; simp⟩, fun h => nomatch h⟩
  | .fork l r s, d, p, hg, _ => by
    obtain ⟨h256, hs, hl, hr, c1, c2⟩ := hg
    have two : ∃ k1 k2 : List UInt8, k1 ≠ k2 ∧ k1.length = 32 ∧ k2.length = 32 ∧ (∀ i, i < d → bitAt k1 i = p i) ∧ (∀ i, i < d → bitAt k2 i = p i) ∧ (Tr.fork l r s).look k1 d ≠ none ∧ (Tr.fork l r s).look k2 d ≠ none := by
      by_cases el : l = .none
      · have er : r ≠ .none := fun e => by have := c1 el; rw [e] at this; cases this
        obtain ⟨k1, k2, n, a1, a2, b1, b2, q1, q2⟩ := (some_key r (d + 1) _ hr er).2 (c1 el)
        obtain ⟨b1, z1⟩ := sideOf_down b1
        obtain ⟨b2, z2⟩ := sideOf_down b2
        exact ⟨k1, k2, n, a1, a2, b1, b2, by rw [look_fork, if_neg (by omega)]; exact q1, by rw [look_fork, if_neg (by omega)]; exact q2⟩
      · by_cases er : r = .none
        · obtain ⟨k1, k2, n, a1, a2, b1, b2, q1, q2⟩ := (some_key l (d + 1) _ hl el).2 (c2 er)
          obtain ⟨b1, z1⟩ := sideOf_down b1
          obtain ⟨b2, z2⟩ := sideOf_down b2
          exact ⟨k1, k2, n, a1, a2, b1, b2, by rw [look_fork, if_pos z1]; exact q1, by rw [look_fork, if_pos z2]; exact q2⟩
        · obtain ⟨k1, a1, b1, q1⟩ := (some_key l (d + 1) _ hl el).1
          obtain ⟨k2, a2, b2, q2⟩ := (some_key r (d + 1) _ hr er).1
          obtain ⟨b1, z1⟩ := sideOf_down b1
          obtain ⟨b2, z2⟩ := sideOf_down b2
          exact ⟨k1, k2, fun e => by rw [e] at z1; omega, a1, a2, b1, b2, by rw [look_fork, if_pos z1]; exact q1, by rw [look_fork, if_neg (by omega)]; exact q2⟩
    obtain ⟨k1, k2, n, a1, a2, b1, b2, q1, q2⟩ := two
    exact ⟨⟨k1, a1, b1, q1⟩, fun _ => ⟨k1, k2, n, a1, a2, b1, b2, q1, q2⟩⟩

/-- what tries have makes them what they are -/
theorem same_trie : ∀ (t u : Tr) (d : Nat) (p : Nat → Nat), Tr.Good p d t → Tr.Good p d u → (∀ k : List UInt8, k.length = 32 → (∀ i, i < d → bitAt k i = p i) → t.look k d = u.look k d) → t = u
  | .none, u, d, p, _, hu, h => by
    by_cases e : u = .none
    · exact e.symm
    · obtain ⟨k, a, b, q⟩ := (some_key u d p hu e).1
      exact absurd (h k a b).symm q
  | .leaf k s key val, u, d, p, ht, hu, h => by
    have hk := h k ht.1.len ht.2
    rw [look_leaf, if_pos rfl] at hk
    cases u with
    | none => cases hk
    | leaf k2 s2 key2 val2 =>
      rw [look_leaf] at hk
      by_cases e : k2 = k
      · rw [if_pos e] at hk
        simp only [Option.some.injEq, Prod.mk.injEq] at hk
        obtain ⟨rfl, rfl⟩ := hk
        rw [ht.1.2.1, hu.1.2.1, e]
      · rw [if_neg e] at hk; cases hk
    | fork l r s2 =>
      obtain ⟨k1, k2, n, a1, a2, b1, b2, q1, q2⟩ := (some_key _ d p hu (fun e => nomatch e)).2 rfl
      have e1 := h k1 a1 b1
      have e2 := h k2 a2 b2
      rw [look_leaf] at e1 e2
      by_cases x1 : k = k1
      · by_cases x2 : k = k2
        · exact absurd (x1.symm.trans x2) n
        · rw [if_neg x2] at e2; exact absurd e2.symm q2
      · rw [if_neg x1] at e1; exact absurd e1.symm q1
  | .fork l r s, .none, d, p, ht, hu, h => by
    obtain ⟨k, a, b, q⟩ := (some_key _ d p ht (fun e => nomatch e)).1
    exact absurd (h k a b) q
  | .fork l r s, .leaf k s2 key val, d, p, ht, hu, h => by
    obtain ⟨k1, k2, n, a1, a2, b1, b2, q1, q2⟩ := (some_key _ d p ht (fun e => nomatch e)).2 rfl
    have e1 := h k1 a1 b1
    have e2 := h k2 a2 b2
    rw [look_leaf] at e1 e2
    by_cases x1 : k = k1
    · by_cases x2 : k = k2
      · exact absurd (x1.symm.trans x2) n
      · rw [if_neg x2] at e2; exact absurd e2 q2
    · rw [if_neg x1] at e1; exact absurd e1 q1
  | .fork l r s, .fork l2 r2 s2, d, p, ht, hu, h => by
    obtain ⟨h256, hs, hl, hr, c1, c2⟩ := ht
    obtain ⟨_, hs2, hl2, hr2, _, _⟩ := hu
    have el := same_trie l l2 (d + 1) _ hl hl2 (fun k a b => by
      obtain ⟨b, z⟩ := sideOf_down b
      have := h k a b
      rwa [look_fork, look_fork, if_pos z, if_pos z] at this)
    have er := same_trie r r2 (d + 1) _ hr hr2 (fun k a b => by
      obtain ⟨b, z⟩ := sideOf_down b
      have := h k a b
      rwa [look_fork, look_fork, if_neg (by omega), if_neg (by omega)] at this)
    rw [hs, hs2, el, er]

section
variable {ak sa akey aval xk xs xkey xval : List UInt8}
theorem two_look (ha : LeafOk ak sa akey aval) (hx : LeafOk xk xs xkey xval) (hne : ak ≠ xk) (k : List UInt8) : ∀ (n d : Nat), d + n = 256 → (∀ i, i < d → bitAt ak i = bitAt xk i) →
    (Tr.two (.leaf ak sa akey aval) (.leaf xk xs xkey xval) ak xk n d).look k d = if k = xk then some (xkey, xval) else (Tr.leaf ak sa akey aval).look k d
  | 0, d, hd, h1 => absurd (bits_inj ha.len hx.len fun i hi => h1 i (by omega)) hne
  | n + 1, d, hd, h1 => by
    unfold Tr.two
    by_cases hb : bitAt ak d = bitAt xk d
    · rw [if_pos hb]
      have ih := two_look ha hx hne k n (d + 1) (by omega) (fun i hi => by
        by_cases he : i = d
        · rw [he]; exact hb
        · exact h1 i (by omega))
      rw [look_leaf] at ih ⊢
      by_cases h0 : bitAt xk d = 0
      · rw [if_pos h0, Tr.mk, look_fork, ih, look_none]
        by_cases hk : bitAt k d = 0
        · rw [if_pos hk]
        · rw [if_neg hk, if_neg (fun e => hk (by rw [e]; exact h0)), if_neg (fun e => hk (by rw [← e, hb]; exact h0))]
      · rw [if_neg h0, Tr.mk, look_fork, ih, look_none]
        by_cases hk : bitAt k d = 0
        · rw [if_pos hk, if_neg (fun e => h0 (by rw [← e]; exact hk)), if_neg (fun e => h0 (by rw [← hb, e]; exact hk))]
        · rw [if_neg hk]
    · rw [if_neg hb]
      rw [look_leaf]
      by_cases h0 : bitAt xk d = 0
      · rw [if_pos h0, Tr.mk, look_fork, look_leaf, look_leaf]
        by_cases hk : bitAt k d = 0
        · rw [if_pos hk]
          by_cases e : xk = k
          · rw [if_pos e, if_pos e.symm]
          · rw [if_neg e, if_neg (fun q => e q.symm), if_neg (fun q => hb (by rw [q]; omega))]
        · have hq : ¬ k = xk := fun e => hk (by rw [e]; exact h0)
          rw [if_neg hk, if_neg hq]
      · rw [if_neg h0, Tr.mk, look_fork, look_leaf, look_leaf]
        by_cases hk : bitAt k d = 0
        · have hq : ¬ k = xk := fun e => h0 (by rw [← e]; exact hk)
          rw [if_pos hk, if_neg hq]
        · rw [if_neg hk]
          by_cases e : xk = k
          · rw [if_pos e, if_pos e.symm]
          · have := bit_one h0
            have := bit_one hk
            rw [if_neg e, if_neg (fun q => e q.symm), if_neg (fun q => hb (by rw [q]; omega))]

theorem put_look (hx : LeafOk xk xs xkey xval) (k : List UInt8) : ∀ (t : Tr) (d : Nat) (p : Nat → Nat), d ≤ 256 → Tr.Good p d t → (∀ i, i < d → bitAt xk i = p i) →
    (Tr.put (.leaf xk xs xkey xval) xk d t).look k d = if k = xk then some (xkey, xval) else t.look k d
  | .none, d, p, hd, _, h2 => by
    rw [Tr.put, look_leaf, look_none]
    by_cases e : xk = k
    · rw [if_pos e, if_pos e.symm]
    · rw [if_neg e, if_neg (fun q => e q.symm)]
  | .leaf ak sa akey aval, d, p, hd, hg, h2 => by
    rw [Tr.put]
    by_cases he : ak = xk
    · rw [if_pos he, look_leaf, look_leaf, he]
      by_cases e : xk = k
      · rw [if_pos e, if_pos e.symm]
      · rw [if_neg e, if_neg (fun q => e q.symm), if_neg e]
    · rw [if_neg he]
      exact two_look hg.1 hx he k (256 - d) d (by omega) (fun i hi => (hg.2 i hi).trans (h2 i hi).symm)
  | .fork l r s, d, p, hd, hg, h2 => by
    obtain ⟨h256, hs, hl, hr, c1, c2⟩ := hg
    rw [Tr.put]
    by_cases h0 : bitAt xk d = 0
    · rw [if_pos h0, Tr.mk, look_fork, look_fork, put_look hx k l (d + 1) (sideOf p d 0) (by omega) hl (sideOf_agree h2 h0)]
      by_cases hk : bitAt k d = 0
      · rw [if_pos hk, if_pos hk]
      · rw [if_neg hk, if_neg hk, if_neg (fun e => hk (by rw [e]; exact h0))]
    · rw [if_neg h0, Tr.mk, look_fork, look_fork, put_look hx k r (d + 1) (sideOf p d 1) (by omega) hr (sideOf_agree h2 (bit_one h0))]
      by_cases hk : bitAt k d = 0
      · rw [if_pos hk, if_pos hk, if_neg (fun e => h0 (by rw [← e]; exact hk))]
      · rw [if_neg hk, if_neg hk]
end

theorem join_good {l r : Tr} {p : Nat → Nat} {d : Nat} (h256 : d < 256) (hl : Tr.Good (sideOf p d 0) (d + 1) l) (hr : Tr.Good (sideOf p d 1) (d + 1) r) (hn : l ≠ .none ∨ r ≠ .none) : Tr.Good p d (Tr.join l r) ∧ Tr.join l r ≠ .none := by
  cases l with
  | none =>
    cases r with
    | none => simp at hn
    | leaf a b c e => exact ⟨⟨hr.1, fun i hi => (sideOf_down hr.2).1 i hi⟩, fun e => nomatch e⟩
    | fork a b c => exact ⟨⟨h256, rfl, hl, hr, fun _ => rfl, fun e => nomatch e⟩, fun e => nomatch e⟩
  | leaf a b c e =>
    cases r with
    | none => exact ⟨⟨hl.1, fun i hi => (sideOf_down hl.2).1 i hi⟩, fun e => nomatch e⟩
    | leaf a b c e => exact ⟨⟨h256, rfl, hl, hr, (fun e => nomatch e), fun e => nomatch e⟩, fun e => nomatch e⟩
    | fork a b c => exact ⟨⟨h256, rfl, hl, hr, (fun e => nomatch e), fun e => nomatch e⟩, fun e => nomatch e⟩
  | fork a b c => exact ⟨⟨h256, rfl, hl, hr, (fun e => nomatch e), fun _ => rfl⟩, fun e => nomatch e⟩
theorem join_look {l r : Tr} {p : Nat → Nat} {d : Nat} (hl : Tr.Good (sideOf p d 0) (d + 1) l) (hr : Tr.Good (sideOf p d 1) (d + 1) r) (k : List UInt8) : (Tr.join l r).look k d = if bitAt k d = 0 then l.look k (d + 1) else r.look k (d + 1) := by
  cases l with
  | none =>
    cases r with
    | none => rw [Tr.join, Tr.mk, look_fork] <;> simp
    | leaf a b c e =>
      rw [Tr.join, look_leaf, look_leaf, look_none]
      obtain ⟨_, z⟩ := sideOf_down hr.2
      by_cases hk : bitAt k d = 0
      · rw [if_pos hk, if_neg (fun q => by rw [q] at z; omega)]
      · rw [if_neg hk]
    | fork a b c => rw [Tr.join, Tr.mk, look_fork] <;> simp
  | leaf a b c e =>
    cases r with
    | none =>
      rw [Tr.join, look_leaf, look_leaf, look_none]
      obtain ⟨_, z⟩ := sideOf_down hl.2
      by_cases hk : bitAt k d = 0
      · rw [if_pos hk]
      · rw [if_neg hk, if_neg (fun q => by rw [q] at z; omega)]
    | leaf a b c e => rw [Tr.join, Tr.mk, look_fork] <;> simp
    | fork a b c => rw [Tr.join, Tr.mk, look_fork] <;> simp
  | fork a b c => rw [Tr.join, Tr.mk, look_fork] <;> simp

/-- a key cut out -/
theorem cut_all (xk : List UInt8) : ∀ (t : Tr) (d : Nat) (p : Nat → Nat), Tr.Good p d t → (∀ i, i < d → bitAt xk i = p i) →
    Tr.Good p d (Tr.cut xk d t).1 ∧ (t.isFork = true → (Tr.cut xk d t).1 ≠ .none) ∧ (Tr.cut xk d t).2 = (t.look xk d).isSome ∧ ∀ k, (Tr.cut xk d t).1.look k d = if k = xk then none else t.look k d
  | .none, d, p, _, _ => ⟨trivial, (fun h => nomatch h), rfl, fun k => by rw [Tr.cut, look_none]; simp⟩
  | .leaf a b c e, d, p, hg, _ => by
    rw [Tr.cut]
    by_cases h : a = xk
    · rw [if_pos h]
      refine ⟨trivial, (fun h => nomatch h), by rw [look_leaf, if_pos h]; rfl, fun k => ?_⟩
      rw [look_none, look_leaf]
      by_cases q : k = xk
      · rw [if_pos q]
      · rw [if_neg q, if_neg (fun w => q (by rw [← w, h]))]
    · rw [if_neg h]
      refine ⟨hg, (fun h => nomatch h), by rw [look_leaf, if_neg h]; rfl, fun k => ?_⟩
      rw [look_leaf]
      by_cases q : k = xk
      · rw [if_pos q, if_neg (fun w => h (by rw [w, q]))]
      · rw [if_neg q]
  | .fork l r s, d, p, hg, ha => by
    have hg' := hg
    obtain ⟨h256, hs, hl, hr, c1, c2⟩ := hg
    rw [Tr.cut]
    by_cases h0 : bitAt xk d = 0
    · obtain ⟨g, n, b, q⟩ := cut_all xk l (d + 1) (sideOf p d 0) hl (sideOf_agree ha h0)
      rw [if_pos h0]
      by_cases hc : (Tr.cut xk (d + 1) l).2 = true
      · rw [if_pos hc]
        have hn : (Tr.cut xk (d + 1) l).1 ≠ .none ∨ r ≠ .none := by
          by_cases er : r = .none
          · exact .inl (n (c2 er))
          · exact .inr er
        obtain ⟨j1, j2⟩ := join_good h256 g hr hn
        refine ⟨j1, fun _ => j2, ?_, fun k => ?_⟩
        · rw [look_fork, if_pos h0, ← b, hc]
        · rw [join_look g hr, q, look_fork]
          by_cases hk : bitAt k d = 0
          · rw [if_pos hk, if_pos hk]
          · rw [if_neg hk, if_neg hk, if_neg (fun e => hk (by rw [e]; exact h0))]
      · rw [if_neg hc]
        rw [Bool.not_eq_true] at hc
        have hnn : l.look xk (d + 1) = none := by
          have := b.symm.trans hc
          simpa using this
        refine ⟨hg', (fun _ e => nomatch e), ?_, fun k => ?_⟩
        · rw [look_fork, if_pos h0, hnn]; rfl
        · by_cases e : k = xk
          · rw [if_pos e, e, look_fork, if_pos h0, hnn]
          · rw [if_neg e]
    · obtain ⟨g, n, b, q⟩ := cut_all xk r (d + 1) (sideOf p d 1) hr (sideOf_agree ha (bit_one h0))
      rw [if_neg h0]
      by_cases hc : (Tr.cut xk (d + 1) r).2 = true
      · rw [if_pos hc]
        have hn : l ≠ .none ∨ (Tr.cut xk (d + 1) r).1 ≠ .none := by
          by_cases er : l = .none
          · exact .inr (n (c1 er))
          · exact .inl er
        obtain ⟨j1, j2⟩ := join_good h256 hl g hn
        refine ⟨j1, fun _ => j2, ?_, fun k => ?_⟩
        · rw [look_fork, if_neg h0, ← b, hc]
        · rw [join_look hl g, q, look_fork]
          by_cases hk : bitAt k d = 0
          · rw [if_pos hk, if_pos hk, if_neg (fun e => h0 (by rw [← e]; exact hk))]
          · rw [if_neg hk, if_neg hk]
      · rw [if_neg hc]
        rw [Bool.not_eq_true] at hc
        have hnn : r.look xk (d + 1) = none := by
          have := b.symm.trans hc
          simpa using this
        refine ⟨hg', (fun _ e => nomatch e), ?_, fun k => ?_⟩
        · rw [look_fork, if_neg h0, hnn]; rfl
        · by_cases e : k = xk
          · rw [if_pos e, e, look_fork, if_neg h0, hnn]
          · rw [if_neg e]
end Go.Proofs.YtmflbchiapdhbaaGreatDoor
