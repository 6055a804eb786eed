/-
  One step of the two writers, whatever it is; the two pairs of writers in memory.
-/
import Derived.Test.YtfjflnlcjnhmmaaDoorXwStepA
import Derived.Test.YtfjflnlcjnhmmaaDoorXwStepB
import Derived.Test.YtfjflnlcjnhmmaaDoorXwStepC
import Derived.Test.YtfjflnlcjnhmmaaDoorXwStepD
namespace Go.Proofs.YtfjflnlcjnhmmaaDoor
open Go.RowKit

/-- one step, as it was handed in -/
structure SOp where
  other : Bool
  kept : Bool
  k : Int
  n : Int
  m : Int
  s : List UInt8
  l : List Int
  t : List (List UInt8)
def SOp.Small (o : SOp) : Prop := o.s.length ≤ 1048576 ∧ o.l.length ≤ 1048576 ∧ o.t.length ≤ 1048576 ∧ bulk o.t ≤ 11534336 ∧ ∀ x ∈ o.l, -9223372036854775808 ≤ x ∧ x ≤ 9223372036854775807
def NilOr (v : Value) : Prop := v = .slice none 0 0 ∨ ∃ a n cap, v = .slice (some a) n cap

theorem step_any (S : Nat → Prop) (a c : Nat) (A X : List UInt8 × Int) (o : SOp) (lv tv : Value) (w : World) (hw : WRep S w a A) (hx : XRep w c X) (hS : ¬ S c) (hl : Laid w) (hal : Alike A X)
    (hlv : ListAt w lv (ints o.l)) (hln : NilOr lv) (hlB : o.l ≠ [] → ∀ g, lv.ownBlock = some g → g < w.heap.size ∧ ¬ S g ∧ g ≠ c) (htv : ListAt w tv (texts o.t)) (htn : NilOr tv) (htB : o.t ≠ [] → ∀ g, tv.ownBlock = some g → g < w.heap.size ∧ ¬ S g ∧ g ≠ c)
    (hsm : o.Small) (hA : A.1.length ≤ 10000000000) (hX : X.1.length ≤ 10000000000) :
    Calls Tryd.prog 17 #[.agg #[.pointer (some ⟨a, 0, none⟩), .pointer (some ⟨c, 0, none⟩)], .agg #[.bool o.other, .bool o.kept, .int .i64 o.k, .int .i64 o.n, .int .i64 o.m, .string (str o.s), lv, tv]] w
      fun e w' => e = .returned (.bool true) ∧ ∃ A' X', Stepped S a c w w' A' X' ∧ Alike A' X' ∧ A'.1.length ≤ A.1.length + 25000000 ∧ X'.1.length ≤ X.1.length + 25000000 := by
  obtain ⟨ob, kb, k, n, m, s, l, t⟩ := o
  obtain ⟨hs, hll, htl, hbt, hi⟩ := hsm
  simp only at *
  by_cases h1 : k = 1
  · subst h1
    refine (step1_any S a c A X _ _ _ _ _ _ n w hw hx hS hl hal (by omega) (by omega)).mono ?_
    rintro e w' ⟨rfl, h⟩
    have h1 := byte_len A n
    have h2 := byte_len X n
    exact ⟨rfl, _, _, h, hal.byte n, by omega, by omega⟩
  by_cases h2 : k = 2
  · subst h2
    refine (step2_any S a c A X _ _ _ _ _ _ n w hw hx hS hl hal (by omega) (by omega)).mono ?_
    rintro e w' ⟨rfl, h⟩
    have h1 := num_len A n
    have h2 := num_len X n
    exact ⟨rfl, _, _, h, hal.num n, by omega, by omega⟩
  by_cases h3 : k = 3
  · subst h3
    refine (step3_any S a c A X _ _ _ _ _ lv kb l w hw hx hS hl hal hlv hln hlB hi (by omega) (by omega) (by omega)).mono ?_
    rintro e w' ⟨rfl, h⟩
    have h1 := rising_len A l (by omega)
    have h2 := rising_len X l (by omega)
    have h3 := rising_len (wRising A l) (thrice l.length) (by rw [thrice_len]; omega)
    have h4 := rising_len (wRising X l) (thrice l.length) (by rw [thrice_len]; omega)
    rw [thrice_len] at h3 h4
    refine ⟨rfl, _, _, h, ?_, ?_, ?_⟩
    · cases kb
      · exact hal.rising l
      · exact (hal.rising l).rising _
    · cases kb
      · simp only [Bool.false_eq_true, if_false]; omega
      · simp only [if_true]; omega
    · cases kb
      · simp only [Bool.false_eq_true, if_false]; omega
      · simp only [if_true]; omega
  by_cases h4 : k = 4
  · subst h4
    refine (step4_any S a c A X _ _ _ _ _ n s w hw hx hS hl hal (by omega) (by omega)).mono ?_
    rintro e w' ⟨rfl, h⟩
    have h1 := wText_len A s n (by omega)
    have h2 := wText_len X s n (by omega)
    exact ⟨rfl, _, _, h, hal.text s n, by omega, by omega⟩
  have hbr := bulk_reverse t
  have hlr : t.reverse.length = t.length := by simp
  by_cases h5 : k = 5
  · subst h5
    refine (step5_any S a c A X _ _ _ tv kb n m t w hw hx hS hl hal htv htn htB (by omega) (by omega) (by omega)).mono ?_
    rintro e w' ⟨rfl, h⟩
    have h1 := texts_len A t n m (by omega)
    have h2 := xtexts_len X t n m (by omega)
    have h3 := texts_len (wTexts A t n m) t.reverse n m (by omega)
    have h4 := xtexts_len (xTexts X t n m) t.reverse n m (by omega)
    refine ⟨rfl, _, _, h, ?_, ?_, ?_⟩
    · cases kb
      · exact hal.texts t n m (by omega)
      · exact (hal.texts t n m (by omega)).texts _ n m (by omega)
    · cases kb
      · simp only [Bool.false_eq_true, if_false]; omega
      · simp only [if_true]; omega
    · cases kb
      · simp only [Bool.false_eq_true, if_false]; omega
      · simp only [if_true]; omega
  by_cases h6 : k = 6
  · subst h6
    refine (step6_any S a c A X _ _ _ _ tv kb n t w hw hx hS hl hal htv htn htB (by omega) (by omega) (by omega)).mono ?_
    rintro e w' ⟨rfl, h⟩
    have h1 := hashes_len A t n
    have h2 := xhashes_len X t n (by omega)
    have h3 := hashes_len (wHashes A t n) t.reverse n
    have h4 := xhashes_len (xHashes X t n) t.reverse n (by omega)
    refine ⟨rfl, _, _, h, ?_, ?_, ?_⟩
    · cases kb
      · exact hal.hashes t n (by omega)
      · exact (hal.hashes t n (by omega)).hashes _ n (by omega)
    · cases kb
      · simp only [Bool.false_eq_true, if_false]; omega
      · simp only [if_true]; omega
    · cases kb
      · simp only [Bool.false_eq_true, if_false]; omega
      · simp only [if_true]; omega
  by_cases h7 : k = 7
  · subst h7
    refine (step7_any S a c A X _ _ _ _ _ _ s w hw hx hS hl hal (by omega) (by omega)).mono ?_
    rintro e w' ⟨rfl, h⟩
    have h1 := raw_len A s
    have h2 := raw_len X s
    exact ⟨rfl, _, _, h, hal.raw s, by omega, by omega⟩
  · refine (step0_any S a c A X _ _ _ _ _ _ _ k w hw hx hS hl hal (by omega)).mono ?_
    rintro e w' ⟨rfl, h⟩
    exact ⟨rfl, _, _, h, hal, by omega, by omega⟩

/-- two pairs of writers, each in a block of two pointers; all of it came since w0 -/
structure Both (w0 : World) (a c b d pa pb : Nat) (Sa Sb : Nat → Prop) (w : World) (A X B Y : List UInt8 × Int) : Prop where
  fresh : Fresh w0 w
  wa : WRep Sa w a A
  xa : XRep w c X
  la : Alike A X
  wb : WRep Sb w b B
  xb : XRep w d Y
  lb : Alike B Y
  na : ∀ k, Sa k → w0.heap.size ≤ k ∧ ¬ Sb k ∧ k ≠ c ∧ k ≠ d ∧ k ≠ pa ∧ k ≠ pb
  nb : ∀ k, Sb k → w0.heap.size ≤ k ∧ k ≠ c ∧ k ≠ d ∧ k ≠ pa ∧ k ≠ pb
  cs : w0.heap.size ≤ c ∧ w0.heap.size ≤ d ∧ c ≠ d ∧ pa ≠ c ∧ pa ≠ d ∧ pb ≠ c ∧ pb ≠ d ∧ pa ≠ pb
  box1 : w.heap[pa]? = some (.cells #[.pointer (some ⟨a, 0, none⟩), .pointer (some ⟨c, 0, none⟩)] 40 (0, 0))
  box2 : w.heap[pb]? = some (.cells #[.pointer (some ⟨b, 0, none⟩), .pointer (some ⟨d, 0, none⟩)] 40 (0, 0))
  laid : Laid w
namespace Both
variable {w0 : World} {a c b d pa pb : Nat} {Sa Sb : Nat → Prop} {w : World} {A X B Y : List UInt8 × Int}
theorem swap (h : Both w0 a c b d pa pb Sa Sb w A X B Y) : Both w0 b d a c pb pa Sb Sa w B Y A X := by
  obtain ⟨h1, h2, h3, h4, h5, h6, h7, h8, h9, h10, h11, h12, h13⟩ := h
  obtain ⟨c1, c2, c3, c4, c5, c6, c7, c8⟩ := h10
  exact ⟨h1, h5, h6, h7, h2, h3, h4, fun k hk => by
    obtain ⟨n1, n2, n3, n4, n5⟩ := h9 k hk
    exact ⟨n1, fun ha => (h8 k ha).2.1 hk, n3, n2, n5, n4⟩, fun k hk => by
    obtain ⟨n1, _, n2, n3, n4, n5⟩ := h8 k hk
    exact ⟨n1, n3, n2, n5, n4⟩, ⟨c2, c1, c3.symm, c7, c6, c5, c4, c8.symm⟩, h12, h11, h13⟩
theorem next {w' : World} (h : Both w0 a c b d pa pb Sa Sb w A X B Y) (hk : Fresh w w') : Both w0 a c b d pa pb Sa Sb w' A X B Y := by
  obtain ⟨h1, h2, h3, h4, h5, h6, h7, h8, h9, h10, h11, h12, h13⟩ := h
  exact ⟨h1.trans hk, h2.keeps hk (fun _ _ h => h), h3.keeps hk (fun h => h), h4, h5.keeps hk (fun _ _ h => h), h6.keeps hk (fun h => h), h7, h8, h9, h10, hk.at_ h11 (fun h => h), hk.at_ h12 (fun h => h), h13.keeps hk (fun h => h)⟩
theorem stepped {w' : World} {A' X' : List UInt8 × Int} (h : Both w0 a c b d pa pb Sa Sb w A X B Y) (hs : Stepped Sa a c w w' A' X') (hal : Alike A' X') : ∃ Sa', Both w0 a c b d pa pb Sa' Sb w' A' X' B Y := by
  obtain ⟨S', hg, hk, hw, hx, hn⟩ := hs
  obtain ⟨h1, h2, h3, h4, h5, h6, h7, h8, h9, h10, h11, h12, h13⟩ := h
  obtain ⟨c1, c2, c3, c4, c5, c6, c7, c8⟩ := h10
  have lpa := lt_of_block h11
  have lpb := lt_of_block h12
  have lc := h3.cells.2.2.2.2
  have ld := h6.cells.2.2.2.2
  have hsz := h1.size
  have hg0 := World.block_lt_of_cell? w _ h13
  simp only at hg0
  refine ⟨S', h1.trans' hk fun i hi ht => ?_, hw, hx, hal, h5.keeps hk fun k hb ht => ?_, h6.keeps hk fun ht => ?_, h7, fun k hk' => ?_, h9, ⟨c1, c2, c3, c4, c5, c6, c7, c8⟩, hk.at_ h11 fun ht => ?_, hk.at_ h12 fun ht => ?_, h13.keeps hk fun ht => ?_⟩
  · rcases ht with ht | ht
    · have := (h8 i ht).1; omega
    · omega
  · rcases ht with ht | ht
    · exact (h8 k ht).2.1 hb
    · exact (h9 k hb).2.1 ht
  · rcases ht with ht | ht
    · exact (h8 _ ht).2.2.2.1 rfl
    · omega
  · rcases hg k hk' with h | h
    · obtain ⟨n1, n2, n3, n4, n5, n6⟩ := h8 k h
      exact ⟨n1, n2, n3, n4, n5, n6⟩
    · exact ⟨by omega, fun hb => by have := (h5.2.1 k hb).2; omega, by omega, by omega, by omega, by omega⟩
  · rcases ht with ht | ht
    · exact (h8 _ ht).2.2.2.2.1 rfl
    · omega
  · rcases ht with ht | ht
    · exact (h8 _ ht).2.2.2.2.2 rfl
    · omega
  · rcases ht with ht | ht
    · have := (h2.2.1 _ ht).1; omega
    · have := h3.1; change _ = c at ht; omega
end Both
end Go.Proofs.YtfjflnlcjnhmmaaDoor
