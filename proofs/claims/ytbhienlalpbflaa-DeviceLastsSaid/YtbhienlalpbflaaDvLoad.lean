/-
  The device: Load.
-/
import Derived.Test.YtbhienlalpbflaaDvFormed
import Derived.Test.YtbhienlalpbflaaDvPlain
import Derived.Test.YtbhienlalpbflaaDvCloneShelf
namespace Go.Proofs.Ytbhienlalpbflaa
open Go.RowKit Go.Maps

theorem own_of_row {w : World} {B : Nat} {e : TypeId} {size : Nat} {v : Value} {n : Nat} {xs : List Value} (h : w.ownsRow B e size v n xs) : w.ownsRow 0 e size v n xs ∧ ∀ g, v.ownBlock = some g → B ≤ g :=
  ⟨⟨h.1, h.2.imp id fun ⟨g, cap, cur, he, _, r⟩ => ⟨g, cap, cur, he, Nat.zero_le _, r⟩⟩, fun g hg => (h.lt g hg).1⟩
theorem map_keeps {S : Nat → Prop} {w w' : World} {P : Program} {k : TypeId} {R : Value → Option (DD × List MemPlace)} {b n : Nat} {D : DD} (h : w.ownsMap P k R b n D) (f : Keeps S w w') (hb : ¬ S b) : w'.ownsMap P k R b n D := by
  obtain ⟨es, clock, h1, r⟩ := h
  exact ⟨es, clock, f.at_ h1 hb, r⟩

/-- slices.Clone, of a list of texts -/
theorem clone_any (v : Value) (l : List (List UInt8)) (w : World) (h : TextsAt w v l) (hl : l.length ≤ 1000000) :
    Calls Try.prog 31 #[v] w fun e w' => ∃ v', e = .returned v' ∧ OwnTexts w.heap.size w' v' l ∧ Fresh w w' := by
  obtain ⟨ao, cap, rfl, hc⟩ := h
  have fr : ∀ w', Below w.heap.size w w' → Fresh w w' := fun w' hb => (Keeps.of_below hb).mono fun k hk hk2 => absurd hk (by omega)
  cases l with
  | nil =>
    cases ao with
    | none =>
      refine (Try.slices_Clone_string_nil 0 cap w).mono ?_
      rintro e w' ⟨rfl, rfl⟩
      exact ⟨_, rfl, ⟨World.ownsRow_nil _ _ _ _, fun _ h => nomatch h⟩, Keeps.refl _ _⟩
    | some a =>
      refine (Try.slices_Clone_string_zero a cap w).mono ?_
      rintro e w' ⟨v', rfl, hrow, -, hb⟩
      exact ⟨v', rfl, own_of_row hrow, fr _ hb⟩
  | cons x r =>
    obtain ⟨bb, off, rfl, hbb, -⟩ := hc 0 x rfl
    refine (Try.slices_Clone_string bb off (x :: r).length cap ((x :: r).map str) w (by simp) (by omega) (fun j hj => ?_)).mono ?_
    · have hj2 : j < (x :: r).length := by simpa using hj
      obtain ⟨b2, o2, he, -, hcell⟩ := hc j (x :: r)[j] (List.getElem?_eq_getElem hj2)
      simp only [Option.some.injEq, Addr.mk.injEq, and_true] at he
      rw [he.1, he.2, hcell, List.getD, List.getElem?_map, List.getElem?_eq_getElem hj2]
      rfl
    · rintro e w' ⟨v', rfl, hrow, -, hb⟩
      refine ⟨v', rfl, ?_, fr _ hb⟩
      have h2 := own_of_row hrow
      have e1 : (((x :: r).map str).take (x :: r).length).map Value.string = texts (x :: r) := by
        rw [List.take_of_length_le (by simp)]
        simp [texts]
      rw [e1] at h2
      exact h2

/-- a list of texts in blocks of its own, all of them among these -/
def OwnIn (B : Nat → Prop) (w : World) (v : Value) (l : List (List UInt8)) : Prop := w.ownsRow 0 9 1 v l.length (texts l) ∧ ∀ g, v.ownBlock = some g → B g
theorem OwnIn.at_ {B : Nat → Prop} {w : World} {v : Value} {l : List (List UInt8)} (h : OwnIn B w v l) : TextsAt w v l := OwnTexts_at h.1
theorem OwnIn.fresh {B : Nat → Prop} {w w' : World} {v : Value} {l : List (List UInt8)} (h : OwnIn B w v l) (f : Fresh w w') : OwnIn B w' v l := ⟨ownsRow_keeps h.1 f (fun _ _ h => h), h.2⟩
/-- a device in memory: its pages, what is pending, is it dead, when does it die -/
structure Dev (B : Nat → Prop) (w : World) (d : Nat) (l : List (List UInt8)) (D : DD) (n : Nat) (dead : Bool) (armed : Int) : Prop where
  ex : ∃ pv mb, w.heap[d]? = some (.cells #[pv, .map (some mb), .bool dead, .int .i64 armed] 82 (0, 0)) ∧ OwnIn B w pv l ∧ w.ownsMap Try.prog 3 (plainElem Try.prog 9) mb n D ∧ B mb ∧ B d
theorem Dev.fresh {B : Nat → Prop} {w w' : World} {d : Nat} {l : List (List UInt8)} {D : DD} {n : Nat} {dead : Bool} {armed : Int} (h : Dev B w d l D n dead armed) (f : Fresh w w') : Dev B w' d l D n dead armed := by
  obtain ⟨pv, mb, h1, h2, h3, h4⟩ := h.ex
  exact ⟨⟨pv, mb, f.at_ h1 (fun h => h), h2.fresh f, map_keeps h3 f (fun h => h), h4⟩⟩

def Loaded (w w' : World) (l : List (List UInt8)) (ev : Int) (p : Option Addr) : Prop := (ev ≠ 0 ∧ p = none) ∨ (ev = 0 ∧ ∃ d, p = some ⟨d, 0, none⟩ ∧ w.heap.size ≤ d ∧ Dev (fun q => w.heap.size ≤ q ∧ q < w'.heap.size) w' d l (.map []) 0 false 0)
def loadErr (l : List (List UInt8)) : Int := if l.length < 4 ∨ 4096 < l.length then 1 else if every256 l = true then 0 else 91

set_option maxRecDepth 100000 in
set_option maxHeartbeats 2000000 in
theorem load_any (v : Value) (l : List (List UInt8)) (w : World) (h : TextsAt w v l) (hll : l.length ≤ 9223372036854775807) (hs : ∀ s ∈ l, s.length ≤ 9223372036854775807) :
    Calls Try.prog 11 #[v] w fun e w' => ∃ p, e = .returned (.tuple #[.pointer p, .int .i64 (loadErr l)]) ∧ Fresh w w' ∧ Loaded w w' l (loadErr l) p := by
  have hcon := contains_any v l w h hll hs
  have h' := h
  obtain ⟨ao, cap, rfl, -⟩ := h'
  by_cases h4 : l.length < 4 ∨ 4096 < l.length
  · have hE : loadErr l = 1 := by rw [loadErr, if_pos h4]
    rw [hE]
    have h41 : ((l.length : Int) < 4) ∨ (4096 : Int) < (l.length : Int) := by omega
    clear hcon h hs hE h4
    by_cases h5 : (l.length : Int) < 4
    · go_enter Try.func11, Try.ntmps11
      go_wp2_with fail
      go_ret2
      exact ⟨none, rfl, Keeps.refl _ _, .inl ⟨by omega, rfl⟩⟩
    · have h6 : (4096 : Int) < (l.length : Int) := h41.resolve_left h5
      clear h41
      go_enter Try.func11, Try.ntmps11
      go_wp2_with fail
      go_ret2
      exact ⟨none, rfl, Keeps.refl _ _, .inl ⟨by omega, rfl⟩⟩
  · have h5 : ¬ (l.length : Int) < 4 := by omega
    have h6 : ¬ (4096 : Int) < (l.length : Int) := by omega
    have hclone := clone_any _ l w h (by omega)
    cases hev : every256 l with
    | false =>
      have hE : loadErr l = 91 := by rw [loadErr, if_neg h4, hev]; rfl
      rw [hE]
      rw [hev] at hcon
      have HCON := hid hcon
      clear hcon h hs hE h4 hclone hev
      go_enter Try.func11, Try.ntmps11
      go_wp2_with fail
      refine HCON.out.mono ?_
      rintro e w1 ⟨rfl, rfl⟩
      go_wp2_with fail
      go_ret2
      exact ⟨none, rfl, Keeps.refl _ _, .inl ⟨by omega, rfl⟩⟩
    | true =>
      have hE : loadErr l = 0 := by rw [loadErr, if_neg h4, hev]; rfl
      rw [hE]
      rw [hev] at hcon
      have HCON := hid hcon
      have HCLONE := hid hclone
      have hmm := @run_makeMap Try.prog
      clear hcon h hs hE h4 hclone hev
      go_enter Try.func11, Try.ntmps11
      go_wp2_with fail
      refine HCON.out.mono ?_
      rintro e w1 ⟨rfl, rfl⟩
      go_wp2_with fail
      refine HCLONE.out.mono ?_
      rintro e w1 ⟨v', rfl, hown, f1⟩
      obtain ⟨ao2, cp2, rfl⟩ := ownsRow_slice hown.1
      go_wp2_with fail
      go_ret2
      have g1 : Fresh w1 (w1.alloc (.map #[] 0)) := (Keeps.refl _ _).alloc _
      have g2 : Fresh (w1.alloc (.map #[] 0)) ((w1.alloc (.map #[] 0)).alloc (.cells #[.slice ao2 l.length cp2, .map (some w1.heap.size), .bool false, .int .i64 0] 82)) := (Keeps.refl _ _).alloc _
      have hs1 := f1.size
      have hblk := heap_alloc_new (w1.alloc (.map #[] 0)) (.cells #[.slice ao2 l.length cp2, .map (some w1.heap.size), .bool false, .int .i64 0] 82)
      rw [World.size_alloc] at hblk
      exact ⟨some ⟨w1.heap.size + 1, 0, none⟩, rfl, (f1.trans g1).trans g2, .inr ⟨rfl, w1.heap.size + 1, rfl, by omega, ⟨⟨_, w1.heap.size, hblk, ⟨((hown.fresh g1).fresh g2).1, fun g hg => ⟨hown.2 g hg, Nat.lt_of_lt_of_le (hown.1.lt g hg).2 (g1.trans g2).size⟩⟩, map_keeps (World.ownsMap_made _ _ _ _) g2 (fun h => h), ⟨hs1, by simp only [World.size_alloc]; omega⟩, ⟨by omega, by simp only [World.size_alloc]; omega⟩⟩⟩⟩⟩
end Go.Proofs.Ytbhienlalpbflaa
