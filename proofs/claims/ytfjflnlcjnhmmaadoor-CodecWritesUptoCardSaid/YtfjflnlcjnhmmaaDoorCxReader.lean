/-
  Package codec: how a Reader lies in memory; 'refuse' and 'take'.
-/
import Derived.Test.YtfjflnlcjnhmmaaDoorCxTold
import Derived.BigRegion
import Derived.BigQuiet
import Derived.Deep.QuietTactic
namespace Go.Proofs.YtfjflnlcjnhmmaaDoor
open Go.RowKit

/-- A Reader: what is left, how many are taken, what is wrong. -/
abbrev RSt := List UInt8 × Nat × Int

def RRep (S : Nat → Prop) (w : World) (b : Nat) (r : RSt) : Prop :=
  S b ∧ Lives S w ∧ r.2.1 + r.1.length ≤ 9223372036854775807 ∧ ∃ ev, w.heap[b]? = some (.cells #[.string (str r.1), .int .i64 (r.2.1 : Int), ev] 68 (0, 0)) ∧ ErrAt S w ev r.2.2

theorem RRep.keeps {S T : Nat → Prop} {w w' : World} {b : Nat} {r : RSt} (h : RRep S w b r) (hk : Keeps T w w') (hn : ∀ k, S k → ¬ T k) : RRep S w' b r := by
  obtain ⟨hS, hlt, hle, ev, hb, he⟩ := h
  exact ⟨hS, hlt.keeps hk, hle, ev, hk.at_ hb (hn b hS), he.keeps hk hn (fun _ h => h)⟩
theorem RRep.fresh {S : Nat → Prop} {w w' : World} {b : Nat} {r : RSt} (h : RRep S w b r) (hk : Fresh w w') : RRep S w' b r := h.keeps hk fun _ _ h => h

theorem RRep.cells {S : Nat → Prop} {w : World} {b : Nat} {r : RSt} (h : RRep S w b r) :
    ∃ ev, w.cell? ⟨b, 0, none⟩ = some (.string (str r.1)) ∧ w.cell? ⟨b, 1, none⟩ = some (.int .i64 (r.2.1 : Int)) ∧ w.cell? ⟨b, 2, none⟩ = some ev ∧
      w.frozen? ⟨b, 0, none⟩ = false ∧ w.frozen? ⟨b, 1, none⟩ = false ∧ w.frozen? ⟨b, 2, none⟩ = false ∧ b < w.heap.size ∧ ErrAt S w ev r.2.2 ∧ r.2.1 + r.1.length ≤ 9223372036854775807 := by
  obtain ⟨_, hlt, hle, ev, hb, he⟩ := h
  exact ⟨ev, cell_at hb 0, cell_at hb 1, cell_at hb 2, free_at hb 0, free_at hb 1, free_at hb 2, lt_of_block hb, he, hle⟩

/-- what is left and what is taken are stored -/
theorem RRep.moved {S : Nat → Prop} {w : World} {b : Nat} {r : RSt} (h : RRep S w b r) (l : List UInt8) (t : Nat) (ht : t + l.length ≤ 9223372036854775807) :
    Acts S w ((w.setCell ⟨b, 0, none⟩ (.string (str l))).setCell ⟨b, 1, none⟩ (.int .i64 (t : Int))) fun S' => RRep S' ((w.setCell ⟨b, 0, none⟩ (.string (str l))).setCell ⟨b, 1, none⟩ (.int .i64 (t : Int))) b (l, t, r.2.2) := by
  obtain ⟨hS, hlt, hle, ev, hb, he⟩ := h
  refine ⟨S, fun _ h => .inl h, ((Keeps.refl S w).setCell (fun _ => hS) _).setCell (fun _ => hS) _, hS, fun k hk => by simpa using hlt k hk, ht, ev, heap_setCell_at (heap_setCell_at hb 0 _) 1 _, ?_⟩
  rcases he with h | ⟨h0, k, hk, h1, h2⟩
  · exact .inl h
  · have hne : k ≠ b := fun e => by subst e; rw [hb] at h2; cases h2
    exact .inr ⟨h0, k, hk, h1, by rw [heap_setCell_ne _ _ _ _ hne, heap_setCell_ne _ _ _ _ hne]; exact h2⟩
theorem RRep.moved_drew {S : Nat → Prop} {w : World} {b : Nat} {r : RSt} (h : RRep S w b r) (l : List UInt8) (t : Nat) (ht : t + l.length ≤ 9223372036854775807) :
    Acts S w ((w.setCell ⟨b, 0, none⟩ (.string (str l))).setCell ⟨b, 1, none⟩ (.int .i64 ((t : Nat) : Int))).drew fun S' => RRep S' ((w.setCell ⟨b, 0, none⟩ (.string (str l))).setCell ⟨b, 1, none⟩ (.int .i64 ((t : Nat) : Int))).drew b (l, t, r.2.2) := by
  obtain ⟨S', h1, h2, h3⟩ := h.moved l t ht
  exact ⟨S', h1, h2.drew, h3⟩

def rRefuse (r : RSt) (f : Int) : RSt := (r.1, r.2.1, first r.2.2 f)

set_option maxHeartbeats 400000 in
theorem rrefuse_any (S : Nat → Prop) (b : Nat) (r : RSt) (f : Int) (w : World) (hf : f ≠ 0) (h : RRep S w b r) :
    Calls Tryd.prog 60 #[.pointer (some ⟨b, 0, none⟩), .int .i64 f] w fun e w' => e = .returned (.tuple #[]) ∧ Acts S w w' fun S' => RRep S' w' b (rRefuse r f) := by
  obtain ⟨ev, c0, c1, c2, f0, f1, f2, hbl, he, hle⟩ := h.cells
  obtain ⟨hS, hlt, _, ev', hb, _⟩ := h
  have e1 : ev' = ev := by rw [cell_at hb 2] at c2; simpa using c2
  subst e1
  rcases he with ⟨h0, rfl⟩ | ⟨h0, k, hk, rfl, hkk⟩
  · go_enter Tryd.func60, Tryd.ntmps60
    go_wp2
    go_end0
    refine ⟨rfl, fun k => S k ∨ k = w.heap.size, fun k h => orr h fun h => by subst h; simp, ((Keeps.refl S w).setCell (fun _ => hS) _).alloc _, .inl hS, hlt.grows hS (by simp) (fun k h => orr h fun h => by subst h; simp), hle, _, ?_, .inr ⟨?_, w.heap.size, .inr rfl, rfl, ?_⟩⟩
    · rw [Below.heap_alloc _ _ _ (by simpa using hbl)]; exact heap_setCell_at hb 2 _
    · simpa [rRefuse, first, h0] using hf
    · have := heap_size_alloc (w.setCell ⟨b, 2, none⟩ (.iface 84 (.pointer (some ⟨w.heap.size, 0, none⟩)))) (.cells #[Value.int IntKind.i64 f] 88)
      simp only [World.size_setCell] at this
      simpa [rRefuse, first, h0] using this
  · go_enter Tryd.func60, Tryd.ntmps60
    go_wp2
    go_end0
    exact ⟨rfl, .same ⟨hS, hlt, hle, _, hb, by simp only [rRefuse, first, if_neg h0]; exact .inr ⟨h0, k, hk, rfl, hkk⟩⟩⟩

/-- take -/
def rTake (r : RSt) (n : Nat) : List UInt8 × RSt :=
  if r.2.2 ≠ 0 then ([], r) else if r.1.length < n then ([], rRefuse r 21) else (r.1.take n, (r.1.drop n, r.2.1 + n, r.2.2))

set_option maxRecDepth 100000 in
set_option maxHeartbeats 1000000 in
theorem rtake_any (S : Nat → Prop) (b : Nat) (r : RSt) (n : Nat) (w : World) (hn : n ≤ 4611686018427387904) (h : RRep S w b r) :
    Calls Tryd.prog 55 #[.pointer (some ⟨b, 0, none⟩), .int .i64 n] w fun e w' => e = .returned (.string (str (rTake r n).1)) ∧ Acts S w w' fun S' => RRep S' w' b (rTake r n).2 := by
  obtain ⟨ev, c0, c1, c2, f0, f1, f2, hbl, he, hle⟩ := h.cells
  have hsz := str_size r.1
  by_cases h0 : r.2.2 = 0
  · have hev : ev = .nilIface := by
      rcases he with ⟨_, h⟩ | ⟨h1, _⟩
      · exact h
      · exact absurd h0 h1
    subst hev
    clear he
    have H0 : Hid (r.2.2 = 0) := h0
    clear h0
    by_cases h1 : r.1.length < n
    · have hfin : Hid (rTake r n = ([], rRefuse r 21)) := by simp [Hid, rTake, H0.out, h1]
      go_enter Tryd.func55, Tryd.ntmps55
      go_wp2_with (go_at_call 60; refine (rrefuse_any S b r 21 _ (by decide) h).mono ?_; rintro e w' ⟨rfl, hA⟩)
      go_ret
      rw [hfin.out]
      exact ⟨rfl, hA⟩
    · have hfin : Hid (rTake r n = (r.1.take n, (r.1.drop n, r.2.1 + n, r.2.2))) := by simp [Hid, rTake, H0.out, h1]
      have ht := str_to r.1 n
      have hf := str_from r.1 n
      have hnl : n ≤ r.1.length := by omega
      go_enter Tryd.func55, Tryd.ntmps55
      go_wp2
      go_region
      go_wp2
      go_ret
      rw [hfin.out]
      exact ⟨rfl, RRep.moved_drew h _ (r.2.1 + n) (by simp; omega)⟩
  · have hfin : Hid (rTake r n = ([], r)) := by simp [Hid, rTake, h0]
    obtain ⟨k, hk, rfl, hkk⟩ : ∃ k, S k ∧ ev = .iface 84 (.pointer (some ⟨k, 0, none⟩)) ∧ w.heap[k]? = some (.cells #[.int .i64 r.2.2] 88 (0, 0)) := by
      rcases he with ⟨h1, _⟩ | ⟨_, h⟩
      · exact absurd h1 h0
      · exact h
    go_enter Tryd.func55, Tryd.ntmps55
    go_wp2
    go_ret
    rw [hfin.out]
    exact ⟨rfl, .same h⟩
end Go.Proofs.YtfjflnlcjnhmmaaDoor
