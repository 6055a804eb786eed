/-
  Package codec: how a Writer lies in memory, and what 'refuse' does to it.
-/
import Derived.Test.YtfjflnlcjnhmmaaDoorObj
import Derived.Test.YtfjflnlcjnhmmaaDoorProg
namespace Go.Proofs.YtfjflnlcjnhmmaaDoor
open Go.RowKit

/-- What is wrong, as an error in memory: nil where e is 0, else a *refusal of the object's own. -/
def ErrAt (S : Nat → Prop) (w : World) (ev : Value) (e : Int) : Prop :=
  (e = 0 ∧ ev = .nilIface) ∨
  (e ≠ 0 ∧ ∃ k, S k ∧ ev = .iface 84 (.pointer (some ⟨k, 0, none⟩)) ∧ w.heap[k]? = some (.cells #[.int .i64 e] 88 (0, 0)))

/-- A Writer at block b: bytes and what was wrong first. -/
def WRep (S : Nat → Prop) (w : World) (b : Nat) (st : List UInt8 × Int) : Prop :=
  S b ∧ Lives S w ∧ ∃ v ev, w.heap[b]? = some (.cells #[v, ev] 73 (0, 0)) ∧
    w.ownsRow 0 5 1 v st.1.length (u8s st.1) ∧ (∀ g, v.ownBlock = some g → S g) ∧ ErrAt S w ev st.2

/-- an error that is there stays where nothing of the object's is written -/
theorem ErrAt.keeps {S S' T : Nat → Prop} {w w' : World} {ev : Value} {e : Int} (h : ErrAt S w ev e) (hk : Keeps T w w') (hn : ∀ k, S k → ¬ T k) (hs : ∀ k, S k → S' k) : ErrAt S' w' ev e := by
  rcases h with h | ⟨h0, k, hk', h1, h2⟩
  · exact .inl h
  · exact .inr ⟨h0, k, hs k hk', h1, hk.at_ h2 (hn k hk')⟩
theorem WRep.keeps {S T : Nat → Prop} {w w' : World} {b : Nat} {st : List UInt8 × Int} (h : WRep S w b st) (hk : Keeps T w w') (hn : ∀ k, S k → ¬ T k) : WRep S w' b st := by
  obtain ⟨hS, hlt, v, ev, hb, hrow, hown, he⟩ := h
  exact ⟨hS, hlt.keeps hk, v, ev, hk.at_ hb (hn b hS), ownsRow_keeps hrow hk (fun g hg => hn g (hown g hg)), hown, he.keeps hk hn (fun _ h => h)⟩

set_option maxHeartbeats 400000 in
theorem refuse_any (S : Nat → Prop) (b : Nat) (st : List UInt8 × Int) (f : Int) (w : World) (hf : f ≠ 0) (h : WRep S w b st) :
    Calls Tryd.prog 52 #[.pointer (some ⟨b, 0, none⟩), .int .i64 f] w fun e w' => e = .returned (.tuple #[]) ∧ Acts S w w' fun S' => WRep S' w' b (st.1, first st.2 f) := by
  obtain ⟨hS, hlt, v, ev, hb, hrow, hown, he⟩ := h
  have c0 := cell_at hb 0
  have c1 := cell_at hb 1
  have f1 := free_at hb 1
  have hbl := lt_of_block hb
  simp at c0 c1
  rcases he with ⟨h0, rfl⟩ | ⟨h0, k, hk, rfl, hkk⟩
  · go_enter Tryd.func52, Tryd.ntmps52
    go_wp2
    go_end0
    refine ⟨rfl, fun k => S k ∨ k = w.heap.size, fun k h => orr h fun h => by subst h; simp, ((Keeps.refl S w).setCell (fun _ => hS) _).alloc _, .inl hS, hlt.grows hS (by simp) (fun k h => orr h fun h => by subst h; simp), v, _, ?_, ?_, fun g hg => .inl (hown g hg), .inr ⟨?_, w.heap.size, .inr rfl, rfl, ?_⟩⟩
    · rw [Below.heap_alloc _ _ _ (by simpa using hbl)]; exact heap_setCell_at hb 1 _
    · refine (ownsRow_setCell_ne hrow (fun h => ?_) _).alloc _
      rcases hrow.2 with ⟨rfl, _⟩ | ⟨g, cap, cur, rfl, _, hg, _⟩
      · cases h
      · simp [Value.ownBlock] at h
        subst h; rw [hg] at hb; cases hb
    · simpa [first, h0] using hf
    · have := heap_size_alloc (w.setCell ⟨b, 1, none⟩ (.iface 84 (.pointer (some ⟨w.heap.size, 0, none⟩)))) (.cells #[Value.int IntKind.i64 f] 88)
      simp only [World.size_setCell] at this
      simpa [first, h0] using this
  · go_enter Tryd.func52, Tryd.ntmps52
    go_wp2
    go_end0
    exact ⟨rfl, .same ⟨hS, hlt, v, _, hb, hrow, hown, by simp only [first, if_neg h0]; exact .inr ⟨h0, k, hk, rfl, hkk⟩⟩⟩
end Go.Proofs.YtfjflnlcjnhmmaaDoor
