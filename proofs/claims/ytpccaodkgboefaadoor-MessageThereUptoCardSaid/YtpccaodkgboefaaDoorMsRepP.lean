/-
  Package message: any field of a reply, taken.
-/
import Derived.Test.YtpccaodkgboefaaDoorMsRepN
namespace Go.Proofs.YtpccaodkgboefaaDoor
open Go.RowKit

theorem RepOwn.split {w : World} {z s a b : Int} {t : List UInt8} {h e : List (List UInt8)} {p : List Rep} {cs : Array Value} {bl : List Nat} (hh : RepOwn w (.mk z s a b t h e p) (.agg cs) bl) :
    ∃ hv ev pv cp b1, cs = #[.int .i64 z, .int .i64 s, .int .i64 a, .int .i64 b, .string (str t), hv, ev, pv] ∧ w.ownsRow 0 9 1 hv h.length (texts h) ∧ w.ownsRow 0 9 1 ev e.length (texts e) ∧
      w.ownsRow 0 42 8 pv p.length cp ∧ ReplsOwn w p cp b1 ∧ bl = hv.ownBlock.toList ++ (ev.ownBlock.toList ++ (pv.ownBlock.toList ++ b1)) := by
  rw [RepOwn] at hh
  obtain ⟨hv, ev, pv, cp, b1, he, h1, h2, h3, h4, h5⟩ := hh
  injection he with he
  exact ⟨hv, ev, pv, cp, b1, he, h1, h2, h3, h4, h5⟩
theorem RepOwn.join {w : World} {z s a b : Int} {t : List UInt8} {h e : List (List UInt8)} {p : List Rep} {hv ev pv : Value} {cp : List Value} {b1 : List Nat} (h1 : w.ownsRow 0 9 1 hv h.length (texts h)) (h2 : w.ownsRow 0 9 1 ev e.length (texts e))
    (h3 : w.ownsRow 0 42 8 pv p.length cp) (h4 : ReplsOwn w p cp b1) : RepOwn w (.mk z s a b t h e p) (.agg #[.int .i64 z, .int .i64 s, .int .i64 a, .int .i64 b, .string (str t), hv, ev, pv]) (hv.ownBlock.toList ++ (ev.ownBlock.toList ++ (pv.ownBlock.toList ++ b1))) := by
  rw [RepOwn]
  exact ⟨hv, ev, pv, cp, b1, rfl, h1, h2, h3, h4, rfl⟩

/-- a reply that is being taken: its struct at br, its lists in blocks of their own, none of them the object's, all made since N -/
structure TakeR (N : Nat) (S : Nat → Prop) (rb br : Nat) (w : World) (r : RSt) (R : Rep) (cs : Array Value) (bl : List Nat) : Prop where
  rep : RRep S w rb r
  box : w.heap[br]? = some (.cells cs 42 (0, 0))
  own : RepOwn w R (.agg cs) bl
  nodup : bl.Nodup
  new : ∀ q ∈ bl, ¬ S q ∧ q ≠ br ∧ N ≤ q
  out : ¬ S br
/-- a list in another's place -/
theorem nodup_swap {α : Type} {x y : List α} {r : List α} (h : (x ++ r).Nodup) (hy : y.Nodup) (hn : ∀ q ∈ y, q ∉ r) : (y ++ r).Nodup := by
  rw [List.nodup_append] at h ⊢
  exact ⟨hy, h.2.1, fun p hp q hq e => by subst e; exact hn p hp hq⟩
theorem nodup_block (v : Value) : v.ownBlock.toList.Nodup := by cases v.ownBlock <;> simp
def FldTaken (N : Nat) (S : Nat → Prop) (rb br : Nat) (w w' : World) (q : Rep × RSt) : Prop := ∃ S' cs bl, XSt S w br S' w' cs ∧ TakeR N S' rb br w' q.2 q.1 cs bl

set_option maxHeartbeats 1000000 in
theorem xfld_r (f : Fld) (N : Nat) (S : Nat → Prop) (rb br : Nat) (r : RSt) (R : Rep) (cs : Array Value) (bl : List Nat) (w : World) (h : TakeR N S rb br w r R cs bl) (hN : N ≤ w.heap.size) (hp : f = .parts → R.replies = [] ∧ cs[7]? = some (.slice none 0 0)) :
    Calls Tryd.prog (fid f) #[aggR rb br] w fun e' w' => e' = .returned (.tuple #[]) ∧ FldTaken N S rb br w w' (rFld f r R) := by
  obtain ⟨hr, hb, hown, hnd, hnew, ho⟩ := h
  have hthere := RepOwn.there _ _ _ hown
  cases R with
  | mk z s a b t h e p =>
    obtain ⟨hv, ev, pv, cp, b1, rfl, h1, h2, h3, h4, rfl⟩ := hown.split
    have av1 : ∀ g, hv.ownBlock = some g → ¬ (S g ∨ g = br) := fun g hg hs => by
      have := hnew g (by simp [mem_ownBlock.2 hg])
      rcases hs with hs | hs
      · exact this.1 hs
      · exact this.2.1 hs
    have av2 : ∀ g, ev.ownBlock = some g → ¬ (S g ∨ g = br) := fun g hg hs => by
      have := hnew g (by simp [mem_ownBlock.2 hg])
      rcases hs with hs | hs
      · exact this.1 hs
      · exact this.2.1 hs
    have av3 : ∀ g, pv.ownBlock = some g → ¬ (S g ∨ g = br) := fun g hg hs => by
      have := hnew g (by simp [mem_ownBlock.2 hg])
      rcases hs with hs | hs
      · exact this.1 hs
      · exact this.2.1 hs
    have av4 : ∀ q ∈ b1, ¬ (S q ∨ q = br) := fun q hq hs => by
      have := hnew q (by simp [hq])
      rcases hs with hs | hs
      · exact this.1 hs
      · exact this.2.1 hs
    have k1 : ∀ {S' : Nat → Prop} {w' : World} {cs : Array Value}, XSt S w br S' w' cs → w'.ownsRow 0 9 1 hv h.length (texts h) := fun X => ownsRow_keeps h1 X.keeps av1
    have k2 : ∀ {S' : Nat → Prop} {w' : World} {cs : Array Value}, XSt S w br S' w' cs → w'.ownsRow 0 9 1 ev e.length (texts e) := fun X => ownsRow_keeps h2 X.keeps av2
    have k3 : ∀ {S' : Nat → Prop} {w' : World} {cs : Array Value}, XSt S w br S' w' cs → w'.ownsRow 0 42 8 pv p.length cp := fun X => ownsRow_keeps h3 X.keeps av3
    have k4 : ∀ {S' : Nat → Prop} {w' : World} {cs : Array Value}, XSt S w br S' w' cs → ReplsOwn w' p cp b1 := fun X => ReplsOwn.keeps X.keeps _ _ _ h4 av4
    have kn : ∀ {S' : Nat → Prop} {w' : World} {cs : Array Value}, XSt S w br S' w' cs → ∀ q ∈ hv.ownBlock.toList ++ (ev.ownBlock.toList ++ (pv.ownBlock.toList ++ b1)), ¬ S' q ∧ q ≠ br ∧ N ≤ q := fun X q hq => ⟨X.notIn (hthere q hq) (hnew q hq).1, (hnew q hq).2⟩
    have hbr := lt_of_block hb
    cases f
    · refine (xsize_r S rb br r z s a b t hv ev _ w hr hb ho).mono ?_
      rintro e' w' ⟨rfl, S', X, W⟩
      exact ⟨rfl, S', _, _, X, W, X.box, RepOwn.join (k1 X) (k2 X) (k3 X) (k4 X), hnd, kn X, X.out⟩
    · refine (xa_r S rb br r z s a b t hv ev _ w hr hb ho).mono ?_
      rintro e' w' ⟨rfl, S', X, W⟩
      exact ⟨rfl, S', _, _, X, W, X.box, RepOwn.join (k1 X) (k2 X) (k3 X) (k4 X), hnd, kn X, X.out⟩
    · refine (xlast_r S rb br r z s a b t hv ev _ w hr hb ho).mono ?_
      rintro e' w' ⟨rfl, S', X, W⟩
      exact ⟨rfl, S', _, _, X, W, X.box, RepOwn.join (k1 X) (k2 X) (k3 X) (k4 X), hnd, kn X, X.out⟩
    · refine (xroot_r S rb br r z s a b t hv ev _ w hr hb ho).mono ?_
      rintro e' w' ⟨rfl, S', X, W⟩
      exact ⟨rfl, S', _, _, X, W, X.box, RepOwn.join (k1 X) (k2 X) (k3 X) (k4 X), hnd, kn X, X.out⟩
    · refine (xhashes_r S rb br r z s a b t hv ev _ w hr hb ho).mono ?_
      rintro e' w' ⟨rfl, v, S', X, W, hrow, hnv⟩
      refine ⟨rfl, S', _, _, X, W, X.box, RepOwn.join hrow (k2 X) (k3 X) (k4 X), nodup_swap hnd (nodup_block v) (fun q hq hm => ?_), fun q hq => ?_, X.out⟩
      · have := (hnv q (mem_ownBlock.1 hq)).2
        have := hthere q (List.mem_append_right _ hm)
        omega
      · rcases List.mem_append.1 hq with hq | hq
        · have := hnv q (mem_ownBlock.1 hq)
          exact ⟨this.1, by omega, by omega⟩
        · exact kn X q (List.mem_append_right _ hq)
    · refine (xtold_r S rb br r z s a b t hv ev _ w hr hb ho).mono ?_
      rintro e' w' ⟨rfl, v, S', X, W, hrow, hnv⟩
      have hnd2 : (ev.ownBlock.toList ++ (hv.ownBlock.toList ++ (pv.ownBlock.toList ++ b1))).Nodup := by
        have := (List.perm_append_comm_assoc hv.ownBlock.toList ev.ownBlock.toList (pv.ownBlock.toList ++ b1)).nodup hnd
        exact this
      have hnd3 := nodup_swap hnd2 (nodup_block v) (fun q hq hm => by
        have := (hnv q (mem_ownBlock.1 hq)).2
        have := hthere q (by
          rcases List.mem_append.1 hm with hm | hm
          · exact List.mem_append_left _ hm
          · exact List.mem_append_right _ (List.mem_append_right _ hm))
        omega)
      refine ⟨rfl, S', _, _, X, W, X.box, RepOwn.join (k1 X) hrow (k3 X) (k4 X), (List.perm_append_comm_assoc v.ownBlock.toList hv.ownBlock.toList (pv.ownBlock.toList ++ b1)).nodup hnd3, fun q hq => ?_, X.out⟩
      rcases List.mem_append.1 hq with hq | hq
      · exact kn X q (List.mem_append_left _ hq)
      · rcases List.mem_append.1 hq with hq | hq
        · have := hnv q (mem_ownBlock.1 hq)
          exact ⟨this.1, by omega, by omega⟩
        · exact kn X q (List.mem_append_right _ (List.mem_append_right _ hq))
    · obtain ⟨hp1, hp2⟩ := hp rfl
      simp only [Rep.replies] at hp1
      subst hp1
      have hpv : pv = .slice none 0 0 := by simpa using hp2
      subst hpv
      have hb10 : b1 = [] := by
        rw [ReplsOwn] at h4
        exact h4.2
      subst hb10
      refine (xparts_r S rb br r z s a b t hv ev w hr hb ho).mono ?_
      rintro e' w' ⟨rfl, av, cs', blA, S', M⟩
      have hq : (rFld .parts r (.mk z s a b t h e [])) = (.mk z s a b t h e (rParts (min (rd (pNum 0 0) 0 r).1 65) (rd (pNum 0 0) 0 r).2).1, (rParts (min (rd (pNum 0 0) 0 r).1 65) (rd (pNum 0 0) 0 r).2).2) := by
        rw [rFld, List.nil_append]
      rw [hq]
      have hnd2 : (hv.ownBlock.toList ++ ev.ownBlock.toList).Nodup := by
        have : (hv.ownBlock.toList ++ (ev.ownBlock.toList ++ [])).Nodup := hnd
        rwa [List.append_nil] at this
      refine ⟨rfl, S', _, _, M.xs, M.rep, M.xs.box, RepOwn.join (k1 M.xs) (k2 M.xs) M.row M.elems, ?_, fun q hq => ?_, M.xs.out⟩
      · rw [← List.append_assoc, List.nodup_append]
        refine ⟨hnd2, M.nodup, fun p hp q hq e => ?_⟩
        subst e
        have h5 := (M.new p hq).2
        have h6 := hthere p (by
          rcases List.mem_append.1 hp with hp | hp
          · exact List.mem_append_left _ hp
          · exact List.mem_append_right _ (List.mem_append_left _ hp))
        omega
      · rcases List.mem_append.1 hq with hq | hq
        · exact kn M.xs q (List.mem_append_left _ hq)
        · rcases List.mem_append.1 hq with hq | hq
          · exact kn M.xs q (List.mem_append_right _ (List.mem_append_left _ hq))
          · have := M.new q hq
            exact ⟨this.1, by omega, by omega⟩
end Go.Proofs.YtpccaodkgboefaaDoor
