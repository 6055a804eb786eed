/-
  Package message: any field of a reply, taken.
  Package message: DecodeReply.
  A reply that was laid down is told again, to its kind and to no other; a beginning of it is short. Plain.
-/
import Derived.Test.YtpccaodkgboefaaGreatDoorMsRepN
import Derived.Test.YtpccaodkgboefaaGreatDoorMMsL
import Derived.Test.YtpccaodkgboefaaGreatDoorMsDecode
import Derived.Test.YtpccaodkgboefaaGreatDoorMsBackP
namespace Go.Proofs.YtpccaodkgboefaaGreatDoor
open Go.RowKit

theorem RepOwn.split {w : World} {z s a b : Int} {t : List UInt8} {h e : List (List UInt8)} {p : List Rep} {cs : Array Value} {bl : List Nat} (hh : RepOwn w (.mk z s a b t h e p) (.agg cs) bl) :
    ∃ hv ev pv cp b1, cs = #[.int .i64 z, .int .i64 s, .int .i64 a, .int .i64 b, .string (str t), hv, ev, pv] ∧ w.ownsRow 0 9 1 hv h.length (texts h) ∧ w.ownsRow 0 9 1 ev e.length (texts e) ∧
      w.ownsRow 0 48 8 pv p.length cp ∧ ReplsOwn w p cp b1 ∧ bl = hv.ownBlock.toList ++ (ev.ownBlock.toList ++ (pv.ownBlock.toList ++ b1)) := by
  rw [RepOwn] at hh
  obtain ⟨hv, ev, pv, cp, b1, he, h1, h2, h3, h4, h5⟩ := hh
  injection he with he
  exact ⟨hv, ev, pv, cp, b1, he, h1, h2, h3, h4, h5⟩
theorem RepOwn.join {w : World} {z s a b : Int} {t : List UInt8} {h e : List (List UInt8)} {p : List Rep} {hv ev pv : Value} {cp : List Value} {b1 : List Nat} (h1 : w.ownsRow 0 9 1 hv h.length (texts h)) (h2 : w.ownsRow 0 9 1 ev e.length (texts e))
    (h3 : w.ownsRow 0 48 8 pv p.length cp) (h4 : ReplsOwn w p cp b1) : RepOwn w (.mk z s a b t h e p) (.agg #[.int .i64 z, .int .i64 s, .int .i64 a, .int .i64 b, .string (str t), hv, ev, pv]) (hv.ownBlock.toList ++ (ev.ownBlock.toList ++ (pv.ownBlock.toList ++ b1))) := by
  rw [RepOwn]
  exact ⟨hv, ev, pv, cp, b1, rfl, h1, h2, h3, h4, rfl⟩

/-- a reply that is being taken: its struct at br, its lists in blocks of their own, none of them the object's, all made since N -/
structure TakeR (N : Nat) (S : Nat → Prop) (rb br : Nat) (w : World) (r : RSt) (R : Rep) (cs : Array Value) (bl : List Nat) : Prop where
  rep : RRep S w rb r
  box : w.heap[br]? = some (.cells cs 48 (0, 0))
  own : RepOwn w R (.agg cs) bl
  nodup : bl.Nodup
  new : ∀ q ∈ bl, ¬ S q ∧ q ≠ br ∧ N ≤ q
  out : ¬ S br
/-- a list in another's place -/
theorem nodup_swap {α : Type} {x y : List α} {r : List α} (h : (x ++ r).Nodup) (hy : y.Nodup) (hn : ∀ q ∈ y, q ∉ r) : (y ++ r).Nodup := by
  rw [List.nodup_append] at h ⊢
  exact ⟨hy, h.2.1, fun p hp q hq e => by subst e; exact hn p hp hq⟩
theorem nodup_block (v : Value) : v.ownBlock.toList.Nodup := by cases v.ownBlock <;> simp
def FldTaken (N : Nat) (S : Nat → Prop) (rb br : Nat) (w w' : World) (q : Rep × RSt) : Prop := ∃ S' cs bl, XSt S w br S' w' cs ∧ TakeR N S' rb br w' q.2 q.1 cs bl

set_option maxHeartbeats 1000000 in
theorem xfld_r (f : Fld) (N : Nat) (S : Nat → Prop) (rb br : Nat) (r : RSt) (R : Rep) (cs : Array Value) (bl : List Nat) (w : World) (h : TakeR N S rb br w r R cs bl) (hN : N ≤ w.heap.size) (hp : f = .parts → R.replies = [] ∧ cs[7]? = some (.slice none 0 0)) :
    Calls Tryz.prog (fid f) #[aggR rb br] w fun e' w' => e' = .returned (.tuple #[]) ∧ FldTaken N S rb br w w' (rFld f r R) := by
  obtain ⟨hr, hb, hown, hnd, hnew, ho⟩ := h
  have hthere := RepOwn.there _ _ _ hown
  cases R with
  | mk z s a b t h e p =>
    obtain ⟨hv, ev, pv, cp, b1, rfl, h1, h2, h3, h4, rfl⟩ := hown.split
    have av1 : ∀ g, hv.ownBlock = some g → ¬ (S g ∨ g = br) := fun g hg hs => by
      have := hnew g (by simp [mem_ownBlock.2 hg])
      rcases hs with hs | hs
      · exact this.1 hs
      · exact this.2.1 hs
    have av2 : ∀ g, ev.ownBlock = some g → ¬ (S g ∨ g = br) := fun g hg hs => by
      have := hnew g (by simp [mem_ownBlock.2 hg])
      rcases hs with hs | hs
      · exact this.1 hs
      · exact this.2.1 hs
    have av3 : ∀ g, pv.ownBlock = some g → ¬ (S g ∨ g = br) := fun g hg hs => by
      have := hnew g (by simp [mem_ownBlock.2 hg])
      rcases hs with hs | hs
      · exact this.1 hs
      · exact this.2.1 hs
    have av4 : ∀ q ∈ b1, ¬ (S q ∨ q = br) := fun q hq hs => by
      have := hnew q (by simp [hq])
      rcases hs with hs | hs
      · exact this.1 hs
      · exact this.2.1 hs
    have k1 : ∀ {S' : Nat → Prop} {w' : World} {cs : Array Value}, XSt S w br S' w' cs → w'.ownsRow 0 9 1 hv h.length (texts h) := fun X => ownsRow_keeps h1 X.keeps av1
    have k2 : ∀ {S' : Nat → Prop} {w' : World} {cs : Array Value}, XSt S w br S' w' cs → w'.ownsRow 0 9 1 ev e.length (texts e) := fun X => ownsRow_keeps h2 X.keeps av2
    have k3 : ∀ {S' : Nat → Prop} {w' : World} {cs : Array Value}, XSt S w br S' w' cs → w'.ownsRow 0 48 8 pv p.length cp := fun X => ownsRow_keeps h3 X.keeps av3
    have k4 : ∀ {S' : Nat → Prop} {w' : World} {cs : Array Value}, XSt S w br S' w' cs → ReplsOwn w' p cp b1 := fun X => ReplsOwn.keeps X.keeps _ _ _ h4 av4
    have kn : ∀ {S' : Nat → Prop} {w' : World} {cs : Array Value}, XSt S w br S' w' cs → ∀ q ∈ hv.ownBlock.toList ++ (ev.ownBlock.toList ++ (pv.ownBlock.toList ++ b1)), ¬ S' q ∧ q ≠ br ∧ N ≤ q := fun X q hq => ⟨X.notIn (hthere q hq) (hnew q hq).1, (hnew q hq).2⟩
    have hbr := lt_of_block hb
    cases f
    · refine (xsize_r S rb br r z s a b t hv ev _ w hr hb ho).mono ?_
      rintro e' w' ⟨rfl, S', X, W⟩
      exact ⟨rfl, S', _, _, X, W, X.box, RepOwn.join (k1 X) (k2 X) (k3 X) (k4 X), hnd, kn X, X.out⟩
    · refine (xa_r S rb br r z s a b t hv ev _ w hr hb ho).mono ?_
      rintro e' w' ⟨rfl, S', X, W⟩
      exact ⟨rfl, S', _, _, X, W, X.box, RepOwn.join (k1 X) (k2 X) (k3 X) (k4 X), hnd, kn X, X.out⟩
    · refine (xlast_r S rb br r z s a b t hv ev _ w hr hb ho).mono ?_
      rintro e' w' ⟨rfl, S', X, W⟩
      exact ⟨rfl, S', _, _, X, W, X.box, RepOwn.join (k1 X) (k2 X) (k3 X) (k4 X), hnd, kn X, X.out⟩
    · refine (xroot_r S rb br r z s a b t hv ev _ w hr hb ho).mono ?_
      rintro e' w' ⟨rfl, S', X, W⟩
      exact ⟨rfl, S', _, _, X, W, X.box, RepOwn.join (k1 X) (k2 X) (k3 X) (k4 X), hnd, kn X, X.out⟩
    · refine (xhashes_r S rb br r z s a b t hv ev _ w hr hb ho).mono ?_
      rintro e' w' ⟨rfl, v, S', X, W, hrow, hnv⟩
      refine ⟨rfl, S', _, _, X, W, X.box, RepOwn.join hrow (k2 X) (k3 X) (k4 X), nodup_swap hnd (nodup_block v) (fun q hq hm => ?_), fun q hq => ?_, X.out⟩
      · have := (hnv q (mem_ownBlock.1 hq)).2
        have := hthere q (List.mem_append_right _ hm)
        omega
      · rcases List.mem_append.1 hq with hq | hq
        · have := hnv q (mem_ownBlock.1 hq)
          exact ⟨this.1, by omega, by omega⟩
        · exact kn X q (List.mem_append_right _ hq)
    · refine (xtold_r S rb br r z s a b t hv ev _ w hr hb ho).mono ?_
      rintro e' w' ⟨rfl, v, S', X, W, hrow, hnv⟩
      have hnd2 : (ev.ownBlock.toList ++ (hv.ownBlock.toList ++ (pv.ownBlock.toList ++ b1))).Nodup := by
        have := (List.perm_append_comm_assoc hv.ownBlock.toList ev.ownBlock.toList (pv.ownBlock.toList ++ b1)).nodup hnd
        exact this
      have hnd3 := nodup_swap hnd2 (nodup_block v) (fun q hq hm => by
        have := (hnv q (mem_ownBlock.1 hq)).2
        have := hthere q (by
          rcases List.mem_append.1 hm with hm | hm
          · exact List.mem_append_left _ hm
          · exact List.mem_append_right _ (List.mem_append_right _ hm))
        omega)
      refine ⟨rfl, S', _, _, X, W, X.box, RepOwn.join (k1 X) hrow (k3 X) (k4 X), (List.perm_append_comm_assoc v.ownBlock.toList hv.ownBlock.toList (pv.ownBlock.toList ++ b1)).nodup hnd3, fun q hq => ?_, X.out⟩
      rcases List.mem_append.1 hq with hq | hq
      · exact kn X q (List.mem_append_left _ hq)
      · rcases List.mem_append.1 hq with hq | hq
        · have := hnv q (mem_ownBlock.1 hq)
          exact ⟨this.1, by omega, by omega⟩
        · exact kn X q (List.mem_append_right _ (List.mem_append_right _ hq))
    · obtain ⟨hp1, hp2⟩ := hp rfl
      simp only [Rep.replies] at hp1
      subst hp1
      have hpv : pv = .slice none 0 0 := by simpa using hp2
      subst hpv
      have hb10 : b1 = [] := by
        rw [ReplsOwn] at h4
        exact h4.2
      subst hb10
      refine (xparts_r S rb br r z s a b t hv ev w hr hb ho).mono ?_
      rintro e' w' ⟨rfl, av, cs', blA, S', M⟩
      have hq : (rFld .parts r (.mk z s a b t h e [])) = (.mk z s a b t h e (rParts (min (rd (pNum 0 0) 0 r).1 65) (rd (pNum 0 0) 0 r).2).1, (rParts (min (rd (pNum 0 0) 0 r).1 65) (rd (pNum 0 0) 0 r).2).2) := by
        rw [rFld, List.nil_append]
      rw [hq]
      have hnd2 : (hv.ownBlock.toList ++ ev.ownBlock.toList).Nodup := by
        have : (hv.ownBlock.toList ++ (ev.ownBlock.toList ++ [])).Nodup := hnd
        rwa [List.append_nil] at this
      refine ⟨rfl, S', _, _, M.xs, M.rep, M.xs.box, RepOwn.join (k1 M.xs) (k2 M.xs) M.row M.elems, ?_, fun q hq => ?_, M.xs.out⟩
      · rw [← List.append_assoc, List.nodup_append]
        refine ⟨hnd2, M.nodup, fun p hp q hq e => ?_⟩
        subst e
        have h5 := (M.new p hq).2
        have h6 := hthere p (by
          rcases List.mem_append.1 hp with hp | hp
          · exact List.mem_append_left _ hp
          · exact List.mem_append_right _ (List.mem_append_left _ hp))
        omega
      · rcases List.mem_append.1 hq with hq | hq
        · exact kn M.xs q (List.mem_append_left _ hq)
        · rcases List.mem_append.1 hq with hq | hq
          · exact kn M.xs q (List.mem_append_right _ (List.mem_append_left _ hq))
          · have := M.new q hq
            exact ⟨this.1, by omega, by omega⟩
end Go.Proofs.YtpccaodkgboefaaGreatDoor

namespace Go.Proofs.YtpccaodkgboefaaGreatDoor
open Go.RowKit

def noRep : Rep := .mk 0 0 0 0 [] [] [] []
/-- a payload, as a reply to a kind: the kind that it names, the reply, what is left -/
def takeRep (k : Int) (p : List UInt8) : Nat × Rep × RSt :=
  let kk := rd pByte 0 (p, 0, 0)
  let zz := rd pByte 0 kk.2
  (kk.1, if zz.1 = 0 then rFlds (tableOf k) zz.2 (.mk (zz.1 : Nat) 0 0 0 [] [] [] []) else (.mk (zz.1 : Nat) 0 0 0 [] [] [] [], zz.2))
def fitsRep (k : Int) (q : Nat × Rep × RSt) (head : List UInt8) : Bool := decide ((q.1 : Int) = k ∧ (rDone q.2.2).1 = 0 ∧ (encRep k q.2.1).2 = 0 ∧ (encRep k q.2.1).1 = head)
def decRep (k : Int) (s : List UInt8) : Rep × List UInt8 × Int :=
  if k < 0 ∨ 12 < k then (noRep, [], 170)
  else if (unframedM s).2.2 ≠ 0 then (noRep, [], (unframedM s).2.2)
  else if fitsRep k (takeRep k (unframedM s).1) (s.take (s.length - (unframedM s).2.1.length)) then ((takeRep k (unframedM s).1).2.1, (unframedM s).2.1, 0) else (noRep, [], 173)

theorem rFlds_cons (f : Fld) (l : List Fld) (r : RSt) (R : Rep) : rFlds (f :: l) r R = rFlds l (rFld f r R).2 (rFld f r R).1 := rfl
theorem noRep_own (w : World) : RepOwn w noRep (.agg #[.int .i64 0, .int .i64 0, .int .i64 0, .int .i64 0, .string ⟨#[]⟩, .slice none 0 0, .slice none 0 0, .slice none 0 0]) [] := by
  rw [noRep, RepOwn]
  exact ⟨_, _, _, [], [], rfl, World.ownsRow_nil _ _ _ _, World.ownsRow_nil _ _ _ _, World.ownsRow_nil _ _ _ _, by rw [ReplsOwn]; exact ⟨rfl, rfl⟩, rfl⟩
/-- what DecodeReply leaves -/
def ToldR (w : World) (q : Rep × List UInt8 × Int) (e : Ending) (w' : World) : Prop :=
  ∃ v bl, e = .returned (.tuple #[v, .string (str q.2.1), .int .i64 q.2.2]) ∧ Fresh w w' ∧ RepOwn w' q.1 v bl ∧ bl.Nodup ∧ ∀ g ∈ bl, w.heap.size ≤ g

set_option maxRecDepth 100000 in
set_option maxHeartbeats 4000000 in
theorem decodeRep_any (k : Int) (s : List UInt8) (w : World) (hl : Laid w) (hs : s.length ≤ 9223372036854775807) :
    Calls Tryz.prog 24 #[.int .i64 k, .string (str s)] w fun e w' => ToldR w (decRep k s) e w' := by
  obtain ⟨X, hX⟩ : ∃ X, decRep k s = X := ⟨_, rfl⟩
  rw [hX]
  have HX0 := hid hX
  clear hX
  have hle := unframedM_le s
  have hu := fun W hW => munframed_any s W hW hs
  obtain ⟨p, hp⟩ : ∃ p, (unframedM s).1 = p := ⟨_, rfl⟩
  obtain ⟨rest, hr⟩ : ∃ r, (unframedM s).2.1 = r := ⟨_, rfl⟩
  obtain ⟨e0, he⟩ : ∃ e, (unframedM s).2.2 = e := ⟨_, rfl⟩
  have hD : X = if k < 0 ∨ 12 < k then (noRep, [], 170) else if e0 ≠ 0 then (noRep, [], e0) else if fitsRep k (takeRep k p) (s.take (s.length - rest.length)) then ((takeRep k p).2.1, rest, 0) else (noRep, [], 173) := by rw [← HX0.out, decRep, hp, hr, he]
  rw [hp, hr, he] at hu
  rw [hp, hr] at hle
  have HU := hid hu
  have HLE := hid hle
  have HD := hid hD
  have fa : Fresh w (w.alloc (.cells #[.int .i64 0, .int .i64 0, .int .i64 0, .int .i64 0, .string ⟨#[]⟩, .slice none 0 0, .slice none 0 0, .slice none 0 0] 48)) := (Keeps.refl _ _).alloc _
  have hb0 := heap_alloc_new w (.cells #[.int .i64 0, .int .i64 0, .int .i64 0, .int .i64 0, .string ⟨#[]⟩, .slice none 0 0, .slice none 0 0, .slice none 0 0] 48)
  have hla := hl.fresh_ fa
  clear hu hD hp hr he hle HX0
  obtain ⟨b4, hb4⟩ : ∃ b4, w.heap.size = b4 := ⟨_, rfl⟩
  have HB4 := hid hb4
  have T8F : ∀ {w7 : World}, Fresh w w7 → ∀ c0 c1 c2 c3 c4 c5 c6 c7 : Value, Fresh w ((((((((w7.setCell ⟨b4, 0, none⟩ c0).setCell ⟨b4, 1, none⟩ c1).setCell ⟨b4, 2, none⟩ c2).setCell ⟨b4, 3, none⟩ c3).setCell ⟨b4, 4, none⟩ c4).setCell ⟨b4, 5, none⟩ c5).setCell ⟨b4, 6, none⟩ c6).setCell ⟨b4, 7, none⟩ c7) := fun f c0 c1 c2 c3 c4 c5 c6 c7 => f.trans' (T8 c0 c1 c2 c3 c4 c5 c6 c7) (fun i hi (h : i = b4) => by omega)
  have HT8 : Hid (∀ {w7 : World}, Fresh w w7 → ∀ c0 c1 c2 c3 c4 c5 c6 c7 : Value, Fresh w ((((((((w7.setCell ⟨b4, 0, none⟩ c0).setCell ⟨b4, 1, none⟩ c1).setCell ⟨b4, 2, none⟩ c2).setCell ⟨b4, 3, none⟩ c3).setCell ⟨b4, 4, none⟩ c4).setCell ⟨b4, 5, none⟩ c5).setCell ⟨b4, 6, none⟩ c6).setCell ⟨b4, 7, none⟩ c7)) := @T8F
  clear T8F
  rw [hb4] at hb0
  clear hb4
  by_cases hk : k < 0 ∨ 12 < k
  · have hX2 : X = (noRep, [], 170) := by rw [HD.out, if_pos hk]
    have HX := hid hX2
    have f1 := hid fa
    have hb1 := hb0
    clear hX2 fa hla HU HD
    by_cases h0 : k < 0
    · go_enter Tryz.func24, Tryz.ntmps24
      go_upto_region 1 with fail
      rw [HB4.out]
      generalize w.alloc (.cells #[.int .i64 0, .int .i64 0, .int .i64 0, .int .i64 0, .string ⟨#[]⟩, .slice none 0 0, .slice none 0 0, .slice none 0 0] 48) = W0 at hb0 hb1 f1 ⊢
      have z0 := cell_at hb1 0
      have y0 := free_at hb1 0
      have z1 := cell_at hb1 1
      have y1 := free_at hb1 1
      have z2 := cell_at hb1 2
      have y2 := free_at hb1 2
      have z3 := cell_at hb1 3
      have y3 := free_at hb1 3
      have z4 := cell_at hb1 4
      have y4 := free_at hb1 4
      have z5 := cell_at hb1 5
      have y5 := free_at hb1 5
      have z6 := cell_at hb1 6
      have y6 := free_at hb1 6
      have z7 := cell_at hb1 7
      have y7 := free_at hb1 7
      simp at z0 z1 z2 z3 z4 z5 z6 z7
      go_wp2_with fail
      (try simp only [Exit.inBlock, Exit.then])
      refine bodyPost_ret (results_row3 rfl _ _ b4 48 _ (0, 0) _ rfl (by exact heap_setCell_at (heap_setCell_at (heap_setCell_at (heap_setCell_at (heap_setCell_at (heap_setCell_at (heap_setCell_at (heap_setCell_at hb1 0 _) 1 _) 2 _) 3 _) 4 _) 5 _) 6 _) 7 _) Tryz.underlying48 rfl (by kernel_rfl)) rfl ?_
      rw [HX.out]
      exact ⟨_, [], rfl, HT8.out f1.out _ _ _ _ _ _ _ _, noRep_own _, List.nodup_nil, fun g hg => by cases hg⟩
    · have h12 : 12 < k := by omega
      go_enter Tryz.func24, Tryz.ntmps24
      go_upto_region 1 with fail
      rw [HB4.out]
      generalize w.alloc (.cells #[.int .i64 0, .int .i64 0, .int .i64 0, .int .i64 0, .string ⟨#[]⟩, .slice none 0 0, .slice none 0 0, .slice none 0 0] 48) = W0 at hb0 hb1 f1 ⊢
      have z0 := cell_at hb1 0
      have y0 := free_at hb1 0
      have z1 := cell_at hb1 1
      have y1 := free_at hb1 1
      have z2 := cell_at hb1 2
      have y2 := free_at hb1 2
      have z3 := cell_at hb1 3
      have y3 := free_at hb1 3
      have z4 := cell_at hb1 4
      have y4 := free_at hb1 4
      have z5 := cell_at hb1 5
      have y5 := free_at hb1 5
      have z6 := cell_at hb1 6
      have y6 := free_at hb1 6
      have z7 := cell_at hb1 7
      have y7 := free_at hb1 7
      simp at z0 z1 z2 z3 z4 z5 z6 z7
      go_wp2_with fail
      (try simp only [Exit.inBlock, Exit.then])
      refine bodyPost_ret (results_row3 rfl _ _ b4 48 _ (0, 0) _ rfl (by exact heap_setCell_at (heap_setCell_at (heap_setCell_at (heap_setCell_at (heap_setCell_at (heap_setCell_at (heap_setCell_at (heap_setCell_at hb1 0 _) 1 _) 2 _) 3 _) 4 _) 5 _) 6 _) 7 _) Tryz.underlying48 rfl (by kernel_rfl)) rfl ?_
      rw [HX.out]
      exact ⟨_, [], rfl, HT8.out f1.out _ _ _ _ _ _ _ _, noRep_own _, List.nodup_nil, fun g hg => by cases hg⟩
  · have hk0 : ¬ k < 0 := by omega
    have hk12 : ¬ 12 < k := by omega
    have hX2 : X = if e0 ≠ 0 then (noRep, [], e0) else if fitsRep k (takeRep k p) (s.take (s.length - rest.length)) then ((takeRep k p).2.1, rest, 0) else (noRep, [], 173) := by rw [HD.out, if_neg hk]
    have HX := hid hX2
    clear hX2 HD hk
    go_enter Tryz.func24, Tryz.ntmps24
    go_wp2_with fail
    rw [HB4.out]
    generalize w.alloc (.cells #[.int .i64 0, .int .i64 0, .int .i64 0, .int .i64 0, .string ⟨#[]⟩, .slice none 0 0, .slice none 0 0, .slice none 0 0] 48) = W0 at hb0 fa hla ⊢
    refine (HU.out _ hla).mono ?_
    rintro e w1 ⟨rfl, f1⟩
    have hb1 := f1.at_ hb0 (fun h => h)
    have f01 : Fresh w w1 := fa.trans f1
    have hsz1 : b4 < w1.heap.size := lt_of_block hb1
    have F01 := hid f01
    clear hla HU fa f1 hb0 f01
    by_cases h0 : e0 = 0
    · subst h0
      have HX2 : Hid (X = if fitsRep k (takeRep k p) (s.take (s.length - rest.length)) then ((takeRep k p).2.1, rest, 0) else (noRep, [], 173)) := by rw [Hid, HX.out, if_neg (by simp)]
      have HNR := hid (fun W hW => newReader_any (str p) W hW (by rw [str_size]; have := HLE.out; omega))
      have HB1 := hid hb1
      have HL := hid hl
      clear HX hb1 hl
      go_wp2_with fail
      refine (HNR.out _ (HL.out.fresh_ F01.out)).mono ?_
      rintro e w2 ⟨b, rfl, f2, hbb, hr2⟩
      rw [str_data] at hr2
      have hb2 := f2.at_ HB1.out (fun h => h)
      have f3 : Fresh w2 (w2.alloc (.cells #[.int .i64 0, .int .i64 0, .int .i64 0, .int .i64 0, .string ⟨#[]⟩, .slice none 0 0, .slice none 0 0, .slice none 0 0] 48)) := (Keeps.refl _ _).alloc _
      have hb3 := f3.at_ hb2 (fun h => h)
      have hbo := heap_alloc_new w2 (.cells #[.int .i64 0, .int .i64 0, .int .i64 0, .int .i64 0, .string ⟨#[]⟩, .slice none 0 0, .slice none 0 0, .slice none 0 0] 48)
      have hr3 := hr2.fresh f3
      have hbn : b < w2.heap.size := (hr2.2.1 b rfl).2
      have f03 := (F01.out.trans f2).trans f3
      have hb12 : b4 < w2.heap.size := lt_of_block hb2
      have h12 := f2.size
      clear hr2 hb2 f2 HNR f3 HB1
      go_upto_region 8 with fail
      obtain ⟨bo, hboe⟩ : ∃ bo, w2.heap.size = bo := ⟨_, rfl⟩
      rw [hboe] at hbo hbn hb12 h12 ⊢
      generalize w2.alloc (.cells #[.int .i64 0, .int .i64 0, .int .i64 0, .int .i64 0, .string ⟨#[]⟩, .slice none 0 0, .slice none 0 0, .slice none 0 0] 48) = W3 at hbo hr3 f03 hb3 ⊢
      clear hboe
      have HC := hid (rbyte_any _ b _ W3 hr3)
      have X3 : XSt (fun q => q = b) W3 bo (fun q => q = b) W3 _ := XSt.start hbo (fun (h : bo = b) => by omega)
      have hw3 : bo < W3.heap.size := lt_of_block hbo
      have HX3 := hid X3
      have HF3 := hid f03
      have HB3 := hid hb3
      clear X3 f03 hb3 hbo hr3
      go_wp2_with fail
      refine HC.out.mono ?_
      rintro e w4 ⟨rfl, hA⟩
      obtain ⟨S4, X4, R4, g4, k4⟩ := HX3.out.acts hA
      obtain ⟨kk, hkk⟩ : ∃ kk, (rd pByte 0 (p, 0, 0)).1 = kk := ⟨_, rfl⟩
      obtain ⟨ra, hra⟩ : ∃ ra, (rd pByte 0 (p, 0, 0)).2 = ra := ⟨_, rfl⟩
      rw [hra] at R4
      rw [hkk]
      have HC4 := hid (rbyte_any _ b _ w4 R4)
      have HX4 := hid X4
      clear hA HC X4 R4 g4 k4 HX3
      go_wp2_with fail
      refine HC4.out.mono ?_
      rintro e w5 ⟨rfl, hA⟩
      obtain ⟨S5, X5, R5, g5, k5⟩ := HX4.out.acts hA
      obtain ⟨zz, hzz⟩ : ∃ kk, (rd pByte 0 ra).1 = kk := ⟨_, rfl⟩
      obtain ⟨rb, hrb⟩ : ∃ ra', (rd pByte 0 ra).2 = ra' := ⟨_, rfl⟩
      rw [hrb] at R5
      rw [hzz]
      have HLS : Hid (∀ q, S5 q → q < w5.heap.size) := fun q hq => (R5.2.1 q hq).2
      have c0 := cell_at X5.box 0
      have f0 := free_at X5.box 0
      simp at c0
      have hT : takeRep k p = (kk, if zz = 0 then rFlds (tableOf k) rb (.mk (zz : Nat) 0 0 0 [] [] [] []) else (.mk (zz : Nat) 0 0 0 [] [] [] [], rb)) := by
        unfold takeRep
        simp only
        rw [hkk, hra, hzz, hrb]
      have HT := hid hT
      have X6 : XSt (fun q => q = b) W3 bo S5 (w5.setCell ⟨bo, 0, none⟩ (.int .i64 (zz : Nat))) #[.int .i64 (zz : Nat), .int .i64 0, .int .i64 0, .int .i64 0, .string ⟨#[]⟩, .slice none 0 0, .slice none 0 0, .slice none 0 0] := X5.put 0 (.int .i64 (zz : Nat))
      have R6 := R5.keeps (XSt.putKeeps w5 bo 0 (.int .i64 (zz : Nat))) (fun q hq (e : q = bo) => X5.out (by rw [← e]; exact hq))
      have T6 : TakeR W3.heap.size S5 b bo (w5.setCell ⟨bo, 0, none⟩ (.int .i64 (zz : Nat))) rb (.mk (zz : Nat) 0 0 0 [] [] [] []) _ [] := ⟨R6, X6.box, RepOwn.join (World.ownsRow_nil _ _ _ _) (World.ownsRow_nil _ _ _ _) (cp := []) (b1 := []) (World.ownsRow_nil _ _ _ _) (by rw [ReplsOwn]; exact ⟨rfl, rfl⟩), List.nodup_nil, fun q hq => (by cases hq), X6.out⟩
      have HT6 := hid T6
      have HX6 := hid X6
      have e0 := cell_at X6.box 0
      simp at e0
      clear hT hA HC4 g5 k5 X5 R5 R6 T6 HX4 hkk hra hzz hrb
      by_cases hz : zz = 0
      · have hT2 : takeRep k p = (kk, rFlds (tableOf k) rb (.mk (zz : Nat) 0 0 0 [] [] [] [])) := by rw [HT.out, if_pos hz]
        have HT2 := hid hT2
        have hzb : ((zz : Int) == 0) = true := by rw [hz]; rfl
        have HTB := hid (fun W => mtable_any k ⟨by omega, by omega⟩ W)
        have HTL := hid (tableOf_len k)
        clear hT2 hz X6
        go_wp2_with fail
        refine (HTB.out _).mono ?_
        rintro e w7 ⟨tv, rfl, f7, ao, cap, rfl, hcells⟩
        have X7 := HX6.out.fresh f7
        have T7' : TakeR W3.heap.size S5 b bo w7 rb (.mk (zz : Nat) 0 0 0 [] [] [] []) _ [] := ⟨HT6.out.rep.fresh f7, f7.at_ HT6.out.box (fun h => h), RepOwn.fresh f7 HT6.out.own, HT6.out.nodup, HT6.out.new, HT6.out.out⟩
        have HX7 := hid X7
        have HT7 := hid T7'
        have HC := hid hcells
        clear X7 T7' hcells f7 c0 f0 e0 HTB HX6 HT6
        go_wp2_with fail
        go_loopw [48] (fun i wr => ∃ (m : Nat) (Sr : Nat → Prop) (r2 : RSt) (R2 : Rep) (cr : Array Value) (bl : List Nat), i = .int .i64 (m : Int) ∧ m ≤ (tableOf k).length ∧ XSt (fun q => q = b) W3 bo Sr wr cr ∧ TakeR W3.heap.size Sr b bo wr r2 R2 cr bl ∧ Hid (∃ cs7, XSt S5 w7 bo Sr wr cs7) ∧
            Hid (rFlds (tableOf k) rb (.mk (zz : Nat) 0 0 0 [] [] [] []) = rFlds ((tableOf k).drop m) r2 R2) ∧ Hid (SmallR R2) ∧ Hid (m = 0 → R2.replies = [] ∧ cr[7]? = some (.slice none 0 0))) (fun i _ => (tableOf k).length - (intOf i).toNat)
        case atStart => exact ⟨0, S5, rb, _, _, [], rfl, by omega, HX7.out, HT7.out, ⟨_, XSt.start HX7.out.box HX7.out.out⟩, rfl, by simp [Hid, SmallR, Rep.hashes, Rep.entries, Rep.root, Rep.replies, bulk, wtPs], fun _ => ⟨rfl, rfl⟩⟩
        case round =>
          obtain ⟨m, Sr, r2, R2, cr, bl, rfl, hm, Xr, Tr, HXX, HDD, HSM, HPP⟩ := hrel
          by_cases hlt : m < (tableOf k).length
          · obtain ⟨f, hf⟩ : ∃ f, (tableOf k)[m]? = some f := ⟨(tableOf k)[m], by simp⟩
            obtain ⟨bt, rfl, hbn', hbt⟩ := HC.out (by rintro h; rw [h] at hlt; simp at hlt)
            have hnt : bt ≠ bo := by
              rintro rfl
              have h2 := HX7.out.box
              rw [hbt] at h2
              injection h2 with h2
              injection h2 with _ h2
              revert h2
              decide
            have hst' : ¬ S5 bt := fun h => by
              have h1 := HLS.out bt h
              simp only [World.size_setCell] at hbn'
              omega
            obtain ⟨cs7, Xr7⟩ := HXX.out
            have hbtr := Xr7.keepBlock hbt hst' hnt
            have q0 := cell_at hbtr m
            rw [List.getElem?_toArray, List.getElem?_map, hf] at q0
            simp only [Option.map_some] at q0
            have hd : (tableOf k).drop m = f :: (tableOf k).drop (m + 1) := by
              obtain ⟨hm', rfl⟩ := List.getElem?_eq_some_iff.1 hf
              exact List.drop_eq_getElem_cons hm'
            have hD2 := HDD.out
            rw [hd, rFlds_cons] at hD2
            have hpf : f = .parts → R2.replies = [] ∧ cr[7]? = some (.slice none 0 0) := fun h => HPP.out (parts_first k (by rw [hf, h]))
            have HFD := hid (xfld_r f W3.heap.size Sr b bo r2 R2 cr bl wr Tr Xr.keeps.size hpf)
            have HSM2 : Hid (SmallR (rFld f r2 R2).1) := rFld_small f r2 R2 HSM.out (fun h => (hpf h).1)
            have hcf := callFld f
            have HD2 := hid hD2
            have HXr := hid Xr
            have HX7r := hid Xr7
            have hm4 : m < 4 := by have := HTL.out; omega
            have hfv : fldV f = .func (.func (fid f)) #[] #[] := rfl
            rw [hfv] at q0
            clear hD2 HDD hd hf hbt hbtr Xr hst' hnt hfv hpf Tr Xr7 HXX hbn'
            unfold aggR at HFD
            generalize fid f = ff at q0 hcf HFD
            go_wp2_with fail
            refine HFD.out.mono ?_
            rintro e w8 ⟨rfl, S8, cs8, bl8, X8, T8'⟩
            clear q0 hcf
            go_wp2_with fail
            go_roundw
            case rel => exact ⟨m + 1, S8, _, _, cs8, bl8, by go_num, by omega, HXr.out.after X8, T8', ⟨_, HX7r.out.after X8⟩, HD2, HSM2, fun h => by omega⟩
            case measure => simp [intOf]; omega
          · obtain rfl : m = (tableOf k).length := by omega
            have hD2 := HDD.out
            rw [List.drop_length] at hD2
            have hD3 : takeRep k p = (kk, R2, r2) := by rw [HT2.out, hD2]; rfl
            have HTK := hid hD3
            have HTR := hid Tr
            have HXR := hid Xr
            clear hD2 hD3 HDD Xr Tr HXX
            obtain ⟨al, cl, ae, ce, aq, cq, hsh⟩ := HTR.out.own.shape
            injection hsh with hsh
            have hbx : wr.heap[bo]? = some (.cells #[.int .i64 R2.status, .int .i64 R2.size, .int .i64 R2.a, .int .i64 R2.b, .string (str R2.root), .slice al R2.hashes.length cl, .slice ae R2.entries.length ce, .slice aq R2.replies.length cq] 48 (0, 0)) := by rw [← hsh]; exact HTR.out.box
            have hown : RepOwn wr R2 (.agg #[.int .i64 R2.status, .int .i64 R2.size, .int .i64 R2.a, .int .i64 R2.b, .string (str R2.root), .slice al R2.hashes.length cl, .slice ae R2.entries.length ce, .slice aq R2.replies.length cq]) bl := by rw [← hsh]; exact HTR.out.own
            have hbw := HXR.out.keepBlock HB3.out (fun (h : b4 = b) => by omega) (by omega)
            have fw : Fresh w wr := HF3.out.trans' HXR.out.keeps (fun q hq h => by
              have := HB4.out
              rcases h with h | h
              · have h : q = b := h; omega
              · omega)
            have hdn := rdone_any Sr b r2 wr (HL.out.fresh_ fw) HTR.out.rep
            have hnew : ∀ g ∈ bl, ¬ Sr g ∧ g ≠ bo ∧ W3.heap.size ≤ g := HTR.out.new
            have HNEW := hid hnew
            have HND : Hid (bl.Nodup) := HTR.out.nodup
            have HDN := hid hdn
            have HBX := hid hbx
            have HOWN := hid hown
            have HBW := hid hbw
            have HFW := hid fw
            clear hbx hown hbw fw hdn hnew hsh HTR
            go_wp2_with fail
            refine HDN.out.mono ?_
            rintro e w9 ⟨rfl, f9⟩
            have hbx9 := f9.at_ HBX.out (fun h => h)
            have x0 := cell_at hbx9 0
            have x1 := cell_at hbx9 1
            have x2 := cell_at hbx9 2
            have x3 := cell_at hbx9 3
            have x4 := cell_at hbx9 4
            have x5 := cell_at hbx9 5
            have x6 := cell_at hbx9 6
            have x7 := cell_at hbx9 7
            simp at x0 x1 x2 x3 x4 x5 x6 x7
            have he9 := encodeRep_any (fun g => g ∈ bl) k R2 _ w9 (HL.out.fresh_ (HFW.out.trans f9)) (RepOwn.at _ _ _ (RepOwn.fresh f9 HOWN.out) _ (fun _ h => h)) (fun g hg => RepOwn.there _ _ _ (RepOwn.fresh f9 HOWN.out) g hg) (by have := HSM.out.wt; omega)
            have HE9 := hid he9
            have F9 := hid f9
            clear he9 f9 hbx9
            go_wp2_with fail
            refine HE9.out.mono ?_
            rintro e w10 ⟨rfl, f10⟩
            have f9' := F9.out.trans f10
            have HB7 := hid (f9'.at_ HBW.out (fun h => h))
            have hb7 := HB7.out
            have hbx7 := f9'.at_ HBX.out (fun h => h)
            clear x0 x1 x2 x3 x4 x5 x6 x7
            have q0 := cell_at hbx7 0
            have q1 := cell_at hbx7 1
            have q2 := cell_at hbx7 2
            have q3 := cell_at hbx7 3
            have q4 := cell_at hbx7 4
            have q5 := cell_at hbx7 5
            have q6 := cell_at hbx7 6
            have q7 := cell_at hbx7 7
            simp at q0 q1 q2 q3 q4 q5 q6 q7
            have z0 := cell_at hb7 0
            have y0 := free_at hb7 0
            have z1 := cell_at hb7 1
            have y1 := free_at hb7 1
            have z2 := cell_at hb7 2
            have y2 := free_at hb7 2
            have z3 := cell_at hb7 3
            have y3 := free_at hb7 3
            have z4 := cell_at hb7 4
            have y4 := free_at hb7 4
            have z5 := cell_at hb7 5
            have y5 := free_at hb7 5
            have z6 := cell_at hb7 6
            have y6 := free_at hb7 6
            have z7 := cell_at hb7 7
            have y7 := free_at hb7 7
            simp at z0 z1 z2 z3 z4 z5 z6 z7
            have F10 := hid (HFW.out.trans f9')
            have HOW := hid (RepOwn.fresh f9' HOWN.out)
            clear hb7 hbx7 f9' f10
            obtain ⟨we, hwe⟩ : ∃ we, (rDone r2).1 = we := ⟨_, rfl⟩
            obtain ⟨wt2, hwt⟩ : ∃ we, (rDone r2).2 = we := ⟨_, rfl⟩
            obtain ⟨es, hes⟩ : ∃ es, (encRep k R2).1 = es := ⟨_, rfl⟩
            obtain ⟨ee, hee⟩ : ∃ ee, (encRep k R2).2 = ee := ⟨_, rfl⟩
            have hX2 : X = if (kk : Int) = k ∧ we = 0 ∧ ee = 0 ∧ es = s.take (s.length - rest.length) then (R2, rest, 0) else (noRep, [], 173) := by
              rw [HX2.out, HTK.out, fitsRep]
              simp only [hwe, hes, hee, decide_eq_true_eq]
            rw [hwe, hwt, hes, hee]
            clear hwe hwt hes hee
            have bad : ∀ (h : ¬ ((kk : Int) = k ∧ we = 0 ∧ ee = 0 ∧ es = s.take (s.length - rest.length))), X = (noRep, [], 173) := fun h => by rw [hX2, if_neg h]
            have HBAD := hid bad
            have HX5 := hid hX2
            clear bad hX2
            by_cases h1 : (kk : Int) = k
            · have hb1 : ((kk : Int) != k) = false := by rw [h1]; simp
              by_cases h2 : we = 0
              · have hb2 : (we != 0) = false := by rw [h2]; rfl
                by_cases h3 : ee = 0
                · have hb3 : (ee != 0) = false := by rw [h3]; rfl
                  obtain ⟨m9, hm9⟩ : ∃ m, rest.length = m := ⟨_, rfl⟩
                  obtain ⟨n9, hn9⟩ : ∃ n, s.length = n + m9 := ⟨s.length - m9, by have := HLE.out; omega⟩
                  have hss : (str s).size = n9 + m9 := by rw [str_size, hn9]
                  have hsr : (str rest).size = m9 := by rw [str_size, hm9]
                  have hnm : s.length - rest.length = n9 := by omega
                  have hex := str_to s n9
                  have hbn9 : n9 + m9 ≤ 9223372036854775807 := by omega
                  have htl : (str (s.take n9)).toList = s.take n9 := str_toList _
                  rw [hnm] at HX5 HBAD
                  clear hm9 hn9 hnm
                  by_cases h4 : es = s.take n9
                  · have HX := hid (show X = (R2, rest, 0) by rw [HX5.out, if_pos ⟨h1, h2, h3, h4⟩])
                    subst h4
                    subst h3
                    subst h2
                    clear h1
                    go_wp2_with fail
                    (try simp only [Exit.inBlock, Exit.then])
                    refine bodyPost_ret (results_row3 rfl _ _ b4 48 _ (0, 0) _ rfl (by exact heap_setCell_at (heap_setCell_at (heap_setCell_at (heap_setCell_at (heap_setCell_at (heap_setCell_at (heap_setCell_at (heap_setCell_at HB7.out 0 _) 1 _) 2 _) 3 _) 4 _) 5 _) 6 _) 7 _) Tryz.underlying48 rfl (by kernel_rfl)) rfl ?_
                    rw [HX.out]
                    exact ⟨_, bl, rfl, HT8.out F10.out _ _ _ _ _ _ _ _, RepOwn.keeps (T8 _ _ _ _ _ _ _ _) _ _ _ HOW.out (fun g hg (h : g = b4) => by have := (HNEW.out g hg).2.2; omega), HND.out, fun g hg => by have := (HNEW.out g hg).2.2; have := HB4.out; omega⟩
                  · have HX := hid (HBAD.out (fun h => h4 h.2.2.2))
                    have hte : (str es).toList = es := str_toList _
                    have hne : (es == s.take n9) = false := beq_eq_false_iff_ne.2 h4
                    subst h3
                    subst h2
                    clear h1
                    go_wp2_with fail
                    (try simp only [Exit.inBlock, Exit.then])
                    refine bodyPost_ret (results_row3 rfl _ _ b4 48 _ (0, 0) _ rfl (by exact heap_setCell_at (heap_setCell_at (heap_setCell_at (heap_setCell_at (heap_setCell_at (heap_setCell_at (heap_setCell_at (heap_setCell_at HB7.out 0 _) 1 _) 2 _) 3 _) 4 _) 5 _) 6 _) 7 _) Tryz.underlying48 rfl (by kernel_rfl)) rfl ?_
                    rw [HX.out]
                    exact ⟨_, [], rfl, HT8.out F10.out _ _ _ _ _ _ _ _, noRep_own _, List.nodup_nil, fun g hg => by cases hg⟩
                · have HX := hid (HBAD.out (fun h => h3 h.2.2.1))
                  have hb3 : (ee != 0) = true := bne_iff_ne.2 h3
                  subst h2
                  clear h1
                  go_wp2_with fail
                  (try simp only [Exit.inBlock, Exit.then])
                  refine bodyPost_ret (results_row3 rfl _ _ b4 48 _ (0, 0) _ rfl (by exact heap_setCell_at (heap_setCell_at (heap_setCell_at (heap_setCell_at (heap_setCell_at (heap_setCell_at (heap_setCell_at (heap_setCell_at HB7.out 0 _) 1 _) 2 _) 3 _) 4 _) 5 _) 6 _) 7 _) Tryz.underlying48 rfl (by kernel_rfl)) rfl ?_
                  rw [HX.out]
                  exact ⟨_, [], rfl, HT8.out F10.out _ _ _ _ _ _ _ _, noRep_own _, List.nodup_nil, fun g hg => by cases hg⟩
              · have HX := hid (HBAD.out (fun h => h2 h.2.1))
                have hb2 : (we != 0) = true := bne_iff_ne.2 h2
                clear h1
                go_wp2_with fail
                (try simp only [Exit.inBlock, Exit.then])
                refine bodyPost_ret (results_row3 rfl _ _ b4 48 _ (0, 0) _ rfl (by exact heap_setCell_at (heap_setCell_at (heap_setCell_at (heap_setCell_at (heap_setCell_at (heap_setCell_at (heap_setCell_at (heap_setCell_at HB7.out 0 _) 1 _) 2 _) 3 _) 4 _) 5 _) 6 _) 7 _) Tryz.underlying48 rfl (by kernel_rfl)) rfl ?_
                rw [HX.out]
                exact ⟨_, [], rfl, HT8.out F10.out _ _ _ _ _ _ _ _, noRep_own _, List.nodup_nil, fun g hg => by cases hg⟩
            · have HX := hid (HBAD.out (fun h => h1 h.1))
              have hb1 : ((kk : Int) != k) = true := bne_iff_ne.2 h1
              go_wp2_with fail
              (try simp only [Exit.inBlock, Exit.then])
              refine bodyPost_ret (results_row3 rfl _ _ b4 48 _ (0, 0) _ rfl (by exact heap_setCell_at (heap_setCell_at (heap_setCell_at (heap_setCell_at (heap_setCell_at (heap_setCell_at (heap_setCell_at (heap_setCell_at HB7.out 0 _) 1 _) 2 _) 3 _) 4 _) 5 _) 6 _) 7 _) Tryz.underlying48 rfl (by kernel_rfl)) rfl ?_
              rw [HX.out]
              exact ⟨_, [], rfl, HT8.out F10.out _ _ _ _ _ _ _ _, noRep_own _, List.nodup_nil, fun g hg => by cases hg⟩
      · have hT2 : takeRep k p = (kk, (.mk (zz : Nat) 0 0 0 [] [] [] []), rb) := by rw [HT.out, if_neg hz]
        have HTK := hid hT2
        have hzb : ((zz : Int) == 0) = false := by rw [beq_eq_false_iff_ne]; omega
        have HTR := HT6
        have HXR := HX6
        have HSM : Hid (SmallR (.mk (zz : Nat) 0 0 0 [] [] [] [])) := by simp [Hid, SmallR, Rep.hashes, Rep.entries, Rep.root, Rep.replies, bulk, wtPs]
        clear hT2 X6 HX6 HT6
        obtain ⟨al, cl, ae, ce, aq, cq, hsh⟩ := HTR.out.own.shape
        injection hsh with hsh
        have hbx : (w5.setCell ⟨bo, 0, none⟩ (.int .i64 (zz : Nat))).heap[bo]? = some (.cells #[.int .i64 (Rep.mk (zz : Nat) 0 0 0 [] [] [] []).status, .int .i64 (Rep.mk (zz : Nat) 0 0 0 [] [] [] []).size, .int .i64 (Rep.mk (zz : Nat) 0 0 0 [] [] [] []).a, .int .i64 (Rep.mk (zz : Nat) 0 0 0 [] [] [] []).b, .string (str (Rep.mk (zz : Nat) 0 0 0 [] [] [] []).root), .slice al (Rep.mk (zz : Nat) 0 0 0 [] [] [] []).hashes.length cl, .slice ae (Rep.mk (zz : Nat) 0 0 0 [] [] [] []).entries.length ce, .slice aq (Rep.mk (zz : Nat) 0 0 0 [] [] [] []).replies.length cq] 48 (0, 0)) := by rw [← hsh]; exact HTR.out.box
        have hown : RepOwn (w5.setCell ⟨bo, 0, none⟩ (.int .i64 (zz : Nat))) (Rep.mk (zz : Nat) 0 0 0 [] [] [] []) (.agg #[.int .i64 (Rep.mk (zz : Nat) 0 0 0 [] [] [] []).status, .int .i64 (Rep.mk (zz : Nat) 0 0 0 [] [] [] []).size, .int .i64 (Rep.mk (zz : Nat) 0 0 0 [] [] [] []).a, .int .i64 (Rep.mk (zz : Nat) 0 0 0 [] [] [] []).b, .string (str (Rep.mk (zz : Nat) 0 0 0 [] [] [] []).root), .slice al (Rep.mk (zz : Nat) 0 0 0 [] [] [] []).hashes.length cl, .slice ae (Rep.mk (zz : Nat) 0 0 0 [] [] [] []).entries.length ce, .slice aq (Rep.mk (zz : Nat) 0 0 0 [] [] [] []).replies.length cq]) ([] : List Nat) := by rw [← hsh]; exact HTR.out.own
        have hbw := HXR.out.keepBlock HB3.out (fun (h : b4 = b) => by omega) (by omega)
        have fw : Fresh w (w5.setCell ⟨bo, 0, none⟩ (.int .i64 (zz : Nat))) := HF3.out.trans' HXR.out.keeps (fun q hq h => by
          have := HB4.out
          rcases h with h | h
          · have h : q = b := h; omega
          · omega)
        have hdn := rdone_any S5 b rb (w5.setCell ⟨bo, 0, none⟩ (.int .i64 (zz : Nat))) (HL.out.fresh_ fw) HTR.out.rep
        have hnew : ∀ g ∈ ([] : List Nat), ¬ S5 g ∧ g ≠ bo ∧ W3.heap.size ≤ g := HTR.out.new
        have HNEW := hid hnew
        have HND : Hid (([] : List Nat).Nodup) := HTR.out.nodup
        have HDN := hid hdn
        have HBX := hid hbx
        have HOWN := hid hown
        have HBW := hid hbw
        have HFW := hid fw
        clear hbx hown hbw fw hdn hnew hsh HTR
        go_wp2_with fail
        refine HDN.out.mono ?_
        rintro e w9 ⟨rfl, f9⟩
        have hbx9 := f9.at_ HBX.out (fun h => h)
        have x0 := cell_at hbx9 0
        have x1 := cell_at hbx9 1
        have x2 := cell_at hbx9 2
        have x3 := cell_at hbx9 3
        have x4 := cell_at hbx9 4
        have x5 := cell_at hbx9 5
        have x6 := cell_at hbx9 6
        have x7 := cell_at hbx9 7
        simp at x0 x1 x2 x3 x4 x5 x6 x7
        have he9 := encodeRep_any (fun g => g ∈ ([] : List Nat)) k (Rep.mk (zz : Nat) 0 0 0 [] [] [] []) _ w9 (HL.out.fresh_ (HFW.out.trans f9)) (RepOwn.at _ _ _ (RepOwn.fresh f9 HOWN.out) _ (fun _ h => h)) (fun g hg => RepOwn.there _ _ _ (RepOwn.fresh f9 HOWN.out) g hg) (by have := HSM.out.wt; omega)
        have HE9 := hid he9
        have F9 := hid f9
        clear he9 f9 hbx9
        go_wp2_with fail
        refine HE9.out.mono ?_
        rintro e w10 ⟨rfl, f10⟩
        have f9' := F9.out.trans f10
        have HB7 := hid (f9'.at_ HBW.out (fun h => h))
        have hb7 := HB7.out
        have hbx7 := f9'.at_ HBX.out (fun h => h)
        clear x0 x1 x2 x3 x4 x5 x6 x7
        have q0 := cell_at hbx7 0
        have q1 := cell_at hbx7 1
        have q2 := cell_at hbx7 2
        have q3 := cell_at hbx7 3
        have q4 := cell_at hbx7 4
        have q5 := cell_at hbx7 5
        have q6 := cell_at hbx7 6
        have q7 := cell_at hbx7 7
        simp at q0 q1 q2 q3 q4 q5 q6 q7
        have z0 := cell_at hb7 0
        have y0 := free_at hb7 0
        have z1 := cell_at hb7 1
        have y1 := free_at hb7 1
        have z2 := cell_at hb7 2
        have y2 := free_at hb7 2
        have z3 := cell_at hb7 3
        have y3 := free_at hb7 3
        have z4 := cell_at hb7 4
        have y4 := free_at hb7 4
        have z5 := cell_at hb7 5
        have y5 := free_at hb7 5
        have z6 := cell_at hb7 6
        have y6 := free_at hb7 6
        have z7 := cell_at hb7 7
        have y7 := free_at hb7 7
        simp at z0 z1 z2 z3 z4 z5 z6 z7
        have F10 := hid (HFW.out.trans f9')
        have HOW := hid (RepOwn.fresh f9' HOWN.out)
        clear hb7 hbx7 f9' f10
        obtain ⟨we, hwe⟩ : ∃ we, (rDone rb).1 = we := ⟨_, rfl⟩
        obtain ⟨wt2, hwt⟩ : ∃ we, (rDone rb).2 = we := ⟨_, rfl⟩
        obtain ⟨es, hes⟩ : ∃ es, (encRep k (Rep.mk (zz : Nat) 0 0 0 [] [] [] [])).1 = es := ⟨_, rfl⟩
        obtain ⟨ee, hee⟩ : ∃ ee, (encRep k (Rep.mk (zz : Nat) 0 0 0 [] [] [] [])).2 = ee := ⟨_, rfl⟩
        have hX2 : X = if (kk : Int) = k ∧ we = 0 ∧ ee = 0 ∧ es = s.take (s.length - rest.length) then ((Rep.mk (zz : Nat) 0 0 0 [] [] [] []), rest, 0) else (noRep, [], 173) := by
          rw [HX2.out, HTK.out, fitsRep]
          simp only [hwe, hes, hee, decide_eq_true_eq]
        rw [hwe, hwt, hes, hee]
        clear hwe hwt hes hee
        have bad : ∀ (h : ¬ ((kk : Int) = k ∧ we = 0 ∧ ee = 0 ∧ es = s.take (s.length - rest.length))), X = (noRep, [], 173) := fun h => by rw [hX2, if_neg h]
        have HBAD := hid bad
        have HX5 := hid hX2
        clear bad hX2
        by_cases h1 : (kk : Int) = k
        · have hb1 : ((kk : Int) != k) = false := by rw [h1]; simp
          by_cases h2 : we = 0
          · have hb2 : (we != 0) = false := by rw [h2]; rfl
            by_cases h3 : ee = 0
            · have hb3 : (ee != 0) = false := by rw [h3]; rfl
              obtain ⟨m9, hm9⟩ : ∃ m, rest.length = m := ⟨_, rfl⟩
              obtain ⟨n9, hn9⟩ : ∃ n, s.length = n + m9 := ⟨s.length - m9, by have := HLE.out; omega⟩
              have hss : (str s).size = n9 + m9 := by rw [str_size, hn9]
              have hsr : (str rest).size = m9 := by rw [str_size, hm9]
              have hnm : s.length - rest.length = n9 := by omega
              have hex := str_to s n9
              have hbn9 : n9 + m9 ≤ 9223372036854775807 := by omega
              have htl : (str (s.take n9)).toList = s.take n9 := str_toList _
              rw [hnm] at HX5 HBAD
              clear hm9 hn9 hnm
              by_cases h4 : es = s.take n9
              · have HX := hid (show X = ((Rep.mk (zz : Nat) 0 0 0 [] [] [] []), rest, 0) by rw [HX5.out, if_pos ⟨h1, h2, h3, h4⟩])
                subst h4
                subst h3
                subst h2
                clear h1
                go_wp2_with fail
                (try simp only [Exit.inBlock, Exit.then])
                refine bodyPost_ret (results_row3 rfl _ _ b4 48 _ (0, 0) _ rfl (by exact heap_setCell_at (heap_setCell_at (heap_setCell_at (heap_setCell_at (heap_setCell_at (heap_setCell_at (heap_setCell_at (heap_setCell_at HB7.out 0 _) 1 _) 2 _) 3 _) 4 _) 5 _) 6 _) 7 _) Tryz.underlying48 rfl (by kernel_rfl)) rfl ?_
                rw [HX.out]
                exact ⟨_, ([] : List Nat), rfl, HT8.out F10.out _ _ _ _ _ _ _ _, RepOwn.keeps (T8 _ _ _ _ _ _ _ _) _ _ _ HOW.out (fun g hg (h : g = b4) => by have := (HNEW.out g hg).2.2; omega), HND.out, fun g hg => by have := (HNEW.out g hg).2.2; have := HB4.out; omega⟩
              · have HX := hid (HBAD.out (fun h => h4 h.2.2.2))
                have hte : (str es).toList = es := str_toList _
                have hne : (es == s.take n9) = false := beq_eq_false_iff_ne.2 h4
                subst h3
                subst h2
                clear h1
                go_wp2_with fail
                (try simp only [Exit.inBlock, Exit.then])
                refine bodyPost_ret (results_row3 rfl _ _ b4 48 _ (0, 0) _ rfl (by exact heap_setCell_at (heap_setCell_at (heap_setCell_at (heap_setCell_at (heap_setCell_at (heap_setCell_at (heap_setCell_at (heap_setCell_at HB7.out 0 _) 1 _) 2 _) 3 _) 4 _) 5 _) 6 _) 7 _) Tryz.underlying48 rfl (by kernel_rfl)) rfl ?_
                rw [HX.out]
                exact ⟨_, [], rfl, HT8.out F10.out _ _ _ _ _ _ _ _, noRep_own _, List.nodup_nil, fun g hg => by cases hg⟩
            · have HX := hid (HBAD.out (fun h => h3 h.2.2.1))
              have hb3 : (ee != 0) = true := bne_iff_ne.2 h3
              subst h2
              clear h1
              go_wp2_with fail
              (try simp only [Exit.inBlock, Exit.then])
              refine bodyPost_ret (results_row3 rfl _ _ b4 48 _ (0, 0) _ rfl (by exact heap_setCell_at (heap_setCell_at (heap_setCell_at (heap_setCell_at (heap_setCell_at (heap_setCell_at (heap_setCell_at (heap_setCell_at HB7.out 0 _) 1 _) 2 _) 3 _) 4 _) 5 _) 6 _) 7 _) Tryz.underlying48 rfl (by kernel_rfl)) rfl ?_
              rw [HX.out]
              exact ⟨_, [], rfl, HT8.out F10.out _ _ _ _ _ _ _ _, noRep_own _, List.nodup_nil, fun g hg => by cases hg⟩
          · have HX := hid (HBAD.out (fun h => h2 h.2.1))
            have hb2 : (we != 0) = true := bne_iff_ne.2 h2
            clear h1
            go_wp2_with fail
            (try simp only [Exit.inBlock, Exit.then])
            refine bodyPost_ret (results_row3 rfl _ _ b4 48 _ (0, 0) _ rfl (by exact heap_setCell_at (heap_setCell_at (heap_setCell_at (heap_setCell_at (heap_setCell_at (heap_setCell_at (heap_setCell_at (heap_setCell_at HB7.out 0 _) 1 _) 2 _) 3 _) 4 _) 5 _) 6 _) 7 _) Tryz.underlying48 rfl (by kernel_rfl)) rfl ?_
            rw [HX.out]
            exact ⟨_, [], rfl, HT8.out F10.out _ _ _ _ _ _ _ _, noRep_own _, List.nodup_nil, fun g hg => by cases hg⟩
        · have HX := hid (HBAD.out (fun h => h1 h.1))
          have hb1 : ((kk : Int) != k) = true := bne_iff_ne.2 h1
          go_wp2_with fail
          (try simp only [Exit.inBlock, Exit.then])
          refine bodyPost_ret (results_row3 rfl _ _ b4 48 _ (0, 0) _ rfl (by exact heap_setCell_at (heap_setCell_at (heap_setCell_at (heap_setCell_at (heap_setCell_at (heap_setCell_at (heap_setCell_at (heap_setCell_at HB7.out 0 _) 1 _) 2 _) 3 _) 4 _) 5 _) 6 _) 7 _) Tryz.underlying48 rfl (by kernel_rfl)) rfl ?_
          rw [HX.out]
          exact ⟨_, [], rfl, HT8.out F10.out _ _ _ _ _ _ _ _, noRep_own _, List.nodup_nil, fun g hg => by cases hg⟩
    · have hX2 : X = (noRep, [], e0) := by rw [HX.out, if_pos h0]
      have HX := hid hX2
      have hb : (e0 != 0) = true := bne_iff_ne.2 h0
      clear hX2
      have z0 := cell_at hb1 0
      have y0 := free_at hb1 0
      have z1 := cell_at hb1 1
      have y1 := free_at hb1 1
      have z2 := cell_at hb1 2
      have y2 := free_at hb1 2
      have z3 := cell_at hb1 3
      have y3 := free_at hb1 3
      have z4 := cell_at hb1 4
      have y4 := free_at hb1 4
      have z5 := cell_at hb1 5
      have y5 := free_at hb1 5
      have z6 := cell_at hb1 6
      have y6 := free_at hb1 6
      have z7 := cell_at hb1 7
      have y7 := free_at hb1 7
      simp at z0 z1 z2 z3 z4 z5 z6 z7
      go_wp2_with fail
      (try simp only [Exit.inBlock, Exit.then])
      refine bodyPost_ret (results_row3 rfl _ _ b4 48 _ (0, 0) _ rfl (by exact heap_setCell_at (heap_setCell_at (heap_setCell_at (heap_setCell_at (heap_setCell_at (heap_setCell_at (heap_setCell_at (heap_setCell_at hb1 0 _) 1 _) 2 _) 3 _) 4 _) 5 _) 6 _) 7 _) Tryz.underlying48 rfl (by kernel_rfl)) rfl ?_
      rw [HX.out]
      exact ⟨_, [], rfl, HT8.out F01.out _ _ _ _ _ _ _ _, noRep_own _, List.nodup_nil, fun g hg => by cases hg⟩
end Go.Proofs.YtpccaodkgboefaaGreatDoor

namespace Go.Proofs.YtpccaodkgboefaaGreatDoor
open Go.RowKit

theorem round_rest {α : Type} {st s1 : WSt} {R : Rep} {f : RSt → α × RSt} {x : α} (h : leftOver R = false → Round st s1 f x) : Round st (mRest s1 R) f x := by
  unfold mRest
  by_cases hl : leftOver R = true
  · rw [if_pos hl]
    exact Round.wrong (wNum_minus _)
  · rw [if_neg hl]
    exact h (by simpa using hl)
theorem left_none {z s a b : Int} {r : List UInt8} {h e : List (List UInt8)} {p : List Rep} (hl : leftOver (.mk z s a b r h e p) = false) : s = 0 ∧ a = 0 ∧ b = 0 ∧ r = [] ∧ h = [] ∧ e = [] ∧ p = [] := by
  unfold leftOver at hl
  rw [decide_eq_false_iff_not] at hl
  refine ⟨by omega, by omega, by omega, ?_, ?_, ?_, ?_⟩
  · exact Decidable.not_not.1 fun hr => hl (.inr (.inr (.inr (.inl hr))))
  · exact List.eq_nil_of_length_eq_zero (by omega)
  · exact List.eq_nil_of_length_eq_zero (by omega)
  · exact List.eq_nil_of_length_eq_zero (by omega)
theorem round_status (st : WSt) (s : Int) : Round (α := Int) st (mStatus st s) (fun r => (((rd pByte 0 r).1 : Nat), (rd pByte 0 r).2)) s := by
  unfold mStatus
  split
  · refine Round.wrong ?_
    unfold wByte
    rw [if_pos (by omega)]
    exact refuse_ne _ _ (by decide)
  · exact round_byte st s
theorem round_part (st : WSt) (x : Rep) : Round st (mPart st x) rPart x := by
  obtain ⟨z, s, a, b, r, h, e, p⟩ := x
  unfold mPart
  dsimp only
  by_cases hz : z = 0
  · subst hz
    rw [if_pos rfl]
    by_cases hr : r ≠ []
    · rw [if_pos hr]
      refine round_rest fun hl => ?_
      obtain ⟨rfl, rfl, rfl, -, rfl, rfl, rfl⟩ := left_none hl
      refine ((round_status st 0).then (g := fun z r => if z = 0 then (if (rd pByte 0 r).1 = 1 then (Rep.mk z 0 0 0 (rd (pRaw 32) [] (rd pByte 0 r).2).1 [] [] [], (rd (pRaw 32) [] (rd pByte 0 r).2).2) else (Rep.mk z 0 0 0 [] (rd (pHashes 32768) [] (rd pByte 0 r).2).1 [] [], (rd (pHashes 32768) [] (rd pByte 0 r).2).2)) else (Rep.mk z 0 0 0 [] [] [] [], r))
        (((round_byte (mStatus st 0) 1).then (g := fun k r => if k = 1 then (Rep.mk 0 0 0 0 (rd (pRaw 32) [] r).1 [] [] [], (rd (pRaw 32) [] r).2) else (Rep.mk 0 0 0 0 [] (rd (pHashes 32768) [] r).1 [] [], (rd (pHashes 32768) [] r).2))
          ((round_root _ r).map (fun y => Rep.mk 0 0 0 0 y [] [] [])  |>.of rfl (fun r => by rw [if_pos rfl]) rfl)).of rfl (fun r => ?_) rfl)).of rfl (fun r => ?_) rfl
      · rw [if_pos rfl]
        by_cases hk : (rd pByte 0 r).1 = 1
        · simp only [hk]; rfl
        · rw [if_neg hk, if_neg (by omega)]
      · unfold rPart
        by_cases hk : (rd pByte 0 r).1 = 0
        · simp only [hk]; rfl
        · simp only [if_neg hk]; rw [if_neg (by omega)]
    · rw [if_neg hr]
      obtain rfl : r = [] := Decidable.not_not.1 hr
      refine round_rest fun hl => ?_
      obtain ⟨rfl, rfl, rfl, -, -, rfl, rfl⟩ := left_none hl
      refine ((round_status st 0).then (g := fun z r => if z = 0 then (if (rd pByte 0 r).1 = 1 then (Rep.mk z 0 0 0 (rd (pRaw 32) [] (rd pByte 0 r).2).1 [] [] [], (rd (pRaw 32) [] (rd pByte 0 r).2).2) else (Rep.mk z 0 0 0 [] (rd (pHashes 32768) [] (rd pByte 0 r).2).1 [] [], (rd (pHashes 32768) [] (rd pByte 0 r).2).2)) else (Rep.mk z 0 0 0 [] [] [] [], r))
        (((round_byte (mStatus st 0) 0).then (g := fun k r => if k = 1 then (Rep.mk 0 0 0 0 (rd (pRaw 32) [] r).1 [] [] [], (rd (pRaw 32) [] r).2) else (Rep.mk 0 0 0 0 [] (rd (pHashes 32768) [] r).1 [] [], (rd (pHashes 32768) [] r).2))
          ((round_hashes _ h 32768 (by decide) (by decide)).map (fun y => Rep.mk 0 0 0 0 [] y [] [])  |>.of rfl (fun r => by rw [if_neg (by decide)]) rfl)).of rfl (fun r => ?_) rfl)).of rfl (fun r => ?_) rfl
      · rw [if_pos rfl]
        by_cases hk : (rd pByte 0 r).1 = 1
        · simp only [hk]; rfl
        · rw [if_neg hk, if_neg (by omega)]
      · unfold rPart
        by_cases hk : (rd pByte 0 r).1 = 0
        · simp only [hk]; rfl
        · simp only [if_neg hk]; rw [if_neg (by omega)]
  · rw [if_neg hz]
    refine round_rest fun hl => ?_
    obtain ⟨rfl, rfl, rfl, rfl, rfl, rfl, rfl⟩ := left_none hl
    refine ((round_status st z).then (g := fun z r => if z = 0 then (if (rd pByte 0 r).1 = 1 then (Rep.mk z 0 0 0 (rd (pRaw 32) [] (rd pByte 0 r).2).1 [] [] [], (rd (pRaw 32) [] (rd pByte 0 r).2).2) else (Rep.mk z 0 0 0 [] (rd (pHashes 32768) [] (rd pByte 0 r).2).1 [] [], (rd (pHashes 32768) [] (rd pByte 0 r).2).2)) else (Rep.mk z 0 0 0 [] [] [] [], r))
      ((Round.none _ (Rep.mk z 0 0 0 [] [] [] [])).of rfl (fun r => by rw [if_neg hz]) rfl)).of rfl (fun r => ?_) rfl
    unfold rPart
    by_cases hk : (rd pByte 0 r).1 = 0
    · simp only [hk]; rfl
    · simp only [if_neg hk]; rw [if_neg (by omega)]
theorem rPart_none (c : Nat) : (rPart ([], c, 0)).2.2.2 = 21 := rfl
theorem round_partsR : ∀ (l : List Rep) (st : WSt), Round st (l.foldl mPart st) (rParts l.length) l
  | [], st => (Round.none st []).of rfl (fun r => rfl) rfl
  | x :: l, st => by
    intro h
    rw [List.foldl_cons] at h ⊢
    obtain ⟨e1, d2, l2, t2⟩ := round_partsR l _ h
    obtain ⟨e0, d1, l1, t1⟩ := round_part st x e1
    refine ⟨e0, d1 ++ d2, by rw [l2, l1, List.append_assoc], fun t c => ?_⟩
    have hd : d1 ≠ [] := by
      rintro rfl
      obtain ⟨c', hc⟩ := t1 [] 0
      have := rPart_none 0
      rw [List.append_nil] at hc
      rw [hc] at this
      simp at this
    obtain ⟨c1, q1⟩ := t1 (d2 ++ t) c
    obtain ⟨c2, q2⟩ := t2 t c1
    refine ⟨c2, ?_⟩
    have hp : 0 < d1.length := List.length_pos_iff.2 hd
    rw [List.append_assoc]
    simp only [List.length_cons, rParts]
    rw [if_neg (by rw [List.length_append]; omega), q1, q2]
theorem round_partsM (st : WSt) (l : List Rep) : Round st (mParts st l) (fun r => rParts (min (rd (pNum 0 0) 0 r).1 65) (rd (pNum 0 0) 0 r).2) l := by
  unfold mParts
  by_cases hc : l.length = 0 ∨ 64 < l.length
  · rw [if_pos hc]
    intro h0
    obtain ⟨e1, -⟩ := round_partsR l _ h0
    obtain ⟨e2, -⟩ := round_num _ _ e1
    exact absurd e2 (wNum_minus st)
  · rw [if_neg hc]
    have h3 := (round_num st (l.length : Int)).then (g := fun n r => rParts (min n.toNat 65) r) (y := l)
      ((round_partsR l (wNum st l.length)).of rfl (fun r => by rw [show min ((l.length : Int).toNat) 65 = l.length by omega]) rfl)
    exact h3.of rfl (fun r => rfl) rfl

/-- a field of one reply put into another -/
def mergeF : Fld → Rep → Rep → Rep
  | .size, .mk _ s _ _ _ _ _ _, .mk z _ a b r h e p => .mk z s a b r h e p
  | .a, .mk _ _ a _ _ _ _ _, .mk z s _ b r h e p => .mk z s a b r h e p
  | .last, .mk _ _ _ b _ _ _ _, .mk z s a _ r h e p => .mk z s a b r h e p
  | .root, .mk _ _ _ _ r _ _ _, .mk z s a b _ h e p => .mk z s a b r h e p
  | .hashes, .mk _ _ _ _ _ h _ _, .mk z s a b r _ e p => .mk z s a b r h e p
  | .told, .mk _ _ _ _ _ _ e _, .mk z s a b r h _ p => .mk z s a b r h e p
  | .parts, .mk _ _ _ _ _ _ _ p, .mk z s a b r h e q => .mk z s a b r h e (q ++ p)
/-- a reply without a field -/
def stripF : Fld → Rep → Rep
  | .size, .mk z _ a b r h e p => .mk z 0 a b r h e p
  | .a, .mk z s _ b r h e p => .mk z s 0 b r h e p
  | .last, .mk z s a _ r h e p => .mk z s a 0 r h e p
  | .root, .mk z s a b _ h e p => .mk z s a b [] h e p
  | .hashes, .mk z s a b r _ e p => .mk z s a b r [] e p
  | .told, .mk z s a b r h _ p => .mk z s a b r h [] p
  | .parts, .mk z s a b r h e _ => .mk z s a b r h e []
def mergeL : List Fld → Rep → Rep → Rep
  | [], _, X => X
  | f :: l, R, X => mergeL l (stripF f R) (mergeF f R X)
def stripL : List Fld → Rep → Rep
  | [], R => R
  | f :: l, R => stripL l (stripF f R)
theorem mFld_strip (f : Fld) (st : WSt) (R : Rep) : (mFld f st R).2 = stripF f R := by cases R; cases f <;> rfl
theorem mFlds_strip : ∀ (l : List Fld) (st : WSt) (R : Rep), (mFlds l st R).2 = stripL l R
  | [], _, _ => rfl
  | f :: l, st, R => by rw [mFlds, mFlds_strip l, mFld_strip]; rfl
theorem round_fld (f : Fld) (st : WSt) (R X : Rep) : Round st (mFld f st R).1 (fun r => rFld f r X) (mergeF f R X) := by
  obtain ⟨z, s, a, b, r, h, e, p⟩ := R
  obtain ⟨z', s', a', b', r', h', e', p'⟩ := X
  cases f
  · exact ((round_size st s).map (fun v => Rep.mk z' v a' b' r' h' e' p')).of rfl (fun r => rfl) rfl
  · exact ((round_size st a).map (fun v => Rep.mk z' s' v b' r' h' e' p')).of rfl (fun r => rfl) rfl
  · exact round_if (g := fun u => wByte u b) (c := 1 < b) rfl fun u => ((round_byte u b).map (fun v => Rep.mk z' s' a' v r' h' e' p')).of rfl (fun r => rfl) rfl
  · exact ((round_root st r).map (fun v => Rep.mk z' s' a' b' v h' e' p')).of rfl (fun r => rfl) rfl
  · exact ((round_hashes st h 32768 (by decide) (by decide)).map (fun v => Rep.mk z' s' a' b' r' v e' p')).of rfl (fun r => rfl) rfl
  · exact ((round_texts st e 4096 1000 (by decide) (by decide) (by decide) (by decide)).map (fun v => Rep.mk z' s' a' b' r' h' v p')).of rfl (fun r => rfl) rfl
  · exact ((round_partsM st p).map (fun v => Rep.mk z' s' a' b' r' h' e' (p' ++ v))).of rfl (fun r => rfl) rfl
theorem round_flds : ∀ (l : List Fld) (st : WSt) (R X : Rep), Round st (mFlds l st R).1 (fun r => rFlds l r X) (mergeL l R X)
  | [], st, _, X => (Round.none st X).of rfl (fun r => rfl) rfl
  | f :: l, st, R, X => by
    have h := (round_fld f st R X).then (g := fun Y r => rFlds l r Y) (round_flds l (mFld f st R).1 (mFld f st R).2 (mergeF f R X))
    rw [mFld_strip] at h
    exact h.of (by rw [mFlds, mFld_strip]) (fun r => rfl) rfl
theorem merge_all (k : Int) (R : Rep) (h : leftOver (stripL (tableOf k) R) = false) : mergeL (tableOf k) R (.mk R.status 0 0 0 [] [] [] []) = R := by
  obtain ⟨z, s, a, b, r, hh, e, p⟩ := R
  unfold tableOf at h ⊢
  simp only [Rep.status]
  repeat' split
  all_goals (simp_all only [ite_true, ite_false, stripL, stripF]; try obtain ⟨h1, h2, h3, h4, h5, h6, h7⟩ := left_none h; subst_vars; rfl)

/-- a reply's status, and what is behind it -/
def bodyOf (K : Int) (r : RSt) : Rep × RSt :=
  let zz := rd pByte 0 r
  if zz.1 = 0 then rFlds (tableOf K) zz.2 (.mk (zz.1 : Nat) 0 0 0 [] [] [] []) else (.mk (zz.1 : Nat) 0 0 0 [] [] [] [], zz.2)
theorem takeRep_eq (K : Int) (p : List UInt8) : takeRep K p = ((rd pByte 0 (p, 0, 0)).1, bodyOf K (rd pByte 0 (p, 0, 0)).2) := rfl
theorem round_body (st : WSt) (k : Int) (R : Rep) :
    Round st (mRest (if R.status = 0 then mFlds (tableOf k) (mStatus st R.status) R else (mStatus st R.status, R)).1 (if R.status = 0 then mFlds (tableOf k) (mStatus st R.status) R else (mStatus st R.status, R)).2) (bodyOf k) R := by
  refine round_rest fun hl => ?_
  have key : ∀ r, bodyOf k r = (fun z r => if z = 0 then rFlds (tableOf k) r (.mk z 0 0 0 [] [] [] []) else (.mk z 0 0 0 [] [] [] [], r)) (((rd pByte 0 r).1 : Nat) : Int) (rd pByte 0 r).2 := fun r => by
    unfold bodyOf
    by_cases hk : (rd pByte 0 r).1 = 0
    · simp only [hk]; rfl
    · simp only [if_neg hk]; rw [if_neg (by omega)]
  by_cases hz : R.status = 0
  · rw [if_pos hz] at hl ⊢
    rw [mFlds_strip] at hl
    have hm := merge_all k R hl
    refine ((round_status st R.status).then (g := fun z r => if z = 0 then rFlds (tableOf k) r (.mk z 0 0 0 [] [] [] []) else (.mk z 0 0 0 [] [] [] [], r)) ((round_flds (tableOf k) (mStatus st R.status) R (.mk R.status 0 0 0 [] [] [] [])).of rfl (fun r => by rw [if_pos hz]) rfl)).of rfl key hm.symm
  · rw [if_neg hz] at hl ⊢
    obtain ⟨z, s, a, b, r, h, e, p⟩ := R
    obtain ⟨rfl, rfl, rfl, rfl, rfl, rfl, rfl⟩ := left_none hl
    have hz : ¬ z = 0 := hz
    exact ((round_status st z).then (g := fun z r => if z = 0 then rFlds (tableOf k) r (.mk z 0 0 0 [] [] [] []) else (.mk z 0 0 0 [] [] [] [], r)) ((Round.none _ (Rep.mk z 0 0 0 [] [] [] [])).of rfl (fun r => by rw [if_neg hz]) rfl)).of rfl key rfl
/-- what a reply's frame is -/
theorem encRep_frame {k : Int} {R : Rep} (h : (encRep k R).2 = 0) : ∃ p c, p.length ≤ 1048576 ∧ encRep k R = (digs p.length ++ p, 0) ∧ takeRep k p = (k.toNat, R, ([], c, 0)) ∧ 0 ≤ k ∧ k ≤ 12 ∧ ∀ j, (takeRep j p).1 = k.toNat := by
  unfold encRep at h ⊢
  by_cases hk : k < 0 ∨ 12 < k
  · rw [if_pos hk] at h
    exact absurd h (by decide)
  rw [if_neg hk] at h ⊢
  by_cases hp : k = 0 ∧ R.status = 0
  · rw [if_pos hp] at h
    exact absurd h (by decide)
  rw [if_neg hp] at h ⊢
  have R0 := round_body (wByte ([], 0) k) k R
  have hw : wByte ([], 0) k = ([UInt8.ofNat k.toNat], 0) := by
    unfold wByte
    rw [if_neg (by omega)]
    rfl
  rw [hw] at h R0 ⊢
  dsimp only at h ⊢
  obtain ⟨X, hX⟩ : ∃ X, mRest (if R.status = 0 then mFlds (tableOf k) (mStatus ([UInt8.ofNat k.toNat], 0) R.status) R else (mStatus ([UInt8.ofNat k.toNat], 0) R.status, R)).1 (if R.status = 0 then mFlds (tableOf k) (mStatus ([UInt8.ofNat k.toNat], 0) R.status) R else (mStatus ([UInt8.ofNat k.toNat], 0) R.status, R)).2 = X := ⟨_, rfl⟩
  rw [hX] at h R0 ⊢
  unfold framedW at h ⊢
  by_cases h0 : X.2 ≠ 0
  · rw [if_pos h0] at h
    exact absurd h (by decide)
  rw [if_neg h0] at h ⊢
  obtain ⟨-, d, hd, ht⟩ := R0 (Decidable.not_not.1 h0)
  unfold framed at h ⊢
  by_cases hbig : 1048576 < X.1.length
  · rw [if_pos hbig] at h
    exact absurd h (by decide)
  rw [if_neg hbig] at h ⊢
  have hkn : (UInt8.ofNat k.toNat).toNat = k.toNat := by
    have : k.toNat < 256 := by omega
    simp [UInt8.toNat_ofNat']
    omega
  have hr : rd pByte 0 (X.1, 0, 0) = (k.toNat, (d, X.1.length - d.length, 0)) := by
    rw [hd]
    unfold rd
    rw [if_neg (fun h => h rfl)]
    show ((UInt8.ofNat k.toNat).toNat, (d, _, _)) = _
    rw [hkn]
    simp
  obtain ⟨c', hc⟩ := ht [] (X.1.length - d.length)
  rw [List.append_nil] at hc
  refine ⟨X.1, c', by omega, by simp, ?_, by omega, by omega, fun j => ?_⟩
  · rw [takeRep_eq, hr, hc]
  · rw [takeRep_eq, hr]
theorem decRep_back {k : Int} {R : Rep} (rest : List UInt8) (h : (encRep k R).2 = 0) : decRep k ((encRep k R).1 ++ rest) = (R, rest, 0) := by
  obtain ⟨p, c, hp, he, ht, hk0, hk1, -⟩ := encRep_frame h
  have hu := unframedM_of p rest hp
  have hf : fitsRep k (takeRep k p) ((digs p.length ++ (p ++ rest)).take ((digs p.length ++ (p ++ rest)).length - rest.length)) = true := by
    unfold fitsRep
    rw [decide_eq_true_eq, ht]
    refine ⟨by simp; omega, by unfold rDone; simp, by rw [he], ?_⟩
    rw [he]
    simp only
    rw [← List.append_assoc, List.length_append, Nat.add_sub_cancel, List.take_left']
    rfl
  rw [he]
  simp only
  rw [List.append_assoc]
  unfold decRep
  rw [if_neg (by omega), hu]
  simp only
  rw [if_neg (by decide), if_pos hf, ht]
theorem decRep_short {k : Int} {R : Rep} (c : Nat) (h : (encRep k R).2 = 0) (hc : c < (encRep k R).1.length) : (decRep k ((encRep k R).1.take c)).2.2 = 172 := by
  obtain ⟨p, _, hp, he, _, hk0, hk1, -⟩ := encRep_frame h
  rw [he] at hc ⊢
  have hu := unframedM_short p c hp hc
  unfold decRep
  rw [if_neg (by omega)]
  simp only
  rw [hu]
  rfl
theorem decRep_other {k j : Int} {R : Rep} (h : (encRep k R).2 = 0) (hj0 : 0 ≤ j) (hj1 : j ≤ 12) (hne : j ≠ k) : (decRep j (encRep k R).1).2.2 = 173 := by
  obtain ⟨p, _, hp, he, _, hk0, hk1, ho⟩ := encRep_frame h
  rw [he]
  have hu := unframedM_of p [] hp
  rw [List.append_nil] at hu
  unfold decRep
  rw [if_neg (by omega)]
  simp only
  rw [hu]
  simp only
  have hf : ∀ s, fitsRep j (takeRep j p) s = false := fun s => by
    unfold fitsRep
    rw [decide_eq_false_iff_not, ho j]
    intro hh
    exact hne (by omega)
  rw [if_neg (by decide), hf]
  rfl
theorem encRep_first {k : Int} {R : Rep} (h : (encRep k R).2 = 0) : 0 < (encRep k R).1.length := by
  obtain ⟨p, _, hp, he, _⟩ := encRep_frame h
  rw [he]
  have := digs_pos p.length
  simp
  omega
end Go.Proofs.YtpccaodkgboefaaGreatDoor
