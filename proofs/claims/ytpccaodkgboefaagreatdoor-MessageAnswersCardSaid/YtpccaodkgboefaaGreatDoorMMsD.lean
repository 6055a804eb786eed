/-
  Package message: a reply under way, laid down or taken: its numbers.
  Package message: a reply's numbers, laid down or taken.
-/
import Derived.Test.YtpccaodkgboefaaGreatDoorMMsC
import Derived.Deep.RegionLaw
namespace Go.Proofs.YtpccaodkgboefaaGreatDoor
open Go.RowKit

/-- an object at work beside a reply's struct at br: S, w: where the call began -/
structure XSt (S : Nat → Prop) (w : World) (br : Nat) (S1 : Nat → Prop) (W : World) (cs : Array Value) : Prop where
  grows : Grows S S1 w W
  keeps : Keeps (fun q => S q ∨ q = br) w W
  box : W.heap[br]? = some (.cells cs 48 (0, 0))
  out : ¬ S1 br
  nbr : br < w.heap.size
section
variable {S S1 : Nat → Prop} {w W W' : World} {br : Nat} {cs : Array Value}
theorem XSt.start (hb : w.heap[br]? = some (.cells cs 48 (0, 0))) (ho : ¬ S br) : XSt S w br S w cs := ⟨fun _ h => .inl h, Keeps.refl _ _, hb, ho, lt_of_block hb⟩
theorem XSt.fresh (h : XSt S w br S1 W cs) (hk : Fresh W W') : XSt S w br S1 W' cs :=
  ⟨fun k hs => (h.grows k hs).imp id (fun h => ⟨h.1, Nat.lt_of_lt_of_le h.2 hk.size⟩), h.keeps.trans' hk (fun _ _ h => h.elim), hk.at_ h.box (fun h => h), h.out, h.nbr⟩
theorem XSt.acts {R : (Nat → Prop) → Prop} (h : XSt S w br S1 W cs) (ha : Acts S1 W W' R) : ∃ S2, XSt S w br S2 W' cs ∧ R S2 ∧ Grows S1 S2 W W' ∧ Keeps S1 W W' := by
  obtain ⟨S2, hg, hk, hr⟩ := ha
  refine ⟨S2, ⟨fun q hq => ?_, h.keeps.trans' hk (fun q hq h1 => ?_), hk.at_ h.box h.out, fun hq => ?_, h.nbr⟩, hr, hg, hk⟩
  · rcases hg q hq with h1 | h1
    · exact (h.grows q h1).imp id (fun h => ⟨h.1, Nat.lt_of_lt_of_le h.2 hk.size⟩)
    · have := h.keeps.size; exact .inr ⟨by omega, h1.2⟩
  · rcases h.grows q h1 with h2 | h2
    · exact .inl h2
    · omega
  · rcases hg br hq with h1 | h1
    · exact h.out h1
    · have := lt_of_block h.box; omega
theorem XSt.put (h : XSt S w br S1 W cs) (o : Nat) (u : Value) : XSt S w br S1 (W.setCell ⟨br, o, none⟩ u) (cs.setIfInBounds o u) :=
  ⟨fun k hs => (h.grows k hs).imp id (fun h => ⟨h.1, by simpa using h.2⟩), h.keeps.setCell (fun _ => .inr rfl) _, heap_setCell_at h.box o u, h.out, h.nbr⟩
theorem XSt.putKeeps (W : World) (br o : Nat) (u : Value) : Keeps (fun q => q = br) W (W.setCell ⟨br, o, none⟩ u) := Keeps.setCell (S := fun q => q = br) (p := ⟨br, o, none⟩) (Keeps.refl _ _) (fun _ => rfl) _
theorem XSt.drew (h : XSt S w br S1 W cs) : XSt S w br S1 W.drew cs := h.fresh ((Keeps.refl _ _).drew)
end
/-- what a method of a reply that is laid down leaves -/
def XW (S : Nat → Prop) (w : World) (br wb : Nat) (st : WSt) (cs : Array Value) (w' : World) : Prop := ∃ S', XSt S w br S' w' cs ∧ WRep S' w' wb st
def XR (S : Nat → Prop) (w : World) (br rb : Nat) (r : RSt) (cs : Array Value) (w' : World) : Prop := ∃ S', XSt S w br S' w' cs ∧ RRep S' w' rb r
def aggW (wb br : Nat) : Value := .agg #[.pointer (some ⟨wb, 0, none⟩), .pointer none, .pointer (some ⟨br, 0, none⟩)]
def aggR (rb br : Nat) : Value := .agg #[.pointer none, .pointer (some ⟨rb, 0, none⟩), .pointer (some ⟨br, 0, none⟩)]

set_option maxRecDepth 100000 in
set_option maxHeartbeats 1000000 in
theorem xdone_w (wb br o : Nat) (n : Int) (cs : Array Value) (w : World) (hb : w.heap[br]? = some (.cells cs 48 (0, 0))) (hn : cs[o]? = some (.int .i64 n)) :
    Calls Tryz.prog 134 #[aggW wb br, .pointer (some ⟨br, o, none⟩)] w fun e w' => e = .returned (.tuple #[]) ∧ Fresh (w.setCell ⟨br, o, none⟩ (.int .i64 0)) w' := by
  have hbl := lt_of_block hb
  have c0 := (cell_at hb o).trans hn
  have f0 := free_at hb o
  unfold aggW
  go_enter Tryz.func134, Tryz.ntmps134
  go_wp2
  go_end0
  exact ⟨rfl, (Keeps.refl _ _).alloc _⟩

set_option maxRecDepth 100000 in
set_option maxHeartbeats 1000000 in
theorem xdone_r (rb br o : Nat) (w : World) :
    Calls Tryz.prog 134 #[aggR rb br, .pointer (some ⟨br, o, none⟩)] w fun e w' => e = .returned (.tuple #[]) ∧ Fresh w w' := by
  unfold aggR
  go_enter Tryz.func134, Tryz.ntmps134
  go_wp2
  go_end0
  exact ⟨rfl, (Keeps.refl _ _).alloc _⟩

set_option maxRecDepth 100000 in
set_option maxHeartbeats 1000000 in
theorem xnumber_w (S : Nat → Prop) (wb br o : Nat) (st : WSt) (n : Int) (cs : Array Value) (w : World) (h : WRep S w wb st) (hb : w.heap[br]? = some (.cells cs 48 (0, 0))) (ho : ¬ S br) (hn : cs[o]? = some (.int .i64 n)) (hlen : st.1.length < 70368744177664) :
    Calls Tryz.prog 129 #[aggW wb br, .pointer (some ⟨br, o, none⟩)] w fun e w' => e = .returned (.tuple #[]) ∧ XW S w br wb (mSize st n) (cs.setIfInBounds o (.int .i64 0)) w' := by
  have hx := (XSt.start hb ho).fresh (W' := w.alloc (.cells #[.pointer (some ⟨wb, 0, none⟩), .pointer none, .pointer (some ⟨br, 0, none⟩)] 87)) ((Keeps.refl _ _).alloc _)
  have hr : WRep S (w.alloc (.cells #[.pointer (some ⟨wb, 0, none⟩), .pointer none, .pointer (some ⟨br, 0, none⟩)] 87)) wb st := h.keeps ((Keeps.refl (fun _ => False) _).alloc _) (fun _ _ h => h)
  have hbx := heap_alloc_new w (.cells #[.pointer (some ⟨wb, 0, none⟩), .pointer none, .pointer (some ⟨br, 0, none⟩)] 87)
  have hsz : ¬ S w.heap.size := fun h' => by have := (h.2.1 _ h').2; omega
  unfold aggW
  go_enter Tryz.func129, Tryz.ntmps129
  go_upto_region 1 with fail
  obtain ⟨bx, hbxe⟩ : ∃ bx, w.heap.size = bx := ⟨_, rfl⟩
  rw [hbxe] at hbx hsz ⊢
  generalize w.alloc (.cells #[.pointer (some ⟨wb, 0, none⟩), .pointer none, .pointer (some ⟨br, 0, none⟩)] 87) = W0 at hx hr hbx ⊢
  have x0 := cell_at hbx 0
  have x1 := cell_at hbx 1
  have x2 := cell_at hbx 2
  have c0 := (cell_at hx.box o).trans hn
  simp at x0 x1 x2
  have HX : Hid (XSt S w br S W0.drew cs) := hx.drew
  have HR : Hid (WRep S W0.drew wb st) := hr.keeps (T := fun _ => False) ((Keeps.refl _ _).drew) (fun _ _ h => h)
  have HN := hid hn
  have HBX := hid hbx
  have HB0 := hid hb
  clear hx hr hbx hb h hbxe hn
  go_wp2_with fail
  go_region_law (first | (go_simp; go_at_call 66; refine (msize_any S wb st n _ HR.out hlen).mono ?_; rintro e w3 ⟨rfl, hA⟩))
  all_goals
    obtain ⟨S3, X3, R3, g3, k3⟩ := HX.out.acts hA
    have hb3 := k3.at_ HBX.out hsz
    have x0 := cell_at hb3 0
    have x1 := cell_at hb3 1
    have x2 := cell_at hb3 2
    simp at x0 x1 x2
    have hdn := xdone_w wb br o n cs w3 X3.box HN.out
    unfold aggW at hdn
    have HDN := hid hdn
    have HX3 := hid X3
    have HR3 := hid R3
    clear X3 R3 hb3 hA hdn
    go_wp2_with fail
    refine HDN.out.mono ?_
    rintro e w4 ⟨rfl, f0⟩
    go_wp2
    go_end0
    exact ⟨rfl, S3, (HX3.out.put o _).fresh f0, (HR3.out.keeps (XSt.putKeeps _ _ _ _) (fun q hq (e : q = br) => HX3.out.out (by rw [← e]; exact hq))).keeps f0 (fun _ _ h => h)⟩
end Go.Proofs.YtpccaodkgboefaaGreatDoor

namespace Go.Proofs.YtpccaodkgboefaaGreatDoor
open Go.RowKit


set_option maxRecDepth 100000 in
set_option maxHeartbeats 1000000 in
theorem xnumber_r (S : Nat → Prop) (rb br o : Nat) (r : RSt) (n : Int) (cs : Array Value) (w : World) (h : RRep S w rb r) (hb : w.heap[br]? = some (.cells cs 48 (0, 0))) (ho : ¬ S br) (hn : cs[o]? = some (.int .i64 n)) :
    Calls Tryz.prog 129 #[aggR rb br, .pointer (some ⟨br, o, none⟩)] w fun e w' => e = .returned (.tuple #[]) ∧ XR S w br rb (rd (pNum 0 0) 0 r).2 (cs.setIfInBounds o (.int .i64 ((rd (pNum 0 0) 0 r).1 : Nat))) w' := by
  have hx := (XSt.start hb ho).fresh (W' := w.alloc (.cells #[.pointer none, .pointer (some ⟨rb, 0, none⟩), .pointer (some ⟨br, 0, none⟩)] 87)) ((Keeps.refl _ _).alloc _)
  have hr : RRep S (w.alloc (.cells #[.pointer none, .pointer (some ⟨rb, 0, none⟩), .pointer (some ⟨br, 0, none⟩)] 87)) rb r := h.fresh ((Keeps.refl _ _).alloc _)
  have hbx := heap_alloc_new w (.cells #[.pointer none, .pointer (some ⟨rb, 0, none⟩), .pointer (some ⟨br, 0, none⟩)] 87)
  have hsz : ¬ S w.heap.size := fun h' => by have := (h.2.1 _ h').2; omega
  have hdn := fun W => xdone_r rb br o W
  unfold aggR at hdn ⊢
  go_enter Tryz.func129, Tryz.ntmps129
  go_upto_region 1 with fail
  obtain ⟨bx, hbxe⟩ : ∃ bx, w.heap.size = bx := ⟨_, rfl⟩
  have hne : bx ≠ br := by have := lt_of_block hb; omega
  rw [hbxe] at hbx hsz ⊢
  generalize w.alloc (.cells #[.pointer none, .pointer (some ⟨rb, 0, none⟩), .pointer (some ⟨br, 0, none⟩)] 87) = W0 at hx hr hbx ⊢
  have x0 := cell_at hbx 0
  have x1 := cell_at hbx 1
  have x2 := cell_at hbx 2
  simp at x0 x1 x2
  have HX := hid hx
  have HR := hid hr
  have HN := hid hn
  have HBX := hid hbx
  have HB0 := hid hb
  have HDN := hid hdn
  clear hx hr hbx hb h hbxe hn hdn
  go_wp2_with fail
  refine (rnum_any S rb r _ HR.out).mono ?_
  rintro e w3 ⟨rfl, hA⟩
  obtain ⟨S3, X3, R3, g3, k3⟩ := HX.out.acts hA
  have hb3 := k3.at_ HBX.out hsz
  have x0 := cell_at hb3 0
  have x1 := cell_at hb3 1
  have x2 := cell_at hb3 2
  have c0 := (cell_at X3.box o).trans HN.out
  have f0 := free_at X3.box o
  simp at x0 x1 x2
  have X4 := X3.put o (.int .i64 ((rd (pNum 0 0) 0 r).1 : Nat))
  have R4 := R3.keeps (XSt.putKeeps w3 br o (.int .i64 ((rd (pNum 0 0) 0 r).1 : Nat))) (fun q hq (e : q = br) => X3.out (by rw [← e]; exact hq))
  have HX3 := hid X4
  have HR3 := hid R4
  have hne2 : br ≠ bx := fun h => hne h.symm
  clear X3 R3 hb3 hA X4 R4
  go_wp2_with fail
  refine (HDN.out _).mono ?_
  rintro e w4 ⟨rfl, f0⟩
  go_wp2
  go_end0
  exact ⟨rfl, S3, HX3.out.fresh f0, HR3.out.fresh f0⟩

set_option maxRecDepth 100000 in
set_option maxHeartbeats 1000000 in
theorem xsize_w (S : Nat → Prop) (wb br : Nat) (st : WSt) (z s a b : Int) (t : List UInt8) (hv ev pv : Value) (w : World) (h : WRep S w wb st) (hb : w.heap[br]? = some (.cells #[.int .i64 z, .int .i64 s, .int .i64 a, .int .i64 b, .string (str t), hv, ev, pv] 48 (0, 0))) (ho : ¬ S br) (hlen : st.1.length < 70368744177664) :
    Calls Tryz.prog 94 #[aggW wb br] w fun e w' => e = .returned (.tuple #[]) ∧ XW S w br wb (mSize st s) #[.int .i64 z, .int .i64 0, .int .i64 a, .int .i64 b, .string (str t), hv, ev, pv] w' := by
  have hx := (XSt.start hb ho).fresh (W' := w.alloc (.cells #[.pointer (some ⟨wb, 0, none⟩), .pointer none, .pointer (some ⟨br, 0, none⟩)] 87)) ((Keeps.refl _ _).alloc _)
  have hr := h.keeps (T := fun _ => False) (w' := w.alloc (.cells #[.pointer (some ⟨wb, 0, none⟩), .pointer none, .pointer (some ⟨br, 0, none⟩)] 87)) ((Keeps.refl _ _).alloc _) (fun _ _ h => h)
  have hbx := heap_alloc_new w (.cells #[.pointer (some ⟨wb, 0, none⟩), .pointer none, .pointer (some ⟨br, 0, none⟩)] 87)
  unfold aggW
  go_enter Tryz.func94, Tryz.ntmps94
  go_upto_region 1 with fail
  obtain ⟨bx, hbxe⟩ : ∃ bx, w.heap.size = bx := ⟨_, rfl⟩
  rw [hbxe] at hbx ⊢
  generalize w.alloc (.cells #[.pointer (some ⟨wb, 0, none⟩), .pointer none, .pointer (some ⟨br, 0, none⟩)] 87) = W0 at hx hr hbx ⊢
  have x0 := cell_at hbx 0
  have x1 := cell_at hbx 1
  have x2 := cell_at hbx 2
  simp at x0 x1 x2
  have HX : Hid (XSt S w br S W0.drew _) := hx.drew
  have HR := hid (hr.keeps (T := fun _ => False) (w' := W0.drew) ((Keeps.refl _ _).drew) (fun _ _ h => h))
  clear hx hr hbx hb h hbxe
  have hc := xnumber_w S wb br 1 st s _ _ HR.out HX.out.box HX.out.out rfl hlen
  unfold aggW at hc
  have HC := hid hc
  clear hc
  go_region_law (first | (go_simp; go_at_call 129; refine HC.out.mono ?_; rintro e w3 ⟨rfl, S3, X3, R3⟩))
  all_goals
    go_wp2
    go_end0
    refine ⟨rfl, S3, ⟨fun q hq => ?_, HX.out.keeps.trans' X3.keeps (fun _ _ h => h), X3.box, X3.out, HX.out.nbr⟩, R3⟩
    rcases X3.grows q hq with h1 | h1
    · exact .inl h1
    · have := HX.out.keeps.size; exact .inr ⟨by omega, h1.2⟩

set_option maxRecDepth 100000 in
set_option maxHeartbeats 1000000 in
theorem xsize_r (S : Nat → Prop) (rb br : Nat) (r : RSt) (z s a b : Int) (t : List UInt8) (hv ev pv : Value) (w : World) (h : RRep S w rb r) (hb : w.heap[br]? = some (.cells #[.int .i64 z, .int .i64 s, .int .i64 a, .int .i64 b, .string (str t), hv, ev, pv] 48 (0, 0))) (ho : ¬ S br) :
    Calls Tryz.prog 94 #[aggR rb br] w fun e w' => e = .returned (.tuple #[]) ∧ XR S w br rb (rd (pNum 0 0) 0 r).2 #[.int .i64 z, .int .i64 ((rd (pNum 0 0) 0 r).1 : Nat), .int .i64 a, .int .i64 b, .string (str t), hv, ev, pv] w' := by
  have hx := (XSt.start hb ho).fresh (W' := w.alloc (.cells #[.pointer none, .pointer (some ⟨rb, 0, none⟩), .pointer (some ⟨br, 0, none⟩)] 87)) ((Keeps.refl _ _).alloc _)
  have hr := h.keeps (T := fun _ => False) (w' := w.alloc (.cells #[.pointer none, .pointer (some ⟨rb, 0, none⟩), .pointer (some ⟨br, 0, none⟩)] 87)) ((Keeps.refl _ _).alloc _) (fun _ _ h => h)
  have hbx := heap_alloc_new w (.cells #[.pointer none, .pointer (some ⟨rb, 0, none⟩), .pointer (some ⟨br, 0, none⟩)] 87)
  unfold aggR
  go_enter Tryz.func94, Tryz.ntmps94
  go_upto_region 1 with fail
  obtain ⟨bx, hbxe⟩ : ∃ bx, w.heap.size = bx := ⟨_, rfl⟩
  rw [hbxe] at hbx ⊢
  generalize w.alloc (.cells #[.pointer none, .pointer (some ⟨rb, 0, none⟩), .pointer (some ⟨br, 0, none⟩)] 87) = W0 at hx hr hbx ⊢
  have x0 := cell_at hbx 0
  have x1 := cell_at hbx 1
  have x2 := cell_at hbx 2
  simp at x0 x1 x2
  have HX : Hid (XSt S w br S W0.drew _) := hx.drew
  have HR := hid (hr.keeps (T := fun _ => False) (w' := W0.drew) ((Keeps.refl _ _).drew) (fun _ _ h => h))
  clear hx hr hbx hb h hbxe
  have hc := xnumber_r S rb br 1 r s _ _ HR.out HX.out.box HX.out.out rfl
  unfold aggR at hc
  have HC := hid hc
  clear hc
  go_region_law (first | (go_simp; go_at_call 129; refine HC.out.mono ?_; rintro e w3 ⟨rfl, S3, X3, R3⟩))
  all_goals
    go_wp2
    go_end0
    refine ⟨rfl, S3, ⟨fun q hq => ?_, HX.out.keeps.trans' X3.keeps (fun _ _ h => h), X3.box, X3.out, HX.out.nbr⟩, R3⟩
    rcases X3.grows q hq with h1 | h1
    · exact .inl h1
    · have := HX.out.keeps.size; exact .inr ⟨by omega, h1.2⟩

set_option maxRecDepth 100000 in
set_option maxHeartbeats 1000000 in
theorem xa_w (S : Nat → Prop) (wb br : Nat) (st : WSt) (z s a b : Int) (t : List UInt8) (hv ev pv : Value) (w : World) (h : WRep S w wb st) (hb : w.heap[br]? = some (.cells #[.int .i64 z, .int .i64 s, .int .i64 a, .int .i64 b, .string (str t), hv, ev, pv] 48 (0, 0))) (ho : ¬ S br) (hlen : st.1.length < 70368744177664) :
    Calls Tryz.prog 95 #[aggW wb br] w fun e w' => e = .returned (.tuple #[]) ∧ XW S w br wb (mSize st a) #[.int .i64 z, .int .i64 s, .int .i64 0, .int .i64 b, .string (str t), hv, ev, pv] w' := by
  have hx := (XSt.start hb ho).fresh (W' := w.alloc (.cells #[.pointer (some ⟨wb, 0, none⟩), .pointer none, .pointer (some ⟨br, 0, none⟩)] 87)) ((Keeps.refl _ _).alloc _)
  have hr := h.keeps (T := fun _ => False) (w' := w.alloc (.cells #[.pointer (some ⟨wb, 0, none⟩), .pointer none, .pointer (some ⟨br, 0, none⟩)] 87)) ((Keeps.refl _ _).alloc _) (fun _ _ h => h)
  have hbx := heap_alloc_new w (.cells #[.pointer (some ⟨wb, 0, none⟩), .pointer none, .pointer (some ⟨br, 0, none⟩)] 87)
  unfold aggW
  go_enter Tryz.func95, Tryz.ntmps95
  go_upto_region 1 with fail
  obtain ⟨bx, hbxe⟩ : ∃ bx, w.heap.size = bx := ⟨_, rfl⟩
  rw [hbxe] at hbx ⊢
  generalize w.alloc (.cells #[.pointer (some ⟨wb, 0, none⟩), .pointer none, .pointer (some ⟨br, 0, none⟩)] 87) = W0 at hx hr hbx ⊢
  have x0 := cell_at hbx 0
  have x1 := cell_at hbx 1
  have x2 := cell_at hbx 2
  simp at x0 x1 x2
  have HX : Hid (XSt S w br S W0.drew _) := hx.drew
  have HR := hid (hr.keeps (T := fun _ => False) (w' := W0.drew) ((Keeps.refl _ _).drew) (fun _ _ h => h))
  clear hx hr hbx hb h hbxe
  have hc := xnumber_w S wb br 2 st a _ _ HR.out HX.out.box HX.out.out rfl hlen
  unfold aggW at hc
  have HC := hid hc
  clear hc
  go_region_law (first | (go_simp; go_at_call 129; refine HC.out.mono ?_; rintro e w3 ⟨rfl, S3, X3, R3⟩))
  all_goals
    go_wp2
    go_end0
    refine ⟨rfl, S3, ⟨fun q hq => ?_, HX.out.keeps.trans' X3.keeps (fun _ _ h => h), X3.box, X3.out, HX.out.nbr⟩, R3⟩
    rcases X3.grows q hq with h1 | h1
    · exact .inl h1
    · have := HX.out.keeps.size; exact .inr ⟨by omega, h1.2⟩

set_option maxRecDepth 100000 in
set_option maxHeartbeats 1000000 in
theorem xa_r (S : Nat → Prop) (rb br : Nat) (r : RSt) (z s a b : Int) (t : List UInt8) (hv ev pv : Value) (w : World) (h : RRep S w rb r) (hb : w.heap[br]? = some (.cells #[.int .i64 z, .int .i64 s, .int .i64 a, .int .i64 b, .string (str t), hv, ev, pv] 48 (0, 0))) (ho : ¬ S br) :
    Calls Tryz.prog 95 #[aggR rb br] w fun e w' => e = .returned (.tuple #[]) ∧ XR S w br rb (rd (pNum 0 0) 0 r).2 #[.int .i64 z, .int .i64 s, .int .i64 ((rd (pNum 0 0) 0 r).1 : Nat), .int .i64 b, .string (str t), hv, ev, pv] w' := by
  have hx := (XSt.start hb ho).fresh (W' := w.alloc (.cells #[.pointer none, .pointer (some ⟨rb, 0, none⟩), .pointer (some ⟨br, 0, none⟩)] 87)) ((Keeps.refl _ _).alloc _)
  have hr := h.keeps (T := fun _ => False) (w' := w.alloc (.cells #[.pointer none, .pointer (some ⟨rb, 0, none⟩), .pointer (some ⟨br, 0, none⟩)] 87)) ((Keeps.refl _ _).alloc _) (fun _ _ h => h)
  have hbx := heap_alloc_new w (.cells #[.pointer none, .pointer (some ⟨rb, 0, none⟩), .pointer (some ⟨br, 0, none⟩)] 87)
  unfold aggR
  go_enter Tryz.func95, Tryz.ntmps95
  go_upto_region 1 with fail
  obtain ⟨bx, hbxe⟩ : ∃ bx, w.heap.size = bx := ⟨_, rfl⟩
  rw [hbxe] at hbx ⊢
  generalize w.alloc (.cells #[.pointer none, .pointer (some ⟨rb, 0, none⟩), .pointer (some ⟨br, 0, none⟩)] 87) = W0 at hx hr hbx ⊢
  have x0 := cell_at hbx 0
  have x1 := cell_at hbx 1
  have x2 := cell_at hbx 2
  simp at x0 x1 x2
  have HX : Hid (XSt S w br S W0.drew _) := hx.drew
  have HR := hid (hr.keeps (T := fun _ => False) (w' := W0.drew) ((Keeps.refl _ _).drew) (fun _ _ h => h))
  clear hx hr hbx hb h hbxe
  have hc := xnumber_r S rb br 2 r a _ _ HR.out HX.out.box HX.out.out rfl
  unfold aggR at hc
  have HC := hid hc
  clear hc
  go_region_law (first | (go_simp; go_at_call 129; refine HC.out.mono ?_; rintro e w3 ⟨rfl, S3, X3, R3⟩))
  all_goals
    go_wp2
    go_end0
    refine ⟨rfl, S3, ⟨fun q hq => ?_, HX.out.keeps.trans' X3.keeps (fun _ _ h => h), X3.box, X3.out, HX.out.nbr⟩, R3⟩
    rcases X3.grows q hq with h1 | h1
    · exact .inl h1
    · have := HX.out.keeps.size; exact .inr ⟨by omega, h1.2⟩
end Go.Proofs.YtpccaodkgboefaaGreatDoor
