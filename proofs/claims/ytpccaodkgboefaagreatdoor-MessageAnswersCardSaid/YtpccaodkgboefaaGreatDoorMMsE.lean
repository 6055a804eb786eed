/-
  Package message: a reply's root, hashes, entries and end, laid down or taken.
  Package message: a reply's root laid down; its end, laid down or taken.
  Package message: a reply's status; what is left over.
-/
import Derived.Test.YtpccaodkgboefaaGreatDoorMMsD
namespace Go.Proofs.YtpccaodkgboefaaGreatDoor
open Go.RowKit

/-- a list that was taken: a row of new memory that nobody else owns -/
def NewTexts (S' : Nat → Prop) (w w' : World) (v : Value) (l : List (List UInt8)) : Prop := w'.ownsRow 0 9 1 v l.length (texts l) ∧ ∀ g, v.ownBlock = some g → ¬ S' g ∧ w.heap.size ≤ g
theorem XSt.after {S S1 S2 : Nat → Prop} {w W w' : World} {br : Nat} {cs cs' : Array Value} (h : XSt S w br S1 W cs) (k : XSt S1 W br S2 w' cs') : XSt S w br S2 w' cs' := by
  refine ⟨fun q hq => ?_, h.keeps.trans' k.keeps (fun q hq h1 => ?_), k.box, k.out, h.nbr⟩
  · rcases k.grows q hq with h1 | h1
    · exact (h.grows q h1).imp id (fun h => ⟨h.1, Nat.lt_of_lt_of_le h.2 k.keeps.size⟩)
    · have := h.keeps.size; exact .inr ⟨by omega, h1.2⟩
  · rcases h1 with h1 | h1
    · rcases h.grows q h1 with h2 | h2
      · exact .inl h2
      · omega
    · exact .inr h1

set_option maxRecDepth 100000 in
set_option maxHeartbeats 1000000 in
theorem xroot_r (S : Nat → Prop) (rb br : Nat) (r : RSt) (z s a b : Int) (t : List UInt8) (hv ev pv : Value) (w : World) (h : RRep S w rb r) (hb : w.heap[br]? = some (.cells #[.int .i64 z, .int .i64 s, .int .i64 a, .int .i64 b, .string (str t), hv, ev, pv] 48 (0, 0))) (ho : ¬ S br) :
    Calls Tryz.prog 96 #[aggR rb br] w fun e w' => e = .returned (.tuple #[]) ∧ XR S w br rb (rd (pRaw 32) [] r).2 #[.int .i64 z, .int .i64 s, .int .i64 a, .int .i64 b, .string (str (rd (pRaw 32) [] r).1), hv, ev, pv] w' := by
  have hx := (XSt.start hb ho).fresh (W' := w.alloc (.cells #[.pointer none, .pointer (some ⟨rb, 0, none⟩), .pointer (some ⟨br, 0, none⟩)] 87)) ((Keeps.refl _ _).alloc _)
  have hr := h.keeps (T := fun _ => False) (w' := w.alloc (.cells #[.pointer none, .pointer (some ⟨rb, 0, none⟩), .pointer (some ⟨br, 0, none⟩)] 87)) ((Keeps.refl _ _).alloc _) (fun _ _ h => h)
  have hbx := heap_alloc_new w (.cells #[.pointer none, .pointer (some ⟨rb, 0, none⟩), .pointer (some ⟨br, 0, none⟩)] 87)
  have hsz : ¬ S w.heap.size := fun h' => by have := (h.2.1 _ h').2; omega
  have hwW : w.heap.size ≤ (w.alloc (.cells #[.pointer none, .pointer (some ⟨rb, 0, none⟩), .pointer (some ⟨br, 0, none⟩)] 87)).heap.size := by simp
  unfold aggR
  go_enter Tryz.func96, Tryz.ntmps96
  go_upto_region 1 with fail
  obtain ⟨bx, hbxe⟩ : ∃ bx, w.heap.size = bx := ⟨_, rfl⟩
  have hne : bx ≠ br := by have := lt_of_block hb; omega
  have hne2 : br ≠ bx := fun h => hne h.symm
  rw [hbxe] at hbx hsz ⊢
  generalize w.alloc (.cells #[.pointer none, .pointer (some ⟨rb, 0, none⟩), .pointer (some ⟨br, 0, none⟩)] 87) = W0 at hx hr hbx hwW ⊢
  have x0 := cell_at hbx 0
  have x1 := cell_at hbx 1
  have x2 := cell_at hbx 2
  simp at x0 x1 x2
  have HBX := hid hbx
  have HX := hid hx
  have HR := hid hr
  clear hx hr hbx hb h hbxe
  have HRD := hid (HR.out.keeps (T := fun _ => False) (w' := W0.drew) ((Keeps.refl _ _).drew) (fun _ _ h => h))
  have HXD : Hid (XSt S w br S W0.drew _) := HX.out.drew
  have HBD : Hid (W0.drew.heap[bx]? = _) := HBX.out
  go_upto_region 2 with fail
  have HC := hid (rraw_any S rb r 32 _ HRD.out (by omega))
  go_region_law (first | (go_simp; go_at_call 130; refine HC.out.mono ?_; rintro e w3 ⟨rfl, hA⟩; obtain ⟨S3, X3, R3, g3, k3⟩ := HXD.out.acts hA; have hb3 := k3.at_ HBD.out hsz; have x2 := cell_at hb3 2; simp at x2; have c0 := cell_at X3.box 4; have f0 := free_at X3.box 4; simp at c0))
  all_goals
    go_wp2
    (try simp only [Exit.inBlock, Exit.then])
    refine bodyPost_ret (results_none rfl _ _ _) rfl ?_
    exact ⟨rfl, S3, X3.put 4 _, R3.keeps (XSt.putKeeps _ _ _ _) (fun q hq (e : q = br) => X3.out (by rw [← e]; exact hq))⟩

set_option maxRecDepth 100000 in
set_option maxHeartbeats 1000000 in
theorem xhashes_r (S : Nat → Prop) (rb br : Nat) (r : RSt) (z s a b : Int) (t : List UInt8) (hv ev pv : Value) (w : World) (h : RRep S w rb r) (hb : w.heap[br]? = some (.cells #[.int .i64 z, .int .i64 s, .int .i64 a, .int .i64 b, .string (str t), hv, ev, pv] 48 (0, 0))) (ho : ¬ S br) :
    Calls Tryz.prog 97 #[aggR rb br] w fun e w' => e = .returned (.tuple #[]) ∧ ∃ v S', XSt S w br S' w' #[.int .i64 z, .int .i64 s, .int .i64 a, .int .i64 b, .string (str t), v, ev, pv] ∧ RRep S' w' rb (rd (pHashes 32768) [] r).2 ∧ NewTexts S' w w' v (rd (pHashes 32768) [] r).1 := by
  have hx := (XSt.start hb ho).fresh (W' := w.alloc (.cells #[.pointer none, .pointer (some ⟨rb, 0, none⟩), .pointer (some ⟨br, 0, none⟩)] 87)) ((Keeps.refl _ _).alloc _)
  have hr := h.keeps (T := fun _ => False) (w' := w.alloc (.cells #[.pointer none, .pointer (some ⟨rb, 0, none⟩), .pointer (some ⟨br, 0, none⟩)] 87)) ((Keeps.refl _ _).alloc _) (fun _ _ h => h)
  have hbx := heap_alloc_new w (.cells #[.pointer none, .pointer (some ⟨rb, 0, none⟩), .pointer (some ⟨br, 0, none⟩)] 87)
  have hsz : ¬ S w.heap.size := fun h' => by have := (h.2.1 _ h').2; omega
  have hwW : w.heap.size ≤ (w.alloc (.cells #[.pointer none, .pointer (some ⟨rb, 0, none⟩), .pointer (some ⟨br, 0, none⟩)] 87)).heap.size := by simp
  unfold aggR
  go_enter Tryz.func97, Tryz.ntmps97
  go_upto_region 1 with fail
  obtain ⟨bx, hbxe⟩ : ∃ bx, w.heap.size = bx := ⟨_, rfl⟩
  have hne : bx ≠ br := by have := lt_of_block hb; omega
  have hne2 : br ≠ bx := fun h => hne h.symm
  rw [hbxe] at hbx hsz ⊢
  generalize w.alloc (.cells #[.pointer none, .pointer (some ⟨rb, 0, none⟩), .pointer (some ⟨br, 0, none⟩)] 87) = W0 at hx hr hbx hwW ⊢
  have x0 := cell_at hbx 0
  have x1 := cell_at hbx 1
  have x2 := cell_at hbx 2
  simp at x0 x1 x2
  have HBX := hid hbx
  have HX := hid hx
  have HR := hid hr
  clear hx hr hbx hb h hbxe
  have HRD := hid (HR.out.keeps (T := fun _ => False) (w' := W0.drew) ((Keeps.refl _ _).drew) (fun _ _ h => h))
  have HXD : Hid (XSt S w br S W0.drew _) := HX.out.drew
  have HBD : Hid (W0.drew.heap[bx]? = _) := HBX.out
  go_upto_region 2 with fail
  have HC := hid (rhashes_any S rb r 32768 _ HRD.out (by omega))
  have HSZ := hid hwW
  go_region_law (first | (go_simp; go_at_call 132; refine HC.out.mono ?_; rintro e w3 ⟨v, S4, rfl, hg, hk, hr4, hrow, hnv⟩; obtain ⟨ao3, cp3, rfl⟩ := ownsRow_slice hrow; obtain ⟨S3, X3, R3, g3, k3⟩ := HXD.out.acts (R := fun S' => RRep S' w3 rb _ ∧ ∀ g, (Value.slice ao3 _ cp3).ownBlock = some g → ¬ S' g ∧ W0.drew.heap.size ≤ g) ⟨S4, hg, hk, hr4, hnv⟩; have hb3 := k3.at_ HBD.out hsz; have x2 := cell_at hb3 2; simp at x2; have c0 := cell_at X3.box 5; have f0 := free_at X3.box 5; simp at c0))
  all_goals
    go_wp2
    (try simp only [Exit.inBlock, Exit.then])
    refine bodyPost_ret (results_none rfl _ _ _) rfl ?_
    exact ⟨rfl, _, S3, X3.put 5 _, R3.1.keeps (XSt.putKeeps _ _ _ _) (fun q hq (e : q = br) => X3.out (by rw [← e]; exact hq)), ownsRow_keeps hrow (XSt.putKeeps _ _ _ _) (fun g hg (e : g = br) => by have := (R3.2 g hg).2; have := HSZ.out; have := HX.out.nbr; simp only [World.drew] at *; omega), fun g hg => ⟨(R3.2 g hg).1, Nat.le_trans HSZ.out (R3.2 g hg).2⟩⟩

set_option maxRecDepth 100000 in
set_option maxHeartbeats 1000000 in
theorem xtold_r (S : Nat → Prop) (rb br : Nat) (r : RSt) (z s a b : Int) (t : List UInt8) (hv ev pv : Value) (w : World) (h : RRep S w rb r) (hb : w.heap[br]? = some (.cells #[.int .i64 z, .int .i64 s, .int .i64 a, .int .i64 b, .string (str t), hv, ev, pv] 48 (0, 0))) (ho : ¬ S br) :
    Calls Tryz.prog 98 #[aggR rb br] w fun e w' => e = .returned (.tuple #[]) ∧ ∃ v S', XSt S w br S' w' #[.int .i64 z, .int .i64 s, .int .i64 a, .int .i64 b, .string (str t), hv, v, pv] ∧ RRep S' w' rb (rd (pTexts 4096 1000) [] r).2 ∧ NewTexts S' w w' v (rd (pTexts 4096 1000) [] r).1 := by
  have hx := (XSt.start hb ho).fresh (W' := w.alloc (.cells #[.pointer none, .pointer (some ⟨rb, 0, none⟩), .pointer (some ⟨br, 0, none⟩)] 87)) ((Keeps.refl _ _).alloc _)
  have hr := h.keeps (T := fun _ => False) (w' := w.alloc (.cells #[.pointer none, .pointer (some ⟨rb, 0, none⟩), .pointer (some ⟨br, 0, none⟩)] 87)) ((Keeps.refl _ _).alloc _) (fun _ _ h => h)
  have hbx := heap_alloc_new w (.cells #[.pointer none, .pointer (some ⟨rb, 0, none⟩), .pointer (some ⟨br, 0, none⟩)] 87)
  have hsz : ¬ S w.heap.size := fun h' => by have := (h.2.1 _ h').2; omega
  have hwW : w.heap.size ≤ (w.alloc (.cells #[.pointer none, .pointer (some ⟨rb, 0, none⟩), .pointer (some ⟨br, 0, none⟩)] 87)).heap.size := by simp
  unfold aggR
  go_enter Tryz.func98, Tryz.ntmps98
  go_upto_region 1 with fail
  obtain ⟨bx, hbxe⟩ : ∃ bx, w.heap.size = bx := ⟨_, rfl⟩
  have hne : bx ≠ br := by have := lt_of_block hb; omega
  have hne2 : br ≠ bx := fun h => hne h.symm
  rw [hbxe] at hbx hsz ⊢
  generalize w.alloc (.cells #[.pointer none, .pointer (some ⟨rb, 0, none⟩), .pointer (some ⟨br, 0, none⟩)] 87) = W0 at hx hr hbx hwW ⊢
  have x0 := cell_at hbx 0
  have x1 := cell_at hbx 1
  have x2 := cell_at hbx 2
  simp at x0 x1 x2
  have HBX := hid hbx
  have HX := hid hx
  have HR := hid hr
  clear hx hr hbx hb h hbxe
  have HRD := hid (HR.out.keeps (T := fun _ => False) (w' := W0.drew) ((Keeps.refl _ _).drew) (fun _ _ h => h))
  have HXD : Hid (XSt S w br S W0.drew _) := HX.out.drew
  have HBD : Hid (W0.drew.heap[bx]? = _) := HBX.out
  go_upto_region 2 with fail
  have HC := hid (rtexts_any S rb r 4096 1000 _ HRD.out (by omega))
  have HSZ := hid hwW
  go_region_law (first | (go_simp; go_at_call 86; refine HC.out.mono ?_; rintro e w3 ⟨v, S4, rfl, hg, hk, hr4, hrow, hnv⟩; obtain ⟨ao3, cp3, rfl⟩ := ownsRow_slice hrow; obtain ⟨S3, X3, R3, g3, k3⟩ := HXD.out.acts (R := fun S' => RRep S' w3 rb _ ∧ ∀ g, (Value.slice ao3 _ cp3).ownBlock = some g → ¬ S' g ∧ W0.drew.heap.size ≤ g) ⟨S4, hg, hk, hr4, hnv⟩; have hb3 := k3.at_ HBD.out hsz; have x2 := cell_at hb3 2; simp at x2; have c0 := cell_at X3.box 6; have f0 := free_at X3.box 6; simp at c0))
  all_goals
    go_wp2
    (try simp only [Exit.inBlock, Exit.then])
    refine bodyPost_ret (results_none rfl _ _ _) rfl ?_
    exact ⟨rfl, _, S3, X3.put 6 _, R3.1.keeps (XSt.putKeeps _ _ _ _) (fun q hq (e : q = br) => X3.out (by rw [← e]; exact hq)), ownsRow_keeps hrow (XSt.putKeeps _ _ _ _) (fun g hg (e : g = br) => by have := (R3.2 g hg).2; have := HSZ.out; have := HX.out.nbr; simp only [World.drew] at *; omega), fun g hg => ⟨(R3.2 g hg).1, Nat.le_trans HSZ.out (R3.2 g hg).2⟩⟩

set_option maxRecDepth 100000 in
set_option maxHeartbeats 1000000 in
theorem xhashes_w (S : Nat → Prop) (wb br : Nat) (st : WSt) (z s a b : Int) (t : List UInt8) (hv ev pv : Value) (w : World) (h : WRep S w wb st) (hb : w.heap[br]? = some (.cells #[.int .i64 z, .int .i64 s, .int .i64 a, .int .i64 b, .string (str t), hv, ev, pv] 48 (0, 0))) (ho : ¬ S br) (l : List (List UInt8)) (hl : ListAt w hv (texts l)) (hS : ∀ g, hv.ownBlock = some g → l ≠ [] → ¬ S g) (hlen : st.1.length + 32 * l.length + l.length + 10 < 70368744177664) :
    Calls Tryz.prog 97 #[aggW wb br] w fun e w' => e = .returned (.tuple #[]) ∧ XW S w br wb (wHashes st l 32768) #[.int .i64 z, .int .i64 s, .int .i64 a, .int .i64 b, .string (str t), .slice none 0 0, ev, pv] w' := by
  have hl0 : ListAt (w.alloc (.cells #[.pointer (some ⟨wb, 0, none⟩), .pointer none, .pointer (some ⟨br, 0, none⟩)] 87)) hv (texts l) := hl.keeps ((Keeps.refl (fun _ => False) _).alloc _) (fun _ _ h => h)
  have hx := (XSt.start hb ho).fresh (W' := w.alloc (.cells #[.pointer (some ⟨wb, 0, none⟩), .pointer none, .pointer (some ⟨br, 0, none⟩)] 87)) ((Keeps.refl _ _).alloc _)
  have hr := h.keeps (T := fun _ => False) (w' := w.alloc (.cells #[.pointer (some ⟨wb, 0, none⟩), .pointer none, .pointer (some ⟨br, 0, none⟩)] 87)) ((Keeps.refl _ _).alloc _) (fun _ _ h => h)
  have hbx := heap_alloc_new w (.cells #[.pointer (some ⟨wb, 0, none⟩), .pointer none, .pointer (some ⟨br, 0, none⟩)] 87)
  have hsz : ¬ S w.heap.size := fun h' => by have := (h.2.1 _ h').2; omega
  have hwW : w.heap.size ≤ (w.alloc (.cells #[.pointer (some ⟨wb, 0, none⟩), .pointer none, .pointer (some ⟨br, 0, none⟩)] 87)).heap.size := by simp
  unfold aggW
  go_enter Tryz.func97, Tryz.ntmps97
  go_upto_region 1 with fail
  obtain ⟨bx, hbxe⟩ : ∃ bx, w.heap.size = bx := ⟨_, rfl⟩
  have hne : bx ≠ br := by have := lt_of_block hb; omega
  have hne2 : br ≠ bx := fun h => hne h.symm
  rw [hbxe] at hbx hsz ⊢
  generalize w.alloc (.cells #[.pointer (some ⟨wb, 0, none⟩), .pointer none, .pointer (some ⟨br, 0, none⟩)] 87) = W0 at hx hr hbx hl0 hwW ⊢
  have x0 := cell_at hbx 0
  have x1 := cell_at hbx 1
  have x2 := cell_at hbx 2
  simp at x0 x1 x2
  have HBX := hid hbx
  have HX := hid hx
  have HR := hid hr
  clear hx hr hbx hb h hbxe
  have hlD : ListAt W0.drew hv (texts l) := hl0.keeps (S := fun _ => False) ((Keeps.refl _ _).drew) (fun _ _ h => h)
  have HRD := hid (HR.out.keeps (T := fun _ => False) (w' := W0.drew) ((Keeps.refl _ _).drew) (fun _ _ h => h))
  have HXD : Hid (XSt S w br S W0.drew _) := HX.out.drew
  have HBD : Hid (W0.drew.heap[bx]? = _) := HBX.out
  have HC := hid (whashes_if S wb st hv l 32768 _ HRD.out hlD hS hlen)
  obtain ⟨ao, cap, rfl, -⟩ := hl.texts
  have c0 := cell_at HX.out.box 5
  simp at c0
  clear hl hl0 hlD hS
  go_upto_region 3 with fail
  go_region_law (first | (go_simp; go_at_call 133; refine HC.out.mono ?_; rintro e w3 ⟨rfl, hA⟩; obtain ⟨S3, X3, R3, g3, k3⟩ := HXD.out.acts hA; have hb3 := k3.at_ HBD.out hsz; have x2 := cell_at hb3 2; simp at x2; have d0 := cell_at X3.box 5; have f0 := free_at X3.box 5; simp at d0))
  all_goals
    go_wp2
    go_end0
    exact ⟨rfl, S3, X3.put 5 _, R3.keeps (XSt.putKeeps _ _ _ _) (fun q hq (e : q = br) => X3.out (by rw [← e]; exact hq))⟩

set_option maxRecDepth 100000 in
set_option maxHeartbeats 1000000 in
theorem xtold_w (S : Nat → Prop) (wb br : Nat) (st : WSt) (z s a b : Int) (t : List UInt8) (hv ev pv : Value) (w : World) (h : WRep S w wb st) (hb : w.heap[br]? = some (.cells #[.int .i64 z, .int .i64 s, .int .i64 a, .int .i64 b, .string (str t), hv, ev, pv] 48 (0, 0))) (ho : ¬ S br) (l : List (List UInt8)) (hl : ListAt w ev (texts l)) (hS : ∀ g, ev.ownBlock = some g → l ≠ [] → ¬ S g) (hlen : st.1.length + bulk l + l.length + 10 < 70368744177664) :
    Calls Tryz.prog 98 #[aggW wb br] w fun e w' => e = .returned (.tuple #[]) ∧ XW S w br wb (wTexts st l 4096 1000) #[.int .i64 z, .int .i64 s, .int .i64 a, .int .i64 b, .string (str t), hv, .slice none 0 0, pv] w' := by
  have hl0 : ListAt (w.alloc (.cells #[.pointer (some ⟨wb, 0, none⟩), .pointer none, .pointer (some ⟨br, 0, none⟩)] 87)) ev (texts l) := hl.keeps ((Keeps.refl (fun _ => False) _).alloc _) (fun _ _ h => h)
  have hx := (XSt.start hb ho).fresh (W' := w.alloc (.cells #[.pointer (some ⟨wb, 0, none⟩), .pointer none, .pointer (some ⟨br, 0, none⟩)] 87)) ((Keeps.refl _ _).alloc _)
  have hr := h.keeps (T := fun _ => False) (w' := w.alloc (.cells #[.pointer (some ⟨wb, 0, none⟩), .pointer none, .pointer (some ⟨br, 0, none⟩)] 87)) ((Keeps.refl _ _).alloc _) (fun _ _ h => h)
  have hbx := heap_alloc_new w (.cells #[.pointer (some ⟨wb, 0, none⟩), .pointer none, .pointer (some ⟨br, 0, none⟩)] 87)
  have hsz : ¬ S w.heap.size := fun h' => by have := (h.2.1 _ h').2; omega
  have hwW : w.heap.size ≤ (w.alloc (.cells #[.pointer (some ⟨wb, 0, none⟩), .pointer none, .pointer (some ⟨br, 0, none⟩)] 87)).heap.size := by simp
  unfold aggW
  go_enter Tryz.func98, Tryz.ntmps98
  go_upto_region 1 with fail
  obtain ⟨bx, hbxe⟩ : ∃ bx, w.heap.size = bx := ⟨_, rfl⟩
  have hne : bx ≠ br := by have := lt_of_block hb; omega
  have hne2 : br ≠ bx := fun h => hne h.symm
  rw [hbxe] at hbx hsz ⊢
  generalize w.alloc (.cells #[.pointer (some ⟨wb, 0, none⟩), .pointer none, .pointer (some ⟨br, 0, none⟩)] 87) = W0 at hx hr hbx hl0 hwW ⊢
  have x0 := cell_at hbx 0
  have x1 := cell_at hbx 1
  have x2 := cell_at hbx 2
  simp at x0 x1 x2
  have HBX := hid hbx
  have HX := hid hx
  have HR := hid hr
  clear hx hr hbx hb h hbxe
  have hlD : ListAt W0.drew ev (texts l) := hl0.keeps (S := fun _ => False) ((Keeps.refl _ _).drew) (fun _ _ h => h)
  have HRD := hid (HR.out.keeps (T := fun _ => False) (w' := W0.drew) ((Keeps.refl _ _).drew) (fun _ _ h => h))
  have HXD : Hid (XSt S w br S W0.drew _) := HX.out.drew
  have HBD : Hid (W0.drew.heap[bx]? = _) := HBX.out
  have HC := hid (wtexts_if S wb st ev l 4096 1000 _ HRD.out hlD hS hlen)
  obtain ⟨ao, cap, rfl, -⟩ := hl.texts
  have c0 := cell_at HX.out.box 6
  simp at c0
  clear hl hl0 hlD hS
  go_upto_region 3 with fail
  go_region_law (first | (go_simp; go_at_call 65; refine HC.out.mono ?_; rintro e w3 ⟨rfl, hA⟩; obtain ⟨S3, X3, R3, g3, k3⟩ := HXD.out.acts hA; have hb3 := k3.at_ HBD.out hsz; have x2 := cell_at hb3 2; simp at x2; have d0 := cell_at X3.box 6; have f0 := free_at X3.box 6; simp at d0))
  all_goals
    go_wp2
    go_end0
    exact ⟨rfl, S3, X3.put 6 _, R3.keeps (XSt.putKeeps _ _ _ _) (fun q hq (e : q = br) => X3.out (by rw [← e]; exact hq))⟩
end Go.Proofs.YtpccaodkgboefaaGreatDoor

namespace Go.Proofs.YtpccaodkgboefaaGreatDoor
open Go.RowKit


set_option maxRecDepth 100000 in
set_option maxHeartbeats 1000000 in
theorem xroot_w (S : Nat → Prop) (wb br : Nat) (st : WSt) (z s a b : Int) (t : List UInt8) (hv ev pv : Value) (w : World) (h : WRep S w wb st) (hb : w.heap[br]? = some (.cells #[.int .i64 z, .int .i64 s, .int .i64 a, .int .i64 b, .string (str t), hv, ev, pv] 48 (0, 0))) (ho : ¬ S br) (hlen : st.1.length + t.length + 20 < 70368744177664) :
    Calls Tryz.prog 96 #[aggW wb br] w fun e w' => e = .returned (.tuple #[]) ∧ XW S w br wb (mRoot st t) #[.int .i64 z, .int .i64 s, .int .i64 a, .int .i64 b, .string (str []), hv, ev, pv] w' := by
  obtain ⟨M, hM0⟩ : ∃ M, mRoot st t = M := ⟨_, rfl⟩
  rw [hM0]
  have HM := hid hM0
  clear hM0
  have hx := (XSt.start hb ho).fresh (W' := w.alloc (.cells #[.pointer (some ⟨wb, 0, none⟩), .pointer none, .pointer (some ⟨br, 0, none⟩)] 87)) ((Keeps.refl _ _).alloc _)
  have hr := h.keeps (T := fun _ => False) (w' := w.alloc (.cells #[.pointer (some ⟨wb, 0, none⟩), .pointer none, .pointer (some ⟨br, 0, none⟩)] 87)) ((Keeps.refl _ _).alloc _) (fun _ _ h => h)
  have hbx := heap_alloc_new w (.cells #[.pointer (some ⟨wb, 0, none⟩), .pointer none, .pointer (some ⟨br, 0, none⟩)] 87)
  have hsz : ¬ S w.heap.size := fun h' => by have := (h.2.1 _ h').2; omega
  have hwW : w.heap.size ≤ (w.alloc (.cells #[.pointer (some ⟨wb, 0, none⟩), .pointer none, .pointer (some ⟨br, 0, none⟩)] 87)).heap.size := by simp
  unfold aggW
  go_enter Tryz.func96, Tryz.ntmps96
  go_upto_region 1 with fail
  obtain ⟨bx, hbxe⟩ : ∃ bx, w.heap.size = bx := ⟨_, rfl⟩
  have hne : bx ≠ br := by have := lt_of_block hb; omega
  have hne2 : br ≠ bx := fun h => hne h.symm
  rw [hbxe] at hbx hsz ⊢
  generalize w.alloc (.cells #[.pointer (some ⟨wb, 0, none⟩), .pointer none, .pointer (some ⟨br, 0, none⟩)] 87) = W0 at hx hr hbx hwW ⊢
  have x0 := cell_at hbx 0
  have x1 := cell_at hbx 1
  have x2 := cell_at hbx 2
  simp at x0 x1 x2
  have HBX := hid hbx
  have HX := hid hx
  have HR := hid hr
  clear hx hr hbx hb h hbxe
  have c4 := cell_at HX.out.box 4
  simp at c4
  have htl : (str t).size = t.length := str_size t
  by_cases h32 : t.length = 32
  · have hM : M = wRaw st t := by rw [← HM.out]; unfold mRoot; rw [if_neg (by simp [h32])]
    have HM2 := hid hM
    have hb32 : ((t.length : Int) != 32) = false := by rw [h32]; rfl
    have HSZ := hid hsz
    clear hM
    have H32 := hid h32
    clear h32
    have c4 := cell_at HX.out.box 4
    simp at c4
    have HRD := hid (HR.out.keeps (T := fun _ => False) (w' := W0.drew) ((Keeps.refl _ _).drew) (fun _ _ h => h))
    have HXD : Hid (XSt S w br _ W0.drew _) := HX.out.drew
    have HBD : Hid (W0.drew.heap[bx]? = _) := HBX.out
    have hcc := wraw_any _ wb st (str t) _ HRD.out (by rw [str_size]; omega)
    rw [str_data] at hcc
    have HC := hid hcc
    clear hcc
    go_upto_region 5 with fail
    go_region_law (first | (go_simp; go_at_call 131; refine HC.out.mono ?_; rintro e w3 ⟨rfl, hA⟩; obtain ⟨S3, X3, R3, g3, k3⟩ := HXD.out.acts hA; have hb3 := k3.at_ HBD.out HSZ.out; have x2 := cell_at hb3 2; simp at x2; have d0 := cell_at X3.box 4; have f0 := free_at X3.box 4; simp at d0))
    all_goals
      go_wp2
      go_end0
      rw [HM2.out]
      exact ⟨rfl, S3, X3.put 4 _, R3.keeps (XSt.putKeeps _ _ _ _) (fun q hq (e : q = br) => X3.out (by rw [← e]; exact hq))⟩
  · have hM : M = wRaw (wNum st (-1)) t := by rw [← HM.out]; unfold mRoot; rw [if_pos h32]
    have HM2 := hid hM
    have hb32 : ((t.length : Int) != 32) = true := by rw [bne_iff_ne]; omega
    have hwn := wnum_any S wb st (-1) _ HR.out (by omega)
    have hwl := wNum_len st (-1)
    have HWN := hid hwn
    clear hM hwn h32
    go_wp2_with fail
    refine HWN.out.mono ?_
    rintro e w1 ⟨rfl, hA0⟩
    obtain ⟨S1, X1, R1, g1, k1⟩ := HX.out.acts hA0
    have hb1 := k1.at_ HBX.out hsz
    have HSZ : Hid (¬ S1 bx) := fun h' => by
      rcases g1 bx h' with h2 | h2
      · exact hsz h2
      · have := lt_of_block HBX.out; omega
    have HX1 := hid X1
    have HR1 := hid R1
    have HB1 := hid hb1
    have y0 := cell_at hb1 0
    have y1 := cell_at hb1 1
    have y2 := cell_at hb1 2
    simp at y0 y1 y2
    clear hA0 X1 R1 hb1 c4 g1 k1
    have c4 := cell_at HX1.out.box 4
    simp at c4
    have HRD := hid (HR1.out.keeps (T := fun _ => False) (w' := w1.drew) ((Keeps.refl _ _).drew) (fun _ _ h => h))
    have HXD : Hid (XSt S w br _ w1.drew _) := HX1.out.drew
    have HBD : Hid (w1.drew.heap[bx]? = _) := HB1.out
    have hcc := wraw_any _ wb (wNum st (-1)) (str t) _ HRD.out (by rw [str_size]; omega)
    rw [str_data] at hcc
    have HC := hid hcc
    clear hcc
    go_upto_region 5 with fail
    go_region_law (first | (go_simp; go_at_call 131; refine HC.out.mono ?_; rintro e w3 ⟨rfl, hA⟩; obtain ⟨S3, X3, R3, g3, k3⟩ := HXD.out.acts hA; have hb3 := k3.at_ HBD.out HSZ.out; have x2 := cell_at hb3 2; simp at x2; have d0 := cell_at X3.box 4; have f0 := free_at X3.box 4; simp at d0))
    all_goals
      go_wp2
      go_end0
      rw [HM2.out]
      exact ⟨rfl, S3, X3.put 4 _, R3.keeps (XSt.putKeeps _ _ _ _) (fun q hq (e : q = br) => X3.out (by rw [← e]; exact hq))⟩

set_option maxRecDepth 100000 in
set_option maxHeartbeats 1000000 in
theorem xlast_w (S : Nat → Prop) (wb br : Nat) (st : WSt) (z s a b : Int) (t : List UInt8) (hv ev pv : Value) (w : World) (h : WRep S w wb st) (hb : w.heap[br]? = some (.cells #[.int .i64 z, .int .i64 s, .int .i64 a, .int .i64 b, .string (str t), hv, ev, pv] 48 (0, 0))) (ho : ¬ S br) (hlen : st.1.length + 20 < 70368744177664) :
    Calls Tryz.prog 99 #[aggW wb br] w fun e w' => e = .returned (.tuple #[]) ∧ XW S w br wb (wByte (if 1 < b then wNum st (-1) else st) b) #[.int .i64 z, .int .i64 s, .int .i64 a, .int .i64 0, .string (str t), hv, ev, pv] w' := by
  obtain ⟨M, hM0⟩ : ∃ M, wByte (if 1 < b then wNum st (-1) else st) b = M := ⟨_, rfl⟩
  rw [hM0]
  have HM := hid hM0
  clear hM0
  have hx := (XSt.start hb ho).fresh (W' := w.alloc (.cells #[.pointer (some ⟨wb, 0, none⟩), .pointer none, .pointer (some ⟨br, 0, none⟩)] 87)) ((Keeps.refl _ _).alloc _)
  have hr := h.keeps (T := fun _ => False) (w' := w.alloc (.cells #[.pointer (some ⟨wb, 0, none⟩), .pointer none, .pointer (some ⟨br, 0, none⟩)] 87)) ((Keeps.refl _ _).alloc _) (fun _ _ h => h)
  have hbx := heap_alloc_new w (.cells #[.pointer (some ⟨wb, 0, none⟩), .pointer none, .pointer (some ⟨br, 0, none⟩)] 87)
  have hsz : ¬ S w.heap.size := fun h' => by have := (h.2.1 _ h').2; omega
  have hwW : w.heap.size ≤ (w.alloc (.cells #[.pointer (some ⟨wb, 0, none⟩), .pointer none, .pointer (some ⟨br, 0, none⟩)] 87)).heap.size := by simp
  unfold aggW
  go_enter Tryz.func99, Tryz.ntmps99
  go_upto_region 1 with fail
  obtain ⟨bx, hbxe⟩ : ∃ bx, w.heap.size = bx := ⟨_, rfl⟩
  have hne : bx ≠ br := by have := lt_of_block hb; omega
  have hne2 : br ≠ bx := fun h => hne h.symm
  rw [hbxe] at hbx hsz ⊢
  generalize w.alloc (.cells #[.pointer (some ⟨wb, 0, none⟩), .pointer none, .pointer (some ⟨br, 0, none⟩)] 87) = W0 at hx hr hbx hwW ⊢
  have x0 := cell_at hbx 0
  have x1 := cell_at hbx 1
  have x2 := cell_at hbx 2
  simp at x0 x1 x2
  have HBX := hid hbx
  have HX := hid hx
  have HR := hid hr
  clear hx hr hbx hb h hbxe
  have c3 := cell_at HX.out.box 3
  simp at c3
  by_cases h1 : 1 < b
  · have hM : M = wByte (wNum st (-1)) b := by rw [← HM.out, if_pos h1]
    have HM2 := hid hM
    clear hM
    have hwn := wnum_any S wb st (-1) _ HR.out (by omega)
    have hwl := wNum_len st (-1)
    have HWN := hid hwn
    clear hwn
    go_wp2_with fail
    refine HWN.out.mono ?_
    rintro e w1 ⟨rfl, hA0⟩
    obtain ⟨S1, X1, R1, g1, k1⟩ := HX.out.acts hA0
    have hb1 := k1.at_ HBX.out hsz
    have HSZ : Hid (¬ S1 bx) := fun h' => by
      rcases g1 bx h' with h2 | h2
      · exact hsz h2
      · have := lt_of_block HBX.out; omega
    have HX1 := hid X1
    have HR1 := hid R1
    have HB1 := hid hb1
    have y0 := cell_at hb1 0
    have y1 := cell_at hb1 1
    have y2 := cell_at hb1 2
    simp at y0 y1 y2
    clear hA0 X1 R1 hb1 c3 g1 k1
    have c3 := cell_at HX1.out.box 3
    simp at c3
    have HRD := hid (HR1.out.keeps (T := fun _ => False) (w' := w1.drew) ((Keeps.refl _ _).drew) (fun _ _ h => h))
    have HXD : Hid (XSt S w br _ w1.drew _) := HX1.out.drew
    have HBD : Hid (w1.drew.heap[bx]? = _) := HB1.out
    have HC := hid (wbyte_any _ wb (wNum st (-1)) b _ HRD.out (by omega))
    go_upto_region 4 with fail
    go_region_law (first | (go_simp; go_at_call 30; refine HC.out.mono ?_; rintro e w3 ⟨rfl, hA⟩))
    all_goals
      obtain ⟨S3, X3, R3, g3, k3⟩ := HXD.out.acts hA
      have hb3 := k3.at_ HBD.out HSZ.out
      have HX3 := hid X3
      have HR3 := hid R3
      have HXD3 : Hid (XSt S w br _ w3.drew _) := X3.drew
      have hdn := xdone_w wb br 3 b _ w3.drew HXD3.out.box rfl
      unfold aggW at hdn
      have HDN := hid hdn
      have x0 := cell_at hb3 0
      have x1 := cell_at hb3 1
      have x2 := cell_at hb3 2
      simp at x0 x1 x2
      clear X3 R3 hb3 hA hdn g3 k3
      go_upto_region 6 with fail
      go_region_law (first | (go_simp; go_at_call 134; refine HDN.out.mono ?_; rintro e w4 ⟨rfl, f4⟩))
      all_goals
        go_wp2
        go_end0
        rw [HM2.out]
        exact ⟨rfl, S3, (HXD3.out.put 3 _).fresh f4, ((HR3.out.keeps (T := fun _ => False) (w' := w3.drew) ((Keeps.refl _ _).drew) (fun _ _ h => h)).keeps (XSt.putKeeps _ _ _ _) (fun q hq (e : q = br) => HX3.out.out (by rw [← e]; exact hq))).keeps f4 (fun _ _ h => h)⟩
  · have hM : M = wByte st b := by rw [← HM.out, if_neg h1]
    have HM2 := hid hM
    clear hM
    have HSZ := hid hsz
    have c3 := cell_at HX.out.box 3
    simp at c3
    have HRD := hid (HR.out.keeps (T := fun _ => False) (w' := W0.drew) ((Keeps.refl _ _).drew) (fun _ _ h => h))
    have HXD : Hid (XSt S w br _ W0.drew _) := HX.out.drew
    have HBD : Hid (W0.drew.heap[bx]? = _) := HBX.out
    have HC := hid (wbyte_any _ wb st b _ HRD.out (by omega))
    go_upto_region 4 with fail
    go_region_law (first | (go_simp; go_at_call 30; refine HC.out.mono ?_; rintro e w3 ⟨rfl, hA⟩))
    all_goals
      obtain ⟨S3, X3, R3, g3, k3⟩ := HXD.out.acts hA
      have hb3 := k3.at_ HBD.out HSZ.out
      have HX3 := hid X3
      have HR3 := hid R3
      have HXD3 : Hid (XSt S w br _ w3.drew _) := X3.drew
      have hdn := xdone_w wb br 3 b _ w3.drew HXD3.out.box rfl
      unfold aggW at hdn
      have HDN := hid hdn
      have x0 := cell_at hb3 0
      have x1 := cell_at hb3 1
      have x2 := cell_at hb3 2
      simp at x0 x1 x2
      clear X3 R3 hb3 hA hdn g3 k3
      go_upto_region 6 with fail
      go_region_law (first | (go_simp; go_at_call 134; refine HDN.out.mono ?_; rintro e w4 ⟨rfl, f4⟩))
      all_goals
        go_wp2
        go_end0
        rw [HM2.out]
        exact ⟨rfl, S3, (HXD3.out.put 3 _).fresh f4, ((HR3.out.keeps (T := fun _ => False) (w' := w3.drew) ((Keeps.refl _ _).drew) (fun _ _ h => h)).keeps (XSt.putKeeps _ _ _ _) (fun q hq (e : q = br) => HX3.out.out (by rw [← e]; exact hq))).keeps f4 (fun _ _ h => h)⟩

set_option maxRecDepth 100000 in
set_option maxHeartbeats 1000000 in
theorem xlast_r (S : Nat → Prop) (rb br : Nat) (r : RSt) (z s a b : Int) (t : List UInt8) (hv ev pv : Value) (w : World) (h : RRep S w rb r) (hb : w.heap[br]? = some (.cells #[.int .i64 z, .int .i64 s, .int .i64 a, .int .i64 b, .string (str t), hv, ev, pv] 48 (0, 0))) (ho : ¬ S br) :
    Calls Tryz.prog 99 #[aggR rb br] w fun e w' => e = .returned (.tuple #[]) ∧ XR S w br rb (rd pByte 0 r).2 #[.int .i64 z, .int .i64 s, .int .i64 a, .int .i64 ((rd pByte 0 r).1 : Nat), .string (str t), hv, ev, pv] w' := by
  have hx := (XSt.start hb ho).fresh (W' := w.alloc (.cells #[.pointer none, .pointer (some ⟨rb, 0, none⟩), .pointer (some ⟨br, 0, none⟩)] 87)) ((Keeps.refl _ _).alloc _)
  have hr := h.keeps (T := fun _ => False) (w' := w.alloc (.cells #[.pointer none, .pointer (some ⟨rb, 0, none⟩), .pointer (some ⟨br, 0, none⟩)] 87)) ((Keeps.refl _ _).alloc _) (fun _ _ h => h)
  have hbx := heap_alloc_new w (.cells #[.pointer none, .pointer (some ⟨rb, 0, none⟩), .pointer (some ⟨br, 0, none⟩)] 87)
  have hsz : ¬ S w.heap.size := fun h' => by have := (h.2.1 _ h').2; omega
  have hwW : w.heap.size ≤ (w.alloc (.cells #[.pointer none, .pointer (some ⟨rb, 0, none⟩), .pointer (some ⟨br, 0, none⟩)] 87)).heap.size := by simp
  unfold aggR
  go_enter Tryz.func99, Tryz.ntmps99
  go_upto_region 1 with fail
  obtain ⟨bx, hbxe⟩ : ∃ bx, w.heap.size = bx := ⟨_, rfl⟩
  have hne : bx ≠ br := by have := lt_of_block hb; omega
  have hne2 : br ≠ bx := fun h => hne h.symm
  rw [hbxe] at hbx hsz ⊢
  generalize w.alloc (.cells #[.pointer none, .pointer (some ⟨rb, 0, none⟩), .pointer (some ⟨br, 0, none⟩)] 87) = W0 at hx hr hbx hwW ⊢
  have x0 := cell_at hbx 0
  have x1 := cell_at hbx 1
  have x2 := cell_at hbx 2
  simp at x0 x1 x2
  have HBX := hid hbx
  have HX := hid hx
  have HR := hid hr
  clear hx hr hbx hb h hbxe
  have HRD := hid (HR.out.keeps (T := fun _ => False) (w' := W0.drew) ((Keeps.refl _ _).drew) (fun _ _ h => h))
  have HXD : Hid (XSt S w br S W0.drew _) := HX.out.drew
  have HBD : Hid (W0.drew.heap[bx]? = _) := HBX.out
  have HC := hid (rbyte_any S rb r _ HRD.out)
  go_upto_region 5 with fail
  go_region_law (first | (go_simp; go_at_call 49; refine HC.out.mono ?_; rintro e w3 ⟨rfl, hA⟩; obtain ⟨S3, X3, R3, g3, k3⟩ := HXD.out.acts hA; have hb3 := k3.at_ HBD.out hsz; have x2 := cell_at hb3 2; simp at x2; have d0 := cell_at X3.box 3; have f0 := free_at X3.box 3; simp at d0))
  all_goals
    have X4 := X3.put 3 (.int .i64 ((rd pByte 0 r).1 : Nat))
    have R4 := R3.keeps (XSt.putKeeps w3 br 3 (.int .i64 ((rd pByte 0 r).1 : Nat))) (fun q hq (e : q = br) => X3.out (by rw [← e]; exact hq))
    have y0 := cell_at hb3 0
    have y1 := cell_at hb3 1
    simp at y0 y1
    have hdn := fun W => xdone_r rb br 3 W
    unfold aggR at hdn
    have HDN := hid hdn
    have HX4 := hid X4
    have HR4 := hid R4
    clear hdn X4 R4 hA g3 k3
    go_upto_region 6 with fail
    go_region_law (first | (go_simp; go_at_call 134; refine (HDN.out _).mono ?_; rintro e w4 ⟨rfl, f4⟩))
    all_goals
      go_wp2
      go_end0
      exact ⟨rfl, S3, HX4.out.drew.fresh f4, (HR4.out.fresh ((Keeps.refl _ _).drew)).fresh f4⟩
end Go.Proofs.YtpccaodkgboefaaGreatDoor

namespace Go.Proofs.YtpccaodkgboefaaGreatDoor
open Go.RowKit

set_option maxRecDepth 100000 in
set_option maxHeartbeats 1000000 in
theorem mstatus_any (S : Nat → Prop) (b : Nat) (st : WSt) (n : Int) (w : World) (h : WRep S w b st) (hlen : st.1.length < 70368744177664) :
    Calls Tryz.prog 54 #[.pointer (some ⟨b, 0, none⟩), .int .i64 n] w fun e w' => e = .returned (.tuple #[]) ∧ Acts S w w' fun S' => WRep S' w' b (mStatus st n) := by
  by_cases hn : 8 < n
  · have hm : mStatus st n = wByte st (-1) := by unfold mStatus; rw [if_pos hn]
    rw [hm]
    have HC := hid (wbyte_any S b st (-1) w h hlen)
    clear hm h
    go_enter Tryz.func54, Tryz.ntmps54
    go_wp2_with fail
    refine HC.out.mono ?_
    rintro e w' ⟨rfl, hA⟩
    go_wp2
    go_end0
    exact ⟨rfl, hA⟩
  · have hm : mStatus st n = wByte st n := by unfold mStatus; rw [if_neg hn]
    rw [hm]
    have HC := hid (wbyte_any S b st n w h hlen)
    clear hm h
    go_enter Tryz.func54, Tryz.ntmps54
    go_wp2_with fail
    refine HC.out.mono ?_
    rintro e w' ⟨rfl, hA⟩
    go_wp2
    go_end0
    exact ⟨rfl, hA⟩


set_option maxRecDepth 100000 in
set_option maxHeartbeats 1000000 in
theorem xrest_w (S : Nat → Prop) (wb br : Nat) (st : WSt) (z s a b : Int) (t : List UInt8) (hv ev pv : Value) (w : World) (hwr : WRep S w wb st) (hb : w.heap[br]? = some (.cells #[.int .i64 z, .int .i64 s, .int .i64 a, .int .i64 b, .string (str t), hv, ev, pv] 48 (0, 0))) (ho : ¬ S br) (lh le lp : Nat) (ah ae ap : Option Addr) (ch ce cp : Nat) (hh : hv = .slice ah lh ch) (he : ev = .slice ae le ce) (hp : pv = .slice ap lp cp) (hlen : st.1.length < 70368744177664) :
    Calls Tryz.prog 56 #[aggW wb br] w fun e w' => e = .returned (.tuple #[]) ∧ XW S w br wb (if s ≠ 0 ∨ a ≠ 0 ∨ b ≠ 0 ∨ t ≠ [] ∨ 0 < lh ∨ 0 < le ∨ 0 < lp then wNum st (-1) else st) #[.int .i64 z, .int .i64 s, .int .i64 a, .int .i64 b, .string (str t), hv, ev, pv] w' := by
  subst hh
  subst he
  subst hp
  obtain ⟨M, hM0⟩ : ∃ M, (if s ≠ 0 ∨ a ≠ 0 ∨ b ≠ 0 ∨ t ≠ [] ∨ 0 < lh ∨ 0 < le ∨ 0 < lp then wNum st (-1) else st) = M := ⟨_, rfl⟩
  rw [hM0]
  have HM := hid hM0
  clear hM0
  have hx := (XSt.start hb ho).fresh (W' := w.alloc (.cells #[.pointer (some ⟨wb, 0, none⟩), .pointer none, .pointer (some ⟨br, 0, none⟩)] 87)) ((Keeps.refl _ _).alloc _)
  have hr := hwr.keeps (T := fun _ => False) (w' := w.alloc (.cells #[.pointer (some ⟨wb, 0, none⟩), .pointer none, .pointer (some ⟨br, 0, none⟩)] 87)) ((Keeps.refl _ _).alloc _) (fun _ _ h => h)
  have hbx := heap_alloc_new w (.cells #[.pointer (some ⟨wb, 0, none⟩), .pointer none, .pointer (some ⟨br, 0, none⟩)] 87)
  have hsz : ¬ S w.heap.size := fun h' => by have := (hwr.2.1 _ h').2; omega
  have hwW : w.heap.size ≤ (w.alloc (.cells #[.pointer (some ⟨wb, 0, none⟩), .pointer none, .pointer (some ⟨br, 0, none⟩)] 87)).heap.size := by simp
  unfold aggW
  go_enter Tryz.func56, Tryz.ntmps56
  go_upto_region 1 with fail
  obtain ⟨bx, hbxe⟩ : ∃ bx, w.heap.size = bx := ⟨_, rfl⟩
  have hne : bx ≠ br := by have := lt_of_block hb; omega
  have hne2 : br ≠ bx := fun h => hne h.symm
  rw [hbxe] at hbx hsz ⊢
  generalize w.alloc (.cells #[.pointer (some ⟨wb, 0, none⟩), .pointer none, .pointer (some ⟨br, 0, none⟩)] 87) = W0 at hx hr hbx hwW ⊢
  have x0 := cell_at hbx 0
  have x1 := cell_at hbx 1
  have x2 := cell_at hbx 2
  simp at x0 x1 x2
  have HBX := hid hbx
  have HX := hid hx
  have HR := hid hr
  clear hx hr hbx hb hwr hbxe
  have c1 := cell_at HX.out.box 1
  have c2 := cell_at HX.out.box 2
  have c3 := cell_at HX.out.box 3
  have c4 := cell_at HX.out.box 4
  have c5 := cell_at HX.out.box 5
  have c6 := cell_at HX.out.box 6
  have c7 := cell_at HX.out.box 7
  simp at c1 c2 c3 c4 c5 c6 c7
  have htl : (str t).toList = t := str_toList t
  have HWN := hid (wnum_any S wb st (-1) _ HR.out hlen)
  by_cases q0 : s ≠ 0
  · have g0 : (s != 0) = true := bne_iff_ne.2 q0
    have hM : M = wNum st (-1) := by rw [← HM.out]; exact if_pos (by simp [q0])
    have HM2 := hid hM
    clear hM
    go_wp2_with fail
    refine HWN.out.mono ?_
    rintro e w1 ⟨rfl, hA0⟩
    obtain ⟨S1, X1, R1, g1, k1⟩ := HX.out.acts hA0
    go_wp2
    go_end0
    rw [HM2.out]
    exact ⟨rfl, S1, X1, R1⟩
  · obtain rfl : s = 0 := by simpa using q0
    by_cases q1 : a ≠ 0
    · have g1 : (a != 0) = true := bne_iff_ne.2 q1
      have hM : M = wNum st (-1) := by rw [← HM.out]; exact if_pos (by simp [q1])
      have HM2 := hid hM
      clear hM
      go_wp2_with fail
      refine HWN.out.mono ?_
      rintro e w1 ⟨rfl, hA0⟩
      obtain ⟨S1, X1, R1, g1, k1⟩ := HX.out.acts hA0
      go_wp2
      go_end0
      rw [HM2.out]
      exact ⟨rfl, S1, X1, R1⟩
    · obtain rfl : a = 0 := by simpa using q1
      by_cases q2 : b ≠ 0
      · have g2 : (b != 0) = true := bne_iff_ne.2 q2
        have hM : M = wNum st (-1) := by rw [← HM.out]; exact if_pos (by simp [q2])
        have HM2 := hid hM
        clear hM
        go_wp2_with fail
        refine HWN.out.mono ?_
        rintro e w1 ⟨rfl, hA0⟩
        obtain ⟨S1, X1, R1, g1, k1⟩ := HX.out.acts hA0
        go_wp2
        go_end0
        rw [HM2.out]
        exact ⟨rfl, S1, X1, R1⟩
      · obtain rfl : b = 0 := by simpa using q2
        by_cases q3 : t ≠ []
        · have g3 : t.isEmpty = false := by cases t with
          | nil => exact absurd rfl q3
          | cons _ _ => rfl
          have hM : M = wNum st (-1) := by rw [← HM.out]; exact if_pos (by simp [q3])
          have HM2 := hid hM
          clear hM
          go_wp2_with fail
          refine HWN.out.mono ?_
          rintro e w1 ⟨rfl, hA0⟩
          obtain ⟨S1, X1, R1, g1, k1⟩ := HX.out.acts hA0
          go_wp2
          go_end0
          rw [HM2.out]
          exact ⟨rfl, S1, X1, R1⟩
        · obtain rfl : t = [] := by simpa using q3
          by_cases q4 : 0 < lh
          · have g4 : decide (0 < (lh : Int)) = true := by rw [decide_eq_true_eq]; omega
            have gg4 : (0 : Int) < (lh : Int) := by omega
            have hM : M = wNum st (-1) := by rw [← HM.out]; exact if_pos (by simp; omega)
            have HM2 := hid hM
            clear hM
            go_wp2_with fail
            refine HWN.out.mono ?_
            rintro e w1 ⟨rfl, hA0⟩
            obtain ⟨S1, X1, R1, g1, k1⟩ := HX.out.acts hA0
            go_wp2
            go_end0
            rw [HM2.out]
            exact ⟨rfl, S1, X1, R1⟩
          · obtain rfl : lh = 0 := by omega
            by_cases q5 : 0 < le
            · have g5 : decide (0 < (le : Int)) = true := by rw [decide_eq_true_eq]; omega
              have gg5 : (0 : Int) < (le : Int) := by omega
              have hM : M = wNum st (-1) := by rw [← HM.out]; exact if_pos (by simp; omega)
              have HM2 := hid hM
              clear hM
              go_wp2_with fail
              refine HWN.out.mono ?_
              rintro e w1 ⟨rfl, hA0⟩
              obtain ⟨S1, X1, R1, g1, k1⟩ := HX.out.acts hA0
              go_wp2
              go_end0
              rw [HM2.out]
              exact ⟨rfl, S1, X1, R1⟩
            · obtain rfl : le = 0 := by omega
              by_cases q6 : 0 < lp
              · have g6 : decide (0 < (lp : Int)) = true := by rw [decide_eq_true_eq]; omega
                have gg6 : (0 : Int) < (lp : Int) := by omega
                have hM : M = wNum st (-1) := by rw [← HM.out]; exact if_pos (by simp; omega)
                have HM2 := hid hM
                clear hM
                go_wp2_with fail
                refine HWN.out.mono ?_
                rintro e w1 ⟨rfl, hA0⟩
                obtain ⟨S1, X1, R1, g1, k1⟩ := HX.out.acts hA0
                go_wp2
                go_end0
                rw [HM2.out]
                exact ⟨rfl, S1, X1, R1⟩
              · obtain rfl : lp = 0 := by omega
                have hM : M = st := by rw [← HM.out]; exact if_neg (by simp)
                have HM2 := hid hM
                clear hM
                go_wp2
                go_end0
                rw [HM2.out]
                exact ⟨rfl, S, HX.out, HR.out⟩
end Go.Proofs.YtpccaodkgboefaaGreatDoor
