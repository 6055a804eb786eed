/-
  Package message: one of a group's replies, taken.
-/
import Derived.Test.YtpccaodkgboefaaGreatDoorMMsL
namespace Go.Proofs.YtpccaodkgboefaaGreatDoor
open Go.RowKit

abbrev zeroRep : Array Value := #[.int .i64 0, .int .i64 0, .int .i64 0, .int .i64 0, .string ⟨#[]⟩, .slice none 0 0, .slice none 0 0, .slice none 0 0]
theorem results_row1 {P : Program} {fn : Func} {p : Tmp} {ty : TypeId} (h : fn.results = #[.cell p ty]) (tmps : Array Value) (w : World) (g : Nat) (t : TypeId) (cs : Array Value) (fr : Nat × Nat) (d : TypeDesc)
    (hp : tmps.getD p undef = .pointer (some ⟨g, 0, none⟩)) (hg : w.heap[g]? = some (.cells cs t fr))
    (hu : P.underlying ty = some d) (hd : (match d with | .struct _ | .array _ _ => true | _ => false) = true) (hi : (P.info? ty).map (·.size) = some cs.size) :
    (results fn tmps).run P w = .ok (.agg cs) w := results_cell_row h tmps w g t cs fr d hp hg hu hd hi
theorem T8 {w : World} {g : Nat} (c0 c1 c2 c3 c4 c5 c6 c7 : Value) : Keeps (fun q => q = g) w ((((((((w.setCell ⟨g, 0, none⟩ c0).setCell ⟨g, 1, none⟩ c1).setCell ⟨g, 2, none⟩ c2).setCell ⟨g, 3, none⟩ c3).setCell ⟨g, 4, none⟩ c4).setCell ⟨g, 5, none⟩ c5).setCell ⟨g, 6, none⟩ c6).setCell ⟨g, 7, none⟩ c7) :=
  ((((((((Keeps.refl (fun q => q = g) w).setCell (fun _ => rfl) _).setCell (fun _ => rfl) _).setCell (fun _ => rfl) _).setCell (fun _ => rfl) _).setCell (fun _ => rfl) _).setCell (fun _ => rfl) _).setCell (fun _ => rfl) _).setCell (fun _ => rfl) _
/-- what readPart leaves -/
def MPart (S : Nat → Prop) (b : Nat) (w : World) (q : Rep × RSt) (e : Ending) (w' : World) : Prop :=
  ∃ S' bl v, e = .returned v ∧ Grows S S' w w' ∧ Keeps S w w' ∧ RRep S' w' b q.2 ∧ RepOwn w' q.1 v bl ∧ bl.Nodup ∧ ∀ q ∈ bl, ¬ S' q ∧ w.heap.size ≤ q
/-- the end: the struct is copied into the result's -/
theorem part_end {S S1 : Nat → Prop} {w W0 w1 w2 : World} {rb b2 b3 : Nat} {cs : Array Value} {r : RSt} {R : Rep} {bl : List Nat} (hf : Fresh w W0) (hX : XSt S W0 b3 S1 w1 cs) (hr : RRep S1 w1 rb r) (ho : RepOwn w1 R (.agg cs) bl) (hn : bl.Nodup) (hb : ∀ q ∈ bl, ¬ S1 q ∧ W0.heap.size ≤ q)
    (h3 : w.heap.size ≤ b3) (h2 : w.heap.size ≤ b2) (h2' : b2 < W0.heap.size) (hs2 : ¬ S b2) (hk : Keeps (fun q => q = b2) w1 w2) : MPart S rb w (R, r) (.returned (.agg cs)) w2 := by
  have hs1 : ¬ S1 b2 := hX.notIn h2' hs2
  refine ⟨S1, bl, _, rfl, fun q hq => ?_, ?_, hr.keeps hk (fun q hq (e : q = b2) => hs1 (by rw [← e]; exact hq)), RepOwn.keeps hk _ _ _ ho (fun q hq (e : q = b2) => by have := (hb q hq).2; omega), hn, fun q hq => ⟨(hb q hq).1, Nat.le_trans hf.size (hb q hq).2⟩⟩
  · rcases hX.grows q hq with h | h
    · exact .inl h
    · exact .inr ⟨Nat.le_trans hf.size h.1, Nat.lt_of_lt_of_le h.2 hk.size⟩
  · have k1 : Keeps S w w1 := (hf.mono (S' := S) (fun _ _ h => h.elim)).trans' hX.keeps (fun q hq h => by
      rcases h with h | h
      · exact h
      · omega)
    exact k1.trans' hk (fun q hq (e : q = b2) => by omega)

set_option maxRecDepth 100000 in
set_option maxHeartbeats 2000000 in
theorem xreadPart_any (S : Nat → Prop) (rb br : Nat) (r : RSt) (w : World) (h : RRep S w rb r) :
    Calls Tryz.prog 136 #[aggR rb br] w fun e w' => MPart S rb w (rPart r) e w' := by
  obtain ⟨Q, hQ⟩ : ∃ Q, rPart r = Q := ⟨_, rfl⟩
  rw [hQ]
  have HQ := hid hQ
  clear hQ
  have f1 : Fresh w (w.alloc (.cells #[.pointer none, .pointer (some ⟨rb, 0, none⟩), .pointer (some ⟨br, 0, none⟩)] 87)) := (Keeps.refl _ _).alloc _
  have f2 : Fresh (w.alloc (.cells #[.pointer none, .pointer (some ⟨rb, 0, none⟩), .pointer (some ⟨br, 0, none⟩)] 87)) ((w.alloc (.cells #[.pointer none, .pointer (some ⟨rb, 0, none⟩), .pointer (some ⟨br, 0, none⟩)] 87)).alloc (.cells zeroRep 48)) := (Keeps.refl _ _).alloc _
  have f3 : Fresh ((w.alloc (.cells #[.pointer none, .pointer (some ⟨rb, 0, none⟩), .pointer (some ⟨br, 0, none⟩)] 87)).alloc (.cells zeroRep 48)) (((w.alloc (.cells #[.pointer none, .pointer (some ⟨rb, 0, none⟩), .pointer (some ⟨br, 0, none⟩)] 87)).alloc (.cells zeroRep 48)).alloc (.cells zeroRep 48)) := (Keeps.refl _ _).alloc _
  have f0 := (f1.trans f2).trans f3
  have hbx := (f2.trans f3).at_ (heap_alloc_new w (.cells #[.pointer none, .pointer (some ⟨rb, 0, none⟩), .pointer (some ⟨br, 0, none⟩)] 87)) (fun h => h)
  have hb2 := f3.at_ (heap_alloc_new (w.alloc (.cells #[.pointer none, .pointer (some ⟨rb, 0, none⟩), .pointer (some ⟨br, 0, none⟩)] 87)) (.cells zeroRep 48)) (fun h => h)
  have hb3 := heap_alloc_new ((w.alloc (.cells #[.pointer none, .pointer (some ⟨rb, 0, none⟩), .pointer (some ⟨br, 0, none⟩)] 87)).alloc (.cells zeroRep 48)) (.cells zeroRep 48)
  simp only [World.size_alloc] at hb2 hb3
  have hr := h.fresh f0
  have hll : ∀ q, S q → q < w.heap.size := fun q hq => (h.2.1 q hq).2
  clear f1 f2 f3
  unfold aggR
  go_enter Tryz.func136, Tryz.ntmps136
  go_upto_region 2 with fail
  obtain ⟨bx, hbxe⟩ : ∃ bx, w.heap.size = bx := ⟨_, rfl⟩
  rw [hbxe] at hbx hb2 hb3 hll ⊢
  have HWS := hid hbxe
  clear hbxe h
  generalize ((w.alloc (.cells #[.pointer none, .pointer (some ⟨rb, 0, none⟩), .pointer (some ⟨br, 0, none⟩)] 87)).alloc (.cells zeroRep 48)).alloc (.cells zeroRep 48) = W0 at f0 hbx hb2 hb3 hr ⊢
  have fo : Fresh W0 (W0.alloc (.cells #[.pointer none, .pointer (some ⟨rb, 0, none⟩), .pointer (some ⟨bx + 1 + 1, 0, none⟩)] 87)) := (Keeps.refl _ _).alloc _
  have hbo := heap_alloc_new W0 (.cells #[.pointer none, .pointer (some ⟨rb, 0, none⟩), .pointer (some ⟨bx + 1 + 1, 0, none⟩)] 87)
  have hsz : bx + 1 + 1 < W0.heap.size := lt_of_block hb3
  have hs3 : ¬ S (bx + 1 + 1) := fun h' => by have := hll _ h'; omega
  have hs2 : ¬ S (bx + 1) := fun h' => by have := hll _ h'; omega
  have hsx : ¬ S bx := fun h' => by have := hll _ h'; omega
  have hso : ¬ S W0.heap.size := fun h' => by have := hll _ h'; omega
  have X0 : XSt S (W0.alloc (.cells #[.pointer none, .pointer (some ⟨rb, 0, none⟩), .pointer (some ⟨bx + 1 + 1, 0, none⟩)] 87)) (bx + 1 + 1) S (W0.alloc (.cells #[.pointer none, .pointer (some ⟨rb, 0, none⟩), .pointer (some ⟨bx + 1 + 1, 0, none⟩)] 87)) _ := XSt.start (fo.at_ hb3 (fun h => h)) hs3
  have hbx1 := fo.at_ hbx (fun h => h)
  have hb21 := fo.at_ hb2 (fun h => h)
  have hr1 := hr.fresh fo
  have x1 := cell_at hbx 1
  simp at x1
  have hW1 : W0.heap.size < (W0.alloc (.cells #[.pointer none, .pointer (some ⟨rb, 0, none⟩), .pointer (some ⟨bx + 1 + 1, 0, none⟩)] 87)).heap.size := by simp
  have hf1 := f0.trans fo
  go_upto_region 3 with fail
  obtain ⟨bo, hboe⟩ : ∃ bo, W0.heap.size = bo := ⟨_, rfl⟩
  rw [hboe] at hbo hso hsz hW1 ⊢
  generalize W0.alloc (.cells #[.pointer none, .pointer (some ⟨rb, 0, none⟩), .pointer (some ⟨bx + 1 + 1, 0, none⟩)] 87) = W1 at X0 hbx1 hb21 hr1 hbo hW1 hf1 ⊢
  clear x1 hbx hb2 hb3 hr f0 fo hboe
  have x1 := cell_at hbx1 1
  simp at x1
  have HC := hid (rbyte_any S rb r W1 hr1)
  have HX0 := hid X0
  have HBX := hid hbx1
  have HB2 := hid hb21
  have HBO := hid hbo
  have HF0 := hid hf1
  have HLT : Hid (bx + 1 < W1.heap.size) := lt_of_block hb21
  have HSB2 := hid hs2
  clear X0 hbx1 hb21 hbo hr1 hf1
  go_wp2_with fail
  refine HC.out.mono ?_
  rintro e w1 ⟨rfl, hA⟩
  obtain ⟨S1, X1, R1, g1, k1⟩ := HX0.out.acts hA
  have c0 := cell_at X1.box 0
  have f0 := free_at X1.box 0
  simp at c0
  obtain ⟨zz, hzz⟩ : ∃ zz, (rd pByte 0 r).1 = zz := ⟨_, rfl⟩
  obtain ⟨ra, hra⟩ : ∃ ra, (rd pByte 0 r).2 = ra := ⟨_, rfl⟩
  have hQ2 : Q = if zz = 0 then (if (rd pByte 0 ra).1 = 1 then (.mk (zz : Nat) 0 0 0 (rd (pRaw 32) [] (rd pByte 0 ra).2).1 [] [] [], (rd (pRaw 32) [] (rd pByte 0 ra).2).2) else (.mk (zz : Nat) 0 0 0 [] (rd (pHashes 32768) [] (rd pByte 0 ra).2).1 [] [], (rd (pHashes 32768) [] (rd pByte 0 ra).2).2)) else (.mk (zz : Nat) 0 0 0 [] [] [] [], ra) := by rw [← HQ.out, rPart, hzz, hra]
  rw [hra] at R1
  rw [hzz]
  have X2 : XSt S W1 (bx + 1 + 1) S1 (w1.setCell ⟨bx + 1 + 1, 0, none⟩ (.int .i64 (zz : Nat))) #[.int .i64 (zz : Nat), .int .i64 0, .int .i64 0, .int .i64 0, .string ⟨#[]⟩, .slice none 0 0, .slice none 0 0, .slice none 0 0] := X1.put 0 (.int .i64 (zz : Nat))
  have R2 := R1.keeps (XSt.putKeeps w1 (bx + 1 + 1) 0 (.int .i64 (zz : Nat))) (fun q hq (e : q = bx + 1 + 1) => X1.out (by rw [← e]; exact hq))
  have e0 : Hid ((W1.heap.size : Nat) = W1.heap.size) := rfl
  have k2 := X2.keeps
  have hbx2 := X2.keepBlock HBX.out hsx (by omega)
  have hb22 := X2.keepBlock HB2.out hs2 (by omega)
  have hbo2 := X2.keepBlock HBO.out hso (by omega)
  have HX2 := hid X2
  have HR2 := hid R2
  have HB22 := hid hb22
  have HBO2 := hid hbo2
  have hs1o : ¬ S1 bo := X2.notIn (lt_of_block HBO.out) hso
  have hs1x : ¬ S1 bx := X2.notIn (lt_of_block HBX.out) hsx
  have HBX2 := hid hbx2
  have HQ3 := hid hQ2
  clear hQ2 hzz hra HC hA X1 R1 g1 k1 X2 R2 k2 hbx2 hb22 hbo2 x1 e0 HQ
  have d0 := cell_at HX2.out.box 0
  simp at d0
  by_cases hz : zz = 0
  · subst hz
    have x1 := cell_at HBX2.out 1
    simp at x1
    have HC := hid (rbyte_any S1 rb ra _ HR2.out)
    go_wp2_with fail
    refine HC.out.mono ?_
    rintro e w3 ⟨rfl, hA⟩
    obtain ⟨S3, X3, R3, g3, k3⟩ := HX2.out.acts hA
    have hbo3 := k3.at_ HBO2.out hs1o
    have hb23 := k3.at_ HB22.out (fun h => hs2 (by
      rcases HX2.out.grows _ h with h | h
      · exact h
      · have := HLT.out; omega))
    have o0 := cell_at hbo3 0
    have o1 := cell_at hbo3 1
    have o2 := cell_at hbo3 2
    simp at o0 o1 o2
    have HX3 := hid X3
    have HR3 := hid R3
    have HB23 := hid hb23
    clear hA HC X3 R3 g3 k3 hbo3 hb23 x1 d0 c0 f0
    by_cases hk : (rd pByte 0 ra).1 = 1
    · have hQ2 : Q = (.mk ((0 : Nat) : Int) 0 0 0 (rd (pRaw 32) [] (rd pByte 0 ra).2).1 [] [] [], (rd (pRaw 32) [] (rd pByte 0 ra).2).2) := by rw [HQ3.out]; simp [hk]
      have HQ2 := hid hQ2
      rw [hk]
      have HRT := hid (xroot_r S3 rb (bx + 1 + 1) _ ((0 : Nat) : Int) 0 0 0 [] _ _ _ w3 HR3.out HX3.out.box HX3.out.out)
      unfold aggR at HRT
      clear hQ2
      go_wp2_with fail
      refine HRT.out.mono ?_
      rintro e w4 ⟨rfl, S4, X4, R4⟩
      have hb24 := X4.keepBlock HB23.out (fun h => hs2 (by
        rcases HX3.out.grows _ h with h | h
        · exact h
        · have := HLT.out; omega)) (by omega)
      have X5 := HX3.out.after X4
      generalize rd (pRaw 32) [] (rd pByte 0 ra).2 = RR at *
      clear o0 o1 o2
      have z0 := cell_at hb24 0
      have y0 := free_at hb24 0
      have z1 := cell_at hb24 1
      have y1 := free_at hb24 1
      have z2 := cell_at hb24 2
      have y2 := free_at hb24 2
      have z3 := cell_at hb24 3
      have y3 := free_at hb24 3
      have z4 := cell_at hb24 4
      have y4 := free_at hb24 4
      have z5 := cell_at hb24 5
      have y5 := free_at hb24 5
      have z6 := cell_at hb24 6
      have y6 := free_at hb24 6
      have z7 := cell_at hb24 7
      have y7 := free_at hb24 7
      simp at z0 z1 z2 z3 z4 z5 z6 z7
      have q0 := cell_at X5.box 0
      have q1 := cell_at X5.box 1
      have q2 := cell_at X5.box 2
      have q3 := cell_at X5.box 3
      have q4 := cell_at X5.box 4
      have q5 := cell_at X5.box 5
      have q6 := cell_at X5.box 6
      have q7 := cell_at X5.box 7
      simp at q0 q1 q2 q3 q4 q5 q6 q7
      go_wp2_with fail
      (try simp only [Exit.inBlock, Exit.then])
      refine bodyPost_ret (results_cell_row rfl _ _ (bx + 1) 48 _ (0, 0) _ rfl (by exact heap_setCell_at (heap_setCell_at (heap_setCell_at (heap_setCell_at (heap_setCell_at (heap_setCell_at (heap_setCell_at (heap_setCell_at hb24 0 _) 1 _) 2 _) 3 _) 4 _) 5 _) 6 _) 7 _) Tryz.underlying48 rfl (by kernel_rfl)) rfl ?_
      have hE := part_end (R := .mk ((0 : Nat) : Int) 0 0 0 RR.1 [] [] []) (w2 := ((((((((w4.setCell ⟨bx + 1, 0, none⟩ (.int .i64 ((0 : Nat) : Int))).setCell ⟨bx + 1, 1, none⟩ (.int .i64 0)).setCell ⟨bx + 1, 2, none⟩ (.int .i64 0)).setCell ⟨bx + 1, 3, none⟩ (.int .i64 0)).setCell ⟨bx + 1, 4, none⟩ (.string (str RR.1))).setCell ⟨bx + 1, 5, none⟩ (.slice none 0 0)).setCell ⟨bx + 1, 6, none⟩ (.slice none 0 0)).setCell ⟨bx + 1, 7, none⟩ (.slice none 0 0))) HF0.out X5 R4 (by rw [RepOwn]; exact ⟨_, _, _, [], [], rfl, World.ownsRow_nil _ _ _ _, World.ownsRow_nil _ _ _ _, World.ownsRow_nil _ _ _ _, by rw [ReplsOwn]; exact ⟨rfl, rfl⟩, rfl⟩) List.nodup_nil (fun q hq => by cases hq) (by have := HWS.out; omega) (by have := HWS.out; omega) HLT.out HSB2.out (T8 _ _ _ _ _ _ _ _)
      rw [HQ2.out]
      exact hE
    · have hQ2 : Q = (.mk ((0 : Nat) : Int) 0 0 0 [] (rd (pHashes 32768) [] (rd pByte 0 ra).2).1 [] [], (rd (pHashes 32768) [] (rd pByte 0 ra).2).2) := by rw [HQ3.out]; simp [hk]
      have HQ2 := hid hQ2
      have hkb : (((rd pByte 0 ra).1 : Int) == 1) = false := by rw [beq_eq_false_iff_ne]; omega
      have HRT := hid (xhashes_r S3 rb (bx + 1 + 1) _ ((0 : Nat) : Int) 0 0 0 [] _ _ _ w3 HR3.out HX3.out.box HX3.out.out)
      unfold aggR at HRT
      clear hQ2
      go_wp2_with fail
      refine HRT.out.mono ?_
      rintro e w4 ⟨rfl, v4, S4, X4, R4, hrow, hnew⟩
      obtain ⟨a4, c4, rfl⟩ := ownsRow_slice hrow
      have hb24 := X4.keepBlock HB23.out (fun h => hs2 (by
        rcases HX3.out.grows _ h with h | h
        · exact h
        · have := HLT.out; omega)) (by omega)
      have X5 := HX3.out.after X4
      have hw3 := HX3.out.keeps.size
      generalize rd (pHashes 32768) [] (rd pByte 0 ra).2 = RR at *
      clear o0 o1 o2
      have z0 := cell_at hb24 0
      have y0 := free_at hb24 0
      have z1 := cell_at hb24 1
      have y1 := free_at hb24 1
      have z2 := cell_at hb24 2
      have y2 := free_at hb24 2
      have z3 := cell_at hb24 3
      have y3 := free_at hb24 3
      have z4 := cell_at hb24 4
      have y4 := free_at hb24 4
      have z5 := cell_at hb24 5
      have y5 := free_at hb24 5
      have z6 := cell_at hb24 6
      have y6 := free_at hb24 6
      have z7 := cell_at hb24 7
      have y7 := free_at hb24 7
      simp at z0 z1 z2 z3 z4 z5 z6 z7
      have q0 := cell_at X5.box 0
      have q1 := cell_at X5.box 1
      have q2 := cell_at X5.box 2
      have q3 := cell_at X5.box 3
      have q4 := cell_at X5.box 4
      have q5 := cell_at X5.box 5
      have q6 := cell_at X5.box 6
      have q7 := cell_at X5.box 7
      simp at q0 q1 q2 q3 q4 q5 q6 q7
      go_wp2_with fail
      (try simp only [Exit.inBlock, Exit.then])
      refine bodyPost_ret (results_cell_row rfl _ _ (bx + 1) 48 _ (0, 0) _ rfl (by exact heap_setCell_at (heap_setCell_at (heap_setCell_at (heap_setCell_at (heap_setCell_at (heap_setCell_at (heap_setCell_at (heap_setCell_at hb24 0 _) 1 _) 2 _) 3 _) 4 _) 5 _) 6 _) 7 _) Tryz.underlying48 rfl (by kernel_rfl)) rfl ?_
      have hE := part_end (R := .mk ((0 : Nat) : Int) 0 0 0 [] RR.1 [] []) (w2 := ((((((((w4.setCell ⟨bx + 1, 0, none⟩ (.int .i64 ((0 : Nat) : Int))).setCell ⟨bx + 1, 1, none⟩ (.int .i64 0)).setCell ⟨bx + 1, 2, none⟩ (.int .i64 0)).setCell ⟨bx + 1, 3, none⟩ (.int .i64 0)).setCell ⟨bx + 1, 4, none⟩ (.string ⟨#[]⟩)).setCell ⟨bx + 1, 5, none⟩ (.slice a4 RR.1.length c4)).setCell ⟨bx + 1, 6, none⟩ (.slice none 0 0)).setCell ⟨bx + 1, 7, none⟩ (.slice none 0 0))) HF0.out X5 R4 (bl := (Value.slice a4 RR.1.length c4).ownBlock.toList) (by rw [RepOwn]; exact ⟨_, _, _, [], [], rfl, hrow, World.ownsRow_nil _ _ _ _, World.ownsRow_nil _ _ _ _, by rw [ReplsOwn]; exact ⟨rfl, rfl⟩, by simp [Value.ownBlock]⟩) (by cases (Value.slice a4 RR.1.length c4).ownBlock <;> simp) (fun q hq => ⟨(hnew q (mem_ownBlock.1 hq)).1, Nat.le_trans hw3 (hnew q (mem_ownBlock.1 hq)).2⟩) (by have := HWS.out; omega) (by have := HWS.out; omega) HLT.out HSB2.out (T8 _ _ _ _ _ _ _ _)
      rw [HQ2.out]
      exact hE
  · have hQ2 : Q = (.mk (zz : Nat) 0 0 0 [] [] [] [], ra) := by rw [HQ3.out]; simp [hz]
    have HQ2 := hid hQ2
    have hzb : ((zz : Int) == 0) = false := by rw [beq_eq_false_iff_ne]; omega
    have X5 := HX2.out
    have hb24 := HB22.out
    have HR5 := HR2
    clear hQ2
    have z0 := cell_at hb24 0
    have y0 := free_at hb24 0
    have z1 := cell_at hb24 1
    have y1 := free_at hb24 1
    have z2 := cell_at hb24 2
    have y2 := free_at hb24 2
    have z3 := cell_at hb24 3
    have y3 := free_at hb24 3
    have z4 := cell_at hb24 4
    have y4 := free_at hb24 4
    have z5 := cell_at hb24 5
    have y5 := free_at hb24 5
    have z6 := cell_at hb24 6
    have y6 := free_at hb24 6
    have z7 := cell_at hb24 7
    have y7 := free_at hb24 7
    simp at z0 z1 z2 z3 z4 z5 z6 z7
    have q0 := cell_at X5.box 0
    have q1 := cell_at X5.box 1
    have q2 := cell_at X5.box 2
    have q3 := cell_at X5.box 3
    have q4 := cell_at X5.box 4
    have q5 := cell_at X5.box 5
    have q6 := cell_at X5.box 6
    have q7 := cell_at X5.box 7
    simp at q0 q1 q2 q3 q4 q5 q6 q7
    go_wp2_with fail
    (try simp only [Exit.inBlock, Exit.then])
    refine bodyPost_ret (results_cell_row rfl _ _ (bx + 1) 48 _ (0, 0) _ rfl (by exact heap_setCell_at (heap_setCell_at (heap_setCell_at (heap_setCell_at (heap_setCell_at (heap_setCell_at (heap_setCell_at (heap_setCell_at hb24 0 _) 1 _) 2 _) 3 _) 4 _) 5 _) 6 _) 7 _) Tryz.underlying48 rfl (by kernel_rfl)) rfl ?_
    have hE := part_end (R := .mk (zz : Nat) 0 0 0 [] [] [] []) (w2 := (((((((((w1.setCell ⟨bx + 1 + 1, 0, none⟩ (.int .i64 (zz : Nat))).setCell ⟨bx + 1, 0, none⟩ (.int .i64 (zz : Nat))).setCell ⟨bx + 1, 1, none⟩ (.int .i64 0)).setCell ⟨bx + 1, 2, none⟩ (.int .i64 0)).setCell ⟨bx + 1, 3, none⟩ (.int .i64 0)).setCell ⟨bx + 1, 4, none⟩ (.string ⟨#[]⟩)).setCell ⟨bx + 1, 5, none⟩ (.slice none 0 0)).setCell ⟨bx + 1, 6, none⟩ (.slice none 0 0)).setCell ⟨bx + 1, 7, none⟩ (.slice none 0 0))) HF0.out X5 HR5.out (by rw [RepOwn]; exact ⟨_, _, _, [], [], rfl, World.ownsRow_nil _ _ _ _, World.ownsRow_nil _ _ _ _, World.ownsRow_nil _ _ _ _, by rw [ReplsOwn]; exact ⟨rfl, rfl⟩, rfl⟩) List.nodup_nil (fun q hq => by cases hq) (by have := HWS.out; omega) (by have := HWS.out; omega) HLT.out HSB2.out (T8 _ _ _ _ _ _ _ _)
    rw [HQ2.out]
    exact hE
end Go.Proofs.YtpccaodkgboefaaGreatDoor
