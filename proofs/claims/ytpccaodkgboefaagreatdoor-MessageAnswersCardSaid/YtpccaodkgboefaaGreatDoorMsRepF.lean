/-
  Package message: one of a group's replies, laid down.
-/
import Derived.Test.YtpccaodkgboefaaGreatDoorMMsE
namespace Go.Proofs.YtpccaodkgboefaaGreatDoor
open Go.RowKit

theorem XSt.toActs {S S1 : Nat → Prop} {w W0 w' : World} {bp : Nat} {cs : Array Value} {R : (Nat → Prop) → Prop} (h : XSt S W0 bp S1 w' cs) (hf : Fresh w W0) (hp : w.heap.size ≤ bp) (hr : R S1) : Acts S w w' R :=
  ⟨S1, fun q hq => (h.grows q hq).imp id (fun h => ⟨Nat.le_trans hf.size h.1, h.2⟩), (hf.mono (S' := S) (fun _ _ h => h.elim)).trans' h.keeps (fun q hq h1 => by
    rcases h1 with h1 | h1
    · exact h1
    · omega), hr⟩
theorem XSt.keepBlock {S S1 : Nat → Prop} {w w' : World} {br q : Nat} {cs : Array Value} {o : Obj} (h : XSt S w br S1 w' cs) (ho : w.heap[q]? = some o) (hs : ¬ S q) (hn : q ≠ br) : w'.heap[q]? = some o := h.keeps.at_ ho (fun h => h.elim hs hn)
theorem XSt.notIn {S S1 : Nat → Prop} {w w' : World} {br q : Nat} {cs : Array Value} (h : XSt S w br S1 w' cs) (hq : q < w.heap.size) (hs : ¬ S q) : ¬ S1 q := fun h1 => by
  rcases h.grows q h1 with h2 | h2
  · exact hs h2
  · omega

theorem wHashList_len : ∀ (l : List (List UInt8)) (st : WSt), (wHashList st l).1.length ≤ st.1.length + 32 * l.length
  | [], st => by simp [wHashList]
  | x :: r, st => by
    rw [wHashList]
    split
    · rename_i hx
      have := wHashList_len r (wRaw st x)
      unfold wRaw at this ⊢
      simp only [List.length_append, List.length_cons] at *
      omega
    · unfold wRefuse
      simp
theorem wHashes_len (st : WSt) (l : List (List UInt8)) (many : Int) : (wHashes st l many).1.length ≤ st.1.length + 10 + 32 * l.length := by
  unfold wHashes
  split
  · unfold wRefuse; simp; omega
  · split
    · unfold wRefuse; simp; omega
    · have h1 := wHashList_len l (wNum st l.length)
      have h2 := wNum_len st l.length
      omega

set_option maxRecDepth 100000 in
set_option maxHeartbeats 2000000 in
theorem xpart_any (S : Nat → Prop) (wb br : Nat) (st : WSt) (z s a b : Int) (t : List UInt8) (h e : List (List UInt8)) (p : List Rep) (ah ae ap : Option Addr) (ch ce cp : Nat) (w : World) (hwr : WRep S w wb st)
    (hl : ListAt w (.slice ah h.length ch) (texts h)) (hS : ∀ g, (Value.slice ah h.length ch).ownBlock = some g → h ≠ [] → ¬ S g ∧ g < w.heap.size) (hlen : st.1.length + 33 * h.length + t.length + 100 < 70368744177664) :
    Calls Tryz.prog 137 #[aggW wb br, .agg #[.int .i64 z, .int .i64 s, .int .i64 a, .int .i64 b, .string (str t), .slice ah h.length ch, .slice ae e.length ce, .slice ap p.length cp]] w fun e' w' => e' = .returned (.tuple #[]) ∧ Acts S w w' fun S' => WRep S' w' wb (mPart st (.mk z s a b t h e p)) := by
  obtain ⟨M, hM0⟩ : ∃ M, mPart st (.mk z s a b t h e p) = M := ⟨_, rfl⟩
  rw [hM0]
  have HM := hid hM0
  clear hM0
  have f0 : Fresh w ((w.alloc (.cells #[.pointer (some ⟨wb, 0, none⟩), .pointer none, .pointer (some ⟨br, 0, none⟩)] 87)).alloc (.cells #[.int .i64 z, .int .i64 s, .int .i64 a, .int .i64 b, .string (str t), .slice ah h.length ch, .slice ae e.length ce, .slice ap p.length cp] 48)) := ((Keeps.refl _ _).alloc _).alloc _
  have hbx : ((w.alloc (.cells #[.pointer (some ⟨wb, 0, none⟩), .pointer none, .pointer (some ⟨br, 0, none⟩)] 87)).alloc (.cells #[.int .i64 z, .int .i64 s, .int .i64 a, .int .i64 b, .string (str t), .slice ah h.length ch, .slice ae e.length ce, .slice ap p.length cp] 48)).heap[w.heap.size]? = some (.cells #[.pointer (some ⟨wb, 0, none⟩), .pointer none, .pointer (some ⟨br, 0, none⟩)] 87 (0, 0)) := by
    rw [Below.heap_alloc _ _ _ (by simp)]
    exact heap_alloc_new w _
  have hbp := heap_alloc_new (w.alloc (.cells #[.pointer (some ⟨wb, 0, none⟩), .pointer none, .pointer (some ⟨br, 0, none⟩)] 87)) (.cells #[.int .i64 z, .int .i64 s, .int .i64 a, .int .i64 b, .string (str t), .slice ah h.length ch, .slice ae e.length ce, .slice ap p.length cp] 48)
  have hll : ∀ q, S q → q < w.heap.size := fun q hq => (hwr.2.1 q hq).2
  have hr := hwr.keeps f0 (fun _ _ h => h)
  have hl0 : ListAt ((w.alloc (.cells #[.pointer (some ⟨wb, 0, none⟩), .pointer none, .pointer (some ⟨br, 0, none⟩)] 87)).alloc (.cells #[.int .i64 z, .int .i64 s, .int .i64 a, .int .i64 b, .string (str t), .slice ah h.length ch, .slice ae e.length ce, .slice ap p.length cp] 48)) (.slice ah h.length ch) (texts h) := hl.keeps f0 (fun _ _ h => h)
  simp only [World.size_alloc] at hbp
  have hz : w.heap.size + 1 < ((w.alloc (.cells #[.pointer (some ⟨wb, 0, none⟩), .pointer none, .pointer (some ⟨br, 0, none⟩)] 87)).alloc (.cells #[.int .i64 z, .int .i64 s, .int .i64 a, .int .i64 b, .string (str t), .slice ah h.length ch, .slice ae e.length ce, .slice ap p.length cp] 48)).heap.size := by simp
  unfold aggW
  go_enter Tryz.func137, Tryz.ntmps137
  go_upto_region 1 with fail
  obtain ⟨bx, hbxe⟩ : ∃ bx, w.heap.size = bx := ⟨_, rfl⟩
  rw [hbxe] at hbx hbp hz hll hS ⊢
  have HWS : Hid (w.heap.size ≤ bx + 1) := by rw [hbxe]; exact Nat.le_succ _
  generalize (w.alloc (.cells #[.pointer (some ⟨wb, 0, none⟩), .pointer none, .pointer (some ⟨br, 0, none⟩)] 87)).alloc (.cells #[.int .i64 z, .int .i64 s, .int .i64 a, .int .i64 b, .string (str t), .slice ah h.length ch, .slice ae e.length ce, .slice ap p.length cp] 48) = W0 at f0 hbx hbp hr hl0 hz ⊢
  have hsp : ¬ S (bx + 1) := fun h' => by have := hll _ h'; omega
  have hsx : ¬ S bx := fun h' => by have := hll _ h'; omega
  have X0 := XSt.start hbp hsp
  have x0 := cell_at hbx 0
  have p0 := cell_at hbp 0
  simp at x0 p0
  have HC := hid (mstatus_any S wb st z _ hr (by omega))
  have HX0 := hid X0
  have HBX := hid hbx
  have HBP := hid hbp
  have HF0 := hid f0
  have HL0 := hid hl0
  have HS := hid hS
  have HLL := hid hll
  clear X0 hbx hbp f0 hl0 hr hl hS hwr hll hbxe
  go_wp2_with fail
  refine HC.out.mono ?_
  rintro e' w1 ⟨rfl, hA⟩
  obtain ⟨S1, X1, R1, g1, k1⟩ := HX0.out.acts hA
  have hb1 := k1.at_ HBX.out hsx
  have hsz1 := k1.size
  have hs1 : ∀ q, q < W0.heap.size → ¬ S q → ¬ S1 q := fun q hq hn h1 => by
    rcases g1 q h1 with h2 | h2
    · exact hn h2
    · omega
  have hlS : ∀ q, S1 q → q < w1.heap.size := fun q hq => (R1.2.1 q hq).2
  have hl1 : ListAt w1 (.slice ah h.length ch) (texts h) := HL0.out.keeps_if k1 (fun g hg hx => (HS.out g hg (fun e => hx (by rw [e]; rfl))).1)
  have hS1 : ∀ g, (Value.slice ah h.length ch).ownBlock = some g → h ≠ [] → ¬ S1 g ∧ g < bx := fun g hg hx => ⟨hs1 g (by have := (HS.out g hg hx).2; have := HF0.out.size; omega) (HS.out g hg hx).1, (HS.out g hg hx).2⟩
  have x0 := cell_at hb1 0
  simp at x0
  have hz1 : bx + 1 < w1.heap.size := by omega
  have hfo : Fresh w1 (w1.alloc (.cells #[.pointer (some ⟨wb, 0, none⟩), .pointer none, .pointer (some ⟨bx + 1, 0, none⟩)] 87)) := (Keeps.refl _ _).alloc _
  have hbo := heap_alloc_new w1 (.cells #[.pointer (some ⟨wb, 0, none⟩), .pointer none, .pointer (some ⟨bx + 1, 0, none⟩)] 87)
  have X2 := X1.fresh hfo
  have R2 := R1.keeps hfo (fun _ _ h => h)
  have hso : ¬ S1 w1.heap.size := fun h' => by have := hlS _ h'; omega
  have hb2 := hfo.at_ hb1 (fun h => h)
  have hl2 : ListAt (w1.alloc (.cells #[.pointer (some ⟨wb, 0, none⟩), .pointer none, .pointer (some ⟨bx + 1, 0, none⟩)] 87)) (.slice ah h.length ch) (texts h) := hl1.keeps hfo (fun _ _ h => h)
  clear hA g1 k1 hlS hl1 HL0 HC
  go_upto_region 3 with fail
  obtain ⟨bo, hboe⟩ : ∃ bo, w1.heap.size = bo := ⟨_, rfl⟩
  rw [hboe] at hbo hso hz1 ⊢
  generalize w1.alloc (.cells #[.pointer (some ⟨wb, 0, none⟩), .pointer none, .pointer (some ⟨bx + 1, 0, none⟩)] 87) = W2 at hbo X2 R2 hb2 hl2 ⊢
  have y0 := cell_at hb2 0
  have p0 := cell_at X2.box 0
  have p4 := cell_at X2.box 4
  have o0 := cell_at hbo 0
  have o1 := cell_at hbo 1
  have o2 := cell_at hbo 2
  simp at y0 p0 p4 o0 o1 o2
  have hst1 : (mStatus st z).1.length ≤ st.1.length + 1 := by unfold mStatus; exact wByte_len _ _
  have hnp : bo ≠ bx + 1 := by omega
  have hsb : ¬ S1 (bx + 1) := X2.out
  have HX2 := hid X2
  have HR2 := hid R2
  have HBO := hid hbo
  have HB2 := hid hb2
  have HL2 := hid hl2
  have HS1 := hid hS1
  have HHS := hid hs1
  clear X2 R2 hbo hb2 hl2 hS1 x0 X1 R1 hb1 hfo hs1 HX0 HBP
  by_cases hz0 : z = 0
  · subst hz0
    by_cases ht : t = []
    · subst ht
      have hM : M = mRest (wHashes (wByte (mStatus st 0) 0) h 32768) (.mk 0 s a b [] [] e p) := by rw [← HM.out, mPart, if_pos rfl, if_neg (by simp)]
      have hM2 : M = if s ≠ 0 ∨ a ≠ 0 ∨ b ≠ 0 ∨ ([] : List UInt8) ≠ [] ∨ 0 < 0 ∨ 0 < e.length ∨ 0 < p.length then wNum (wHashes (wByte (mStatus st 0) 0) h 32768) (-1) else (wHashes (wByte (mStatus st 0) 0) h 32768) := by rw [hM, mRest, leftOver]; simp only [decide_eq_true_eq, List.length_nil]
      have HM2 := hid hM2
      have HB := hid (wbyte_any S1 wb (mStatus st 0) 0 W2 HR2.out (by omega))
      have hl3 := wByte_len (mStatus st 0) 0
      clear hM hM2
      have htl : (str []).toList = [] := str_toList []
      go_wp2_with fail
      refine HB.out.mono ?_
      rintro e' w3 ⟨rfl, hA3⟩
      obtain ⟨S3, X3, R3, g3, k3⟩ := HX2.out.acts hA3
      have hbo3 := k3.at_ HBO.out hso
      have hso3 : ¬ S3 bo := fun h' => by
        rcases g3 bo h' with h2 | h2
        · exact hso h2
        · have := lt_of_block HBO.out; omega
      have o0 := cell_at hbo3 0
      have o1 := cell_at hbo3 1
      have o2 := cell_at hbo3 2
      simp at o0 o1 o2
      have hl3w : ListAt w3 (.slice ah h.length ch) (texts h) := HL2.out.keeps_if k3 (fun g hg hx => (HS1.out g hg (fun e => hx (by rw [e]; rfl))).1)
      have HRT := hid (xhashes_w S3 wb (bx + 1) (wByte (mStatus st 0) 0) 0 s a b [] _ _ _ w3 R3 X3.box X3.out h hl3w (fun g hg hx h1 => by
        rcases g3 g h1 with h2 | h2
        · exact (HS1.out g hg hx).1 h2
        · have := (HS1.out g hg hx).2; have := lt_of_block HBO.out; omega) (by omega))
      have HX3 := hid X3
      have HBO3 := hid hbo3
      clear hA3 X3 R3 g3 k3 hbo3 y0 p0 p4
      unfold aggW at HRT
      go_wp2_with fail
      refine HRT.out.mono ?_
      rintro e' w4 ⟨rfl, S4, X4, R4⟩
      have hbo4 := X4.keepBlock HBO3.out hso3 hnp
      have o0 := cell_at hbo4 0
      have o1 := cell_at hbo4 1
      have o2 := cell_at hbo4 2
      simp at o0 o1 o2
      have hl4 : (wHashes (wByte (mStatus st 0) 0) h 32768).1.length ≤ st.1.length + 33 * h.length + 20 := by
        have := wHashes_len (wByte (mStatus st 0) 0) h 32768
        omega
      have HRS := hid (xrest_w S4 wb (bx + 1) (wHashes (wByte (mStatus st 0) 0) h 32768) 0 s a b [] _ _ _ w4 R4 X4.box X4.out 0 e.length p.length none ae ap 0 ce cp rfl rfl rfl (by omega))
      have HX4 := hid (HX3.out.after X4)
      clear X4 R4 hbo4
      unfold aggW at HRS
      go_wp2_with fail
      refine HRS.out.mono ?_
      rintro e' w5 ⟨rfl, S5, X5, R5⟩
      go_wp2
      go_end0
      rw [HM2.out]
      exact ⟨rfl, XSt.toActs (HX4.out.after X5) HF0.out HWS.out R5⟩
    · have hM : M = mRest (mRoot (wByte (mStatus st 0) 1) t) (.mk 0 s a b [] h e p) := by rw [← HM.out, mPart, if_pos rfl, if_pos ht]
      have hM2 : M = if s ≠ 0 ∨ a ≠ 0 ∨ b ≠ 0 ∨ ([] : List UInt8) ≠ [] ∨ 0 < h.length ∨ 0 < e.length ∨ 0 < p.length then wNum (mRoot (wByte (mStatus st 0) 1) t) (-1) else (mRoot (wByte (mStatus st 0) 1) t) := by rw [hM, mRest, leftOver]; simp only [decide_eq_true_eq]
      have HM2 := hid hM2
      have HB := hid (wbyte_any S1 wb (mStatus st 0) 1 W2 HR2.out (by omega))
      have hl3 := wByte_len (mStatus st 0) 1
      clear hM hM2
      have htn : t.isEmpty = false := by cases t with
        | nil => exact absurd rfl ht
        | cons _ _ => rfl
      have htl : (str t).toList = t := str_toList t
      go_wp2_with fail
      refine HB.out.mono ?_
      rintro e' w3 ⟨rfl, hA3⟩
      obtain ⟨S3, X3, R3, g3, k3⟩ := HX2.out.acts hA3
      have hbo3 := k3.at_ HBO.out hso
      have hso3 : ¬ S3 bo := fun h' => by
        rcases g3 bo h' with h2 | h2
        · exact hso h2
        · have := lt_of_block HBO.out; omega
      have o0 := cell_at hbo3 0
      have o1 := cell_at hbo3 1
      have o2 := cell_at hbo3 2
      simp at o0 o1 o2
      have HRT := hid (xroot_w S3 wb (bx + 1) (wByte (mStatus st 0) 1) 0 s a b t _ _ _ w3 R3 X3.box X3.out (by omega))
      have HX3 := hid X3
      have HBO3 := hid hbo3
      clear hA3 X3 R3 g3 k3 hbo3 y0 p0 p4
      unfold aggW at HRT
      go_wp2_with fail
      refine HRT.out.mono ?_
      rintro e' w4 ⟨rfl, S4, X4, R4⟩
      have hbo4 := X4.keepBlock HBO3.out hso3 hnp
      have o0 := cell_at hbo4 0
      have o1 := cell_at hbo4 1
      have o2 := cell_at hbo4 2
      simp at o0 o1 o2
      have hl4 : (mRoot (wByte (mStatus st 0) 1) t).1.length ≤ st.1.length + t.length + 15 := by
        unfold mRoot wRaw
        have := wNum_len (wByte (mStatus st 0) 1) (-1)
        simp only [List.length_append]
        split <;> omega
      have HRS := hid (xrest_w S4 wb (bx + 1) (mRoot (wByte (mStatus st 0) 1) t) 0 s a b [] _ _ _ w4 R4 X4.box X4.out h.length e.length p.length ah ae ap ch ce cp rfl rfl rfl (by omega))
      have HX4 := hid (HX3.out.after X4)
      clear X4 R4 hbo4
      unfold aggW at HRS
      go_wp2_with fail
      refine HRS.out.mono ?_
      rintro e' w5 ⟨rfl, S5, X5, R5⟩
      go_wp2
      go_end0
      rw [HM2.out]
      exact ⟨rfl, XSt.toActs (HX4.out.after X5) HF0.out HWS.out R5⟩
  · have hM : M = mRest (mStatus st z) (.mk z s a b t h e p) := by rw [← HM.out, mPart, if_neg hz0]
    have hM2 : M = if s ≠ 0 ∨ a ≠ 0 ∨ b ≠ 0 ∨ t ≠ [] ∨ 0 < h.length ∨ 0 < e.length ∨ 0 < p.length then wNum (mStatus st z) (-1) else mStatus st z := by rw [hM, mRest, leftOver]; simp only [decide_eq_true_eq]
    have hzb : (z == 0) = false := beq_eq_false_iff_ne.2 hz0
    have HRS := hid (xrest_w S1 wb (bx + 1) (mStatus st z) z s a b t _ _ _ W2 HR2.out HX2.out.box HX2.out.out h.length e.length p.length ah ae ap ch ce cp rfl rfl rfl (by omega))
    have HM2 := hid hM2
    clear hM hM2
    unfold aggW at HRS
    go_wp2_with fail
    refine HRS.out.mono ?_
    rintro e' w4 ⟨rfl, S4, X4, R4⟩
    go_wp2
    go_end0
    rw [HM2.out]
    refine ⟨rfl, XSt.toActs (HX2.out.after X4) HF0.out HWS.out R4⟩
end Go.Proofs.YtpccaodkgboefaaGreatDoor
