/-
  The document's Reader: how it lies in memory; NewReader, Byte, Num, Raw, Done.
  The document's Reader: Num, Raw, Done.
  The document's Reader: Raw, Done.
  The document's Reader: many; Texts.
  The document's Reader: Texts.
  The document's Reader: Rising.
  The document's Reader: Hashes.
  The document's unframe.
-/
import Derived.Test.YtpccaodkgboefaaGreatDoorMMdb
import Derived.StillTailTactics
import Derived.Test.YtpccaodkgboefaaGreatDoorCxElems
import Derived.Test.YtpccaodkgboefaaGreatDoorMShaA
import Derived.Test.YtpccaodkgboefaaGreatDoorMMsC
import Derived.Test.YtpccaodkgboefaaGreatDoorCxFrame
namespace Go.Proofs.YtpccaodkgboefaaGreatDoor
open Go.RowKit

/-- the document's Reader of a text, at block b -/
def DRep (w : World) (b : Nat) (s : List UInt8) (r : RSt) : Prop :=
  1 ≤ b ∧ r.1 = s.drop r.2.1 ∧ r.2.1 ≤ s.length ∧ s.length ≤ 9223372036854775807 ∧ w.heap[b]? = some (.cells #[.string (str s), .int .i64 (r.2.1 : Int), .int .i64 r.2.2] 114 (0, 0))
theorem DRep.keeps {S : Nat → Prop} {w w' : World} {b : Nat} {s : List UInt8} {r : RSt} (h : DRep w b s r) (hk : Keeps S w w') (hn : ¬ S b) : DRep w' b s r := ⟨h.1, h.2.1, h.2.2.1, h.2.2.2.1, hk.at_ h.2.2.2.2 hn⟩
theorem DRep.cells {w : World} {b : Nat} {s : List UInt8} {r : RSt} (h : DRep w b s r) :
    w.cell? ⟨b, 0, none⟩ = some (.string (str s)) ∧ w.cell? ⟨b, 1, none⟩ = some (.int .i64 (r.2.1 : Int)) ∧ w.cell? ⟨b, 2, none⟩ = some (.int .i64 r.2.2) ∧ w.frozen? ⟨b, 1, none⟩ = false ∧ w.frozen? ⟨b, 2, none⟩ = false ∧ b < w.heap.size := by
  have c0 := cell_at h.2.2.2.2 0
  have c1 := cell_at h.2.2.2.2 1
  have c2 := cell_at h.2.2.2.2 2
  simp at c0 c1 c2
  exact ⟨c0, c1, c2, free_at h.2.2.2.2 1, free_at h.2.2.2.2 2, lt_of_block h.2.2.2.2⟩
theorem DRep.to {w w1 : World} {b : Nat} {s : List UInt8} {r : RSt} (h : DRep w b s r) (f : Fresh w w1) (n : Nat) (hn : n ≤ s.length) : Keeps (fun k => k = b) w (w1.setCell ⟨b, 1, none⟩ (.int .i64 (n : Int))) ∧ DRep (w1.setCell ⟨b, 1, none⟩ (.int .i64 (n : Int))) b s (s.drop n, n, r.2.2) :=
  ⟨Keeps.setCell (S := fun k => k = b) (f.mono fun _ _ h => h.elim) (p := ⟨b, 1, none⟩) (fun _ => rfl) _, h.1, rfl, hn, h.2.2.2.1, heap_setCell_at (f.at_ h.2.2.2.2 (fun h => h)) 1 _⟩
theorem DRep.bad {w w1 : World} {b : Nat} {s : List UInt8} {r : RSt} (h : DRep w b s r) (f : Fresh w w1) (e : Int) : Keeps (fun k => k = b) w (w1.setCell ⟨b, 2, none⟩ (.int .i64 e)) ∧ DRep (w1.setCell ⟨b, 2, none⟩ (.int .i64 e)) b s (r.1, r.2.1, e) :=
  ⟨Keeps.setCell (S := fun k => k = b) (f.mono fun _ _ h => h.elim) (p := ⟨b, 2, none⟩) (fun _ => rfl) _, h.1, h.2.1, h.2.2.1, h.2.2.2.1, heap_setCell_at (f.at_ h.2.2.2.2 (fun h => h)) 2 _⟩

set_option maxRecDepth 100000 in
set_option maxHeartbeats 1000000 in
theorem xreader_any (s : List UInt8) (w : World) (hl : Laid w) (hs : s.length ≤ 9223372036854775807) :
    Calls Tryz.prog 43 #[.string (str s)] w fun e w' => ∃ b, e = .returned (.pointer (some ⟨b, 0, none⟩)) ∧ Fresh w w' ∧ w.heap.size ≤ b ∧ DRep w' b s (s, 0, 0) := by
  have hg := World.block_lt_of_cell? w _ hl
  simp only at hg
  go_enter Tryz.func43, Tryz.ntmps43
  go_wp2_with fail
  go_ret
  exact ⟨w.heap.size, rfl, (Keeps.refl _ _).alloc _, Nat.le_refl _, by omega, rfl, Nat.zero_le _, hs, heap_size_alloc _ _⟩

set_option maxRecDepth 100000 in
set_option maxHeartbeats 1000000 in
theorem xends_ok (b : Nat) (s : List UInt8) (r : RSt) (n : Nat) (hn : n ≤ s.length) (w : World) (h : DRep w b s r) :
    Calls Tryz.prog 118 #[.pointer (some ⟨b, 0, none⟩), .int .i64 (n : Int), .int .i64 0] w fun e w' => e = .returned (.bool true) ∧ Keeps (fun k => k = b) w w' ∧ DRep w' b s (s.drop n, n, r.2.2) := by
  obtain ⟨c0, c1, c2, f1, f2, hb⟩ := h.cells
  go_enter Tryz.func118, Tryz.ntmps118
  go_wp2_with fail
  go_ret
  exact ⟨rfl, h.to (Keeps.refl _ _) n hn⟩
set_option maxRecDepth 100000 in
set_option maxHeartbeats 1000000 in
theorem xends_bad (b : Nat) (s : List UInt8) (r : RSt) (n e0 : Int) (he : e0 ≠ 0) (w : World) (h : DRep w b s r) :
    Calls Tryz.prog 118 #[.pointer (some ⟨b, 0, none⟩), .int .i64 n, .int .i64 e0] w fun e w' => e = .returned (.bool false) ∧ Keeps (fun k => k = b) w w' ∧ DRep w' b s (r.1, r.2.1, e0) := by
  obtain ⟨c0, c1, c2, f1, f2, hb⟩ := h.cells
  have hq : (e0 != 0) = true := bne_iff_ne.2 he
  go_enter Tryz.func118, Tryz.ntmps118
  go_wp2_with fail
  go_ret
  exact ⟨rfl, h.bad (Keeps.refl _ _) e0⟩

set_option maxRecDepth 100000 in
set_option maxHeartbeats 2000000 in
theorem xrbyte_any (b : Nat) (s : List UInt8) (r : RSt) (w : World) (h : DRep w b s r) :
    Calls Tryz.prog 60 #[.pointer (some ⟨b, 0, none⟩)] w fun e w' => e = .returned (.int .i64 ((rd pByte 0 r).1 : Nat)) ∧ Keeps (fun k => k = b) w w' ∧ DRep w' b s (rd pByte 0 r).2 := by
  obtain ⟨c0, c1, c2, f1, f2, hb⟩ := h.cells
  obtain ⟨rest, n, er⟩ := r
  obtain ⟨h1, h2, h3, h4, h5⟩ := h
  simp only at h2 h3 c1 c2
  have hD : DRep w b s (rest, n, er) := ⟨h1, h2, h3, h4, h5⟩
  have HD := hid hD
  clear hD h5
  have hsz := str_size s
  by_cases he : er = 0
  rotate_left
  · have hq : (er != 0) = true := bne_iff_ne.2 he
    have hR : Hid (rd pByte 0 (rest, n, er) = (0, (rest, n, er))) := by show _ = _; unfold rd; rw [if_pos he]
    clear he
    go_enter Tryz.func60, Tryz.ntmps60
    go_wp2_with fail
    go_ret
    rw [hR.out]
    exact ⟨rfl, Keeps.refl _ _, HD.out⟩
  subst he
  by_cases hn : n = s.length
  · have hR : Hid (rd pByte 0 (rest, n, 0) = (0, (rest, n, 21))) := by
      show _ = _
      have : rest = [] := by rw [h2, hn, List.drop_length]
      unfold rd
      rw [if_neg (fun q => q rfl), this]
      rfl
    have hq : ((n : Int) == (s.length : Int)) = true := by rw [hn]; simp
    clear hn h2 h3
    go_enter Tryz.func60, Tryz.ntmps60
    go_wp2_with fail
    go_quiet (fail)
    go_wp2_with fail
    go_ret
    rw [hR.out]
    exact ⟨rfl, HD.out.bad ((Keeps.refl _ _).drewN _) 21⟩
  · obtain ⟨c, hc⟩ : ∃ c, s[n]? = some c := ⟨s[n]'(by omega), List.getElem?_eq_getElem (by omega)⟩
    have hdr : rest = c :: s.drop (n + 1) := by
      obtain ⟨hj, rfl⟩ := List.getElem?_eq_some_iff.1 hc
      rw [h2]
      exact List.drop_eq_getElem_cons hj
    have hR : Hid (rd pByte 0 (rest, n, 0) = (c.toNat, (s.drop (n + 1), n + 1, 0))) := by
      show _ = _
      unfold rd
      rw [if_neg (fun q => q rfl), hdr]
      simp only [pByte, List.length_cons]
      rw [show n + ((s.drop (n + 1)).length + 1 - (s.drop (n + 1)).length) = n + 1 by omega]
    have hq : ((n : Int) == (s.length : Int)) = false := beq_eq_false_iff_ne.2 (by omega)
    have hidx := byteOf_idx (b := s) (j := n)
    rw [byteOf_get hc] at hidx
    have hlt : n < s.length := by omega
    have hx1 : ((n : Int) + 1) - 1 = (n : Int) := by omega
    have hcb := c.toNat_lt
    have hw : wrap64 (c.toNat : Int) = (c.toNat : Int) := IntWalk.wrap64_in _ ⟨by omega, by omega⟩
    clear hc hdr h2 hn
    go_enter Tryz.func60, Tryz.ntmps60
    go_wp2_with fail
    go_quiet (fail)
    rename Nat => nq1
    go_wp2_with fail
    go_quiet (fail)
    go_wp2_with fail
    go_ret
    rw [hR.out]
    have h6 := HD.out.to (w1 := w.drewN nq1) ((Keeps.refl (fun _ => False) w).drewN nq1) (n + 1) (by omega)
    exact ⟨rfl, h6.1.drewN _, h6.2.keeps ((Keeps.refl (fun _ => False) _).drewN _) (fun h => h)⟩
end Go.Proofs.YtpccaodkgboefaaGreatDoor

namespace Go.Proofs.YtpccaodkgboefaaGreatDoor
open Go.RowKit

set_option maxRecDepth 100000 in
set_option maxHeartbeats 4000000 in
theorem xrnum_any (b : Nat) (s : List UInt8) (r : RSt) (w : World) (h : DRep w b s r) :
    Calls Tryz.prog 83 #[.pointer (some ⟨b, 0, none⟩)] w fun e w' => e = .returned (.int .i64 ((rd (pNum 0 0) 0 r).1 : Nat)) ∧ Keeps (fun k => k = b) w w' ∧ DRep w' b s (rd (pNum 0 0) 0 r).2 := by
  obtain ⟨c0, c1, c2, f1, f2, hb⟩ := h.cells
  obtain ⟨rest, n, er⟩ := r
  have HD := hid h
  obtain ⟨h1, h2, h3, h4, h5⟩ := h
  simp only at h2 h3 c1 c2
  clear h5
  by_cases he : er = 0
  rotate_left
  · have hq : (er != 0) = true := bne_iff_ne.2 he
    have hR : Hid (rd (pNum 0 0) 0 (rest, n, er) = (0, (rest, n, er))) := by show _ = _; unfold rd; rw [if_pos he]
    clear he
    go_enter Tryz.func83, Tryz.ntmps83
    go_wp2_with fail
    go_ret
    rw [hR.out]
    exact ⟨rfl, Keeps.refl _ _, HD.out⟩
  subst he
  have hnum := fun W => (refnumber_any s n W h3 h4).mono (fun e w' h => And.intro h.1 h.2.symm)
  cases hp : pNum 0 0 (s.drop n) with
  | error f =>
    have hf := pNum_error hp
    have hA : numAt s n = (0, 0, f) := by unfold numAt; rw [hp]
    rw [hA] at hnum
    have hR : Hid (rd (pNum 0 0) 0 (rest, n, 0) = (0, (rest, n, f))) := by
      show _ = _
      unfold rd
      rw [if_neg (fun q => q rfl), h2]
      simp only [hp]
    have HN := hid hnum
    clear hnum hp hA h2 h3
    go_enter Tryz.func83, Tryz.ntmps83
    go_wp2_with fail
    have kf : Fresh w w.drew := (Keeps.refl _ _).drewN 1
    have hd' := HD.out.keeps kf (fun h => h)
    obtain ⟨d0, d1, d2, -, -, hb'⟩ := hd'.cells
    simp only at d1 d2
    refine wp_region_still_lit (by kernel_rfl) (by kernel_rfl) ?_
    repeat still_step
    still_call (HN.out _)
    repeat still_step
    try refine wpStill_nil ?_
    change Exit.then _ _ _ _ w.drew
    go_wp2_with fail
    refine (xends_bad b s (rest, n, 0) 0 f hf w.drew hd').mono ?_
    rintro e w2 ⟨rfl, k2, hd2⟩
    go_wp2_with fail
    go_ret
    rw [hR.out]
    exact ⟨rfl, Keeps.trans' (S := fun k => k = b) (kf.mono fun _ _ h => h.elim) k2 (fun _ _ h => h), hd2⟩
  | ok q =>
    obtain ⟨m, l⟩ := q
    have hle := (pNum_le _ _ _ _ _ hp).2
    have hdl := pNum_drop _ _ _ _ _ hp
    have hA : numAt s n = ((m : Int), ((s.length - l.length : Nat) : Int), 0) := by unfold numAt; rw [hp]
    rw [hA] at hnum
    have hln : (s.drop n).length = s.length - n := List.length_drop ..
    have hl : l = s.drop (s.length - l.length) := by
      rw [hln, List.drop_drop] at hdl
      rw [show s.length - l.length = n + (s.length - n - l.length) by omega]
      exact hdl
    have hR : Hid (rd (pNum 0 0) 0 (rest, n, 0) = (m, (s.drop (s.length - l.length), s.length - l.length, 0))) := by
      show _ = _
      unfold rd
      rw [if_neg (fun q => q rfl), h2]
      simp only [hp]
      rw [← hl, hln, show n + (s.length - n - l.length) = s.length - l.length by omega]
    obtain ⟨t, ht⟩ : ∃ t, s.length - l.length = t := ⟨_, rfl⟩
    have htl : t ≤ s.length := by omega
    rw [ht] at hnum hR
    have HN := hid hnum
    clear hnum hp hA h2 h3 hl hdl hln hle ht
    go_enter Tryz.func83, Tryz.ntmps83
    go_wp2_with fail
    have kf : Fresh w w.drew := (Keeps.refl _ _).drewN 1
    have hd' := HD.out.keeps kf (fun h => h)
    obtain ⟨d0, d1, d2, -, -, hb'⟩ := hd'.cells
    simp only at d1 d2
    refine wp_region_still_lit (by kernel_rfl) (by kernel_rfl) ?_
    repeat still_step
    still_call (HN.out _)
    repeat still_step
    try refine wpStill_nil ?_
    change Exit.then _ _ _ _ w.drew
    go_wp2_with fail
    refine (xends_ok b s (rest, n, 0) t htl w.drew hd').mono ?_
    rintro e w2 ⟨rfl, k2, hd2⟩
    go_wp2_with fail
    go_ret
    rw [hR.out]
    exact ⟨rfl, Keeps.trans' (S := fun k => k = b) (kf.mono fun _ _ h => h.elim) k2 (fun _ _ h => h), hd2⟩
end Go.Proofs.YtpccaodkgboefaaGreatDoor

namespace Go.Proofs.YtpccaodkgboefaaGreatDoor
open Go.RowKit

set_option maxRecDepth 100000 in
set_option maxHeartbeats 4000000 in
theorem xrdone_any (b : Nat) (s : List UInt8) (r : RSt) (w : World) (h : DRep w b s r) :
    Calls Tryz.prog 45 #[.pointer (some ⟨b, 0, none⟩)] w fun e w' => e = .returned (.tuple #[.int .i64 (rDone r).1, .int .i64 ((rDone r).2 : Int)]) ∧ Fresh w w' := by
  obtain ⟨c0, c1, c2, f1, f2, hb⟩ := h.cells
  obtain ⟨rest, n, er⟩ := r
  obtain ⟨h1, h2, h3, h4, h5⟩ := h
  simp only at h2 h3 c1 c2
  have hsz := str_size s
  clear h5
  by_cases he : er = 0
  rotate_left
  · have hq : (er != 0) = true := bne_iff_ne.2 he
    have hR : Hid (rDone (rest, n, er) = (er, n)) := by show _ = _; unfold rDone; simp only [ne_eq, he, not_false_eq_true, if_true]
    clear he
    go_enter Tryz.func45, Tryz.ntmps45
    go_wp2_with fail
    go_quiet (fail)
    go_wp2_with fail
    go_ret2
    rw [hR.out]
    exact ⟨rfl, (Keeps.refl _ _).drewN _⟩
  subst he
  by_cases hn : n < s.length
  · have hR : Hid (rDone (rest, n, 0) = (24, n)) := by
      show _ = _
      unfold rDone
      have : rest ≠ [] := by
        intro e
        have := congrArg List.length (h2.symm.trans e)
        simp at this
        omega
      simp [this]
    clear h2
    go_enter Tryz.func45, Tryz.ntmps45
    go_wp2_with fail
    go_quiet (fail)
    go_wp2_with fail
    go_quiet (fail)
    go_wp2_with fail
    go_ret2
    rw [hR.out]
    exact ⟨rfl, ((Keeps.refl _ _).drewN _).drewN _⟩
  · have hR : Hid (rDone (rest, n, 0) = (0, n)) := by
      show _ = _
      unfold rDone
      have : rest = [] := by
        rw [h2]
        exact List.drop_eq_nil_of_le (by omega)
      simp [this]
    clear h2
    go_enter Tryz.func45, Tryz.ntmps45
    go_wp2_with fail
    go_quiet (fail)
    go_wp2_with fail
    go_quiet (fail)
    go_wp2_with fail
    go_ret2
    rw [hR.out]
    exact ⟨rfl, ((Keeps.refl _ _).drewN _).drewN _⟩

set_option maxRecDepth 100000 in
set_option maxHeartbeats 4000000 in
theorem xrraw_any (m : Nat) (hm : m ≤ 1000000000) (b : Nat) (s : List UInt8) (r : RSt) (w : World) (h : DRep w b s r) :
    Calls Tryz.prog 107 #[.pointer (some ⟨b, 0, none⟩), .int .i64 (m : Int)] w fun e w' => e = .returned (.string (str (rd (pRaw (m : Int)) [] r).1)) ∧ Keeps (fun k => k = b) w w' ∧ DRep w' b s (rd (pRaw (m : Int)) [] r).2 := by
  obtain ⟨c0, c1, c2, f1, f2, hb⟩ := h.cells
  obtain ⟨rest, n, er⟩ := r
  have HD := hid h
  obtain ⟨h1, h2, h3, h4, h5⟩ := h
  simp only at h2 h3 c1 c2
  have hsz := str_size s
  clear h5
  by_cases he : er = 0
  rotate_left
  · have hq : (er != 0) = true := bne_iff_ne.2 he
    have hR : Hid (rd (pRaw (m : Int)) [] (rest, n, er) = ([], (rest, n, er))) := by show _ = _; unfold rd; rw [if_pos he]
    clear he
    go_enter Tryz.func107, Tryz.ntmps107
    go_wp2_with fail
    go_ret
    rw [hR.out]
    exact ⟨rfl, Keeps.refl _ _, HD.out⟩
  subst he
  have hln : rest.length = s.length - n := by rw [h2, List.length_drop]
  by_cases hbig : s.length - n < m
  · have hR : Hid (rd (pRaw (m : Int)) [] (rest, n, 0) = ([], (rest, n, 21))) := by
      show _ = _
      unfold rd pRaw
      rw [if_neg (fun q => q rfl), if_neg (by omega), if_pos (by simp; omega)]
    have hq : (s.length : Int) - (n : Int) < (m : Int) := by omega
    clear h2 hln
    go_enter Tryz.func107, Tryz.ntmps107
    go_wp2_with fail
    go_quiet (fail)
    go_wp2_with fail
    go_ret
    rw [hR.out]
    exact ⟨rfl, HD.out.bad ((Keeps.refl _ _).drewN _) 21⟩
  · have hR : Hid (rd (pRaw (m : Int)) [] (rest, n, 0) = ((s.drop n).take m, (s.drop (n + m), n + m, 0))) := by
      show _ = _
      unfold rd pRaw
      rw [if_neg (fun q => q rfl), if_neg (by omega), if_neg (by simp; omega), h2]
      simp only [Int.toNat_natCast, List.drop_drop, List.length_drop]
      rw [show n + (s.length - n - (s.length - (n + m))) = n + m by omega]
    have hq : ¬ (s.length : Int) - (n : Int) < (m : Int) := by omega
    have hs1 : (n : Int) + (m : Int) ≤ (s.length : Int) := by omega
    have hs2 : ((n : Int) + (m : Int)).toNat = n + m := by omega
    have hs3 : (n : Int) + (m : Int) ≤ 9223372036854775807 := by omega
    have hex : Hid ((str s).extract n (n + m) = str ((s.drop n).take m)) := by
      show _ = _
      rw [str_extract, List.drop_take, Nat.add_sub_cancel_left]
    have hnm : n + m ≤ s.length := by omega
    clear h2 hln
    go_enter Tryz.func107, Tryz.ntmps107
    go_wp2_with fail
    go_quiet (fail)
    rename Nat => nq1
    go_wp2_with fail
    go_quiet (fail)
    go_wp2_with fail
    go_ret
    rw [hR.out]
    have h6 := HD.out.to (w1 := w.drewN nq1) ((Keeps.refl (fun _ => False) w).drewN nq1) (n + m) hnm
    exact ⟨by rw [← hex.out]; rfl, h6.1.drewN _, h6.2.keeps ((Keeps.refl (fun _ => False) _).drewN _) (fun h => h)⟩
end Go.Proofs.YtpccaodkgboefaaGreatDoor

namespace Go.Proofs.YtpccaodkgboefaaGreatDoor
open Go.RowKit

def countAt (s : List UInt8) (n : Nat) (most : Int) : Int × Int × Int :=
  match pCount most (s.drop n) with
  | .error e => (0, 0, e)
  | .ok (m, l) => ((m : Int), ((s.length - l.length : Nat) : Int), 0)
set_option maxRecDepth 100000 in
set_option maxHeartbeats 4000000 in
theorem xmany_any (most : Int) (hm : 0 ≤ most) (b : Nat) (s : List UInt8) (r : RSt) (w : World) (h : DRep w b s r) :
    Calls Tryz.prog 117 #[.pointer (some ⟨b, 0, none⟩), .int .i64 most] w fun e w' => e = .returned (.tuple #[.int .i64 (countAt s r.2.1 most).1, .int .i64 (countAt s r.2.1 most).2.1, .int .i64 (countAt s r.2.1 most).2.2]) ∧ Fresh w w' := by
  obtain ⟨c0, c1, c2, f1, f2, hb⟩ := h.cells
  obtain ⟨rest, n, er⟩ := r
  have HD := hid h
  obtain ⟨h1, h2, h3, h4, h5⟩ := h
  simp only at h2 h3 c1 c2
  clear h5
  have kf : Fresh w w.drew := (Keeps.refl _ _).drewN 1
  have hd' := HD.out.keeps kf (fun h => h)
  obtain ⟨d0, d1, d2, -, -, hb'⟩ := hd'.cells
  simp only at d1 d2
  have hnum := fun W => (refnumber_any s n W h3 h4).mono (fun e w' h => And.intro h.1 h.2.symm)
  have hng : ¬ most < 0 := by omega
  show Calls _ _ _ _ fun e w' => e = .returned (.tuple #[.int .i64 (countAt s n most).1, .int .i64 (countAt s n most).2.1, .int .i64 (countAt s n most).2.2]) ∧ Fresh w w'
  cases hp : pNum 0 0 (s.drop n) with
  | error f =>
    have hf := pNum_error hp
    have hA : numAt s n = (0, 0, f) := by unfold numAt; rw [hp]
    rw [hA] at hnum
    have hC : Hid (countAt s n most = (0, 0, f)) := by
      show _ = _
      unfold countAt pCount
      rw [hp]
    have hq : (f == 0) = false := beq_eq_false_iff_ne.2 hf
    have HN := hid hnum
    clear hnum hp hA h2 h3
    go_enter Tryz.func117, Tryz.ntmps117
    go_wp2_with fail
    refine wp_region_still_lit (by kernel_rfl) (by kernel_rfl) ?_
    repeat still_step
    still_call (HN.out _)
    repeat still_step
    try refine wpStill_nil ?_
    change Exit.then _ _ _ _ w.drew
    go_wp2_with fail
    go_ret3
    rw [hC.out]
    exact ⟨rfl, kf⟩
  | ok q =>
    obtain ⟨m, l⟩ := q
    have hA : numAt s n = ((m : Int), ((s.length - l.length : Nat) : Int), 0) := by unfold numAt; rw [hp]
    rw [hA] at hnum
    obtain ⟨t, ht⟩ : ∃ t, s.length - l.length = t := ⟨_, rfl⟩
    rw [ht] at hnum
    by_cases hbig : most < (m : Int)
    · have hC : Hid (countAt s n most = (0, 0, 22)) := by
        show _ = _
        unfold countAt pCount
        rw [hp]
        simp only [hbig, if_true]
      have HN := hid hnum
      clear hnum hp hA h2 h3 ht
      go_enter Tryz.func117, Tryz.ntmps117
      go_wp2_with fail
      refine wp_region_still_lit (by kernel_rfl) (by kernel_rfl) ?_
      repeat still_step
      still_call (HN.out _)
      repeat still_step
      try refine wpStill_nil ?_
      change Exit.then _ _ _ _ w.drew
      go_wp2_with fail
      go_ret3
      rw [hC.out]
      exact ⟨rfl, kf⟩
    · have hC : Hid (countAt s n most = ((m : Int), (t : Int), 0)) := by
        show _ = _
        unfold countAt pCount
        rw [hp]
        simp only [hbig, if_false]
        rw [ht]
      have HN := hid hnum
      clear hnum hp hA h2 h3 ht
      go_enter Tryz.func117, Tryz.ntmps117
      go_wp2_with fail
      refine wp_region_still_lit (by kernel_rfl) (by kernel_rfl) ?_
      repeat still_step
      still_call (HN.out _)
      repeat still_step
      try refine wpStill_nil ?_
      change Exit.then _ _ _ _ w.drew
      go_wp2_with fail
      go_ret3
      rw [hC.out]
      exact ⟨rfl, kf⟩
end Go.Proofs.YtpccaodkgboefaaGreatDoor

namespace Go.Proofs.YtpccaodkgboefaaGreatDoor
open Go.RowKit

/-- a list of the call's own -/
structure DList (E : TypeId) (w wr : World) (v : Value) (n : Nat) (xs : List Value) : Prop where
  row : wr.ownsRow 0 E 1 v n xs
  own : ∀ g, v.ownBlock = some g → w.heap.size ≤ g
  fresh : Fresh w wr
theorem DList.push {E : TypeId} {w wr w4 : World} {v v' : Value} {n n' : Nat} {xs xs' : List Value} (h : DList E w wr v n xs) (ha : Appended E 1 wr w4 v v' n' xs') : DList E w w4 v' n' xs' :=
  ⟨ha.row, fun g hg => (ha.own g hg).elim (h.own g) (fun h1 => Nat.le_trans h.fresh.size h1.1), h.fresh.trans' ha.keeps fun i hi h1 => by have := h.own i h1; omega⟩
theorem Fresh.mono_trans {S : Nat → Prop} {w w1 w2 : World} (f : Fresh w w1) (k : Keeps S w1 w2) : Keeps S w w2 := (f.mono fun _ _ h => h.elim).trans' k fun _ _ h => h
theorem DList.nil {E : TypeId} {w wr : World} (f : Fresh w wr) : DList E w wr (.slice none 0 0) 0 [] := ⟨World.ownsRow_nil _ _ _ _, (fun _ h => nomatch h), f⟩
theorem DList.next {E : TypeId} {w wr w4 : World} {v : Value} {n : Nat} {xs : List Value} (h : DList E w wr v n xs) (f : Fresh wr w4) : DList E w w4 v n xs := ⟨ownsRow_keeps h.row f fun _ _ h => h, h.own, h.fresh.trans f⟩

/-- what a call that takes a list leaves -/
def DTook {α : Type} (E : TypeId) (enc : List α → List Value) (b : Nat) (s : List UInt8) (q : List α × RSt) (w : World) (e : Ending) (w' : World) : Prop :=
  ∃ v, e = .returned v ∧ Keeps (fun k => k = b) w w' ∧ DRep w' b s q.2 ∧ w'.ownsRow 0 E 1 v q.1.length (enc q.1) ∧ ∀ g, v.ownBlock = some g → w.heap.size ≤ g

set_option maxRecDepth 100000 in
set_option maxHeartbeats 4000000 in
theorem xrtexts_any (many most : Nat) (hm : many ≤ 4096) (ho : most ≤ 4096) (b : Nat) (s : List UInt8) (r : RSt) (w : World) (h : DRep w b s r) :
    Calls Tryz.prog 82 #[.pointer (some ⟨b, 0, none⟩), .int .i64 (many : Int), .int .i64 (most : Int)] w fun e w' => DTook 9 texts b s (rd (pTexts (many : Int) (most : Int)) [] r) w e w' := by
  obtain ⟨c0, c1, c2, f1, f2, hb⟩ := h.cells
  obtain ⟨rest, n, er⟩ := r
  have HD := hid h
  obtain ⟨h1, h2, h3, h4, h5⟩ := h
  simp only at h2 h3 c1 c2
  clear h5
  have HMANY := hid (fun W hW => xmany_any (many : Int) (by omega) b s (rest, n, er) W hW)
  by_cases he : er = 0
  rotate_left
  · have hq : (er != 0) = true := bne_iff_ne.2 he
    have hR : Hid (rd (pTexts (many : Int) (most : Int)) [] (rest, n, er) = ([], (rest, n, er))) := by show _ = _; unfold rd; rw [if_pos he]
    clear he h2
    go_enter Tryz.func82, Tryz.ntmps82
    go_wp2_with fail
    go_ret
    rw [hR.out]
    exact ⟨_, rfl, Keeps.refl _ _, HD.out, World.ownsRow_nil _ _ _ _, fun _ h => nomatch h⟩
  subst he
  have hng : ¬ (most : Int) < 0 := by omega
  have hR0 : Hid (rd (pTexts (many : Int) (most : Int)) [] (rest, n, 0) = match pTexts (many : Int) (most : Int) rest with | .error e => ([], (rest, n, e)) | .ok (a, l) => (a, (l, n + (rest.length - l.length), 0))) := by
    show _ = _
    unfold rd
    rw [if_neg (fun q => q rfl)]
    cases pTexts (many : Int) (most : Int) rest <;> rfl
  have hP : Hid (pTexts (many : Int) (most : Int) rest = match pCount (many : Int) rest with | .error e => .error e | .ok (k, l') => pElems (pText (most : Int)) k l') := by
    show _ = _
    unfold pTexts
    rw [if_neg (by omega)]
    cases pCount (many : Int) rest <;> rfl
  have hln : Hid (rest.length = s.length - n) := by rw [Hid, h2, List.length_drop]
  obtain ⟨i0, hi, hz0, hz1, hz2⟩ := info_parts Tryz.infoText
  cases hp : pCount (many : Int) rest with
  | error f =>
    have hf := pCount_error hp
    have hC : countAt s n (many : Int) = (0, 0, f) := by unfold countAt; rw [← h2, hp]
    have hPE : Hid (pTexts (many : Int) (most : Int) rest = .error f) := by have := hP.out; rw [hp] at this; exact this
    have hm2 := HMANY.out
    simp only [hC] at hm2
    have HM2 := hid hm2
    have HF := hid hf
    clear hm2 HMANY hp hC h2 hf
    go_enter Tryz.func82, Tryz.ntmps82
    go_wp2_with fail
    refine (HM2.out w HD.out).mono ?_
    rintro e w1 ⟨rfl, kf⟩
    have hd1 := HD.out.keeps kf (fun h => h)
    go_wp2_with fail
    refine wp_loop_rounds 1 ?_
    rw [rounds_succ]
    go_wp2_with fail
    refine (xends_bad b s (rest, n, 0) 0 f HF.out w1 hd1).mono ?_
    rintro e w2 ⟨rfl, k2, hd2⟩
    go_wp2_with fail
    go_ret
    rw [hR0.out, hPE.out]
    exact ⟨_, rfl, Keeps.trans' (S := fun k => k = b) (kf.mono fun _ _ h => h.elim) k2 (fun _ _ h => h), hd2, World.ownsRow_nil _ _ _ _, fun _ h => nomatch h⟩
  | ok q =>
    obtain ⟨m, l⟩ := q
    have hle := pCount_le hp
    have hdl := pCount_drop hp
    have hln2 := hln.out
    have hl : l = s.drop (s.length - l.length) := by
      rw [h2, List.drop_drop, List.length_drop] at hdl
      rw [show s.length - l.length = n + (s.length - n - l.length) by omega]
      exact hdl
    have hC : countAt s n (many : Int) = ((m : Int), ((s.length - l.length : Nat) : Int), 0) := by unfold countAt; rw [← h2, hp]
    obtain ⟨t0, ht0⟩ : ∃ t, s.length - l.length = t := ⟨_, rfl⟩
    rw [ht0] at hC hl
    have htn : n ≤ t0 := by omega
    have htl : t0 ≤ s.length := by omega
    have hmm : m ≤ 4096 := by omega
    have hPE : Hid (pTexts (many : Int) (most : Int) rest = pElems (pText (most : Int)) m (s.drop t0)) := by have := hP.out; rw [hp, hl] at this; exact this
    have hm2 := HMANY.out
    simp only [hC] at hm2
    have HM2 := hid hm2
    clear hm2 HMANY hp hC h2 hle hdl hln2 hl ht0 hP
    go_enter Tryz.func82, Tryz.ntmps82
    go_wp2_with fail
    refine (HM2.out w HD.out).mono ?_
    rintro e w1 ⟨rfl, kf⟩
    go_wp2_with fail
    go_loopw [8, 9, 10, 11] (fun tv ev v iv wr => ∃ (i : Nat) (t ec : Int) (acc : List (List UInt8)), iv = .int .i64 (i : Int) ∧ tv = .int .i64 t ∧ ev = .int .i64 ec ∧ i ≤ m ∧ DList 9 w wr v i (texts acc) ∧ Hid (acc.length = i) ∧
        ((∃ t2 : Nat, t = (t2 : Int) ∧ ec = 0 ∧ n ≤ t2 ∧ t2 ≤ s.length ∧ Hid (pTexts (many : Int) (most : Int) rest = ahead acc (pElems (pText (most : Int)) (m - i) (s.drop t2)))) ∨
         (ec ≠ 0 ∧ Hid (pTexts (many : Int) (most : Int) rest = .error ec)))) (fun _ _ _ iv _ => m - (intOf iv).toNat)
    case atStart =>
      refine ⟨0, t0, 0, [], rfl, rfl, rfl, Nat.zero_le _, DList.nil kf, rfl, .inl ⟨t0, rfl, rfl, htn, htl, ?_⟩⟩
      show _ = _
      rw [hPE.out]
      cases pElems (pText (most : Int)) m (s.drop t0) <;> rfl
    case round =>
      obtain ⟨i, t, ec, acc, rfl, rfl, rfl, him, hdl, hal, ⟨t2, rfl, rfl, hn2, ht2, hE⟩ | ⟨hne, hE⟩⟩ := hrel
      · have hd' := HD.out.keeps hdl.fresh (fun h => h)
        obtain ⟨so, scap, rfl⟩ := ownsRow_slice hdl.row
        by_cases hlt : i < m
        · have hlt2 : (i : Int) < (m : Int) := by omega
          obtain ⟨d0, -, -, -, -, -⟩ := hd'.cells
          have hte : Hid (textAt s t2 (most : Int) = match pText (most : Int) (s.drop t2) with | .error e => ([], 0, e) | .ok (t, l) => (t, ((s.length - l.length : Nat) : Int), 0)) := rfl
          have htx := fun W => (reftext_any s t2 (most : Int) W ht2 h4).mono (fun e w' h => And.intro h.1 h.2.symm)
          have HTX := hid htx
          clear htx
          have H4 := hid h4
          go_wp2_with fail
          refine (HTX.out _).mono ?_
          rintro e w5 ⟨rfl, rfl⟩
          obtain ⟨tv, hpt⟩ : ∃ tv, textAt s t2 (most : Int) = tv := ⟨_, rfl⟩
          rw [hpt]
          have HPT := hid hpt
          clear hpt
          obtain ⟨tx, tp, te⟩ := tv
          have HDL := hid hdl
          clear hdl
          go_wp2_with (at_builtin; refine wpList_push rfl (.tmp 51) (.tmp 53) 23 rfl 9 i0 (.string ⟨#[]⟩) 16 Tryz.underlying23 hi hz0 hz1 hz2 rfl w5 HDL.out.row _ (by rfl) (by rfl) rfl (by omega) (by unfold maxLen; omega) ?_)
          intro v4 w4 ha
          have hd4 := HDL.out.push ha
          rw [← texts_snoc] at hd4
          clear ha
          go_wp2_with fail
          go_roundw
          case rel =>
            refine ⟨i + 1, tp, te, acc ++ [tx], by go_num, rfl, rfl, by omega, hd4, by rw [Hid, List.length_append, hal.out]; rfl, ?_⟩
            have hh := hte.out
            rw [HPT.out] at hh
            cases hpp : pText (most : Int) (s.drop t2) with
            | error f =>
              rw [hpp] at hh
              simp only [Prod.mk.injEq] at hh
              obtain ⟨rfl, rfl, rfl⟩ := hh
              refine .inr ⟨pText_error hpp, ?_⟩
              show _ = _
              rw [hE.out, show m - i = (m - (i + 1)) + 1 by omega, ahead_error hpp]
            | ok x =>
              obtain ⟨x1, x2⟩ := x
              rw [hpp] at hh
              simp only [Prod.mk.injEq] at hh
              obtain ⟨rfl, rfl, rfl⟩ := hh
              have hdr := pText_drop hpp
              have hlt3 := pText_lt hpp
              rw [List.drop_drop, List.length_drop] at hdr
              rw [List.length_drop] at hlt3
              refine .inl ⟨s.length - x2.length, rfl, rfl, by omega, by omega, ?_⟩
              show _ = _
              rw [hE.out, show m - i = (m - (i + 1)) + 1 by omega, ahead_ok hpp]
              conv => lhs; rw [hdr]
              rw [show t2 + (s.length - t2 - x2.length) = s.length - x2.length by omega]
          case measure => simp [intOf]; omega
        · obtain rfl : i = m := by omega
          have hE2 : Hid (pTexts (many : Int) (most : Int) rest = .ok (acc, s.drop t2)) := by
            show _ = _
            rw [hE.out, Nat.sub_self]
            simp [pElems, ahead]
          clear hE
          go_wp2_with fail
          refine (xends_ok b s (rest, n, 0) t2 ht2 wr hd').mono ?_
          rintro e w2 ⟨rfl, k2, hd2⟩
          go_wp2_with fail
          go_ret
          rw [hR0.out, hE2.out]
          have hlr := hln.out
          have e1 : n + (rest.length - (s.drop t2).length) = t2 := by rw [List.length_drop]; omega
          simp only [e1]
          refine ⟨_, rfl, hdl.fresh.mono_trans k2, hd2, ?_, hdl.own⟩
          rw [hal.out]
          exact ownsRow_keeps hdl.row k2 (fun g hg (e : g = b) => by have := hdl.own g hg; omega)
      · have hd' := HD.out.keeps hdl.fresh (fun h => h)
        have hq : (ec == 0) = false := beq_eq_false_iff_ne.2 hne
        have HNE := hid hne
        clear hne
        obtain ⟨so, scap, rfl⟩ := ownsRow_slice hdl.row
        have HI := hid him
        by_cases hlt : (i : Int) < (m : Int)
        all_goals
          go_wp2_with fail
          refine (xends_bad b s (rest, n, 0) t ec HNE.out wr hd').mono ?_
          rintro e w2 ⟨rfl, k2, hd2⟩
          go_wp2_with fail
          go_ret
          rw [hR0.out, hE.out]
          exact ⟨_, rfl, hdl.fresh.mono_trans k2, hd2, World.ownsRow_nil _ _ _ _, fun _ h => nomatch h⟩
end Go.Proofs.YtpccaodkgboefaaGreatDoor

namespace Go.Proofs.YtpccaodkgboefaaGreatDoor
open Go.RowKit

theorem ints_snoc (l : List Int) (x : Int) : ints (l ++ [x]) = ints l ++ [Value.int .i64 x] := by simp [ints]

set_option maxRecDepth 100000 in
set_option maxHeartbeats 4000000 in
theorem xrrising_any (many : Nat) (hm : many ≤ 4096) (b : Nat) (s : List UInt8) (r : RSt) (w : World) (h : DRep w b s r) :
    Calls Tryz.prog 84 #[.pointer (some ⟨b, 0, none⟩), .int .i64 (many : Int)] w fun e w' => DTook 3 ints b s (rd (pRising (many : Int)) [] r) w e w' := by
  obtain ⟨c0, c1, c2, f1, f2, hb⟩ := h.cells
  obtain ⟨rest, n, er⟩ := r
  have HD := hid h
  obtain ⟨h1, h2, h3, h4, h5⟩ := h
  simp only at h2 h3 c1 c2
  clear h5
  have HMANY := hid (fun W hW => xmany_any (many : Int) (by omega) b s (rest, n, er) W hW)
  by_cases he : er = 0
  rotate_left
  · have hq : (er != 0) = true := bne_iff_ne.2 he
    have hR : Hid (rd (pRising (many : Int)) [] (rest, n, er) = ([], (rest, n, er))) := by show _ = _; unfold rd; rw [if_pos he]
    clear he h2
    go_enter Tryz.func84, Tryz.ntmps84
    go_wp2_with fail
    go_ret
    rw [hR.out]
    exact ⟨_, rfl, Keeps.refl _ _, HD.out, World.ownsRow_nil _ _ _ _, fun _ h => nomatch h⟩
  subst he
  have hR0 : Hid (rd (pRising (many : Int)) [] (rest, n, 0) = match pRising (many : Int) rest with | .error e => ([], (rest, n, e)) | .ok (a, l) => (a, (l, n + (rest.length - l.length), 0))) := by
    show _ = _
    unfold rd
    rw [if_neg (fun q => q rfl)]
    cases pRising (many : Int) rest <;> rfl
  have hP : Hid (pRising (many : Int) rest = match pCount (many : Int) rest with | .error e => .error e | .ok (k, l') => pRiseN k (-1) l') := by
    show _ = _
    unfold pRising
    rw [if_neg (by omega)]
    cases pCount (many : Int) rest <;> rfl
  have hln : Hid (rest.length = s.length - n) := by rw [Hid, h2, List.length_drop]
  obtain ⟨i0, hi, hz0, hz1, hz2⟩ := info_parts Tryz.infoInt
  cases hp : pCount (many : Int) rest with
  | error f =>
    have hf := pCount_error hp
    have hC : countAt s n (many : Int) = (0, 0, f) := by unfold countAt; rw [← h2, hp]
    have hPE : Hid (pRising (many : Int) rest = .error f) := by have := hP.out; rw [hp] at this; exact this
    have hm2 := HMANY.out
    simp only [hC] at hm2
    have HM2 := hid hm2
    have HF := hid hf
    clear hm2 HMANY hp hC h2 hf
    go_enter Tryz.func84, Tryz.ntmps84
    go_wp2_with fail
    refine (HM2.out w HD.out).mono ?_
    rintro e w1 ⟨rfl, kf⟩
    have hd1 := HD.out.keeps kf (fun h => h)
    go_wp2_with fail
    refine wp_loop_rounds 1 ?_
    rw [rounds_succ]
    go_wp2_with fail
    refine (xends_bad b s (rest, n, 0) 0 f HF.out w1 hd1).mono ?_
    rintro e w2 ⟨rfl, k2, hd2⟩
    go_wp2_with fail
    go_ret
    rw [hR0.out, hPE.out]
    exact ⟨_, rfl, Keeps.trans' (S := fun k => k = b) (kf.mono fun _ _ h => h.elim) k2 (fun _ _ h => h), hd2, World.ownsRow_nil _ _ _ _, fun _ h => nomatch h⟩
  | ok q =>
    obtain ⟨m, l⟩ := q
    have hle := pCount_le hp
    have hdl := pCount_drop hp
    have hln2 := hln.out
    have hl : l = s.drop (s.length - l.length) := by
      rw [h2, List.drop_drop, List.length_drop] at hdl
      rw [show s.length - l.length = n + (s.length - n - l.length) by omega]
      exact hdl
    have hC : countAt s n (many : Int) = ((m : Int), ((s.length - l.length : Nat) : Int), 0) := by unfold countAt; rw [← h2, hp]
    obtain ⟨t0, ht0⟩ : ∃ t, s.length - l.length = t := ⟨_, rfl⟩
    rw [ht0] at hC hl
    have htn : n ≤ t0 := by omega
    have htl : t0 ≤ s.length := by omega
    have hmm : m ≤ 4096 := by omega
    have hPE : Hid (pRising (many : Int) rest = pRiseN m (-1) (s.drop t0)) := by have := hP.out; rw [hp, hl] at this; exact this
    have hm2 := HMANY.out
    simp only [hC] at hm2
    have HM2 := hid hm2
    clear hm2 HMANY hp hC h2 hle hdl hln2 hl ht0 hP
    go_enter Tryz.func84, Tryz.ntmps84
    go_wp2_with fail
    refine (HM2.out w HD.out).mono ?_
    rintro e w1 ⟨rfl, kf⟩
    go_wp2_with fail
    go_loopw [6, 7, 8, 9, 10] (fun tv ev v lv iv wr => ∃ (i : Nat) (t ec last : Int) (acc : List Int), iv = .int .i64 (i : Int) ∧ tv = .int .i64 t ∧ ev = .int .i64 ec ∧ lv = .int .i64 last ∧ i ≤ m ∧ DList 3 w wr v i (ints acc) ∧ Hid (acc.length = i) ∧
        ((∃ t2 : Nat, t = (t2 : Int) ∧ ec = 0 ∧ n ≤ t2 ∧ t2 ≤ s.length ∧ -1 ≤ last ∧ last ≤ 4611686018427387904 ∧ Hid (pRising (many : Int) rest = ahead acc (pRiseN (m - i) last (s.drop t2)))) ∨
         (ec ≠ 0 ∧ Hid (pRising (many : Int) rest = .error ec)))) (fun _ _ _ _ iv _ => m - (intOf iv).toNat)
    case atStart =>
      refine ⟨0, t0, 0, -1, [], rfl, rfl, rfl, rfl, Nat.zero_le _, DList.nil kf, rfl, .inl ⟨t0, rfl, rfl, htn, htl, by omega, by omega, ?_⟩⟩
      show _ = _
      rw [hPE.out]
      cases pRiseN m (-1) (s.drop t0) <;> rfl
    case round =>
      obtain ⟨i, t, ec, last, acc, rfl, rfl, rfl, rfl, him, hdl, hal, ⟨t2, rfl, rfl, hn2, ht2, hl1, hl2, hE⟩ | ⟨hne, hE⟩⟩ := hrel
      · have hd' := HD.out.keeps hdl.fresh (fun h => h)
        obtain ⟨so, scap, rfl⟩ := ownsRow_slice hdl.row
        by_cases hlt : i < m
        · have hlt2 : (i : Int) < (m : Int) := by omega
          obtain ⟨d0, -, -, -, -, -⟩ := hd'.cells
          have htx := fun W => (refnumber_any s t2 W ht2 h4).mono (fun e w' h => And.intro h.1 h.2.symm)
          have H4 := hid h4
          have HDL := hid hdl
          clear hdl
          cases hpp : pNum 0 0 (s.drop t2) with
          | error f =>
            have hA : numAt s t2 = (0, 0, f) := by unfold numAt; rw [hpp]
            rw [hA] at htx
            have HTX := hid htx
            have hfn := pNum_error hpp
            have hq : (f == 0) = false := beq_eq_false_iff_ne.2 hfn
            have HF := hid hfn
            have HE : Hid (pRising (many : Int) rest = .error f) := by
              show _ = _
              rw [hE.out, show m - i = (m - (i + 1)) + 1 by omega]
              simp only [pRiseN, hpp, ahead]
            clear htx hA hpp hfn hE
            go_wp2_with fail
            refine (HTX.out _).mono ?_
            rintro e w5 ⟨rfl, rfl⟩
            go_wp2_with (at_builtin; refine wpList_push rfl (.tmp 56) (.tmp 58) 22 rfl 3 i0 (.int .i64 0) 8 Tryz.underlying22 hi hz0 hz1 hz2 rfl w5 HDL.out.row _ (by rfl) (by rfl) rfl (by omega) (by unfold maxLen; omega) ?_)
            intro v4 w4 ha
            have hd4 := HDL.out.push ha
            rw [← ints_snoc] at hd4
            clear ha
            go_wp2_with fail
            go_roundw
            case rel => exact ⟨i + 1, 0, f, _, acc ++ [_], by go_num, rfl, rfl, rfl, by omega, hd4, by rw [Hid, List.length_append, hal.out]; rfl, .inr ⟨HF.out, HE⟩⟩
            case measure => simp [intOf]; omega
          | ok x =>
            obtain ⟨x1, x2⟩ := x
            have hle := pNum_le _ _ _ _ _ hpp
            have hdr := pNum_drop _ _ _ _ _ hpp
            have hA : numAt s t2 = ((x1 : Int), ((s.length - x2.length : Nat) : Int), 0) := by unfold numAt; rw [hpp]
            rw [List.drop_drop, List.length_drop] at hdr
            rw [List.length_drop] at hle
            obtain ⟨t3, ht3⟩ : ∃ t, s.length - x2.length = t := ⟨_, rfl⟩
            have hdr2 : Hid (x2 = s.drop t3) := by rw [Hid, ← ht3]; rw [show s.length - x2.length = t2 + (s.length - t2 - x2.length) by omega]; exact hdr
            rw [ht3] at hA
            rw [hA] at htx
            have HTX := hid htx
            have hx1 : x1 ≤ 4611686018427387904 := hle.1
            have hn3 : n ≤ t3 := by omega
            have ht3l : t3 ≤ s.length := by omega
            clear htx hA ht3 hle hdr
            by_cases hbig : 4611686018427387903 - last < (x1 : Int)
            · have HE : Hid (pRising (many : Int) rest = .error 20) := by
                show _ = _
                rw [hE.out, show m - i = (m - (i + 1)) + 1 by omega]
                simp only [pRiseN, hpp]
                rw [if_pos (by omega)]
                rfl
              clear hE hpp
              go_wp2_with fail
              refine (HTX.out _).mono ?_
              rintro e w5 ⟨rfl, rfl⟩
              go_wp2_with (at_builtin; refine wpList_push rfl (.tmp 56) (.tmp 58) 22 rfl 3 i0 (.int .i64 0) 8 Tryz.underlying22 hi hz0 hz1 hz2 rfl w5 HDL.out.row _ (by rfl) (by rfl) rfl (by omega) (by unfold maxLen; omega) ?_)
              intro v4 w4 ha
              have hd4 := HDL.out.push ha
              rw [← ints_snoc] at hd4
              clear ha
              go_wp2_with fail
              go_roundw
              case rel => exact ⟨i + 1, (t3 : Int), 20, _, acc ++ [_], by go_num, rfl, rfl, rfl, by omega, hd4, by rw [Hid, List.length_append, hal.out]; rfl, .inr ⟨by decide, HE⟩⟩
              case measure => simp [intOf]; omega
            · have HE : Hid (pRising (many : Int) rest = ahead (acc ++ [last + 1 + (x1 : Int)]) (pRiseN (m - (i + 1)) (last + 1 + (x1 : Int)) (s.drop t3))) := by
                show _ = _
                rw [hE.out, show m - i = (m - (i + 1)) + 1 by omega]
                simp only [pRiseN, hpp]
                rw [if_neg (by omega), show last + ((x1 : Int) + 1) = last + 1 + (x1 : Int) by omega, hdr2.out]
                cases pRiseN (m - (i + 1)) (last + 1 + (x1 : Int)) (s.drop t3) <;> simp [ahead]
              clear hE hpp
              go_wp2_with fail
              refine (HTX.out _).mono ?_
              rintro e w5 ⟨rfl, rfl⟩
              go_wp2_with (at_builtin; refine wpList_push rfl (.tmp 56) (.tmp 58) 22 rfl 3 i0 (.int .i64 0) 8 Tryz.underlying22 hi hz0 hz1 hz2 rfl w5 HDL.out.row _ (by rfl) (by rfl) rfl (by omega) (by unfold maxLen; omega) ?_)
              intro v4 w4 ha
              have hd4 := HDL.out.push ha
              rw [← ints_snoc] at hd4
              clear ha
              go_wp2_with fail
              go_roundw
              case rel => exact ⟨i + 1, (t3 : Int), 0, last + 1 + (x1 : Int), acc ++ [last + 1 + (x1 : Int)], by go_num, rfl, rfl, rfl, by omega, hd4, by rw [Hid, List.length_append, hal.out]; rfl, .inl ⟨t3, rfl, rfl, hn3, ht3l, by omega, by omega, HE⟩⟩
              case measure => simp [intOf]; omega
        · obtain rfl : i = m := by omega
          have hE2 : Hid (pRising (many : Int) rest = .ok (acc, s.drop t2)) := by
            show _ = _
            rw [hE.out, Nat.sub_self]
            simp [pRiseN, ahead]
          clear hE
          go_wp2_with fail
          refine (xends_ok b s (rest, n, 0) t2 ht2 wr hd').mono ?_
          rintro e w2 ⟨rfl, k2, hd2⟩
          go_wp2_with fail
          go_ret
          rw [hR0.out, hE2.out]
          have hlr := hln.out
          have e1 : n + (rest.length - (s.drop t2).length) = t2 := by rw [List.length_drop]; omega
          simp only [e1]
          refine ⟨_, rfl, hdl.fresh.mono_trans k2, hd2, ?_, hdl.own⟩
          rw [hal.out]
          exact ownsRow_keeps hdl.row k2 (fun g hg (e : g = b) => by have := hdl.own g hg; omega)
      · have hd' := HD.out.keeps hdl.fresh (fun h => h)
        have hq : (ec == 0) = false := beq_eq_false_iff_ne.2 hne
        have HNE := hid hne
        clear hne
        obtain ⟨so, scap, rfl⟩ := ownsRow_slice hdl.row
        have HI := hid him
        by_cases hlt : (i : Int) < (m : Int)
        all_goals
          go_wp2_with fail
          refine (xends_bad b s (rest, n, 0) t ec HNE.out wr hd').mono ?_
          rintro e w2 ⟨rfl, k2, hd2⟩
          go_wp2_with fail
          go_ret
          rw [hR0.out, hE.out]
          exact ⟨_, rfl, hdl.fresh.mono_trans k2, hd2, World.ownsRow_nil _ _ _ _, fun _ h => nomatch h⟩
end Go.Proofs.YtpccaodkgboefaaGreatDoor

namespace Go.Proofs.YtpccaodkgboefaaGreatDoor
open Go.RowKit

theorem elems32_short : ∀ (m : Nat) (l : List UInt8), l.length < 32 * m → pElems p32 m l = .error 21
  | 0, l, h => by omega
  | m + 1, l, h => by
    by_cases h32 : l.length < 32
    · simp [pElems, p32, h32]
    · have := elems32_short m (l.drop 32) (by rw [List.length_drop]; omega)
      simp only [pElems, p32, if_neg h32, this]

set_option maxRecDepth 100000 in
set_option maxHeartbeats 4000000 in
theorem xrhashes_any (many : Nat) (hm : many ≤ 32768) (b : Nat) (s : List UInt8) (r : RSt) (w : World) (h : DRep w b s r) :
    Calls Tryz.prog 108 #[.pointer (some ⟨b, 0, none⟩), .int .i64 (many : Int)] w fun e w' => DTook 9 texts b s (rd (pHashes (many : Int)) [] r) w e w' := by
  obtain ⟨c0, c1, c2, f1, f2, hb⟩ := h.cells
  obtain ⟨rest, n, er⟩ := r
  have HD := hid h
  obtain ⟨h1, h2, h3, h4, h5⟩ := h
  simp only at h2 h3 c1 c2
  clear h5
  have HMANY := hid (fun W hW => xmany_any (many : Int) (by omega) b s (rest, n, er) W hW)
  by_cases he : er = 0
  rotate_left
  · have hq : (er != 0) = true := bne_iff_ne.2 he
    have hR : Hid (rd (pHashes (many : Int)) [] (rest, n, er) = ([], (rest, n, er))) := by show _ = _; unfold rd; rw [if_pos he]
    clear he h2
    go_enter Tryz.func108, Tryz.ntmps108
    go_wp2_with fail
    go_ret
    rw [hR.out]
    exact ⟨_, rfl, Keeps.refl _ _, HD.out, World.ownsRow_nil _ _ _ _, fun _ h => nomatch h⟩
  subst he
  have hR0 : Hid (rd (pHashes (many : Int)) [] (rest, n, 0) = match pHashes (many : Int) rest with | .error e => ([], (rest, n, e)) | .ok (a, l) => (a, (l, n + (rest.length - l.length), 0))) := by
    show _ = _
    unfold rd
    rw [if_neg (fun q => q rfl)]
    cases pHashes (many : Int) rest <;> rfl
  have hP : Hid (pHashes (many : Int) rest = match pCount (many : Int) rest with | .error e => .error e | .ok (k, l') => pElems p32 k l') := by
    show _ = _
    unfold pHashes
    rw [if_neg (by omega)]
    cases pCount (many : Int) rest <;> rfl
  have hln : Hid (rest.length = s.length - n) := by rw [Hid, h2, List.length_drop]
  obtain ⟨i0, hi, hz0, hz1, hz2⟩ := info_parts Tryz.infoText
  cases hp : pCount (many : Int) rest with
  | error f =>
    have hf := pCount_error hp
    have hC : countAt s n (many : Int) = (0, 0, f) := by unfold countAt; rw [← h2, hp]
    have hPE : Hid (pHashes (many : Int) rest = .error f) := by have := hP.out; rw [hp] at this; exact this
    have hm2 := HMANY.out
    simp only [hC] at hm2
    have HM2 := hid hm2
    have hq0 : (f == 0) = false := beq_eq_false_iff_ne.2 hf
    have HF := hid hf
    clear hm2 HMANY hp hC h2 hf
    go_enter Tryz.func108, Tryz.ntmps108
    go_wp2_with fail
    refine (HM2.out w HD.out).mono ?_
    rintro e w1 ⟨rfl, kf⟩
    have hd1 := HD.out.keeps kf (fun h => h)
    go_wp2_with fail
    refine wp_loop_rounds 1 ?_
    rw [rounds_succ]
    go_wp2_with fail
    refine (xends_bad b s (rest, n, 0) 0 f HF.out w1 hd1).mono ?_
    rintro e w2 ⟨rfl, k2, hd2⟩
    go_wp2_with fail
    go_ret
    rw [hR0.out, hPE.out]
    exact ⟨_, rfl, Keeps.trans' (S := fun k => k = b) (kf.mono fun _ _ h => h.elim) k2 (fun _ _ h => h), hd2, World.ownsRow_nil _ _ _ _, fun _ h => nomatch h⟩
  | ok q =>
    obtain ⟨m, l⟩ := q
    have hle := pCount_le hp
    have hdl := pCount_drop hp
    have hln2 := hln.out
    have hl : l = s.drop (s.length - l.length) := by
      rw [h2, List.drop_drop, List.length_drop] at hdl
      rw [show s.length - l.length = n + (s.length - n - l.length) by omega]
      exact hdl
    have hC : countAt s n (many : Int) = ((m : Int), ((s.length - l.length : Nat) : Int), 0) := by unfold countAt; rw [← h2, hp]
    obtain ⟨t0, ht0⟩ : ∃ t, s.length - l.length = t := ⟨_, rfl⟩
    rw [ht0] at hC hl
    have htn : n ≤ t0 := by omega
    have htl : t0 ≤ s.length := by omega
    have hmm : m ≤ 32768 := by omega
    have hPE : Hid (pHashes (many : Int) rest = pElems p32 m (s.drop t0)) := by have := hP.out; rw [hp, hl] at this; exact this
    have hm2 := HMANY.out
    simp only [hC] at hm2
    have HM2 := hid hm2
    clear hm2 HMANY hp hC h2 hle hdl hln2 hl ht0 hP
    have hsz := str_size s
    obtain ⟨D, hD⟩ : ∃ D, (s.length - t0) / 32 = D := ⟨_, rfl⟩
    have hdv : ((s.length : Int) - (t0 : Int)).tdiv 32 = (D : Int) := by
      rw [Int.tdiv_eq_ediv_of_nonneg (by omega)]
      omega
    have hDl : D ≤ 9223372036854775807 := by omega
    by_cases hroom : D < m
    · have hX : Hid (pHashes (many : Int) rest = .error 21) := by
        show _ = _
        rw [hPE.out]
        exact elems32_short m _ (by rw [List.length_drop]; omega)
      have hq : (D : Int) < (m : Int) := by omega
      clear hPE hroom hD
      go_enter Tryz.func108, Tryz.ntmps108
      go_wp2_with fail
      refine (HM2.out w HD.out).mono ?_
      rintro e w1 ⟨rfl, kf⟩
      have hd1 := HD.out.keeps kf (fun h => h)
      obtain ⟨d0, -, -, -, -, -⟩ := hd1.cells
      go_wp2_with fail
      refine wp_loop_rounds 1 ?_
      rw [rounds_succ]
      have hm0 : (0 : Int) < (m : Int) := by omega
      go_wp2_with fail
      refine (xends_bad b s (rest, n, 0) t0 21 (by decide) _ hd1).mono ?_
      rintro e w2 ⟨rfl, k2, hd2⟩
      go_wp2_with fail
      go_ret
      rw [hR0.out, hX.out]
      exact ⟨_, rfl, kf.mono_trans k2, hd2, World.ownsRow_nil _ _ _ _, fun _ h => nomatch h⟩
    · have hq : ¬ (D : Int) < (m : Int) := by omega
      have hfit : t0 + 32 * m ≤ s.length := by omega
      clear hroom hD
      go_enter Tryz.func108, Tryz.ntmps108
      go_wp2_with fail
      refine (HM2.out w HD.out).mono ?_
      rintro e w1 ⟨rfl, kf⟩
      have hd1 := HD.out.keeps kf (fun h => h)
      obtain ⟨d0, -, -, -, -, -⟩ := hd1.cells
      go_wp2_with fail
      clear hq hdv hDl
      generalize hB : decide (D < m) = B
      clear hB
      go_loopw [6, 8, 9] (fun tv v iv wr => ∃ (i t2 : Nat) (acc : List (List UInt8)), iv = .int .i64 (i : Int) ∧ tv = .int .i64 (t2 : Int) ∧ i ≤ m ∧ t2 = t0 + 32 * i ∧ DList 9 w wr v i (texts acc) ∧ Hid (acc.length = i) ∧
          Hid (pHashes (many : Int) rest = ahead acc (pElems p32 (m - i) (s.drop t2)))) (fun _ _ iv _ => m - (intOf iv).toNat)
      case atStart =>
        refine ⟨0, t0, [], rfl, rfl, Nat.zero_le _, rfl, DList.nil kf, rfl, ?_⟩
        show _ = _
        rw [hPE.out]
        cases pElems p32 m (s.drop t0) <;> rfl
      case round =>
        obtain ⟨i, t2, acc, rfl, rfl, him, ht2, hdl, hal, hE⟩ := hrel
        have hd' := HD.out.keeps hdl.fresh (fun h => h)
        obtain ⟨so, scap, rfl⟩ := ownsRow_slice hdl.row
        by_cases hlt : i < m
        · have hlt2 : (i : Int) < (m : Int) := by omega
          obtain ⟨d0, -, -, -, -, -⟩ := hd'.cells
          have hs1 : (t2 : Int) + 32 ≤ (s.length : Int) := by omega
          have hs2 : ((t2 : Int) + 32).toNat = t2 + 32 := by omega
          have hs3 : (t2 : Int) + 32 ≤ 9223372036854775807 := by omega
          have hex : Hid ((str s).extract t2 (t2 + 32) = str ((s.drop t2).take 32)) := by
            show _ = _
            rw [str_extract, List.drop_take, Nat.add_sub_cancel_left]
          have HDL := hid hdl
          have HT := hid ht2
          clear hdl ht2
          go_wp2_with (at_builtin; refine wpList_push rfl (.tmp 46) (.tmp 55) 23 rfl 9 i0 (.string ⟨#[]⟩) 16 Tryz.underlying23 hi hz0 hz1 hz2 rfl wr HDL.out.row _ (by rfl) (by rfl) rfl (by omega) (by unfold maxLen; omega) ?_)
          intro v4 w4 ha
          have hd4 := HDL.out.push ha
          rw [hex.out, ← texts_snoc] at hd4
          clear ha
          go_wp2_with fail
          go_roundw
          case rel =>
            refine ⟨i + 1, t2 + 32, acc ++ [(s.drop t2).take 32], by go_num, by go_num, by omega, by have := HT.out; omega, hd4, by rw [Hid, List.length_append, hal.out]; rfl, ?_⟩
            show _ = _
            rw [hE.out, show m - i = (m - (i + 1)) + 1 by omega, ahead_ok (x := (s.drop t2).take 32) (l' := s.drop (t2 + 32)) (by unfold p32; rw [if_neg (by rw [List.length_drop]; omega), List.drop_drop])]
          case measure => simp [intOf]; omega
        · obtain rfl : i = m := by omega
          have hE2 : Hid (pHashes (many : Int) rest = .ok (acc, s.drop t2)) := by
            show _ = _
            rw [hE.out, Nat.sub_self]
            simp [pElems, ahead]
          have ht2l : t2 ≤ s.length := by omega
          have hn2 : n ≤ t2 := by omega
          clear hE ht2
          go_wp2_with fail
          refine (xends_ok b s (rest, n, 0) t2 ht2l wr hd').mono ?_
          rintro e w2 ⟨rfl, k2, hd2⟩
          go_wp2_with fail
          go_ret
          rw [hR0.out, hE2.out]
          have hlr := hln.out
          have e1 : n + (rest.length - (s.drop t2).length) = t2 := by rw [List.length_drop]; omega
          simp only [e1]
          refine ⟨_, rfl, hdl.fresh.mono_trans k2, hd2, ?_, hdl.own⟩
          rw [hal.out]
          exact ownsRow_keeps hdl.row k2 (fun g hg (e : g = b) => by have := hdl.own g hg; omega)
end Go.Proofs.YtpccaodkgboefaaGreatDoor

namespace Go.Proofs.YtpccaodkgboefaaGreatDoor
open Go.RowKit

set_option maxRecDepth 100000 in
set_option maxHeartbeats 1000000 in
theorem dunframe_any (s : List UInt8) (w : World) (hs : s.length ≤ 9223372036854775807) :
    Calls Tryz.prog 42 #[.string (str s)] w fun e w' => e = .returned (.tuple #[.string (str (unframedM s).1), .string (str (unframedM s).2.1), .int .i64 (unframedM s).2.2]) ∧ Fresh w w' := by
  have hu := refunframe_any s w hs
  have hM : unframedM s = if (unframed s).2.2 = 0 then ((unframed s).1, (unframed s).2.1, 0) else if (unframed s).2.2 = 21 then ([], [], 172) else if (unframed s).2.2 = 22 then ([], [], 174) else ([], [], 173) := rfl
  rw [hM]
  obtain ⟨p, hp⟩ : ∃ p, (unframed s).1 = p := ⟨_, rfl⟩
  obtain ⟨r, hr⟩ : ∃ r, (unframed s).2.1 = r := ⟨_, rfl⟩
  obtain ⟨e0, he⟩ : ∃ e, (unframed s).2.2 = e := ⟨_, rfl⟩
  rw [hp, hr, he] at hu ⊢
  have HU := hid hu
  clear hu hM hp hr he
  by_cases h0 : e0 = 0
  · subst h0
    rw [if_pos rfl]
    go_enter Tryz.func42, Tryz.ntmps42
    go_wp2_with fail
    refine HU.out.mono ?_
    rintro e w1 ⟨rfl, f1⟩
    go_wp2_with fail
    go_ret3
    exact ⟨rfl, f1⟩
  · rw [if_neg h0]
    by_cases h21 : e0 = 21
    · subst h21
      rw [if_pos rfl]
      go_enter Tryz.func42, Tryz.ntmps42
      go_wp2_with fail
      refine HU.out.mono ?_
      rintro e w1 ⟨rfl, f1⟩
      go_wp2_with fail
      go_ret3
      exact ⟨rfl, f1⟩
    · rw [if_neg h21]
      by_cases h22 : e0 = 22
      · subst h22
        rw [if_pos rfl]
        go_enter Tryz.func42, Tryz.ntmps42
        go_wp2_with fail
        refine HU.out.mono ?_
        rintro e w1 ⟨rfl, f1⟩
        go_wp2_with fail
        go_ret3
        exact ⟨rfl, f1⟩
      · rw [if_neg h22]
        go_enter Tryz.func42, Tryz.ntmps42
        go_wp2_with fail
        refine HU.out.mono ?_
        rintro e w1 ⟨rfl, f1⟩
        go_wp2_with fail
        go_ret3
        exact ⟨rfl, f1⟩

theorem str_app2 (a b : List UInt8) : str a ++ str b = str (a ++ b) := by
  apply ByteArray.ext
  simp [str, ByteArray.data_append]
end Go.Proofs.YtpccaodkgboefaaGreatDoor
