/-
  The document's Writer: how it lies in memory; NewWriter, Byte, Num, Raw, Text, Done.
-/
import Derived.Test.YtfjflnlcjnhmmaaDoorCxRef
import Derived.Test.YtfjflnlcjnhmmaaDoorCxWRise
import Derived.Deep.RegionLaw
import Derived.BigQuiet
namespace Go.Proofs.YtfjflnlcjnhmmaaDoor
open Go.RowKit

/-- the document's Writer at block b -/
def XRep (w : World) (b : Nat) (st : List UInt8 × Int) : Prop :=
  1 ≤ b ∧ w.heap[b]? = some (.cells #[.string (str st.1), .int .i64 st.2] 75 (0, 0))
theorem XRep.keeps {S : Nat → Prop} {w w' : World} {b : Nat} {st : List UInt8 × Int} (h : XRep w b st) (hk : Keeps S w w') (hn : ¬ S b) : XRep w' b st := ⟨h.1, hk.at_ h.2 hn⟩
theorem XRep.cells {w : World} {b : Nat} {st : List UInt8 × Int} (h : XRep w b st) :
    w.cell? ⟨b, 0, none⟩ = some (.string (str st.1)) ∧ w.cell? ⟨b, 1, none⟩ = some (.int .i64 st.2) ∧ w.frozen? ⟨b, 0, none⟩ = false ∧ w.frozen? ⟨b, 1, none⟩ = false ∧ b < w.heap.size := by
  have c0 := cell_at h.2 0
  have c1 := cell_at h.2 1
  simp at c0 c1
  exact ⟨c0, c1, free_at h.2 0, free_at h.2 1, lt_of_block h.2⟩
theorem XRep.setS {w w1 : World} {b : Nat} {st : List UInt8 × Int} (h : XRep w b st) (hf : Fresh w w1) (s : List UInt8) :
    Keeps (fun k => k = b) w (w1.setCell ⟨b, 0, none⟩ (.string (str s))) ∧ XRep (w1.setCell ⟨b, 0, none⟩ (.string (str s))) b (s, st.2) :=
  ⟨Keeps.setCell (S := fun k => k = b) (hf.mono fun _ _ h => h.elim) (p := ⟨b, 0, none⟩) (fun _ => rfl) _, h.1, heap_setCell_at (hf.at_ h.2 (fun h => h)) 0 _⟩
theorem XRep.setE {w w1 : World} {b : Nat} {st : List UInt8 × Int} (h : XRep w b st) (hf : Fresh w w1) (e : Int) :
    Keeps (fun k => k = b) w (w1.setCell ⟨b, 1, none⟩ (.int .i64 e)) ∧ XRep (w1.setCell ⟨b, 1, none⟩ (.int .i64 e)) b (st.1, e) :=
  ⟨Keeps.setCell (S := fun k => k = b) (hf.mono fun _ _ h => h.elim) (p := ⟨b, 1, none⟩) (fun _ => rfl) _, h.1, heap_setCell_at (hf.at_ h.2 (fun h => h)) 1 _⟩

set_option maxRecDepth 100000 in
set_option maxHeartbeats 400000 in
theorem xnew_any (w : World) (hl : Laid w) :
    Calls Tryd.prog 16 #[] w fun e w' => ∃ b, e = .returned (.pointer (some ⟨b, 0, none⟩)) ∧ Fresh w w' ∧ w.heap.size ≤ b ∧ XRep w' b ([], 0) := by
  have hg := World.block_lt_of_cell? w _ hl
  simp only at hg
  go_enter Tryd.func16, Tryd.ntmps16
  go_wp2
  go_ret
  exact ⟨w.heap.size, rfl, (Keeps.refl _ _).alloc _, Nat.le_refl _, by omega, heap_size_alloc _ _⟩

set_option maxRecDepth 100000 in
set_option maxHeartbeats 400000 in
theorem xwrong_any (b : Nat) (st : List UInt8 × Int) (f : Int) (w : World) (h : XRep w b st) :
    Calls Tryd.prog 69 #[.pointer (some ⟨b, 0, none⟩), .int .i64 f] w fun e w' => e = .returned (.tuple #[]) ∧ Keeps (fun k => k = b) w w' ∧ XRep w' b (st.1, first st.2 f) := by
  obtain ⟨c0, c1, f0, f1, hb⟩ := h.cells
  by_cases h0 : st.2 = 0
  · have hb0 : (st.2 == 0) = true := by simpa using h0
    have hF : first st.2 f = f := by simp [first, h0]
    rw [hF]
    clear h0 hF
    go_enter Tryd.func69, Tryd.ntmps69
    go_wp2
    go_end0
    exact ⟨rfl, h.setE (Keeps.refl _ _) f⟩
  · have hb0 : (st.2 == 0) = false := by simpa using h0
    have hF : (st.1, first st.2 f) = st := by simp [first, h0]
    rw [hF]
    clear h0 hF
    go_enter Tryd.func69, Tryd.ntmps69
    go_wp2
    go_end0
    exact ⟨rfl, Keeps.refl _ _, h⟩

def isNum (n : Int) : Bool := decide (0 ≤ n) && decide (n ≤ 4611686018427387904)
set_option maxRecDepth 100000 in
set_option maxHeartbeats 400000 in
theorem xmay_any (n : Int) (w : World) :
    Calls Tryd.prog 70 #[.int .i64 n] w fun e w' => e = .returned (.bool (isNum n)) ∧ w = w' := by
  by_cases h0 : 0 ≤ n
  · by_cases h1 : n ≤ 4611686018427387904
    · have hF : Hid (isNum n = true) := by simp [Hid, isNum, h0, h1]
      go_enter Tryd.func70, Tryd.ntmps70
      go_wp2
      go_ret
      rw [hF.out]
      exact ⟨rfl, rfl⟩
    · have hF : Hid (isNum n = false) := by simp [Hid, isNum, h1]
      go_enter Tryd.func70, Tryd.ntmps70
      go_wp2
      go_ret
      rw [hF.out]
      exact ⟨rfl, rfl⟩
  · have hF : Hid (isNum n = false) := by simp [Hid, isNum, h0]
    go_enter Tryd.func70, Tryd.ntmps70
    go_wp2
    go_ret
    rw [hF.out]
    exact ⟨rfl, rfl⟩

/-- 'string([]byte{c})', behind a draw -/
theorem run_text_oneD {P : Program} (src dst e : TypeId) (hs : P.underlying src = some (.slice e)) (he : P.underlying e = some (.int .u8)) (hd : P.underlying dst = some .string) (w : World) (c : UInt8) (x : Int) (hx : x = (c.toNat : Int)) :
    (convert src dst (.slice (some ⟨w.heap.size, 0, none⟩) 1 1)).run P (w.alloc (.cells #[.int .u8 x] e)).drew = .ok (.string (str [c])) (w.alloc (.cells #[.int .u8 x] e)).drew := by
  subst hx
  refine run_convert_bytes_back (w.alloc (.cells #[.int .u8 (c.toNat : Int)] e)).drew src dst e ⟨w.heap.size, 0, none⟩ 1 [c] hs he hd fun j hj => ?_
  match j, hj with
  | 0, _ => simp [Addr.add]

set_option maxRecDepth 100000 in
set_option maxHeartbeats 400000 in
theorem xbyte_any (b : Nat) (st : List UInt8 × Int) (n : Int) (w : World) (h : XRep w b st) (hlen : st.1.length < 70368744177664) :
    Calls Tryd.prog 41 #[.pointer (some ⟨b, 0, none⟩), .int .i64 n] w fun e w' => e = .returned (.tuple #[]) ∧ Keeps (fun k => k = b) w w' ∧ XRep w' b (wByte st n) := by
  obtain ⟨c0, c1, f0, f1, hb⟩ := h.cells
  by_cases hn : n < 0 ∨ 255 < n
  · have hfin : wByte st n = (st.1, first st.2 20) := by simp [wByte, hn, wRefuse]
    rw [hfin]
    clear hfin
    rcases hn with hn | hn
    all_goals
      go_enter Tryd.func41, Tryd.ntmps41
      go_wp2_with fail
      refine (xwrong_any b st 20 _ h).mono ?_
      rintro e w' ⟨rfl, hA⟩
      go_wp2
      first | go_end0 | refine bodyPost_ret (results_none rfl _ _ _) rfl ?_
      exact ⟨rfl, hA⟩
  · have hfin : wByte st n = (st.1 ++ [UInt8.ofNat n.toNat], st.2) := by simp [wByte, hn]
    rw [hfin]
    clear hfin
    obtain ⟨m, rfl⟩ := Int.eq_ofNat_of_zero_le (show 0 ≤ n by omega)
    have hm : m ≤ 255 := by omega
    have hn1 : ¬ ((m : Int) < 0) := by omega
    have hn2 : ¬ (255 < (m : Int)) := by omega
    obtain ⟨c, hc⟩ : ∃ c, c = UInt8.ofNat m := ⟨_, rfl⟩
    have hcv1 := run_text_oneD (P := Tryd.prog) 30 9 5 Tryd.underlying30 Tryd.underlying5 Tryd.underlying9 w c (m : Int) (by subst hc; simp; omega)
    have hsz1 : (str [c]).size = 1 := str_size _
    have hsz := str_size st.1
    have hcat := str_append
    have HC := hid hc
    clear hn hc
    go_enter Tryd.func41, Tryd.ntmps41
    have hov : ¬ 9223372036854775807 < st.1.length + 1 := by omega
    go_wp2_with fail
    go_region
    all_goals
      go_wp2
      first | go_end0 | refine bodyPost_ret (results_none rfl _ _ _) rfl ?_
      rw [Int.toNat_natCast, ← HC.out]
      have hs := h.setS (Keeps.refl _ _) (st.1 ++ [c])
      exact ⟨rfl, (hs.1.alloc _).drew, hs.2.keeps (((Keeps.refl (fun _ => False) _).alloc _).drew) (fun h => h)⟩

set_option maxRecDepth 100000 in
set_option maxHeartbeats 400000 in
theorem xnum_any (b : Nat) (st : List UInt8 × Int) (n : Int) (w : World) (h : XRep w b st) (hlen : st.1.length < 70368744177664) :
    Calls Tryd.prog 42 #[.pointer (some ⟨b, 0, none⟩), .int .i64 n] w fun e w' => e = .returned (.tuple #[]) ∧ Keeps (fun k => k = b) w w' ∧ XRep w' b (wNum st n) := by
  obtain ⟨c0, c1, f0, f1, hb⟩ := h.cells
  by_cases hn : n < 0 ∨ 4611686018427387904 < n
  · have hfin : wNum st n = (st.1, first st.2 20) := by simp [wNum, hn, wRefuse]
    have his : isNum n = false := by simp [isNum]; omega
    rw [hfin]
    clear hfin hn
    go_enter Tryd.func42, Tryd.ntmps42
    go_wp2_with fail
    refine (xmay_any n w).mono ?_
    rintro e w1 ⟨rfl, rfl⟩
    rw [his]
    go_wp2_with fail
    refine (xwrong_any b st 20 _ h).mono ?_
    rintro e w' ⟨rfl, hA⟩
    go_wp2
    first | go_end0 | refine bodyPost_ret (results_none rfl _ _ _) rfl ?_
    exact ⟨rfl, hA⟩
  · have hfin : wNum st n = (st.1 ++ digs n.toNat, st.2) := by simp [wNum, hn]
    have his : isNum n = true := by simp [isNum]; omega
    rw [hfin]
    clear hfin
    obtain ⟨m, rfl⟩ := Int.eq_ofNat_of_zero_le (show 0 ≤ n by omega)
    have hm : m ≤ 9223372036854775807 := by omega
    have hd10 := digs_len10 hm
    rw [Int.toNat_natCast]
    generalize hdd : digs m = d at hd10 ⊢
    have HD := hid hdd
    clear hn hdd
    go_enter Tryd.func42, Tryd.ntmps42
    go_wp2_with fail
    refine (xmay_any m w).mono ?_
    rintro e w1 ⟨rfl, rfl⟩
    rw [his]
    clear his
    have hsz := str_size st.1
    have hszd := str_size d
    have hcat := str_append
    have hov : ¬ 9223372036854775807 < st.1.length + d.length := by omega
    have frA : Fresh w w.drew := (Keeps.refl _ _).drew
    have cA : w.drew.cell? ⟨b, 0, none⟩ = some (.string (str st.1)) := c0
    have fA : w.drew.frozen? ⟨b, 0, none⟩ = false := f0
    have hbA : b < w.drew.heap.size := hb
    go_wp2_with fail
    go_region_law (first | (go_simp; go_at_call 38; refine (refdigits_any m _ hm).mono ?_; rw [HD.out]; rintro e w1 ⟨rfl, hf⟩; have k0 := (hf.cell (p := ⟨b, 0, none⟩) hbA (fun h => h)).trans cA; have g0 := (hf.frozen (p := ⟨b, 0, none⟩) hbA (fun h => h)).trans fA; have f6 := frA.trans hf))
    all_goals
      go_wp2
      first | go_end0 | refine bodyPost_ret (results_none rfl _ _ _) rfl ?_
      exact ⟨rfl, h.setS f6 _⟩

set_option maxRecDepth 100000 in
set_option maxHeartbeats 400000 in
theorem xraw_any (b : Nat) (st : List UInt8 × Int) (s : List UInt8) (w : World) (h : XRep w b st) (hlen : st.1.length + s.length ≤ 70368744177664) :
    Calls Tryd.prog 51 #[.pointer (some ⟨b, 0, none⟩), .string (str s)] w fun e w' => e = .returned (.tuple #[]) ∧ Keeps (fun k => k = b) w w' ∧ XRep w' b (wRaw st s) := by
  obtain ⟨c0, c1, f0, f1, hb⟩ := h.cells
  have hsz := str_size st.1
  have hszd := str_size s
  have hcat := str_append
  go_enter Tryd.func51, Tryd.ntmps51
  go_wp2
  go_end0
  exact ⟨rfl, h.setS (Keeps.refl _ _) _⟩

set_option maxRecDepth 100000 in
set_option maxHeartbeats 400000 in
theorem xtext_any (b : Nat) (st : List UInt8 × Int) (s : List UInt8) (most : Int) (w : World) (h : XRep w b st) (hs : s.length ≤ 9223372036854775807) (hlen : st.1.length + s.length + 10 < 70368744177664) :
    Calls Tryd.prog 46 #[.pointer (some ⟨b, 0, none⟩), .string (str s), .int .i64 most] w fun e w' => e = .returned (.tuple #[]) ∧ Keeps (fun k => k = b) w w' ∧ XRep w' b (wText st s most) := by
  obtain ⟨c0, c1, f0, f1, hb⟩ := h.cells
  have hsz := str_size st.1
  have hszd := str_size s
  by_cases hneg : most < 0
  · have HF : Hid (wText st s most = (st.1, first st.2 1)) := by simp [Hid, wText, hneg, wRefuse]
    go_enter Tryd.func46, Tryd.ntmps46
    go_wp2_with fail
    refine (xwrong_any b st 1 _ h).mono ?_
    rintro e w' ⟨rfl, hA⟩
    go_wp2
    first | go_end0 | refine bodyPost_ret (results_none rfl _ _ _) rfl ?_
    rw [HF.out]
    exact ⟨rfl, hA⟩
  · by_cases hlong : most < s.length
    · have HF : Hid (wText st s most = (st.1, first st.2 22)) := by simp [Hid, wText, hneg, hlong, wRefuse]
      go_enter Tryd.func46, Tryd.ntmps46
      go_wp2_with fail
      refine (xwrong_any b st 22 _ h).mono ?_
      rintro e w' ⟨rfl, hA⟩
      go_wp2
      first | go_end0 | refine bodyPost_ret (results_none rfl _ _ _) rfl ?_
      rw [HF.out]
      exact ⟨rfl, hA⟩
    · have HF : Hid (wText st s most = (st.1 ++ digs s.length ++ s, st.2)) := by
        simp [Hid, wText, hneg, hlong]
      have hd10 := digs_len10 hs
      generalize hdd : digs s.length = d at hd10 HF
      have HD := hid hdd
      clear hdd
      go_enter Tryd.func46, Tryd.ntmps46
      have hszx := str_size d
      obtain ⟨t, ht⟩ : ∃ t, t = st.1 ++ d := ⟨_, rfl⟩
      have hszt := str_size t
      have hlt : t.length = st.1.length + d.length := by rw [ht]; simp
      have hc1 : str st.1 ++ str d = str t := by rw [ht]; exact str_append _ _
      have hc2 : str t ++ str s = str (t ++ s) := str_append _ _
      have HT := hid ht
      clear ht
      have hov : ¬ 9223372036854775807 < st.1.length + d.length := by omega
      have hov2 : ¬ 9223372036854775807 < st.1.length + d.length + s.length := by omega
      have frA : Fresh w w.drew := (Keeps.refl _ _).drew
      have cA : w.drew.cell? ⟨b, 0, none⟩ = some (.string (str st.1)) := c0
      have fA : w.drew.frozen? ⟨b, 0, none⟩ = false := f0
      have hbA : b < w.drew.heap.size := hb
      go_wp2_with fail
      go_region_law (first | (go_simp; go_at_call 38; refine (refdigits_any s.length _ hs).mono ?_; rw [HD.out]; rintro e w1 ⟨rfl, hf⟩; have k0 := (hf.cell (p := ⟨b, 0, none⟩) hbA (fun h => h)).trans cA; have g0 := (hf.frozen (p := ⟨b, 0, none⟩) hbA (fun h => h)).trans fA; have f6 := frA.trans hf))
      all_goals
        go_wp2
        first | go_end0 | refine bodyPost_ret (results_none rfl _ _ _) rfl ?_
        rw [HF.out, ← HT.out]
        exact ⟨rfl, h.setS f6 _⟩

def wDone (st : List UInt8 × Int) : List UInt8 × Int := (if st.2 = 0 then st.1 else [], st.2)
set_option maxRecDepth 100000 in
set_option maxHeartbeats 400000 in
theorem xdone_any (b : Nat) (st : List UInt8 × Int) (w : World) (h : XRep w b st) :
    Calls Tryd.prog 19 #[.pointer (some ⟨b, 0, none⟩)] w fun e w' => e = .returned (.tuple #[.string (str (wDone st).1), .int .i64 (wDone st).2]) ∧ Fresh w w' := by
  obtain ⟨c0, c1, f0, f1, hb⟩ := h.cells
  obtain ⟨bs, er⟩ := st
  simp only at c0 c1
  by_cases h0 : er = 0
  · subst h0
    have HF : wDone (bs, 0) = (bs, 0) := by simp [wDone]
    rw [HF]
    clear HF
    go_enter Tryd.func19, Tryd.ntmps19
    go_wp2
    go_ret2
    exact ⟨rfl, Keeps.refl _ _⟩
  · have hb0 : (er == 0) = false := by simpa using h0
    have HF : wDone (bs, er) = ([], er) := by simp [wDone, h0]
    have hb1 : (er != 0) = true := by simpa using h0
    rw [HF]
    clear h0 HF
    go_enter Tryd.func19, Tryd.ntmps19
    go_wp2
    go_quiet (fail)
    go_wp2
    go_ret2
    exact ⟨rfl, (Keeps.refl _ _).drewN _⟩
end Go.Proofs.YtfjflnlcjnhmmaaDoor
