/-
  The document's Writer: how it lies in memory; NewWriter, Byte, Num, Raw, Text, Done.
  The document's Writer: Rising, Texts, Hashes.
  Two writers that answer alike: the plain law; how much each call adds.
-/
import Derived.Test.YtpccaodkgboefaaGreatDoorMCxE
import Derived.Test.YtpccaodkgboefaaGreatDoorCxWRise
import Derived.Deep.RegionLaw
import Derived.BigQuiet
import Derived.Test.YtpccaodkgboefaaGreatDoorCxWTexts
namespace Go.Proofs.YtpccaodkgboefaaGreatDoor
open Go.RowKit

/-- the document's Writer at block b -/
def XRep (w : World) (b : Nat) (st : List UInt8 × Int) : Prop :=
  1 ≤ b ∧ w.heap[b]? = some (.cells #[.string (str st.1), .int .i64 st.2] 111 (0, 0))
theorem XRep.keeps {S : Nat → Prop} {w w' : World} {b : Nat} {st : List UInt8 × Int} (h : XRep w b st) (hk : Keeps S w w') (hn : ¬ S b) : XRep w' b st := ⟨h.1, hk.at_ h.2 hn⟩
theorem XRep.cells {w : World} {b : Nat} {st : List UInt8 × Int} (h : XRep w b st) :
    w.cell? ⟨b, 0, none⟩ = some (.string (str st.1)) ∧ w.cell? ⟨b, 1, none⟩ = some (.int .i64 st.2) ∧ w.frozen? ⟨b, 0, none⟩ = false ∧ w.frozen? ⟨b, 1, none⟩ = false ∧ b < w.heap.size := by
  have c0 := cell_at h.2 0
  have c1 := cell_at h.2 1
  simp at c0 c1
  exact ⟨c0, c1, free_at h.2 0, free_at h.2 1, lt_of_block h.2⟩
theorem XRep.setS {w w1 : World} {b : Nat} {st : List UInt8 × Int} (h : XRep w b st) (hf : Fresh w w1) (s : List UInt8) :
    Keeps (fun k => k = b) w (w1.setCell ⟨b, 0, none⟩ (.string (str s))) ∧ XRep (w1.setCell ⟨b, 0, none⟩ (.string (str s))) b (s, st.2) :=
  ⟨Keeps.setCell (S := fun k => k = b) (hf.mono fun _ _ h => h.elim) (p := ⟨b, 0, none⟩) (fun _ => rfl) _, h.1, heap_setCell_at (hf.at_ h.2 (fun h => h)) 0 _⟩
theorem XRep.setE {w w1 : World} {b : Nat} {st : List UInt8 × Int} (h : XRep w b st) (hf : Fresh w w1) (e : Int) :
    Keeps (fun k => k = b) w (w1.setCell ⟨b, 1, none⟩ (.int .i64 e)) ∧ XRep (w1.setCell ⟨b, 1, none⟩ (.int .i64 e)) b (st.1, e) :=
  ⟨Keeps.setCell (S := fun k => k = b) (hf.mono fun _ _ h => h.elim) (p := ⟨b, 1, none⟩) (fun _ => rfl) _, h.1, heap_setCell_at (hf.at_ h.2 (fun h => h)) 1 _⟩

set_option maxRecDepth 100000 in
set_option maxHeartbeats 400000 in
theorem xnew_any (w : World) (hl : Laid w) :
    Calls Tryz.prog 35 #[] w fun e w' => ∃ b, e = .returned (.pointer (some ⟨b, 0, none⟩)) ∧ Fresh w w' ∧ w.heap.size ≤ b ∧ XRep w' b ([], 0) := by
  have hg := World.block_lt_of_cell? w _ hl
  simp only at hg
  go_enter Tryz.func35, Tryz.ntmps35
  go_wp2
  go_ret
  exact ⟨w.heap.size, rfl, (Keeps.refl _ _).alloc _, Nat.le_refl _, by omega, heap_size_alloc _ _⟩

set_option maxRecDepth 100000 in
set_option maxHeartbeats 400000 in
theorem xwrong_any (b : Nat) (st : List UInt8 × Int) (f : Int) (w : World) (h : XRep w b st) :
    Calls Tryz.prog 114 #[.pointer (some ⟨b, 0, none⟩), .int .i64 f] w fun e w' => e = .returned (.tuple #[]) ∧ Keeps (fun k => k = b) w w' ∧ XRep w' b (st.1, first st.2 f) := by
  obtain ⟨c0, c1, f0, f1, hb⟩ := h.cells
  by_cases h0 : st.2 = 0
  · have hb0 : (st.2 == 0) = true := by simpa using h0
    have hF : first st.2 f = f := by simp [first, h0]
    rw [hF]
    clear h0 hF
    go_enter Tryz.func114, Tryz.ntmps114
    go_wp2
    go_end0
    exact ⟨rfl, h.setE (Keeps.refl _ _) f⟩
  · have hb0 : (st.2 == 0) = false := by simpa using h0
    have hF : (st.1, first st.2 f) = st := by simp [first, h0]
    rw [hF]
    clear h0 hF
    go_enter Tryz.func114, Tryz.ntmps114
    go_wp2
    go_end0
    exact ⟨rfl, Keeps.refl _ _, h⟩

def isNum (n : Int) : Bool := decide (0 ≤ n) && decide (n ≤ 4611686018427387904)
set_option maxRecDepth 100000 in
set_option maxHeartbeats 400000 in
theorem xmay_any (n : Int) (w : World) :
    Calls Tryz.prog 115 #[.int .i64 n] w fun e w' => e = .returned (.bool (isNum n)) ∧ w = w' := by
  by_cases h0 : 0 ≤ n
  · by_cases h1 : n ≤ 4611686018427387904
    · have hF : Hid (isNum n = true) := by simp [Hid, isNum, h0, h1]
      go_enter Tryz.func115, Tryz.ntmps115
      go_wp2
      go_ret
      rw [hF.out]
      exact ⟨rfl, rfl⟩
    · have hF : Hid (isNum n = false) := by simp [Hid, isNum, h1]
      go_enter Tryz.func115, Tryz.ntmps115
      go_wp2
      go_ret
      rw [hF.out]
      exact ⟨rfl, rfl⟩
  · have hF : Hid (isNum n = false) := by simp [Hid, isNum, h0]
    go_enter Tryz.func115, Tryz.ntmps115
    go_wp2
    go_ret
    rw [hF.out]
    exact ⟨rfl, rfl⟩

/-- 'string([]byte{c})', behind a draw -/
theorem run_text_oneD {P : Program} (src dst e : TypeId) (hs : P.underlying src = some (.slice e)) (he : P.underlying e = some (.int .u8)) (hd : P.underlying dst = some .string) (w : World) (c : UInt8) (x : Int) (hx : x = (c.toNat : Int)) :
    (convert src dst (.slice (some ⟨w.heap.size, 0, none⟩) 1 1)).run P (w.alloc (.cells #[.int .u8 x] e)).drew = .ok (.string (str [c])) (w.alloc (.cells #[.int .u8 x] e)).drew := by
  subst hx
  refine run_convert_bytes_back (w.alloc (.cells #[.int .u8 (c.toNat : Int)] e)).drew src dst e ⟨w.heap.size, 0, none⟩ 1 [c] hs he hd fun j hj => ?_
  match j, hj with
  | 0, _ => simp [Addr.add]

set_option maxRecDepth 100000 in
set_option maxHeartbeats 400000 in
theorem xbyte_any (b : Nat) (st : List UInt8 × Int) (n : Int) (w : World) (h : XRep w b st) (hlen : st.1.length < 70368744177664) :
    Calls Tryz.prog 76 #[.pointer (some ⟨b, 0, none⟩), .int .i64 n] w fun e w' => e = .returned (.tuple #[]) ∧ Keeps (fun k => k = b) w w' ∧ XRep w' b (wByte st n) := by
  obtain ⟨c0, c1, f0, f1, hb⟩ := h.cells
  by_cases hn : n < 0 ∨ 255 < n
  · have hfin : wByte st n = (st.1, first st.2 20) := by simp [wByte, hn, wRefuse]
    rw [hfin]
    clear hfin
    rcases hn with hn | hn
    all_goals
      go_enter Tryz.func76, Tryz.ntmps76
      go_wp2_with fail
      refine (xwrong_any b st 20 _ h).mono ?_
      rintro e w' ⟨rfl, hA⟩
      go_wp2
      first | go_end0 | refine bodyPost_ret (results_none rfl _ _ _) rfl ?_
      exact ⟨rfl, hA⟩
  · have hfin : wByte st n = (st.1 ++ [UInt8.ofNat n.toNat], st.2) := by simp [wByte, hn]
    rw [hfin]
    clear hfin
    obtain ⟨m, rfl⟩ := Int.eq_ofNat_of_zero_le (show 0 ≤ n by omega)
    have hm : m ≤ 255 := by omega
    have hn1 : ¬ ((m : Int) < 0) := by omega
    have hn2 : ¬ (255 < (m : Int)) := by omega
    obtain ⟨c, hc⟩ : ∃ c, c = UInt8.ofNat m := ⟨_, rfl⟩
    have hcv1 := run_text_oneD (P := Tryz.prog) 96 9 5 Tryz.underlying96 Tryz.underlying5 Tryz.underlying9 w c (m : Int) (by subst hc; simp; omega)
    have hsz1 : (str [c]).size = 1 := str_size _
    have hsz := str_size st.1
    have hcat := str_append
    have HC := hid hc
    clear hn hc
    go_enter Tryz.func76, Tryz.ntmps76
    have hov : ¬ 9223372036854775807 < st.1.length + 1 := by omega
    go_wp2_with fail
    go_region
    all_goals
      go_wp2
      first | go_end0 | refine bodyPost_ret (results_none rfl _ _ _) rfl ?_
      rw [Int.toNat_natCast, ← HC.out]
      have hs := h.setS (Keeps.refl _ _) (st.1 ++ [c])
      exact ⟨rfl, (hs.1.alloc _).drew, hs.2.keeps (((Keeps.refl (fun _ => False) _).alloc _).drew) (fun h => h)⟩

set_option maxRecDepth 100000 in
set_option maxHeartbeats 400000 in
theorem xnum_any (b : Nat) (st : List UInt8 × Int) (n : Int) (w : World) (h : XRep w b st) (hlen : st.1.length < 70368744177664) :
    Calls Tryz.prog 78 #[.pointer (some ⟨b, 0, none⟩), .int .i64 n] w fun e w' => e = .returned (.tuple #[]) ∧ Keeps (fun k => k = b) w w' ∧ XRep w' b (wNum st n) := by
  obtain ⟨c0, c1, f0, f1, hb⟩ := h.cells
  by_cases hn : n < 0 ∨ 4611686018427387904 < n
  · have hfin : wNum st n = (st.1, first st.2 20) := by simp [wNum, hn, wRefuse]
    have his : isNum n = false := by simp [isNum]; omega
    rw [hfin]
    clear hfin hn
    go_enter Tryz.func78, Tryz.ntmps78
    go_wp2_with fail
    refine (xmay_any n w).mono ?_
    rintro e w1 ⟨rfl, rfl⟩
    rw [his]
    go_wp2_with fail
    refine (xwrong_any b st 20 _ h).mono ?_
    rintro e w' ⟨rfl, hA⟩
    go_wp2
    first | go_end0 | refine bodyPost_ret (results_none rfl _ _ _) rfl ?_
    exact ⟨rfl, hA⟩
  · have hfin : wNum st n = (st.1 ++ digs n.toNat, st.2) := by simp [wNum, hn]
    have his : isNum n = true := by simp [isNum]; omega
    rw [hfin]
    clear hfin
    obtain ⟨m, rfl⟩ := Int.eq_ofNat_of_zero_le (show 0 ≤ n by omega)
    have hm : m ≤ 9223372036854775807 := by omega
    have hd10 := digs_len10 hm
    rw [Int.toNat_natCast]
    generalize hdd : digs m = d at hd10 ⊢
    have HD := hid hdd
    clear hn hdd
    go_enter Tryz.func78, Tryz.ntmps78
    go_wp2_with fail
    refine (xmay_any m w).mono ?_
    rintro e w1 ⟨rfl, rfl⟩
    rw [his]
    clear his
    have hsz := str_size st.1
    have hszd := str_size d
    have hcat := str_append
    have hov : ¬ 9223372036854775807 < st.1.length + d.length := by omega
    have frA : Fresh w w.drew := (Keeps.refl _ _).drew
    have cA : w.drew.cell? ⟨b, 0, none⟩ = some (.string (str st.1)) := c0
    have fA : w.drew.frozen? ⟨b, 0, none⟩ = false := f0
    have hbA : b < w.drew.heap.size := hb
    go_wp2_with fail
    go_region_law (first | (go_simp; go_at_call 80; refine (refdigits_any m _ hm).mono ?_; rw [HD.out]; rintro e w1 ⟨rfl, hf⟩; have k0 := (hf.cell (p := ⟨b, 0, none⟩) hbA (fun h => h)).trans cA; have g0 := (hf.frozen (p := ⟨b, 0, none⟩) hbA (fun h => h)).trans fA; have f6 := frA.trans hf))
    all_goals
      go_wp2
      first | go_end0 | refine bodyPost_ret (results_none rfl _ _ _) rfl ?_
      exact ⟨rfl, h.setS f6 _⟩

set_option maxRecDepth 100000 in
set_option maxHeartbeats 400000 in
theorem xraw_any (b : Nat) (st : List UInt8 × Int) (s : List UInt8) (w : World) (h : XRep w b st) (hlen : st.1.length + s.length ≤ 70368744177664) :
    Calls Tryz.prog 104 #[.pointer (some ⟨b, 0, none⟩), .string (str s)] w fun e w' => e = .returned (.tuple #[]) ∧ Keeps (fun k => k = b) w w' ∧ XRep w' b (wRaw st s) := by
  obtain ⟨c0, c1, f0, f1, hb⟩ := h.cells
  have hsz := str_size st.1
  have hszd := str_size s
  have hcat := str_append
  go_enter Tryz.func104, Tryz.ntmps104
  go_wp2
  go_end0
  exact ⟨rfl, h.setS (Keeps.refl _ _) _⟩

def wDone (st : List UInt8 × Int) : List UInt8 × Int := (if st.2 = 0 then st.1 else [], st.2)
set_option maxRecDepth 100000 in
set_option maxHeartbeats 400000 in
theorem xdone_any (b : Nat) (st : List UInt8 × Int) (w : World) (h : XRep w b st) :
    Calls Tryz.prog 37 #[.pointer (some ⟨b, 0, none⟩)] w fun e w' => e = .returned (.tuple #[.string (str (wDone st).1), .int .i64 (wDone st).2]) ∧ Fresh w w' := by
  obtain ⟨c0, c1, f0, f1, hb⟩ := h.cells
  obtain ⟨bs, er⟩ := st
  simp only at c0 c1
  by_cases h0 : er = 0
  · subst h0
    have HF : wDone (bs, 0) = (bs, 0) := by simp [wDone]
    rw [HF]
    clear HF
    go_enter Tryz.func37, Tryz.ntmps37
    go_wp2
    go_ret2
    exact ⟨rfl, Keeps.refl _ _⟩
  · have hb0 : (er == 0) = false := by simpa using h0
    have HF : wDone (bs, er) = ([], er) := by simp [wDone, h0]
    have hb1 : (er != 0) = true := by simpa using h0
    rw [HF]
    clear h0 HF
    go_enter Tryz.func37, Tryz.ntmps37
    go_wp2
    go_quiet (fail)
    go_wp2
    go_ret2
    exact ⟨rfl, (Keeps.refl _ _).drewN _⟩
end Go.Proofs.YtpccaodkgboefaaGreatDoor

namespace Go.Proofs.YtpccaodkgboefaaGreatDoor
open Go.RowKit

def fits (most : Int) : List (List UInt8) → Bool
  | [] => true
  | s :: r => decide ((s.length : Int) ≤ most) && fits most r
def body : List (List UInt8) → List UInt8
  | [] => []
  | s :: r => digs s.length ++ s ++ body r
def all32 : List (List UInt8) → Bool
  | [] => true
  | s :: r => decide (s.length = 32) && all32 r
def flat : List (List UInt8) → List UInt8
  | [] => []
  | s :: r => s ++ flat r
def xTexts (st : List UInt8 × Int) (l : List (List UInt8)) (many most : Int) : List UInt8 × Int :=
  if many < 0 ∨ most < 0 then wRefuse st 1 else if many < l.length then wRefuse st 22 else if fits most l then (st.1 ++ (digs l.length ++ body l), st.2) else wRefuse st 22
def xHashes (st : List UInt8 × Int) (l : List (List UInt8)) (many : Int) : List UInt8 × Int :=
  if many < 0 then wRefuse st 1 else if many < l.length then wRefuse st 22 else if all32 l then (st.1 ++ (digs l.length ++ flat l), st.2) else wRefuse st 20

theorem body_len : ∀ l : List (List UInt8), (∀ s ∈ l, s.length ≤ 9223372036854775807) → (body l).length ≤ bulk l
  | [], _ => by simp [body]
  | s :: r, h => by
    have := body_len r fun s hs => h s (by simp [hs])
    have := digs_len10 (h s (by simp))
    simp [body, bulk]; omega
theorem flat_len : ∀ l : List (List UInt8), (flat l).length ≤ bulk l
  | [] => by simp [flat]
  | s :: r => by have := flat_len r; simp [flat, bulk]; omega
theorem mem_bulk : ∀ {l : List (List UInt8)} {s : List UInt8}, s ∈ l → s.length ≤ bulk l
  | s' :: r, s, h => by
    rcases List.mem_cons.1 h with rfl | h
    · simp [bulk]; omega
    · have := mem_bulk h; simp [bulk]; omega

/-- a list of numbers in memory, for a walk -/
theorem ListAt.intl {w : World} {v : Value} {l : List Int} (h : ListAt w v (ints l)) :
    ∃ ao cap, v = .slice ao l.length cap ∧ ∀ (k : Nat) (x : Int), l[k]? = some x → ∃ bb off, ao = some ⟨bb, off, none⟩ ∧ bb < w.heap.size ∧ w.cell? ⟨bb, off + k, none⟩ = some (.int .i64 x) := by
  have hll : (ints l).length = l.length := by simp [ints]
  rcases h with ⟨hx, ao, cap, rfl⟩ | ⟨bb, off, cap, rfl, hbb, hc⟩
  · have : l = [] := by simpa [ints] using hx
    subst this
    exact ⟨ao, cap, rfl, fun k p hk => by simp at hk⟩
  · exact ⟨_, cap, by rw [hll], fun k p hk => ⟨bb, off, rfl, hbb, hc k _ (by simp [ints, hk])⟩⟩

set_option maxRecDepth 100000 in
set_option maxHeartbeats 2000000 in
theorem xrising_any (b : Nat) (st : List UInt8 × Int) (v : Value) (l : List Int) (w : World) (h : XRep w b st) (hv : ListAt w v (ints l)) (hi : ∀ x ∈ l, -9223372036854775808 ≤ x ∧ x ≤ 9223372036854775807)
    (hlen : st.1.length + 10 * l.length + 10 < 70368744177664) :
    Calls Tryz.prog 79 #[.pointer (some ⟨b, 0, none⟩), v] w fun e w' => e = .returned (.tuple #[]) ∧ Keeps (fun k => k = b) w w' ∧ XRep w' b (wRising st l) := by
  obtain ⟨ao, cap, rfl, hc⟩ := hv.intl
  have HC := hid hc
  clear hc hv
  have hd10 := digs_len10 (n := l.length) (by omega)
  generalize hdd : digs l.length = d at hd10
  have HD := hid hdd
  have HI := hid hi
  clear hdd hi
  go_enter Tryz.func79, Tryz.ntmps79
  go_wp2_with fail
  refine (refdigits_any l.length w (by omega)).mono ?_
  rw [HD.out]
  rintro e w1 ⟨rfl, hf1⟩
  go_wp2
  go_loopw [4, 5, 6] (fun s la i wr => ∃ (k : Nat) (pre : List UInt8) (last : Int), s = .string (str pre) ∧ la = .int .i64 last ∧ i = .int .i64 (k : Int) ∧ k ≤ l.length ∧ -1 ≤ last ∧ last ≤ 4611686018427387904 ∧ pre.length ≤ 10 + 10 * k ∧ Fresh w wr ∧
    Hid (rises (-1) l = rises last (l.drop k)) ∧ Hid (d ++ deltas (-1) l = pre ++ deltas last (l.drop k))) (fun _ _ i _ => l.length - (intOf i).toNat)
  case atStart => exact ⟨0, d, -1, rfl, rfl, rfl, by omega, by omega, by omega, by omega, hf1, rfl, rfl⟩
  case round =>
    obtain ⟨k, pre, last, rfl, rfl, rfl, hkl, hl1, hl2, hpre, hf, HR, HE⟩ := hrel
    by_cases hlt : k < l.length
    · obtain ⟨x, hx⟩ : ∃ x, l[k]? = some x := ⟨l[k], by simp [hlt]⟩
      obtain ⟨bb, off, hao, hbb, hcw⟩ := HC.out k x hx
      have hcell := (hf.cell (p := ⟨bb, off + k, none⟩) hbb (fun h => h)).trans hcw
      have hxb := HI.out x (List.mem_of_getElem? hx)
      have hx1 := hxb.1
      have hx2 := hxb.2
      have hR := HR.out
      have hE := HE.out
      rw [drop_at hx] at hR hE
      simp only [rises, deltas] at hR hE
      subst hao
      clear hx hcw hxb
      by_cases hgood : last < x ∧ x ≤ 4611686018427387904
      · obtain ⟨hg1, hg2⟩ := hgood
        obtain ⟨m, hm⟩ : ∃ m : Nat, (m : Int) = x - last - 1 := ⟨(x - last - 1).toNat, by omega⟩
        have hm2 : (x - (last + 1)).toNat = m := by omega
        have hmy : isNum x = true := by simp [isNum]; omega
        have hmd := digs_len10 (n := m) (by omega)
        rw [hm2] at hE
        have hR2 : Hid (rises (-1) l = rises x (l.drop (k + 1))) := by simpa [Hid, hg1, hg2] using hR
        generalize hdm : digs m = dm at hmd hE
        have HE2 : Hid (d ++ deltas (-1) l = (pre ++ dm) ++ deltas x (l.drop (k + 1))) := by rw [Hid, hE, List.append_assoc]
        have HDM := hid hdm
        clear hR hE hdm hm2
        go_wp2_with fail
        refine (xmay_any x _).mono ?_
        rintro e w2 ⟨rfl, rfl⟩
        rw [hmy]
        clear hmy
        have hnle : ¬ x ≤ last := by omega
        go_wp2_with fail
        rw [← hm]
        refine (refdigits_any m _ (by omega)).mono ?_
        rw [HDM.out]
        rintro e w2 ⟨rfl, hf2⟩
        have hsp := str_size pre
        have hsd := str_size dm
        have hcat := str_append
        have hcell2 := (hf2.cell (p := ⟨bb, off + k, none⟩) (Nat.lt_of_lt_of_le hbb hf.size) (fun h => h)).trans hcell
        clear hcell
        go_wp2
        go_roundw
        case rel => exact ⟨k + 1, pre ++ dm, x, rfl, rfl, by go_num, by omega, by omega, by omega, by simp; omega, hf.trans hf2, hR2, HE2⟩
        case measure => simp [intOf]; omega
      · have hF : Hid (wRising st l = (st.1, first st.2 20)) := by
          have : rises (-1) l = false := by
            rw [hR]; simp; intro h1 h2; exact absurd ⟨h1, h2⟩ hgood
          simp [Hid, wRising, this, wRefuse]
        clear hR hE
        have h2 := h.keeps hf (fun h => h)
        by_cases hmy : isNum x = true
        · have hle : x ≤ last := by simp [isNum] at hmy; omega
          go_wp2_with fail
          refine (xmay_any x _).mono ?_
          rintro e w2 ⟨rfl, rfl⟩
          rw [hmy]
          clear hmy hgood
          go_wp2_with fail
          refine (xwrong_any b st 20 _ h2).mono ?_
          rintro e w' ⟨rfl, hk, hA⟩
          go_wp2
          first | go_end0 | refine bodyPost_ret (results_none rfl _ _ _) rfl ?_
          rw [hF.out]
          exact ⟨rfl, (hf.mono fun _ _ h => h.elim).trans hk, hA⟩
        · have hmy : isNum x = false := by simpa using hmy
          go_wp2_with fail
          refine (xmay_any x _).mono ?_
          rintro e w2 ⟨rfl, rfl⟩
          rw [hmy]
          clear hmy hgood
          go_wp2_with fail
          refine (xwrong_any b st 20 _ h2).mono ?_
          rintro e w' ⟨rfl, hk, hA⟩
          go_wp2
          first | go_end0 | refine bodyPost_ret (results_none rfl _ _ _) rfl ?_
          rw [hF.out]
          exact ⟨rfl, (hf.mono fun _ _ h => h.elim).trans hk, hA⟩
    · have hke : k = l.length := by omega
      have hF : Hid (wRising st l = (st.1 ++ pre, st.2)) := by
        have h1 := HR.out
        have h2 := HE.out
        rw [hke, List.drop_length] at h1 h2
        simp [rises] at h1
        simp [deltas] at h2
        simp only [Hid, wRising, h1, if_true, HD.out, List.append_assoc, h2]
      clear hke
      have h2 := h.keeps hf (fun h => h)
      obtain ⟨c0, c1, f0, f1, hb⟩ := h2.cells
      have hsp := str_size pre
      have hss := str_size st.1
      have hcat := str_append
      go_wp2
      go_end0
      rw [hF.out]
      have hs := h2.setS (Keeps.refl _ _) (st.1 ++ pre)
      exact ⟨rfl, (hf.mono fun _ _ h => h.elim).trans hs.1, hs.2⟩

set_option maxRecDepth 100000 in
set_option maxHeartbeats 2000000 in
theorem xtexts_any (b : Nat) (st : List UInt8 × Int) (v : Value) (l : List (List UInt8)) (many most : Int) (w : World) (h : XRep w b st) (hv : ListAt w v (texts l))
    (hlen : st.1.length + bulk l + l.length + 10 < 70368744177664) :
    Calls Tryz.prog 77 #[.pointer (some ⟨b, 0, none⟩), v, .int .i64 many, .int .i64 most] w fun e w' => e = .returned (.tuple #[]) ∧ Keeps (fun k => k = b) w w' ∧ XRep w' b (xTexts st l many most) := by
  obtain ⟨ao, cap, rfl, hc⟩ := hv.texts
  have HC := hid hc
  clear hc hv
  by_cases hneg : many < 0 ∨ most < 0
  · have HF : Hid (xTexts st l many most = wRefuse st 1) := by simp only [Hid, xTexts]; rw [if_pos hneg]
    by_cases hm0 : many < 0
    all_goals
      first | (have hneg2 : most < 0 := by omega) | skip
      go_enter Tryz.func77, Tryz.ntmps77
      go_wp2_with fail
      refine (xwrong_any b st 1 _ h).mono ?_
      rintro e w1 ⟨rfl, hA⟩
      go_wp2
      first | go_end0 | refine bodyPost_ret (results_none rfl _ _ _) rfl ?_
      rw [HF.out]
      exact ⟨rfl, hA⟩
  · by_cases hmany : many < l.length
    · have HF : Hid (xTexts st l many most = wRefuse st 22) := by simp only [Hid, xTexts]; rw [if_neg hneg, if_pos hmany]
      have hn1 : ¬ many < 0 := by omega
      have hn2 : ¬ most < 0 := by omega
      go_enter Tryz.func77, Tryz.ntmps77
      go_wp2_with fail
      refine (xwrong_any b st 22 _ h).mono ?_
      rintro e w1 ⟨rfl, hA⟩
      go_wp2
      first | go_end0 | refine bodyPost_ret (results_none rfl _ _ _) rfl ?_
      rw [HF.out]
      exact ⟨rfl, hA⟩
    · have HF : Hid (xTexts st l many most = if fits most l then (st.1 ++ (digs l.length ++ body l), st.2) else wRefuse st 22) := by simp only [Hid, xTexts]; rw [if_neg hneg, if_neg hmany]
      have hn1 : ¬ many < 0 := by omega
      have hn2 : ¬ most < 0 := by omega
      have hd10 := digs_len10 (n := l.length) (by omega)
      generalize hdd : digs l.length = d at hd10 HF
      have HD := hid hdd
      clear hneg hdd
      go_enter Tryz.func77, Tryz.ntmps77
      go_wp2_with fail
      refine (refdigits_any l.length w (by omega)).mono ?_
      rw [HD.out]
      rintro e w1 ⟨rfl, hf1⟩
      go_wp2
      go_loopw [8, 9] (fun s i wr => ∃ (k : Nat) (pre : List UInt8), s = .string (str pre) ∧ i = .int .i64 (k : Int) ∧ k ≤ l.length ∧ pre.length ≤ 10 + bulk (l.take k) ∧ Fresh w wr ∧
        Hid (fits most l = fits most (l.drop k)) ∧ Hid (d ++ body l = pre ++ body (l.drop k))) (fun _ i _ => l.length - (intOf i).toNat)
      case atStart => exact ⟨0, d, rfl, rfl, by omega, by simp [bulk]; omega, hf1, rfl, rfl⟩
      case round =>
        obtain ⟨k, pre, rfl, rfl, hkl, hpre, hf, HR, HE⟩ := hrel
        by_cases hlt : k < l.length
        · obtain ⟨s, hs⟩ : ∃ s, l[k]? = some s := ⟨l[k], by simp [hlt]⟩
          obtain ⟨bb, off, hao, hbb, hcw⟩ := HC.out k s hs
          have hcell := (hf.cell (p := ⟨bb, off + k, none⟩) hbb (fun h => h)).trans hcw
          have hbt := bulk_take_drop l k
          have hR := HR.out
          have hE := HE.out
          rw [drop_at hs] at hbt hR hE
          simp only [bulk] at hbt
          simp only [fits, body] at hR hE
          have hbt2 := bulk_take_drop l (k + 1)
          have hszs := str_size s
          subst hao
          clear hs hcw
          by_cases hfit : (s.length : Int) ≤ most
          · have hR2 : Hid (fits most l = fits most (l.drop (k + 1))) := by simpa [Hid, hfit] using hR
            have hsd10 := digs_len10 (n := s.length) (by omega)
            generalize hdm : digs s.length = dm at hsd10 hE
            obtain ⟨p1, hp1⟩ : ∃ p1, p1 = pre ++ dm := ⟨_, rfl⟩
            have hc1 : str pre ++ str dm = str p1 := by rw [hp1]; exact str_append _ _
            have hc2 : str p1 ++ str s = str (p1 ++ s) := str_append _ _
            have hp1l : p1.length = pre.length + dm.length := by rw [hp1]; simp
            have HE2 : Hid (d ++ body l = (p1 ++ s) ++ body (l.drop (k + 1))) := by rw [Hid, hE, hp1]; simp [List.append_assoc]
            have HDM := hid hdm
            have hsp := str_size pre
            have hsdm := str_size dm
            have hsp1 := str_size p1
            clear hR hE hdm hp1
            have hnle : ¬ most < (s.length : Int) := by omega
            have hcellA : wr.drew.cell? ⟨bb, off + k, none⟩ = some (.string (str s)) := hcell
            have frA : Fresh w wr.drew := hf.drew
            have hbbw := Nat.lt_of_lt_of_le hbb hf.size
            have hov1 : ¬ 9223372036854775807 < pre.length + dm.length := by omega
            have hov2 : ¬ 9223372036854775807 < p1.length + s.length := by omega
            have hov3 : ¬ 9223372036854775807 < pre.length + dm.length + s.length := by omega
            go_wp2_with fail
            go_region_law (first | (go_simp; go_at_call 80; refine (refdigits_any s.length _ (by omega)).mono ?_; rw [HDM.out]; rintro e w5 ⟨rfl, f5⟩; have hcell5 := (f5.cell (p := ⟨bb, off + k, none⟩) hbbw (fun h => h)).trans hcellA; have f6 := frA.trans f5))
            all_goals
              go_wp2
              go_roundw
              case rel => exact ⟨k + 1, p1 ++ s, rfl, by go_num, by omega, by simp; omega, f6, hR2, HE2⟩
              case measure => simp [intOf]; omega
          · have HF2 : Hid (xTexts st l many most = (st.1, first st.2 22)) := by
              have hfl : fits most l = false := by rw [hR]; simp [hfit]
              rw [Hid, HF.out, hfl]; simp [wRefuse]
            have h2 := h.keeps hf (fun h => h)
            clear hR hE
            have hlt2 : most < (s.length : Int) := by omega
            go_wp2_with fail
            refine (xwrong_any b st 22 _ h2).mono ?_
            rintro e w' ⟨rfl, hk, hA⟩
            go_wp2
            first | go_end0 | refine bodyPost_ret (results_none rfl _ _ _) rfl ?_
            rw [HF2.out]
            exact ⟨rfl, (hf.mono fun _ _ h => h.elim).trans hk, hA⟩
        · have hke : k = l.length := by omega
          have hbt := bulk_take_drop l k
          have HF2 : Hid (xTexts st l many most = (st.1 ++ pre, st.2)) := by
            have h1 := HR.out
            have h2 := HE.out
            rw [hke, List.drop_length] at h1 h2
            simp only [fits] at h1
            simp [body] at h2
            simp only [Hid, HF.out, h1, if_true, h2]
          clear hke
          have h2 := h.keeps hf (fun h => h)
          obtain ⟨c0, c1, f0, f1, hb⟩ := h2.cells
          have hsp := str_size pre
          have hss := str_size st.1
          have hcat := str_append
          go_wp2
          go_end0
          rw [HF2.out]
          have hs := h2.setS (Keeps.refl _ _) (st.1 ++ pre)
          exact ⟨rfl, (hf.mono fun _ _ h => h.elim).trans hs.1, hs.2⟩

set_option maxRecDepth 100000 in
set_option maxHeartbeats 2000000 in
theorem xhashes_any (b : Nat) (st : List UInt8 × Int) (v : Value) (l : List (List UInt8)) (many : Int) (w : World) (h : XRep w b st) (hv : ListAt w v (texts l))
    (hlen : st.1.length + bulk l + l.length + 10 < 70368744177664) :
    Calls Tryz.prog 105 #[.pointer (some ⟨b, 0, none⟩), v, .int .i64 many] w fun e w' => e = .returned (.tuple #[]) ∧ Keeps (fun k => k = b) w w' ∧ XRep w' b (xHashes st l many) := by
  obtain ⟨ao, cap, rfl, hc⟩ := hv.texts
  have HC := hid hc
  clear hc hv
  by_cases hneg : many < 0
  · have HF : Hid (xHashes st l many = wRefuse st 1) := by simp only [Hid, xHashes]; rw [if_pos hneg]
    go_enter Tryz.func105, Tryz.ntmps105
    go_wp2_with fail
    refine (xwrong_any b st 1 _ h).mono ?_
    rintro e w1 ⟨rfl, hA⟩
    go_wp2
    first | go_end0 | refine bodyPost_ret (results_none rfl _ _ _) rfl ?_
    rw [HF.out]
    exact ⟨rfl, hA⟩
  · by_cases hmany : many < l.length
    · have HF : Hid (xHashes st l many = wRefuse st 22) := by simp only [Hid, xHashes]; rw [if_neg hneg, if_pos hmany]
      go_enter Tryz.func105, Tryz.ntmps105
      go_wp2_with fail
      refine (xwrong_any b st 22 _ h).mono ?_
      rintro e w1 ⟨rfl, hA⟩
      go_wp2
      first | go_end0 | refine bodyPost_ret (results_none rfl _ _ _) rfl ?_
      rw [HF.out]
      exact ⟨rfl, hA⟩
    · have HF : Hid (xHashes st l many = if all32 l then (st.1 ++ (digs l.length ++ flat l), st.2) else wRefuse st 20) := by simp only [Hid, xHashes]; rw [if_neg hneg, if_neg hmany]
      have hd10 := digs_len10 (n := l.length) (by omega)
      generalize hdd : digs l.length = d at hd10 HF
      have HD := hid hdd
      clear hdd
      go_enter Tryz.func105, Tryz.ntmps105
      go_wp2_with fail
      refine (refdigits_any l.length w (by omega)).mono ?_
      rw [HD.out]
      rintro e w1 ⟨rfl, hf1⟩
      go_wp2
      go_loopw [6, 7] (fun s i wr => ∃ (k : Nat) (pre : List UInt8), s = .string (str pre) ∧ i = .int .i64 (k : Int) ∧ k ≤ l.length ∧ pre.length ≤ 10 + bulk (l.take k) ∧ Fresh w wr ∧
        Hid (all32 l = all32 (l.drop k)) ∧ Hid (d ++ flat l = pre ++ flat (l.drop k))) (fun _ i _ => l.length - (intOf i).toNat)
      case atStart => exact ⟨0, d, rfl, rfl, by omega, by simp [bulk]; omega, hf1, rfl, rfl⟩
      case round =>
        obtain ⟨k, pre, rfl, rfl, hkl, hpre, hf, HR, HE⟩ := hrel
        by_cases hlt : k < l.length
        · obtain ⟨s, hs⟩ : ∃ s, l[k]? = some s := ⟨l[k], by simp [hlt]⟩
          obtain ⟨bb, off, hao, hbb, hcw⟩ := HC.out k s hs
          have hcell := (hf.cell (p := ⟨bb, off + k, none⟩) hbb (fun h => h)).trans hcw
          have hbt := bulk_take_drop l k
          have hR := HR.out
          have hE := HE.out
          rw [drop_at hs] at hbt hR hE
          simp only [bulk] at hbt
          simp only [all32, flat] at hR hE
          have hbt2 := bulk_take_drop l (k + 1)
          have hszs := str_size s
          subst hao
          clear hs hcw
          by_cases hfit : s.length = 32
          · have hR2 : Hid (all32 l = all32 (l.drop (k + 1))) := by simpa [Hid, hfit] using hR
            have HE2 : Hid (d ++ flat l = (pre ++ s) ++ flat (l.drop (k + 1))) := by rw [Hid, hE]; simp [List.append_assoc]
            have hsp := str_size pre
            have hcat := str_append
            have hb32 : ((s.length : Int) != 32) = false := by rw [hfit]; rfl
            clear hR hE hfit
            go_wp2
            go_roundw
            case rel => exact ⟨k + 1, pre ++ s, rfl, by go_num, by omega, by simp; omega, hf, hR2, HE2⟩
            case measure => simp [intOf]; omega
          · have HF2 : Hid (xHashes st l many = (st.1, first st.2 20)) := by
              have hfl : all32 l = false := by rw [hR]; simp [hfit]
              rw [Hid, HF.out, hfl]; simp [wRefuse]
            have h2 := h.keeps hf (fun h => h)
            clear hR hE
            have hb32 : ((s.length : Int) != 32) = true := by rw [bne_iff_ne]; omega
            go_wp2_with fail
            refine (xwrong_any b st 20 _ h2).mono ?_
            rintro e w' ⟨rfl, hk, hA⟩
            go_wp2
            first | go_end0 | refine bodyPost_ret (results_none rfl _ _ _) rfl ?_
            rw [HF2.out]
            exact ⟨rfl, (hf.mono fun _ _ h => h.elim).trans hk, hA⟩
        · have hke : k = l.length := by omega
          have hbt := bulk_take_drop l k
          have HF2 : Hid (xHashes st l many = (st.1 ++ pre, st.2)) := by
            have h1 := HR.out
            have h2 := HE.out
            rw [hke, List.drop_length] at h1 h2
            simp only [all32] at h1
            simp [flat] at h2
            simp only [Hid, HF.out, h1, if_true, h2]
          clear hke
          have h2 := h.keeps hf (fun h => h)
          obtain ⟨c0, c1, f0, f1, hb⟩ := h2.cells
          have hsp := str_size pre
          have hss := str_size st.1
          have hcat := str_append
          go_wp2
          go_end0
          rw [HF2.out]
          have hs := h2.setS (Keeps.refl _ _) (st.1 ++ pre)
          exact ⟨rfl, (hf.mono fun _ _ h => h.elim).trans hs.1, hs.2⟩
end Go.Proofs.YtpccaodkgboefaaGreatDoor

namespace Go.Proofs.YtpccaodkgboefaaGreatDoor
open Go.RowKit

/-- the program's state and the document's: wrong alike, and the same bytes where nothing is wrong -/
def Alike (a x : List UInt8 × Int) : Prop := a.2 = x.2 ∧ (a.2 = 0 → a.1 = x.1)
theorem Alike.bad {a x y : List UInt8 × Int} (h : Alike a x) (f : Int) (hf : f ≠ 0) (hy : y.2 = first a.2 f) : Alike y (wRefuse x f) := by
  refine ⟨by rw [hy, h.1]; rfl, fun h0 => ?_⟩
  rw [hy] at h0
  unfold first at h0
  split at h0
  · exact absurd h0 hf
  · exact absurd h0 (by assumption)
theorem Alike.refuse {a x : List UInt8 × Int} (h : Alike a x) (f : Int) (hf : f ≠ 0) : Alike (wRefuse a f) (wRefuse x f) := h.bad f hf rfl
theorem Alike.put {a x : List UInt8 × Int} (h : Alike a x) (bs : List UInt8) : Alike (a.1 ++ bs, a.2) (x.1 ++ bs, x.2) := ⟨h.1, fun h0 => by simp only; rw [h.2 h0]⟩
theorem Alike.byte {a x : List UInt8 × Int} (h : Alike a x) (n : Int) : Alike (wByte a n) (wByte x n) := by
  unfold wByte
  split
  · exact h.refuse 20 (by decide)
  · exact h.put _
theorem Alike.num {a x : List UInt8 × Int} (h : Alike a x) (n : Int) : Alike (wNum a n) (wNum x n) := by
  unfold wNum
  split
  · exact h.refuse 20 (by decide)
  · exact h.put _
theorem Alike.raw {a x : List UInt8 × Int} (h : Alike a x) (s : List UInt8) : Alike (wRaw a s) (wRaw x s) := h.put _
theorem Alike.text {a x : List UInt8 × Int} (h : Alike a x) (s : List UInt8) (most : Int) : Alike (wText a s most) (wText x s most) := by
  unfold wText
  split
  · exact h.refuse 1 (by decide)
  · split
    · exact h.refuse 22 (by decide)
    · have := h.put (digs s.length ++ s)
      simpa only [List.append_assoc] using this
theorem Alike.rising {a x : List UInt8 × Int} (h : Alike a x) (l : List Int) : Alike (wRising a l) (wRising x l) := by
  unfold wRising
  split
  · have := h.put (digs l.length ++ deltas (-1) l)
    simpa only [List.append_assoc] using this
  · exact h.refuse 20 (by decide)

theorem first_first (e f : Int) : first (first e f) f = first e f := by
  unfold first
  by_cases h : e = 0
  · simp [h]
  · simp [h]
theorem fold_fits (most : Int) (hm : ¬ most < 0) : ∀ (l : List (List UInt8)) (st : List UInt8 × Int), fits most l = true → l.foldl (fun st s => wText st s most) st = (st.1 ++ body l, st.2)
  | [], st, _ => by simp [body]
  | s :: r, st, h => by
    simp [fits] at h
    have e : wText st s most = (st.1 ++ digs s.length ++ s, st.2) := by
      unfold wText; rw [if_neg hm, if_neg (by omega)]
    rw [List.foldl_cons, e, fold_fits most hm r _ h.2]
    simp [body]
theorem fold_snd (most : Int) (hm : ¬ most < 0) : ∀ (l : List (List UInt8)) (st : List UInt8 × Int), fits most l = false → (l.foldl (fun st s => wText st s most) st).2 = first st.2 22
  | [], st, h => by simp [fits] at h
  | s :: r, st, h => by
    rw [List.foldl_cons]
    by_cases hs : (s.length : Int) ≤ most
    · have e : wText st s most = (st.1 ++ digs s.length ++ s, st.2) := by
        unfold wText; rw [if_neg hm, if_neg (by omega)]
      have hr : fits most r = false := by simpa [fits, hs] using h
      rw [e, fold_snd most hm r _ hr]
    · have e : wText st s most = (st.1, first st.2 22) := by
        unfold wText; rw [if_neg hm, if_pos (by omega)]; rfl
      rw [e]
      cases hr : fits most r with
      | true => rw [fold_fits most hm r _ hr]
      | false => rw [fold_snd most hm r _ hr, first_first]
theorem Alike.texts {a x : List UInt8 × Int} (h : Alike a x) (l : List (List UInt8)) (many most : Int) (hl : l.length ≤ 4611686018427387904) : Alike (wTexts a l many most) (xTexts x l many most) := by
  unfold wTexts xTexts
  split
  · exact h.refuse 1 (by decide)
  · rename_i hn
    split
    · exact h.refuse 22 (by decide)
    · rw [num_of_len _ _ hl]
      cases hf : fits most l with
      | true =>
        rw [fold_fits most (by omega) l _ hf]
        have := h.put (digs l.length ++ body l)
        simpa only [List.append_assoc, if_true] using this
      | false =>
        simp only [Bool.false_eq_true, if_false]
        exact h.bad 22 (by decide) (fold_snd most (by omega) l _ hf)
theorem hash_fits : ∀ (l : List (List UInt8)) (st : List UInt8 × Int), all32 l = true → wHashList st l = (st.1 ++ flat l, st.2)
  | [], st, _ => by simp [wHashList, flat]
  | s :: r, st, h => by
    simp [all32] at h
    rw [wHashList, if_pos h.1, hash_fits r _ h.2]
    simp [wRaw, flat]
theorem hash_snd : ∀ (l : List (List UInt8)) (st : List UInt8 × Int), all32 l = false → (wHashList st l).2 = first st.2 20
  | [], st, h => by simp [all32] at h
  | s :: r, st, h => by
    rw [wHashList]
    by_cases hs : s.length = 32
    · have hr : all32 r = false := by simpa [all32, hs] using h
      rw [if_pos hs, hash_snd r _ hr]
      rfl
    · rw [if_neg hs]
      rfl
theorem Alike.hashes {a x : List UInt8 × Int} (h : Alike a x) (l : List (List UInt8)) (many : Int) (hl : l.length ≤ 4611686018427387904) : Alike (wHashes a l many) (xHashes x l many) := by
  unfold wHashes xHashes
  split
  · exact h.refuse 1 (by decide)
  · split
    · exact h.refuse 22 (by decide)
    · rw [num_of_len _ _ hl]
      cases hf : all32 l with
      | true =>
        rw [hash_fits l _ hf]
        have := h.put (digs l.length ++ flat l)
        simpa only [List.append_assoc, if_true] using this
      | false =>
        simp only [Bool.false_eq_true, if_false]
        exact h.bad 20 (by decide) (hash_snd l _ hf)
theorem Alike.done {a x : List UInt8 × Int} (h : Alike a x) : wDone a = wDone x := by
  unfold wDone
  rw [← h.1]
  split
  · rw [h.2 (by assumption)]
  · rfl

/-! how much each call adds -/
theorem refuse_len (st : List UInt8 × Int) (f : Int) : (wRefuse st f).1.length = st.1.length := rfl
theorem byte_len (st : List UInt8 × Int) (n : Int) : (wByte st n).1.length ≤ st.1.length + 1 := by
  unfold wByte
  split
  · rw [refuse_len]; omega
  · simp
theorem num_len (st : List UInt8 × Int) (n : Int) : (wNum st n).1.length ≤ st.1.length + 10 := by
  unfold wNum
  split
  · rw [refuse_len]; omega
  · have := digs_len10 (n := n.toNat) (by omega)
    simp; omega
theorem raw_len (st : List UInt8 × Int) (s : List UInt8) : (wRaw st s).1.length = st.1.length + s.length := by simp [wRaw]
theorem rising_len (st : List UInt8 × Int) (l : List Int) (hl : l.length ≤ 4611686018427387904) : (wRising st l).1.length ≤ st.1.length + 10 + 10 * l.length := by
  unfold wRising
  split
  · rename_i h
    have := deltas_len l (-1) h (by omega)
    have := digs_len10 (n := l.length) (by omega)
    simp; omega
  · rw [refuse_len]; omega
theorem fold_len (most : Int) : ∀ (l : List (List UInt8)) (st : List UInt8 × Int), (∀ s ∈ l, s.length ≤ 9223372036854775807) → (l.foldl (fun st s => wText st s most) st).1.length ≤ st.1.length + bulk l
  | [], st, _ => by simp
  | s :: r, st, h => by
    have h1 := wText_len st s most (h s (by simp))
    have h2 := fold_len most r (wText st s most) fun s hs => h s (by simp [hs])
    rw [List.foldl_cons, bulk]
    omega
theorem texts_len (st : List UInt8 × Int) (l : List (List UInt8)) (many most : Int) (hl : l.length + bulk l ≤ 4611686018427387904) : (wTexts st l many most).1.length ≤ st.1.length + 10 + bulk l := by
  unfold wTexts
  split
  · rw [refuse_len]; omega
  · split
    · rw [refuse_len]; omega
    · have h1 := fold_len most l (wNum st l.length) fun s hs => by have := mem_bulk hs; omega
      have := num_len st l.length
      omega
theorem xtexts_len (st : List UInt8 × Int) (l : List (List UInt8)) (many most : Int) (hl : l.length + bulk l ≤ 4611686018427387904) : (xTexts st l many most).1.length ≤ st.1.length + 10 + bulk l := by
  unfold xTexts
  split
  · rw [refuse_len]; omega
  · split
    · rw [refuse_len]; omega
    · split
      · have h1 := body_len l fun s hs => by have := mem_bulk hs; omega
        have := digs_len10 (n := l.length) (by omega)
        simp; omega
      · rw [refuse_len]; omega
theorem hash_len : ∀ (l : List (List UInt8)) (st : List UInt8 × Int), (wHashList st l).1.length ≤ st.1.length + bulk l
  | [], st => by simp [wHashList]
  | s :: r, st => by
    rw [wHashList, bulk]
    split
    · have := hash_len r (wRaw st s)
      have := raw_len st s
      omega
    · rw [refuse_len]; omega
theorem hashes_len (st : List UInt8 × Int) (l : List (List UInt8)) (many : Int) : (wHashes st l many).1.length ≤ st.1.length + 10 + bulk l := by
  unfold wHashes
  split
  · rw [refuse_len]; omega
  · split
    · rw [refuse_len]; omega
    · have h1 := hash_len l (wNum st l.length)
      have := num_len st l.length
      omega
theorem xhashes_len (st : List UInt8 × Int) (l : List (List UInt8)) (many : Int) (hl : l.length + bulk l ≤ 4611686018427387904) : (xHashes st l many).1.length ≤ st.1.length + 10 + bulk l := by
  unfold xHashes
  split
  · rw [refuse_len]; omega
  · split
    · rw [refuse_len]; omega
    · split
      · have h1 := flat_len l
        have := digs_len10 (n := l.length) (by omega)
        simp; omega
      · rw [refuse_len]; omega

theorem bulk_append : ∀ (a b : List (List UInt8)), bulk (a ++ b) = bulk a + bulk b
  | [], b => by simp [bulk]
  | s :: r, b => by have := bulk_append r b; simp [bulk]; omega
theorem bulk_reverse : ∀ (l : List (List UInt8)), bulk l.reverse = bulk l
  | [] => rfl
  | s :: r => by have := bulk_reverse r; rw [List.reverse_cons, bulk_append]; simp [bulk]; omega
theorem len_bulk : ∀ (l : List (List UInt8)), 10 * l.length ≤ bulk l
  | [] => by simp
  | s :: r => by have := len_bulk r; simp [bulk]; omega
/-- 0, 3, 6 .. -/
def thrice (n : Nat) : List Int := (List.range n).map fun (i : Nat) => 3 * (i : Int)
theorem thrice_len (n : Nat) : (thrice n).length = n := by simp [thrice]
theorem thrice_succ (n : Nat) : thrice (n + 1) = thrice n ++ [3 * (n : Int)] := by simp [thrice, List.range_succ]
end Go.Proofs.YtpccaodkgboefaaGreatDoor
