/-
  Package codec: the Writer's methods that write bytes and texts, and what is handed out at the end.
-/
import Derived.Test.YtfjflnlcjnhmmaaDoorCxWriter
namespace Go.Proofs.YtfjflnlcjnhmmaaDoor
open Go.RowKit

def wRaw (st : List UInt8 × Int) (s : List UInt8) : List UInt8 × Int := (st.1 ++ s, st.2)
def wText (st : List UInt8 × Int) (s : List UInt8) (most : Int) : List UInt8 × Int :=
  if most < 0 then wRefuse st 1 else if most < s.length then wRefuse st 22 else (st.1 ++ digs s.length ++ s, st.2)

theorem byteCells_u8s (s : ByteArray) : byteCells s = u8s s.data.toList := rfl
theorem size_toList (s : ByteArray) : s.data.toList.length = s.size := by rw [Array.length_toList]; rfl

set_option maxRecDepth 100000 in
set_option maxHeartbeats 400000 in
theorem wraw_any (S : Nat → Prop) (b : Nat) (st : List UInt8 × Int) (s : ByteArray) (w : World) (h : WRep S w b st) (hlen : st.1.length + s.size ≤ 70368744177664) :
    Calls Tryd.prog 34 #[.pointer (some ⟨b, 0, none⟩), .string s] w fun e w' => e = .returned (.tuple #[]) ∧ Acts S w w' fun S' => WRep S' w' b (wRaw st s.data.toList) := by
  obtain ⟨i0, hi, hz0, hz1, hz2⟩ := info_parts Tryd.infoU8
  obtain ⟨v, ev, c0, c1, f0, f1, hb, hrow, hne, he⟩ := h.cells
  go_enter Tryd.func34, Tryd.ntmps34
  go_wp2_with (at_builtin; refine wpList_append_src rfl (.tmp 8) (.tmp 9) 30 9 rfl 5 i0 (.int .u8 0) 1 1 Tryd.underlying30 hi hz0 hz1 hz2 rfl (by decide) hrow (.string s) s.size (byteCells s) (by rfl) (by rfl) (Src.ofString _ Tryd.underlying9 s) (by unfold maxLen; omega) (by omega) ?_)
  intro v' w' ha
  obtain ⟨ao, cp, rfl⟩ := ownsRow_slice ha.row
  have hp := WRep.put h c0 (bs := st.1 ++ s.data.toList) (by rw [byteCells_u8s, ← u8s_append] at ha; simpa [size_toList] using ha)
  obtain ⟨k0, g0⟩ := WRep.behind ha hb hne 0
  rw [c0] at k0
  rw [f0] at g0
  clear ha
  go_wp2
  go_end0
  exact ⟨rfl, hp⟩

theorem digs_len10 {n : Nat} (h : n ≤ 9223372036854775807) : (digs n).length ≤ 10 := digs_len 9 n (by omega)

set_option maxRecDepth 100000 in
set_option maxHeartbeats 400000 in
theorem wtext_any (S : Nat → Prop) (b : Nat) (st : List UInt8 × Int) (s : ByteArray) (most : Int) (w : World) (h : WRep S w b st) (hlen : st.1.length + s.size + 10 < 70368744177664) :
    Calls Tryd.prog 28 #[.pointer (some ⟨b, 0, none⟩), .string s, .int .i64 most] w fun e w' => e = .returned (.tuple #[]) ∧ Acts S w w' fun S' => WRep S' w' b (wText st s.data.toList most) := by
  by_cases h1 : most < 0
  · have hfin : Hid (wText st s.data.toList most = (st.1, first st.2 1)) := by simp [Hid, wText, h1, wRefuse]
    go_enter Tryd.func28, Tryd.ntmps28
    go_wp2_with (go_at_call 52; refine (refuse_any S b st 1 _ (by decide) h).mono ?_; rintro e w' ⟨rfl, hA⟩)
    go_end0
    rw [hfin.out]
    exact ⟨rfl, hA⟩
  · by_cases h2 : most < s.size
    · have hfin : Hid (wText st s.data.toList most = (st.1, first st.2 22)) := by simp [Hid, wText, h1, h2, wRefuse]
      go_enter Tryd.func28, Tryd.ntmps28
      go_wp2_with (go_at_call 52; refine (refuse_any S b st 22 _ (by decide) h).mono ?_; rintro e w' ⟨rfl, hA⟩)
      go_end0
      rw [hfin.out]
      exact ⟨rfl, hA⟩
    · have hfin : Hid (wText st s.data.toList most = wRaw (wNum st s.size) s.data.toList) := by
        have e : ¬ ((s.size : Int) < 0 ∨ 4611686018427387904 < (s.size : Int)) := by omega
        simp only [Hid, wText, h1, h2, wRaw, wNum, size_toList, e, if_false]
        simp
      have hl : (wNum st s.size).1.length ≤ st.1.length + 10 := by
        have e : ¬ ((s.size : Int) < 0 ∨ 4611686018427387904 < (s.size : Int)) := by omega
        have := digs_len10 (n := s.size) (by omega)
        simp only [wNum, e, if_false, Int.toNat_natCast, List.length_append]
        omega
      go_enter Tryd.func28, Tryd.ntmps28
      go_wp2_with (go_at_call 24; refine (wnum_any S b st s.size _ h (by omega)).mono ?_; rintro e w1 ⟨rfl, S1, hg1, hk1, hw1⟩)
      refine (wraw_any S1 b _ s _ hw1 (by omega)).mono ?_
      rintro e w2 ⟨rfl, hA⟩
      go_wp2
      go_end0
      rw [hfin.out]
      exact ⟨rfl, .after hg1 hk1 hA⟩
end Go.Proofs.YtfjflnlcjnhmmaaDoor
