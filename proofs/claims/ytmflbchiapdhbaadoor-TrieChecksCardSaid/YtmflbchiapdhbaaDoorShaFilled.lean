/-
  The document's 'filled'.
-/
import Derived.Test.YtmflbchiapdhbaaDoorShaBig
import Derived.Test.YtmflbchiapdhbaaDoorRowMark
import Derived.Deep.RegionLaw
namespace Go.Proofs.YtmflbchiapdhbaaDoor
open Go.RowKit

theorem str_cat (a b : List UInt8) : str a ++ str b = str (a ++ b) := by
  apply ByteArray.ext
  simp [str]
theorem u8s_len (l : List UInt8) : (u8s l).length = l.length := by simp [u8s]
theorem u8s_snoc (l : List UInt8) (x : UInt8) : u8s (l ++ [x]) = u8s l ++ [.int .u8 (x.toNat : Int)] := by simp [u8s]

/-- '[]byte(s)' -/
theorem bytes_of (w : World) (s : List UInt8) (hs : s.length ≤ 140737488355328) : ∃ C w2, (convert 9 53 (.string (str s))).run Tryd.prog w = .ok (.slice (some ⟨w.heap.size, 0, none⟩) s.length C) w2 ∧
    RowM w2 5 (.slice (some ⟨w.heap.size, 0, none⟩) s.length C) (u8s s) ∧ Fresh w w2 := by
  have hr := run_bytes_of_string (P := Tryd.prog) w 9 53 5 (str s) Tryd.underlying9 Tryd.underlying53 Tryd.underlying5
  have hsz := str_size s
  have hge := grownCap_ge w (str s).size 0 5
  have hle : grownCap w (str s).size 0 5 ≤ maxLen := grownCap_le_maxLen w _ 0 _ (by unfold maxLen; omega)
  have hcs : (bytesRow (str s) (grownCap w (str s).size 0 5)).size = grownCap w (str s).size 0 5 := by
    have : (str s).data.size = (str s).size := rfl
    simp only [bytesRow, Array.size_append, Array.size_map, Array.size_replicate]
    omega
  generalize grownCap w (str s).size 0 5 = C at *
  rw [hsz] at hr
  refine ⟨C, _, hr, ⟨w.heap.size, bytesRow (str s) C, _, ?_, heap_alloc_new w.drew _, .inr (Nat.le_refl _), ?_, by rw [hcs]; exact hle, ?_⟩, (Keeps.refl _ w).drew.alloc _⟩
  · rw [u8s_len, hcs]
  · rw [u8s_len, hcs]; omega
  · simp only [bytesRow, Array.toList_append, Array.toList_map]
    exact List.take_left' (by simp [u8s_len]; rfl)

/-- 'string(b)' -/
theorem text_ofM (w : World) (g n cap : Nat) (l : List UInt8) (h : RowM w 5 (.slice (some ⟨g, 0, none⟩) n cap) (u8s l)) : (convert 53 9 (.slice (some ⟨g, 0, none⟩) n cap)).run Tryd.prog w = .ok (.string (str l)) w := by
  have hn := h.len
  rw [u8s_len] at hn
  subst hn
  exact run_convert_bytes_back w 53 9 5 _ cap l Tryd.underlying53 Tryd.underlying5 Tryd.underlying9 fun j hj => h.cells j _ (by simp [u8s, hj])

/-- 128 and so many noughts -/
def fillTo (s : List UInt8) (k : Nat) : List UInt8 := s ++ 128 :: List.replicate k 0
theorem fillTo_succ (s : List UInt8) (k : Nat) : fillTo s k ++ [0] = fillTo s (k + 1) := by simp [fillTo, List.replicate_succ']
theorem fillTo_len (s : List UInt8) (k : Nat) : (fillTo s k).length = s.length + 1 + k := by simp [fillTo]; omega
theorem filledUp_eq (s : List UInt8) (n : Nat) (h : n = 8 * s.length % 18446744073709551616) : fillTo s (noughts s.length) ++ bigEnd n 8 = filledUp s := by simp [fillTo, filledUp, h]

set_option maxRecDepth 100000 in
set_option maxHeartbeats 1000000 in
theorem filled_any (s : List UInt8) (w : World) (hs : s.length ≤ 70368744177664) :
    Calls Tryd.prog 47 #[.string (str s)] w fun e w' => e = .returned (.string (str (filledUp s))) ∧ Fresh w w' := by
  obtain ⟨i0, hi, hz0, hz1, hz2⟩ := info_parts Tryd.infoByte
  obtain ⟨C, w2, hcv, hrow, f2⟩ := bytes_of w s (by omega)
  have hsz := str_size s
  go_enter Tryd.func47, Tryd.ntmps47
  go_wp2_with (at_builtin; refine wpList_pushM rfl (.tmp 9) (.tmp 10) 53 rfl 5 i0 (.int .u8 0) 1 Tryd.underlying53 hi hz0 hz1 hz2 rfl w2 hrow _ (by rfl) (by rfl) rfl (by rw [u8s_len]; omega) (by rw [u8s_len]; unfold maxLen; omega) ?_)
  intro v3 w3 hrow3 hk3 hown3
  have e3 : u8s s ++ [Value.int IntKind.u8 128] = u8s (fillTo s 0) := by simp [fillTo, u8s]
  rw [e3] at hrow3
  have hnew3 : ∀ g, v3.ownBlock = some g → w.heap.size ≤ g := fun g hg => by
    rcases hown3 g hg with h | h
    · simp [Value.ownBlock] at h; omega
    · have := f2.size; omega
  have f3 : Fresh w w3 := f2.trans' hk3 fun i hi h => by simp [Value.ownBlock] at h; omega
  obtain ⟨z, hz⟩ : ∃ z, z = noughts s.length := ⟨_, rfl⟩
  have HZ := hid hz
  have hzm : (s.length + 1 + z) % 64 = 56 := by rw [hz]; unfold noughts; omega
  have hzl : z < 64 := by rw [hz]; unfold noughts; omega
  have HZM := hid hzm
  clear hz hzm hrow hk3 hown3 e3 hcv
  obtain ⟨g3, cur3, fr3, rfl, hr3⟩ := id hrow3
  clear hr3
  go_wp2
  go_loopw [4] (fun v wr => ∃ (k g cap : Nat), v = .slice (some ⟨g, 0, none⟩) (s.length + 1 + k) cap ∧ k ≤ z ∧ RowM wr 5 (.slice (some ⟨g, 0, none⟩) (s.length + 1 + k) cap) (u8s (fillTo s k)) ∧ Fresh w wr ∧ w.heap.size ≤ g) (fun v _ => match v with | .slice _ n _ => s.length + 1 + z - n | _ => 0)
  case atStart => exact ⟨0, g3, cur3.size, by rw [u8s_len, fillTo_len], by omega, by have := hrow3; rw [u8s_len, fillTo_len] at this; exact this, f3, hnew3 g3 rfl⟩
  case round =>
    obtain ⟨k, g, cap, rfl, hk, hrow, fr, hg⟩ := hrel
    by_cases hkz : k < z
    · have hne : ((s.length : Int) + 1 + k) % 64 ≠ 56 := by have := HZM.out; omega
      go_wp2_with (at_builtin; refine wpList_pushM rfl (.tmp 16) (.tmp 17) 53 rfl 5 i0 (.int .u8 0) 1 Tryd.underlying53 hi hz0 hz1 hz2 rfl wr hrow _ (by rfl) (by rfl) rfl (by rw [u8s_len, fillTo_len]; omega) (by rw [u8s_len, fillTo_len]; unfold maxLen; omega) ?_)
      intro v4 w4 hrow4 hk4 hown4
      have e4 : u8s (fillTo s k) ++ [Value.int IntKind.u8 0] = u8s (fillTo s (k + 1)) := by rw [← fillTo_succ]; simp [u8s]
      rw [e4] at hrow4
      have hnew4 : ∀ g, v4.ownBlock = some g → w.heap.size ≤ g := fun g' hg' => by
        rcases hown4 g' hg' with h | h
        · simp [Value.ownBlock] at h; omega
        · have := fr.size; omega
      have f4 : Fresh w w4 := fr.trans' hk4 fun i hi h => by simp [Value.ownBlock] at h; omega
      obtain ⟨g4, cur4, fr4, rfl, hr4⟩ := id hrow4
      clear hr4 hk4 hown4 e4
      go_wp2
      go_roundw
      case rel => exact ⟨k + 1, g4, cur4.size, by rw [u8s_len, fillTo_len], by omega, by have := hrow4; rw [u8s_len, fillTo_len] at this; exact this, f4, hnew4 g4 rfl⟩
      case measure => rw [u8s_len, fillTo_len]; simp only; omega
    · obtain rfl : k = z := by omega
      have h56 : ((s.length : Int) + 1 + k) % 64 = 56 := by have := HZM.out; omega
      have hct := text_ofM wr g _ cap _ hrow
      have hcat := str_cat
      have hszf := str_size (fillTo s k)
      have hfl := fillTo_len s k
      have hszb := str_size (bigEnd (low64 (8 * (s.length : Int))) 8)
      have hbl := bigEnd_len (low64 (8 * (s.length : Int))) 8
      rw [hfl] at hszf
      rw [hbl] at hszb
      have hfin : Hid (fillTo s k ++ bigEnd (low64 (8 * (s.length : Int))) 8 = filledUp s) := by
        rw [Hid, HZ.out]
        exact filledUp_eq s _ (by unfold low64; omega)
      clear hfl hbl
      have hrowA := hrow.keeps ((Keeps.refl (fun _ => False) wr).drew) (fun _ _ h => h)
      have hctA := text_ofM wr.drew g _ cap _ hrowA
      have frA : Fresh w wr.drew := fr.drew
      have hov : ¬ 9223372036854775807 < s.length + 1 + k + 8 := by omega
      have hw8 : IntKind.i64.wrap (8 * (s.length : Int)) = 8 * (s.length : Int) := by rw [IntKind.wrap_i64]; omega
      go_wp2_with fail
      go_region_law (first | (go_simp; go_at_call 50; refine (big_any (8 * (s.length : Int)) 8 _ (by omega) (by omega) (by omega)).mono ?_; rintro e w5 ⟨rfl, f5⟩; have hct5 := text_ofM w5 g _ cap _ (hrowA.keeps f5 (fun _ _ h => h)); have f6 := frA.trans f5))
      all_goals
        go_wp2
        go_ret
        exact ⟨by rw [hfin.out]; rfl, f6⟩
end Go.Proofs.YtmflbchiapdhbaaDoor
