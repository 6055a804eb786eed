/-
  Package recursion: root, refused, Root, wrong.
-/
import Derived.Test.YtgikabafaocemaaDoorSpRecA
import Derived.Deep.Slices
namespace Go.Proofs.YtgikabafaocemaaDoor
open Go.RowKit
attribute [local go_sem] run_store_func

set_option maxRecDepth 100000 in
set_option maxHeartbeats 1000000 in
theorem rechash_no (s : List UInt8) (w : World) (hs : s.length = 32) :
    Calls Tryd.prog 93 #[.string (str s)] w fun x w' => x = .returned (.bool false) ∧ w = w' := by
  have hz := str_size s
  rw [hs] at hz
  go_enter Tryd.func93, Tryd.ntmps93
  go_wp2_with fail
  go_ret
  exact ⟨by simp, rfl⟩
set_option maxRecDepth 100000 in
set_option maxHeartbeats 2000000 in
theorem recindex_no (v : Value) (l : List (List UInt8)) (w : World) (hl : TextsAt w v l) (hn : l.length ≤ 9223372036854775807) (hs : ∀ s ∈ l, s.length = 32) :
    Calls Tryd.prog 105 #[v, .func (.func 93) #[] #[]] w fun x w' => x = .returned (.int .i64 (-1)) ∧ Fresh w w' := by
  obtain ⟨ao, cap, rfl, hc⟩ := hl
  have HC := hid hc
  clear hc
  go_enter Tryd.func105, Tryd.ntmps105
  go_wp2_with fail
  go_loopw [8] (fun i wr => ∃ k : Nat, i = .int .i64 (k : Int) ∧ k ≤ l.length ∧ Fresh w wr) (fun i _ => l.length - (intOf i).toNat)
  case atStart => exact ⟨0, rfl, Nat.zero_le _, Keeps.refl _ _⟩
  case round =>
    obtain ⟨k, rfl, hk, fr⟩ := hrel
    by_cases hlt : k < l.length
    · obtain ⟨s, hs1⟩ : ∃ s, l[k]? = some s := ⟨l[k], by simp [hlt]⟩
      obtain ⟨bb, off, rfl, hbb, hcw⟩ := HC.out k s hs1
      have hcell := (fr.cell (p := ⟨bb, off + k, none⟩) hbb (fun h => h)).trans hcw
      have HCL := hid (rechash_no s wr (hs s (List.mem_of_getElem? hs1)))
      clear hcw hs1
      go_wp2_with fail
      refine HCL.out.mono ?_
      rintro x w1 ⟨rfl, rfl⟩
      go_wp2_with fail
      go_roundw
      case rel => exact ⟨k + 1, by simp, by omega, fr⟩
      case measure => simp [intOf]; omega
    · have hke : k = l.length := by omega
      clear hke
      go_wp2_with fail
      go_ret
      exact ⟨rfl, fr⟩
set_option maxRecDepth 100000 in
set_option maxHeartbeats 1000000 in
theorem reccontains_no (v : Value) (l : List (List UInt8)) (w : World) (hl : TextsAt w v l) (hn : l.length ≤ 9223372036854775807) (hs : ∀ s ∈ l, s.length = 32) :
    Calls Tryd.prog 69 #[v, .func (.func 93) #[] #[]] w fun x w' => x = .returned (.bool false) ∧ Fresh w w' := by
  have HI := hid (recindex_no v l w hl hn hs)
  obtain ⟨ao, cap, rfl, -⟩ := hl
  go_enter Tryd.func69, Tryd.ntmps69
  go_wp2_with fail
  refine HI.out.mono ?_
  rintro x w1 ⟨rfl, f1⟩
  go_wp2_with fail
  go_ret
  exact ⟨rfl, f1⟩


set_option maxRecDepth 100000 in
set_option maxHeartbeats 1000000 in
theorem refused_no (v : Value) (l : List (List UInt8)) (w : World) (hl : TextsAt w v l) (hn : l.length ≤ 4096) (h32 : all32P l) :
    Calls Tryd.prog 54 #[v] w fun x w' => x = .returned (.int .i64 0) ∧ Fresh w w' := by
  have hc := hid (reccontains_no v l w hl (by omega) h32)
  obtain ⟨ao, cap, rfl, -⟩ := hl
  have hn2 : (l.length : Int) ≤ 4096 := by omega
  clear h32
  go_enter Tryd.func54, Tryd.ntmps54
  go_wp2_with fail
  refine hc.out.mono ?_
  rintro x w1 ⟨rfl, f1⟩
  go_wp2_with fail
  go_ret
  exact ⟨rfl, f1⟩
theorem RoomAt.at_ {w : World} {v : Value} {l : List (List UInt8)} (h : RoomAt w v l) : TextsAt w v l := by
  obtain ⟨bb, off, cap, e, -, hb, hk⟩ := h
  exact ⟨_, cap, e, fun k s hs => ⟨bb, off, rfl, hb, hk k s hs⟩⟩

set_option maxRecDepth 100000 in
set_option maxHeartbeats 1000000 in
theorem recroot_any (v : Value) (l : List (List UInt8)) (w : World) (hr : RoomAt w v l) (h1 : 1 ≤ l.length) (hn : l.length ≤ 4096) (h32 : all32P l) (hd : Dig w) :
    Calls Tryd.prog 58 #[v] w fun x w' => x = .returned (.string (str (hashL l))) ∧ Fresh w w' := by
  have hc := hid (fun W (f : Fresh w W) (rk : Nat) (hb : RootBox W rk) => root1_any rk l.length l v W (Nat.le_refl _) h1 hn h32 (hr.fresh f) hb (hd.fresh f))
  have f0 : Fresh w (w.alloc (.cells #[.func (.func 96) #[] #[.pointer (some ⟨w.heap.size, 0, none⟩)]] 103)) := (Keeps.refl _ _).alloc _
  have hb := heap_alloc_new w (.cells #[.func (.func 96) #[] #[.pointer (some ⟨w.heap.size, 0, none⟩)]] 103)
  obtain ⟨bb, off, cap, rfl, -⟩ := hr
  obtain ⟨HL, hHL⟩ : ∃ HL, hashL l = HL := ⟨_, rfl⟩
  rw [hHL] at hc ⊢
  clear h32 hd hHL
  go_enter Tryd.func58, Tryd.ntmps58
  go_wp2_with fail
  refine (hc.out _ f0 _ hb).mono ?_
  rintro x w1 ⟨rfl, f1⟩
  go_wp2_with fail
  go_ret
  exact ⟨rfl, f0.trans f1⟩

set_option maxRecDepth 100000 in
set_option maxHeartbeats 1000000 in
theorem recRoot_any (v : Value) (l : List (List UInt8)) (w : World) (hr : RoomAt w v l) (h1 : 1 ≤ l.length) (hn : l.length ≤ 4096) (h32 : all32P l) (hd : Dig w) :
    Calls Tryd.prog 24 #[v] w fun x w' => x = .returned (.tuple #[.string (str (hashL l)), .int .i64 0]) ∧ Fresh w w' := by
  have hf := hid (refused_no v l w hr.at_ hn h32)
  have hc := hid (fun W (f : Fresh w W) => recroot_any v l W (hr.fresh f) h1 hn h32 (hd.fresh f))
  obtain ⟨bb, off, cap, rfl, -⟩ := hr
  obtain ⟨HL, hHL⟩ : ∃ HL, hashL l = HL := ⟨_, rfl⟩
  rw [hHL] at hc ⊢
  clear h32 hd hHL
  go_enter Tryd.func24, Tryd.ntmps24
  go_wp2_with fail
  refine hf.out.mono ?_
  rintro x w1 ⟨rfl, f1⟩
  go_wp2_with fail
  refine (hc.out w1 f1).mono ?_
  rintro x w2 ⟨rfl, f2⟩
  go_wp2_with fail
  go_ret2
  exact ⟨rfl, f1.trans f2⟩

/-- indices that rise by one, to be read -/
def IdxAt (w : World) (v : Value) (b m : Nat) : Prop :=
  ∃ bb off cap, v = .slice (some ⟨bb, off, none⟩) m cap ∧ m ≤ cap ∧ bb < w.heap.size ∧ ∀ k, k < m → w.cell? ⟨bb, off + k, none⟩ = some (.int .i64 ((b + k : Nat) : Int))
theorem IdxAt.fresh {w w' : World} {v : Value} {b m : Nat} (h : IdxAt w v b m) (f : Fresh w w') : IdxAt w' v b m := by
  obtain ⟨bb, off, cap, e, hc, hb, hk⟩ := h
  exact ⟨bb, off, cap, e, hc, Nat.lt_of_lt_of_le hb f.size, fun k hs => (f.cell (p := ⟨bb, off + k, none⟩) hb (fun h => h)).trans (hk k hs)⟩

set_option maxRecDepth 100000 in
set_option maxHeartbeats 2000000 in
theorem wrong_no (v vi : Value) (l : List (List UInt8)) (b m : Nat) (w : World) (hl : TextsAt w v l) (hi : IdxAt w vi b m) (hm : 1 ≤ m) (hm2 : m ≤ 256) (hb : b + m ≤ l.length) :
    Calls Tryd.prog 55 #[v, vi] w fun x w' => x = .returned (.bool false) ∧ Fresh w w' := by
  obtain ⟨ao, cap, rfl, -⟩ := hl
  obtain ⟨bb, off, cp, rfl, hc, hbb, hk⟩ := hi
  obtain ⟨n, hN⟩ : ∃ n, l.length = n := ⟨_, rfl⟩
  rw [hN] at hb ⊢
  have HK := hid hk
  have hmi : (m : Int) ≤ 256 := by omega
  have hm0 : ((m : Int) == 0) = false := by simp; omega
  clear hk hN
  go_enter Tryd.func55, Tryd.ntmps55
  go_wp2_with fail
  go_loopw [5, 10] (fun z i wr => ∃ (k : Nat) (y : Int), i = .int .i64 (k : Int) ∧ z = .int .i64 y ∧ k ≤ m ∧ y < ((b + k : Nat) : Int) ∧ Fresh w wr) (fun _ i _ => m - (intOf i).toNat)
  case atStart => exact ⟨0, -1, rfl, rfl, Nat.zero_le _, by omega, Keeps.refl _ _⟩
  case round =>
    obtain ⟨k, y, rfl, rfl, hkm, hy, fr⟩ := hrel
    by_cases hlt : k < m
    · have hcell := (fr.cell (p := ⟨bb, off + k, none⟩) hbb (fun h => h)).trans (HK.out k hlt)
      obtain ⟨B, hB⟩ : ∃ B, b + k = B := ⟨_, rfl⟩
      rw [hB] at hcell hy
      have hBn : ¬ (n : Int) ≤ (B : Int) := by omega
      have hBy : ¬ (B : Int) ≤ y := by omega
      have HLT := hid hlt
      have HB := hid hB
      have hki : (k : Int) < (m : Int) := by omega
      clear hlt hkm hB hb
      go_wp2_with fail
      go_roundw
      case rel => exact ⟨k + 1, (B : Int), by simp, rfl, HLT.out, by have := HB.out; omega, fr⟩
      case measure => have := HLT.out; simp [intOf]; omega
    · have hke : k = m := by omega
      subst hke
      have hnl : ¬ (k : Int) < (k : Int) := by omega
      have hd : decide ((256 : Int) < (k : Int)) = false := decide_eq_false (by omega)
      clear hlt hkm hy
      go_wp2_with fail
      go_ret
      exact ⟨by first | rfl | (show Ending.returned (.bool (decide ((256 : Int) < (k : Int)))) = _; rw [hd]), fr⟩
end Go.Proofs.YtgikabafaocemaaDoor
