/-
  The law's helpers: sameWrites (of the same), mark, near.
-/
import Derived.Test.YtbhienlalpbflaaDuCalls
import Derived.Test.YtbhienlalpbflaaDvKeep
import Derived.Test.YtbhienlalpbflaaDvSame
namespace Go.Proofs.Ytbhienlalpbflaa
open Go.RowKit Go.Maps

def pickN (x : Int) (n : Nat) : Int := (if x < 0 then -(x + 1) else x).tmod (n : Int)

set_option maxRecDepth 100000 in
set_option maxHeartbeats 1000000 in
theorem sameWrites_same (v1 v2 : Value) (ws : List (Int × List UInt8)) (w : World) (y1 y2 : Value) (n1 n2 : Nat) (c1 : Clip v1 y1) (c2 : Clip v2 y2) (h1 : w.ownsRow 0 69 2 y1 n1 (writeCells ws)) (e1 : n1 = ws.length) (h2 : w.ownsRow 0 69 2 y2 n2 (writeCells ws)) (e2 : n2 = ws.length) (hb : ws.length ≤ 9223372036854775807) :
    Calls Try.prog 21 #[v1, v2] w fun e w' => e = .returned (.bool true) ∧ Fresh w w' := by
  obtain ⟨ao1, m1, k1, k1', rfl, rfl, -⟩ := c1
  obtain ⟨ao2, m2, k2, k2', rfl, rfl, -⟩ := c2
  obtain ⟨a1, p1, q1, hc1⟩ := wrow_at h1 e1
  obtain ⟨a2, p2, q2, hc2⟩ := wrow_at h2 e2
  simp only [Value.slice.injEq] at q1 q2
  obtain ⟨rfl, rfl, rfl⟩ := q1
  obtain ⟨rfl, rfl, rfl⟩ := q2
  have HC1 := hid hc1
  have HC2 := hid hc2
  have hne : ((ws.length : Int) != (ws.length : Int)) = false := by simp
  clear hc1 hc2 h1 h2 e1 e2
  go_enter Try.func21, Try.ntmps21
  go_wp2_with fail
  clear hne
  go_loopw [5] (fun i wr => ∃ (n : Nat), i = .int .i64 (n : Int) ∧ n ≤ ws.length ∧ Fresh w wr) (fun i _ => ws.length - (intOf i).toNat)
  case atStart => exact ⟨0, rfl, by omega, Keeps.refl _ _⟩
  case round =>
    obtain ⟨n, rfl, hn, fr⟩ := hrel
    by_cases hlt : n < ws.length
    · obtain ⟨⟨p, s⟩, hx⟩ : ∃ x, ws[n]? = some x := ⟨ws[n], by simp⟩
      obtain ⟨bb1, rfl, -, hbb1, u1, u2⟩ := HC1.out n _ hx
      obtain ⟨bb2, rfl, -, hbb2, u3, u4⟩ := HC2.out n _ hx
      have u1 := (fr.cell (p := ⟨bb1, n * 2, none⟩) hbb1 (fun h => h)).trans u1
      have u2 := (fr.cell (p := ⟨bb1, n * 2 + 1, none⟩) hbb1 (fun h => h)).trans u2
      have u3 := (fr.cell (p := ⟨bb2, n * 2, none⟩) hbb2 (fun h => h)).trans u3
      have u4 := (fr.cell (p := ⟨bb2, n * 2 + 1, none⟩) hbb2 (fun h => h)).trans u4
      simp only at u1 u2 u3 u4
      have hq : ((str s).toList == (str s).toList) = true := by simp
      clear hx
      go_wp2_with fail
      go_quiet (fail)
      go_wp2_with fail
      go_roundw
      case rel => exact ⟨n + 1, by go_num, by omega, fr.drewN _⟩
      case measure => simp [intOf]; omega
    · obtain rfl : n = ws.length := by omega
      go_wp2_with fail
      go_ret
      exact ⟨rfl, fr⟩

def markL (n : Nat) : List UInt8 := [109, 97, 114, 107, UInt8.ofNat n, UInt8.ofNat (n / 256)]
def markU (n : Nat) : List Value := [.string (str (markL n))]
def markW (n : Nat) : List Value := [.int .i64 (-1 - (n : Int)), .string (str [])]

set_option maxRecDepth 100000 in
set_option maxHeartbeats 2000000 in
theorem mark_any (n : Nat) (w : World) :
    Calls Try.prog 46 #[.int .i64 (n : Int)] w fun e w' => e = .returned (.string (str (markL n))) ∧ Fresh w w' := by
  have hconv : (convert 63 9 (.slice (some ⟨w.heap.size, 0, none⟩) 2 2)).run Try.prog (w.alloc (.cells #[.int .u8 ((n : Int) % 256), .int .u8 ((n : Int) / 256 % 256)] 5)) = .ok (.string (str [UInt8.ofNat n, UInt8.ofNat (n / 256)])) (w.alloc (.cells #[.int .u8 ((n : Int) % 256), .int .u8 ((n : Int) / 256 % 256)] 5)) := run_convert_bytes_back (P := Try.prog) (w.alloc (.cells #[.int .u8 ((n : Int) % 256), .int .u8 ((n : Int) / 256 % 256)] 5)) 63 9 5 ⟨w.heap.size, 0, none⟩ 2 [UInt8.ofNat n, UInt8.ofNat (n / 256)] Try.underlying63 Try.underlying5 Try.underlying9 (fun j hj => by
    rw [addr_add0, cell_at (heap_alloc_new w _)]
    match j, hj with
    | 0, _ => simp
    | 1, _ => simp
    | j + 2, hj => simp at hj; omega)
  go_enter Try.func46, Try.ntmps46
  go_wp2_with fail
  go_ret
  refine ⟨?_, (Keeps.refl _ _).alloc _⟩
  rfl

/-- near, in plain words -/
def nearTo (ks : List (Int × Int)) (n : Nat) : Nat → List (Int × Int)
  | 0 => []
  | m + 1 => nearTo ks n m ++ [((n : Int) - 1 - (m : Int), pickN ((ks[m]?).map (·.2) |>.getD 0) 257)]
theorem nearTo_len (ks : List (Int × Int)) (n : Nat) : ∀ m, (nearTo ks n m).length = m
  | 0 => rfl
  | m + 1 => by simp [nearTo, nearTo_len ks n m]
theorem nearTo_wf (ks : List (Int × Int)) (n : Nat) (hn : n ≤ 1000000) : ∀ m, m ≤ 1000000 → ∀ k ∈ nearTo ks n m, (Lit.int .i64 k.1).wf = true ∧ (Lit.int .i64 k.2).wf = true
  | 0, _, k, h => by cases h
  | m + 1, hm, k, h => by
    simp only [nearTo, List.mem_append, List.mem_singleton] at h
    rcases h with h | rfl
    · exact nearTo_wf ks n hn m (by omega) k h
    · obtain ⟨c, hc, hc2⟩ := picked (((ks[m]?).map (·.2)).getD 0) 257 (by omega)
      simp only
      unfold pickN
      rw [show ((257 : Nat) : Int) = (257 : Int) from rfl] at *
      rw [hc]
      exact ⟨WalkArith.wf_i64 (by omega), WalkArith.wf_i64 (by omega)⟩

set_option maxRecDepth 100000 in
set_option maxHeartbeats 4000000 in
theorem near_any (v : Value) (ks : List (Int × Int)) (n : Nat) (w : World) (hv : KeepsAt w v ks) (hn : n ≤ 4096) (hkl : ks.length ≤ 9223372036854775807) (hkw : ∀ k ∈ ks, -9223372036854775808 ≤ k.2 ∧ k.2 ≤ 9223372036854775807) :
    Calls Try.prog 44 #[v, .int .i64 (n : Int)] w fun e w' => ∃ v', e = .returned v' ∧ w'.ownsRow 0 71 2 v' (nearTo ks n (min ks.length n)).length (keepCells (nearTo ks n (min ks.length n))) ∧ (∀ g, v'.ownBlock = some g → w.heap.size ≤ g) ∧ Fresh w w' := by
  obtain ⟨i0, hi, hz0, hz1, hz2⟩ := info_parts Try.infoKeep
  obtain ⟨aok, capk, rfl, hkc⟩ := hv
  have HKC := hid hkc
  have HKW := hid hkw
  clear hkc hkw
  go_enter Try.func44, Try.ntmps44
  go_wp2_with fail
  go_loopw [5, 6] (fun s i wr => ∃ m : Nat, i = .int .i64 (m : Int) ∧ m ≤ min ks.length n ∧ wr.ownsRow 0 71 2 s m (keepCells (nearTo ks n m)) ∧ (∀ g, s.ownBlock = some g → w.heap.size ≤ g) ∧ Fresh w wr) (fun _ i _ => (min ks.length n) - (intOf i).toNat)
  case atStart => exact ⟨0, rfl, by omega, World.ownsRow_nil _ _ _ _, (fun _ h => nomatch h), Keeps.refl _ _⟩
  case round =>
    obtain ⟨m, rfl, hm, hrow, hnew, fr⟩ := hrel
    obtain ⟨so, scap, rfl⟩ := ownsRow_slice hrow
    by_cases h1 : m < ks.length
    · by_cases h2 : m < n
      · obtain ⟨⟨N, b⟩, hk⟩ : ∃ k, ks[m]? = some k := ⟨ks[m], by simp⟩
        obtain ⟨bk, offk, rfl, hbk, hk1, hk2⟩ := HKC.out m (N, b) hk
        have hk2 := (fr.cell (p := ⟨bk, offk + m * 2 + 1, none⟩) hbk (fun h => h)).trans hk2
        have hbr := HKW.out _ (List.mem_of_getElem? hk)
        simp only at hk2 hbr
        obtain ⟨c, hc, hc2⟩ := picked b 257 (by omega)
        have hpick := fun W => pick_any b 257 W (by omega) (by omega) hbr.1 hbr.2
        rw [hc] at hpick
        have HPK := hid hpick
        have htk : nearTo ks n (m + 1) = nearTo ks n m ++ [((n : Int) - 1 - (m : Int), (c : Int))] := by
          rw [nearTo, hk]
          simp only [Option.map_some, Option.getD_some]
          rw [pickN, hc]
        have HTK := hid htk
        have hmI : (m : Int) < (n : Int) := by omega
        clear hk hk1 hpick htk hc hbr
        go_wp2_with fail
        refine (HPK.out _).mono ?_
        rintro e _ ⟨rfl, rfl⟩
        go_wp2_with (at_builtin; refine wpList_push2 rfl (.tmp 18) (.tmp 30) 49 rfl 71 i0 (.agg #[.int .i64 0, .int .i64 0]) 16 Try.underlying49 hi hz0 hz1 hz2 rfl wr hrow _ _ (by rfl) (by rfl) rfl rfl (by omega) (by unfold maxLen; omega) ?_)
        intro v4 w4 ha
        obtain ⟨ao4, cp4, rfl⟩ := ownsRow_slice ha.row
        have f4 : Fresh w w4 := fr.trans' ha.keeps fun i hi h => by have := hnew i h; omega
        have hrow4 := ha.row
        have hown4 : ∀ g, (Value.slice ao4 (m + 1) cp4).ownBlock = some g → w.heap.size ≤ g := fun g hg => by
          rcases ha.own g hg with h | h
          · exact hnew g h
          · have := fr.size; omega
        have hrow5 : w4.ownsRow 0 71 2 (.slice ao4 (m + 1) cp4) (m + 1) (keepCells (nearTo ks n (m + 1))) := by
          rw [HTK.out, keepCells_snoc]; exact hrow4
        clear ha hrow4 hrow hnew
        go_wp2
        go_roundw
        case rel => exact ⟨m + 1, by go_num, by omega, hrow5, hown4, f4⟩
        case measure => simp [intOf]; omega
      · obtain rfl : m = n := by omega
        have hmn : min ks.length m = m := by omega
        go_wp2_with fail
        go_ret
        rw [hmn, nearTo_len]
        exact ⟨_, rfl, hrow, hnew, fr⟩
    · obtain rfl : m = ks.length := by omega
      have hmn : min ks.length n = ks.length := by omega
      go_wp2_with fail
      go_ret
      (try rw [hmn])
      rw [nearTo_len]
      exact ⟨_, rfl, hrow, hnew, fr⟩
end Go.Proofs.Ytbhienlalpbflaa
