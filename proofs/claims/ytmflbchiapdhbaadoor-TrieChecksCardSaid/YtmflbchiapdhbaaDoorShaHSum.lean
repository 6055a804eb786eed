/-
  The program's Hasher: Sum.
-/
import Derived.Test.YtmflbchiapdhbaaDoorShaNew
namespace Go.Proofs.YtmflbchiapdhbaaDoor
open Go.RowKit

noncomputable def Tryd.hasherFields : Array Field := match Tryd.prog.underlying 102 with
  | some (.struct fs) => fs
  | _ => #[]
theorem Tryd.hasherUnder : Tryd.prog.underlying 102 = some (.struct Tryd.hasherFields) := by kernel_rfl
/-- what Sum puts behind: 128, noughts -/
def tail (k : Nat) : List UInt8 := 128 :: List.replicate k 0
theorem tail_succ (k : Nat) : tail k ++ [0] = tail (k + 1) := by simp [tail, List.replicate_succ']
theorem tail_len (k : Nat) : (tail k).length = k + 1 := by simp [tail]

/-- the first j of eight bytes -/
def lead (B j : Nat) : List UInt8 := (bigEnd B 8).take j
theorem lead_succ (B : Nat) {j : Nat} (h : j < 8) : lead B j ++ [UInt8.ofNat (B / 256 ^ (7 - j))] = lead B (j + 1) := by
  rcases (by omega : j = 0 ∨ j = 1 ∨ j = 2 ∨ j = 3 ∨ j = 4 ∨ j = 5 ∨ j = 6 ∨ j = 7) with rfl | rfl | rfl | rfl | rfl | rfl | rfl | rfl <;> simp [lead, bigEnd]
theorem lead_len (B : Nat) {j : Nat} (h : j ≤ 8) : (lead B j).length = j := by simp [lead, bigEnd_len]; omega
theorem lead_all (B : Nat) : lead B 8 = bigEnd B 8 := by rw [lead, List.take_of_length_le (by rw [bigEnd_len]; omega)]
theorem u8s_cons (l : List UInt8) (x : UInt8) (y : Int) (h : y = (x.toNat : Int)) : u8s l ++ [Value.int .u8 y] = u8s (l ++ [x]) := by simp [u8s, h]

theorem state_ix0 (a0 a1 a2 a3 a4 a5 a6 a7 : Value) (u : World) : (Instr.index 99 (.agg #[a0, a1, a2, a3, a4, a5, a6, a7]) (.int .i64 0)).run Tryd.prog u = .ok a0 u := by kernel_rfl
theorem state_ix1 (a0 a1 a2 a3 a4 a5 a6 a7 : Value) (u : World) : (Instr.index 99 (.agg #[a0, a1, a2, a3, a4, a5, a6, a7]) (.int .i64 1)).run Tryd.prog u = .ok a1 u := by kernel_rfl
theorem state_ix2 (a0 a1 a2 a3 a4 a5 a6 a7 : Value) (u : World) : (Instr.index 99 (.agg #[a0, a1, a2, a3, a4, a5, a6, a7]) (.int .i64 2)).run Tryd.prog u = .ok a2 u := by kernel_rfl
theorem state_ix3 (a0 a1 a2 a3 a4 a5 a6 a7 : Value) (u : World) : (Instr.index 99 (.agg #[a0, a1, a2, a3, a4, a5, a6, a7]) (.int .i64 3)).run Tryd.prog u = .ok a3 u := by kernel_rfl
theorem state_ix4 (a0 a1 a2 a3 a4 a5 a6 a7 : Value) (u : World) : (Instr.index 99 (.agg #[a0, a1, a2, a3, a4, a5, a6, a7]) (.int .i64 4)).run Tryd.prog u = .ok a4 u := by kernel_rfl
theorem state_ix5 (a0 a1 a2 a3 a4 a5 a6 a7 : Value) (u : World) : (Instr.index 99 (.agg #[a0, a1, a2, a3, a4, a5, a6, a7]) (.int .i64 5)).run Tryd.prog u = .ok a5 u := by kernel_rfl
theorem state_ix6 (a0 a1 a2 a3 a4 a5 a6 a7 : Value) (u : World) : (Instr.index 99 (.agg #[a0, a1, a2, a3, a4, a5, a6, a7]) (.int .i64 6)).run Tryd.prog u = .ok a6 u := by kernel_rfl
theorem state_ix7 (a0 a1 a2 a3 a4 a5 a6 a7 : Value) (u : World) : (Instr.index 99 (.agg #[a0, a1, a2, a3, a4, a5, a6, a7]) (.int .i64 7)).run Tryd.prog u = .ok a7 u := by kernel_rfl
theorem src4 {P : Program} {tx e : TypeId} (hk : P.underlying tx = some (.slice e)) (w : World) (y0 y1 y2 y3 : Int) : Src P 1 tx (.slice (some ⟨w.heap.size, 0, none⟩) 4 4) 4 [.int .u8 y0, .int .u8 y1, .int .u8 y2, .int .u8 y3] (w.alloc (.cells #[.int .u8 y0, .int .u8 y1, .int .u8 y2, .int .u8 y3] e)) :=
  Src.ofSlice _ hk _ 4 4 _ rfl (fun j y hj => by
    match j, hj with
    | 0, hj => simp at hj; subst hj; simp [Addr.add]
    | 1, hj => simp at hj; subst hj; simp [Addr.add]
    | 2, hj => simp at hj; subst hj; simp [Addr.add]
    | 3, hj => simp at hj; subst hj; simp [Addr.add]
    | (j + 4), hj => simp at hj) (fun u hu => by simp at hu; rcases hu with rfl | rfl | rfl | rfl <;> rfl)
theorem u8s_word {l : List UInt8} {x : Nat} {y0 y1 y2 y3 : Int} (h0 : y0 = (x : Int) / 16777216 % 256) (h1 : y1 = (x : Int) / 65536 % 256) (h2 : y2 = (x : Int) / 256 % 256) (h3 : y3 = (x : Int) % 256) :
    u8s l ++ [Value.int .u8 y0, .int .u8 y1, .int .u8 y2, .int .u8 y3] = u8s (l ++ bigEnd x 4) := by
  have e : bigEnd x 4 = [UInt8.ofNat (x / 16777216), UInt8.ofNat (x / 65536), UInt8.ofNat (x / 256), UInt8.ofNat (x / 1)] := rfl
  have g : ∀ y : Nat, ((UInt8.ofNat y).toNat : Int) = ((y % 256 : Nat) : Int) := fun y => by rw [UInt8.toNat_ofNat']
  rw [e]
  simp only [u8s, List.map_append, List.map_cons, List.map_nil, g, h0, h1, h2, h3]
  congr 1
  have a0 : (x : Int) / 16777216 % 256 = ((x / 16777216 % 256 : Nat) : Int) := by omega
  have a1 : (x : Int) / 65536 % 256 = ((x / 65536 % 256 : Nat) : Int) := by omega
  have a2 : (x : Int) / 256 % 256 = ((x / 256 % 256 : Nat) : Int) := by omega
  have a3 : (x : Int) % 256 = ((x / 1 % 256 : Nat) : Int) := by omega
  rw [a0, a1, a2, a3]

set_option maxRecDepth 100000 in
set_option maxHeartbeats 2000000 in
theorem hsum_any (t : List UInt8) (v : Eight) (rest : List UInt8) (g : Nat) (w : World) (hT : TabLaid w) (hgn : 3 ≤ g) (hH : Hashed t v rest) (hv : v.ok) (hlen : t.length ≤ 70368744177000)
    (hg : w.heap[g]? = some (.cells (hcells v rest (t.length : Int)) 102 (0, 0))) :
    Calls Tryd.prog 37 #[.pointer (some ⟨g, 0, none⟩)] w fun e w' => e = .returned (.string (str (sha t))) ∧ Fresh w w' := by
  have hglt := lt_of_block hg
  have hr64 := hH.at_
  obtain ⟨i0, hi, hz0, hz1, hz2⟩ := info_parts Tryd.infoByte
  have hmk : ∀ u : World, (Instr.makeSlice 53 (.int .i64 1) (.int .i64 128)).run Tryd.prog u = .ok (.slice (some ⟨u.heap.size, 0, none⟩) 1 128) (u.alloc (.cells (madeCells #[.int .u8 0] 128) 5)) := fun u => by
    have h := run_make (P := Tryd.prog) u 53 5 i0 (.int .u8 0) Tryd.underlying53 hi hz0 .i64 .i64 1 128 (by omega) (by omega) (by rw [hz2]; omega) (by omega)
    simpa [hz1, Value.cells] using h
  obtain ⟨N, hN⟩ : ∃ N, N = t.length := ⟨_, rfl⟩
  rw [← hN] at hg
  have HN := hid hN
  have hNb : N ≤ 70368744177000 := by omega
  clear hN hlen
  have hm0 : (madeCells #[Value.int .u8 0] 128)[0]? = some (.int .u8 0) := by simp [madeCells]
  have hc0 : ∀ u : World, (u.alloc (.cells (madeCells #[.int .u8 0] 128) 5)).cell? ⟨u.heap.size, 0, none⟩ = some (.int .u8 0) := fun u => by
    rw [cell_at (heap_alloc_new u _)]
    simp [madeCells]
  go_enter Tryd.func37, Tryd.ntmps37
  go_wp2_with (first | (refine wpList_load_row rfl 102 (.tmp 10) rfl g rfl 102 _ (0, 0) _ hg Tryd.hasherUnder rfl (by rw [Tryd.sizeHasher, hcells_size hr64]) ?_) | (refine wpList_store_row rfl 102 (.tmp 3) (.tmp 11) rfl w.heap.size (hcells v rest (N : Int)) rfl rfl 102 _ (heap_alloc_last w _) (by rw [Tryd.sizeHasher, hcells_size hr64]) (by rw [hcells_size hr64]; rfl) (hcells_one _ _ _) ?_; rw [World.setRow_alloc_new]))
  go_upto_region 4 with (fail)
  obtain ⟨z, hz⟩ : ∃ z, z = noughts N := ⟨_, rfl⟩
  have hzm : (N + 1 + z) % 64 = 56 := by rw [hz]; unfold noughts; omega
  have hzl : z < 64 := by rw [hz]; unfold noughts; omega
  have HZ := hid hz
  have HZM := hid hzm
  have k0 : Fresh w (w.alloc (.cells (hcells v rest (N : Int)) 102)) := (Keeps.refl _ _).alloc _
  have k2 : Fresh w ((w.alloc (.cells (hcells v rest (N : Int)) 102)).alloc (.cells ((madeCells #[.int .u8 0] 128).setIfInBounds 0 (.int .u8 128)) 5)) := k0.alloc _
  have hgb := heap_alloc_new (w.alloc (.cells (hcells v rest (N : Int)) 102)) (.cells ((madeCells #[.int .u8 0] 128).setIfInBounds 0 (.int .u8 128)) 5)
  simp only [World.size_alloc] at hgb
  have hms : (madeCells #[Value.int .u8 0] 128).size = 128 := by simp [madeCells]
  have hrow : ((w.alloc (.cells (hcells v rest (N : Int)) 102)).alloc (.cells ((madeCells #[.int .u8 0] 128).setIfInBounds 0 (.int .u8 128)) 5)).ownsRow 0 5 1 (.slice (some ⟨w.heap.size + 1, 0, none⟩) 1 128) 1 (u8s (tail 0)) :=
    ⟨by simp [u8s, tail], .inr ⟨w.heap.size + 1, 128, _, rfl, by omega, hgb, by omega, by unfold maxLen; omega, by simp [hms], by
      simp only [Nat.mul_one, Array.toList_setIfInBounds]
      have hne : (madeCells #[Value.int .u8 0] 128).toList ≠ [] := by intro h; have := congrArg List.length h; simp [hms] at this
      obtain ⟨x, l, hx⟩ := List.exists_cons_of_ne_nil hne
      rw [hx]
      simp [u8s, tail]⟩⟩
  have hcw : ((w.alloc (.cells (hcells v rest (N : Int)) 102)).alloc (.cells ((madeCells #[.int .u8 0] 128).setIfInBounds 0 (.int .u8 128)) 5)).heap[w.heap.size]? = some (.cells (hcells v rest (N : Int)) 102 (0, 0)) := by
    rw [Below.heap_alloc _ _ _ (by simp)]
    exact heap_alloc_new w _
  clear hz hzm hgb hms hmk hc0 hm0 k0
  go_loopw [4] (fun f wr => ∃ (k gb cap : Nat), f = .slice (some ⟨gb, 0, none⟩) (k + 1) cap ∧ k ≤ z ∧ wr.ownsRow 0 5 1 (.slice (some ⟨gb, 0, none⟩) (k + 1) cap) (k + 1) (u8s (tail k)) ∧ w.heap.size < gb ∧
    wr.heap[w.heap.size]? = some (.cells (hcells v rest (N : Int)) 102 (0, 0)) ∧ Fresh w wr) (fun f _ => match f with | .slice _ n _ => z + 1 - n | _ => 0)
  case atStart => exact ⟨0, _, _, rfl, by omega, hrow, by omega, hcw, k2⟩
  case round =>
    clear hrow hcw k2
    obtain ⟨k, gb, cap, rfl, hk, hrow, hgb, hcw, hf⟩ := hrel
    have cn : wr.cell? ⟨g, 72, none⟩ = some (.int .i64 (N : Int)) := by rw [cell_at (hf.at_ hg (fun h => h)), hcells_many hr64]
    by_cases hkz : k < z
    · have hne : ((N : Int) + ((k : Int) + 1)) % 64 ≠ 56 := by have := HZM.out; omega
      go_wp2_with (at_builtin; refine wpList_push rfl (.tmp 24) (.tmp 25) 53 rfl 5 i0 (.int .u8 0) 1 Tryd.underlying53 hi hz0 hz1 hz2 rfl wr hrow _ (by rfl) (by rfl) rfl (by omega) (by unfold maxLen; omega) ?_)
      intro v5 w5 ha
      have hk5 := ha.keeps
      have hrow5 := ha.row
      have e5 : u8s (tail k) ++ [Value.int .u8 0] = u8s (tail (k + 1)) := by rw [← tail_succ]; simp [u8s]
      rw [e5] at hrow5
      have hnew5 : ∀ g', v5.ownBlock = some g' → w.heap.size < g' := fun g' hg' => by
        rcases ha.own g' hg' with h | h
        · simp [Value.ownBlock] at h; omega
        · have := hf.size; have := lt_of_block hcw; omega
      have hf5 : Fresh w w5 := hf.trans' hk5 fun i hi h => by simp [Value.ownBlock] at h; omega
      have hcw5 := hk5.at_ hcw (fun h => by simp [Value.ownBlock] at h; omega)
      rcases id hrow5.2 with ⟨_, h0⟩ | ⟨g5, cap5, cur5, rfl, _, _, _, _, _, _⟩
      · omega
      have hg5 := hnew5 g5 rfl
      have HR5 := hid hrow5
      clear ha hk5 e5 hrow5 hnew5
      go_wp2
      go_roundw
      case rel => exact ⟨k + 1, g5, cap5, rfl, by omega, HR5.out, hg5, hcw5, hf5⟩
      case measure => simp only; omega
    · obtain rfl : k = z := by omega
      have h56 : ((N : Int) + ((k : Int) + 1)) % 64 = 56 := by have := HZM.out; omega
      go_wp2
      clear cn h56 hkz hk
      have hw8 : 8 * (N : Int) < 9223372036854775808 := by omega
      go_loopw [4, 5] (fun f sh wr => ∃ (j gb cap : Nat), f = .slice (some ⟨gb, 0, none⟩) (k + 1 + j) cap ∧ sh = .int .i64 (56 - 8 * (j : Int)) ∧ j ≤ 8 ∧ wr.ownsRow 0 5 1 (.slice (some ⟨gb, 0, none⟩) (k + 1 + j) cap) (k + 1 + j) (u8s (tail k ++ lead (8 * N) j)) ∧ w.heap.size < gb ∧
        wr.heap[w.heap.size]? = some (.cells (hcells v rest (N : Int)) 102 (0, 0)) ∧ Fresh w wr) (fun _ sh _ => (intOf sh + 8).toNat)
      case atStart => exact ⟨0, gb, cap, rfl, rfl, by omega, by simpa [lead] using hrow, hgb, hcw, hf⟩
      case round =>
        clear hrow hgb hcw hf
        obtain ⟨j, gb, cap, rfl, rfl, hj, hrow, hgb, hcw, hf⟩ := hrel
        have cn : wr.cell? ⟨g, 72, none⟩ = some (.int .i64 (N : Int)) := by rw [cell_at (hf.at_ hg (fun h => h)), hcells_many hr64]
        by_cases hj8 : j < 8
        · have hls := lead_succ (8 * N) hj8
          have HLS := hid hls
          clear hls
          have hx : ∀ y : Int, y = ((UInt8.ofNat (8 * N / 256 ^ (7 - j))).toNat : Int) → u8s (tail k ++ lead (8 * N) j) ++ [Value.int .u8 y] = u8s (tail k ++ lead (8 * N) (j + 1)) := fun y hy => by
            rw [u8s_cons _ _ y hy, List.append_assoc, HLS.out]
          have HX := hid hx
          clear hx
          rcases (by omega : j = 0 ∨ j = 1 ∨ j = 2 ∨ j = 3 ∨ j = 4 ∨ j = 5 ∨ j = 6 ∨ j = 7) with rfl | rfl | rfl | rfl | rfl | rfl | rfl | rfl
          all_goals
            go_wp2_with (at_builtin; refine wpList_push rfl (.tmp 31) (.tmp 40) 53 rfl 5 i0 (.int .u8 0) 1 Tryd.underlying53 hi hz0 hz1 hz2 rfl wr hrow _ (by rfl) (by rfl) rfl (by omega) (by unfold maxLen; omega) ?_)
            intro v5 w5 ha
            have hk5 := ha.keeps
            have hrow5 := ha.row
            rw [HX.out _ (by simp only [UInt8.toNat_ofNat']; first | omega | (simp; done) | (simp; omega))] at hrow5
            have hnew5 : ∀ g', v5.ownBlock = some g' → w.heap.size < g' := fun g' hg' => by
              rcases ha.own g' hg' with h | h
              · simp [Value.ownBlock] at h; omega
              · have := hf.size; have := lt_of_block hcw; omega
            have hf5 : Fresh w w5 := hf.trans' hk5 fun i hi h => by simp [Value.ownBlock] at h; omega
            have hcw5 := hk5.at_ hcw (fun h => by simp [Value.ownBlock] at h; omega)
            rcases id hrow5.2 with ⟨_, h0⟩ | ⟨g5, cap5, cur5, rfl, _, _, _, _, _, _⟩
            · omega
            have hg5 := hnew5 g5 rfl
            have HR5 := hid hrow5
            clear ha hk5 hrow5 hnew5
            go_wp2
            go_roundw
            case rel => exact ⟨_, g5, cap5, rfl, by go_num, by omega, HR5.out, hg5, hcw5, hf5⟩
            case measure => simp [intOf]
        · obtain rfl : j = 8 := by omega
          rw [lead_all] at hrow
          have hbl : (tail k ++ bigEnd (8 * N) 8).length = k + 1 + 8 := by rw [List.length_append, tail_len, bigEnd_len]
          have hct := run_text_of_row (P := Tryd.prog) (w := wr) (base := 0) (e := 5) (v := .slice (some ⟨gb, 0, none⟩) (k + 1 + 8) cap) (bs := tail k ++ bigEnd (8 * N) 8) 53 9 Tryd.underlying53 Tryd.underlying5 Tryd.underlying9 (by rw [hbl]; exact hrow)
          have hfin : Hid (t ++ (tail k ++ bigEnd (8 * N) 8) = filledUp t) := by
            have := filledUp_eq t (8 * N) (by rw [HN.out] at hNb ⊢; omega)
            rw [← HN.out, ← HZ.out] at this
            rw [Hid, ← this]
            simp [fillTo, tail]
          have hTr := hT.keeps hf (fun h => h)
          rw [HN.out] at hcw
          generalize hB : tail k ++ bigEnd (8 * N) 8 = B at hbl hct hfin
          have hct2 : (convert 53 9 (.slice (some ⟨gb, 0, none⟩) (k + 1 + 8) cap)).run Tryd.prog wr = .ok (.string (str B)) wr := hct
          have hNb2 : t.length + B.length ≤ 70368744177664 := by rw [hbl, ← HN.out]; omega
          clear hB hct hrow hgb
          go_wp2_with fail
          refine (write_any t v rest B w.heap.size wr hTr (by omega) hH hv hNb2 hcw).mono ?_
          rintro e w6 ⟨rfl, hk6, v', rest', hH', hv', hg'⟩
          have hf6 : Fresh w w6 := hf.trans' hk6 fun i hi h => by omega
          rw [hfin.out] at hH' hg'
          have hst := hH'.whole (filledUp_len t)
          have hsha : Hid (sha t = bytesOf v'.list 8) := by rw [Hid, hst]; rfl
          have hlt' := eight_lt hv'
          obtain ⟨va, vb, vc, vd, ve, vf, vg, vh⟩ := v'
          have h0 := cell_at hg' 0
          have h1 := cell_at hg' 1
          have h2 := cell_at hg' 2
          have h3 := cell_at hg' 3
          have h4 := cell_at hg' 4
          have h5 := cell_at hg' 5
          have h6 := cell_at hg' 6
          have h7 := cell_at hg' 7
          rw [hcells_state (by decide)] at h0 h1 h2 h3 h4 h5 h6 h7
          simp only [Eight.list, List.getD_cons_zero, List.getD_cons_succ] at h0 h1 h2 h3 h4 h5 h6 h7
          have hwl6 := lt_of_block hg'
          clear hst hH' hk6 hcw hct2 hTr hg' hf hfin cn hj hj8
          go_wp2_with (at_make; refine wpList_make_own _ rfl (.const (.int .i64 0)) (.const (.int .i64 32)) 53 rfl 0 5 i0 (.int .u8 0) 1 Tryd.underlying53 hi hz0 hz1 .i64 .i64 32 32 rfl rfl rfl (by rw [hz2]; omega) (by unfold maxLen; omega) (Nat.zero_le _) ?_)
          intro w7 hrow7 hgr7
          have k7 : Fresh w6 w7 := (Keeps.refl _ w6).grown hgr7 (fun k h => by cases h)
          have hf7 := hf6.trans k7
          have q0 := (k7.cell (p := ⟨w.heap.size, 0, none⟩) hwl6 (fun h => h)).trans h0
          have q1 := (k7.cell (p := ⟨w.heap.size, 1, none⟩) hwl6 (fun h => h)).trans h1
          have q2 := (k7.cell (p := ⟨w.heap.size, 2, none⟩) hwl6 (fun h => h)).trans h2
          have q3 := (k7.cell (p := ⟨w.heap.size, 3, none⟩) hwl6 (fun h => h)).trans h3
          have q4 := (k7.cell (p := ⟨w.heap.size, 4, none⟩) hwl6 (fun h => h)).trans h4
          have q5 := (k7.cell (p := ⟨w.heap.size, 5, none⟩) hwl6 (fun h => h)).trans h5
          have q6 := (k7.cell (p := ⟨w.heap.size, 6, none⟩) hwl6 (fun h => h)).trans h6
          have q7 := (k7.cell (p := ⟨w.heap.size, 7, none⟩) hwl6 (fun h => h)).trans h7
          have hz6 := hf6.size
          clear h0 h1 h2 h3 h4 h5 h6 h7 hgr7 k7
          go_wp2
          clear q0 q1 q2 q3 q4 q5 q6 q7
          have ix0 := state_ix0 (.int .u32 va) (.int .u32 vb) (.int .u32 vc) (.int .u32 vd) (.int .u32 ve) (.int .u32 vf) (.int .u32 vg) (.int .u32 vh)
          have ix1 := state_ix1 (.int .u32 va) (.int .u32 vb) (.int .u32 vc) (.int .u32 vd) (.int .u32 ve) (.int .u32 vf) (.int .u32 vg) (.int .u32 vh)
          have ix2 := state_ix2 (.int .u32 va) (.int .u32 vb) (.int .u32 vc) (.int .u32 vd) (.int .u32 ve) (.int .u32 vf) (.int .u32 vg) (.int .u32 vh)
          have ix3 := state_ix3 (.int .u32 va) (.int .u32 vb) (.int .u32 vc) (.int .u32 vd) (.int .u32 ve) (.int .u32 vf) (.int .u32 vg) (.int .u32 vh)
          have ix4 := state_ix4 (.int .u32 va) (.int .u32 vb) (.int .u32 vc) (.int .u32 vd) (.int .u32 ve) (.int .u32 vf) (.int .u32 vg) (.int .u32 vh)
          have ix5 := state_ix5 (.int .u32 va) (.int .u32 vb) (.int .u32 vc) (.int .u32 vd) (.int .u32 ve) (.int .u32 vf) (.int .u32 vg) (.int .u32 vh)
          have ix6 := state_ix6 (.int .u32 va) (.int .u32 vb) (.int .u32 vc) (.int .u32 vd) (.int .u32 ve) (.int .u32 vf) (.int .u32 vg) (.int .u32 vh)
          have ix7 := state_ix7 (.int .u32 va) (.int .u32 vb) (.int .u32 vc) (.int .u32 vd) (.int .u32 ve) (.int .u32 vf) (.int .u32 vg) (.int .u32 vh)
          have hLL : (Eight.list ⟨va, vb, vc, vd, ve, vf, vg, vh⟩).length = 8 := rfl
          go_loopw [6, 48] (fun f i wr => ∃ (j gb cap : Nat), f = .slice (some ⟨gb, 0, none⟩) (4 * j) cap ∧ i = .int .i64 (j : Int) ∧ j ≤ 8 ∧ wr.ownsRow 0 5 1 (.slice (some ⟨gb, 0, none⟩) (4 * j) cap) (4 * j) (u8s (bytesOf (Eight.list ⟨va, vb, vc, vd, ve, vf, vg, vh⟩) j)) ∧ w.heap.size < gb ∧ Fresh w wr) (fun _ i _ => 8 - (intOf i).toNat)
          case atStart => exact ⟨0, _, _, rfl, rfl, by omega, by simpa [bytesOf, u8s] using hrow7, by omega, hf7⟩
          case round =>
            clear hrow7 hf7 hf6 hwl6 hz6
            obtain ⟨j, gb, cap, rfl, rfl, hj, hrow, hgb, hf⟩ := hrel
            by_cases hj8 : j < 8
            · have hx : ∀ y0 y1 y2 y3 : Int, y0 = ((Eight.list ⟨va, vb, vc, vd, ve, vf, vg, vh⟩).getD j 0 : Int) / 16777216 % 256 → y1 = ((Eight.list ⟨va, vb, vc, vd, ve, vf, vg, vh⟩).getD j 0 : Int) / 65536 % 256 →
                  y2 = ((Eight.list ⟨va, vb, vc, vd, ve, vf, vg, vh⟩).getD j 0 : Int) / 256 % 256 → y3 = ((Eight.list ⟨va, vb, vc, vd, ve, vf, vg, vh⟩).getD j 0 : Int) % 256 →
                  u8s (bytesOf (Eight.list ⟨va, vb, vc, vd, ve, vf, vg, vh⟩) j) ++ [Value.int .u8 y0, .int .u8 y1, .int .u8 y2, .int .u8 y3] = u8s (bytesOf (Eight.list ⟨va, vb, vc, vd, ve, vf, vg, vh⟩) (j + 1)) := fun y0 y1 y2 y3 e0 e1 e2 e3 => by
                rw [u8s_word e0 e1 e2 e3, bytesOf_succ (by omega)]
              have HX := hid hx
              clear hx
              rcases (by omega : j = 0 ∨ j = 1 ∨ j = 2 ∨ j = 3 ∨ j = 4 ∨ j = 5 ∨ j = 6 ∨ j = 7) with rfl | rfl | rfl | rfl | rfl | rfl | rfl | rfl
              all_goals
                go_wp2_with (at_builtin; refine wpList_append_src rfl (.tmp 51) (.tmp 63) 53 53 rfl 5 i0 (.int .u8 0) 1 1 Tryd.underlying53 hi hz0 hz1 hz2 rfl (by decide) (hrow.alloc _) (.slice (some ⟨wr.heap.size, 0, none⟩) 4 4) 4 [_, _, _, _] (by rfl) (by rfl) (src4 Tryd.underlying53 wr _ _ _ _) (by unfold maxLen; omega) (by omega) ?_)
                intro v5 w5 ha
                have hk5 := ha.keeps
                have hrow5 := ha.row
                rw [HX.out _ _ _ _ (by first | rfl | (simp; done) | (simp; omega)) (by first | rfl | (simp; done) | (simp; omega)) (by first | rfl | (simp; done) | (simp; omega)) (by first | rfl | (simp; done) | (simp; omega))] at hrow5
                have hnew5 : ∀ g', v5.ownBlock = some g' → w.heap.size < g' := fun g' hg' => by
                  have := hf.size
                  rcases ha.own g' hg' with h | h
                  · simp [Value.ownBlock] at h; omega
                  · have := h.1; simp at this; omega
                have hf5 : Fresh w w5 := (hf.alloc _).trans' hk5 fun i hi h => by simp [Value.ownBlock] at h; omega
                rcases id hrow5.2 with ⟨_, h0⟩ | ⟨g5, cap5, cur5, rfl, _, _, _, _, _, _⟩
                · omega
                have hg5 := hnew5 g5 rfl
                have HR5 := hid hrow5
                clear ha hk5 hrow5 hnew5
                go_wp2
                go_roundw
                case rel => exact ⟨_, g5, cap5, rfl, by go_num, by omega, HR5.out, hg5, hf5⟩
                case measure => simp [intOf]
            · obtain rfl : j = 8 := by omega
              have hbl := bytesOf_len (Eight.list ⟨va, vb, vc, vd, ve, vf, vg, vh⟩) 8 (by omega)
              have hct := run_text_of_row (P := Tryd.prog) (w := wr) (base := 0) (e := 5) (v := .slice (some ⟨gb, 0, none⟩) (4 * 8) cap) (bs := bytesOf (Eight.list ⟨va, vb, vc, vd, ve, vf, vg, vh⟩) 8) 53 9 Tryd.underlying53 Tryd.underlying5 Tryd.underlying9 (by rw [hbl]; exact hrow)
              rw [← hsha.out] at hct
              have hct2 : (convert 53 9 (.slice (some ⟨gb, 0, none⟩) (4 * 8) cap)).run Tryd.prog wr = .ok (.string (str (sha t))) wr := hct
              clear hct hrow
              go_wp2
              go_ret
              exact ⟨rfl, hf⟩
end Go.Proofs.YtmflbchiapdhbaaDoor
