/-
  The program's Hasher: Write.
  The program's Hasher: a new one.
  The program's Hasher: Sum.
  The program's digest of some texts, one behind the other.
  The digest's two package variables, as a row lists them.
-/
import Derived.Test.YtmflbchiapdhbaaGreatDoorMShaB
import Derived.Test.YtmflbchiapdhbaaGreatDoorShaPBlock
import Derived.Lib.LaidTab
namespace Go.Proofs.YtmflbchiapdhbaaGreatDoor
open Go.RowKit

set_option maxRecDepth 100000 in
set_option maxHeartbeats 2000000 in
theorem write_any (t : List UInt8) (v : Eight) (rest s : List UInt8) (g : Nat) (w : World) (hT : TabLaid w) (hgn : 3 ≤ g) (hH : Hashed t v rest) (hv : v.ok) (hlen : t.length + s.length ≤ 70368744177664)
    (hg : w.heap[g]? = some (.cells (hcells v rest (t.length : Int)) 112 (0, 0))) :
    Calls Tryz.prog 42 #[.pointer (some ⟨g, 0, none⟩), .string (str s)] w fun e w' => e = .returned (.tuple #[]) ∧ Keeps (fun k => k = g) w w' ∧
      ∃ v' rest', Hashed (t ++ s) v' rest' ∧ v'.ok ∧ w'.heap[g]? = some (.cells (hcells v' rest' ((t ++ s).length : Int)) 112 (0, 0)) := by
  have hglt := lt_of_block hg
  go_enter Tryz.func42, Tryz.ntmps42
  go_wp2_with fail
  go_loopw [1] (fun s' wr => ∃ (p r : List UInt8) (v : Eight) (rest : List UInt8), s' = .string (str r) ∧ s = p ++ r ∧ Hashed (t ++ p) v rest ∧ v.ok ∧ wr.heap[g]? = some (.cells (hcells v rest ((t ++ p).length : Int)) 112 (0, 0)) ∧ Keeps (fun k => k = g) w wr) (fun s' _ => match s' with | .string b => b.size | _ => 0)
  case atStart => exact ⟨[], s, v, rest, rfl, rfl, by simpa using hH, hv, by simpa using hg, Keeps.refl _ _⟩
  case round =>
    clear hH hv hg
    obtain ⟨p, r, v, rest, rfl, hs, hH, hv, hg, hk⟩ := hrel
    have hszr := str_size r
    by_cases hpos : 0 < r.length
    · obtain ⟨N, hN⟩ : ∃ N, N = (t ++ p).length := ⟨_, rfl⟩
      obtain ⟨a, ha⟩ : ∃ a, a = N % 64 := ⟨_, rfl⟩
      obtain ⟨m, hm⟩ : ∃ m, m = Nat.min r.length (64 - a) := ⟨_, rfl⟩
      have hr64 := hH.at_
      have ha64 : a < 64 := by omega
      have hm1 : m ≤ r.length := by rw [hm]; exact Nat.min_le_left _ _
      have hm2 : m ≤ 64 - a := by rw [hm]; exact Nat.min_le_right _ _
      have hm0 : 0 < m := by rw [hm]; exact Nat.lt_min.2 ⟨hpos, by omega⟩
      have hNb : N + r.length ≤ 70368744177664 := by rw [hN]; rw [hs] at hlen; simp at hlen ⊢; omega
      have hml : (r.take m).length = m := by simp; omega
      have cn : wr.cell? ⟨g, 72, none⟩ = some (.int .i64 (N : Int)) := by rw [cell_at hg, hcells_many hr64, hN]
      have hsl := slice_rest wr g a ha64
      have hcopy := copy_part (P := Tryz.prog) wr 47 9 3 5 g (8 + a) (64 - a) (64 - a) r (hcells v rest (N : Int)) 112 m hm.symm Tryz.underlying47 Tryz.sizeByte (by rw [hN]; exact hg) (by rw [hcells_size hr64]; omega)
      have hcc := hcells_copy (v := v) (n := (N : Int)) (p := r.take m) (a := a) hr64 (by omega)
      rw [hml] at hcc
      rw [hcc] at hcopy
      have hext : (str r).extract m r.length = str (r.drop m) := str_from r m
      have hamod : (N : Int) % 64 = (a : Int) := by omega
      have hs2 : s = (p ++ r.take m) ++ r.drop m := by rw [hs]; simp
      have hk2 : (keptOf rest a (r.take m)).length = 64 := keptOf_len hr64 (by omega)
      have hkw : Keeps (fun k => k = g) w (wr.setRow g (hcells v (keptOf rest a (r.take m)) (N : Int))) := hk.trans (setRow_keeps _)
      have hgw : (wr.setRow g (hcells v (keptOf rest a (r.take m)) (N : Int))).heap[g]? = some (.cells (hcells v (keptOf rest a (r.take m)) (N : Int)) 112 (0, 0)) := setRow_heap _ _ _ _ _ _ hg
      obtain ⟨w2, hw2⟩ : ∃ w2, w2 = wr.setRow g (hcells v (keptOf rest a (r.take m)) (N : Int)) := ⟨_, rfl⟩
      rw [← hw2] at hcopy hkw hgw
      have cn2 : w2.cell? ⟨g, 72, none⟩ = some (.int .i64 (N : Int)) := by rw [cell_at hgw, hcells_many hk2]
      have fn2 := free_at hgw 72
      have haN : a = (t ++ p).length % 64 := by rw [ha, hN]
      have HAN := hid haN
      have HN := hid hN
      clear hm hcc hw2 ha haN hN
      have hgs : (w2.setCell ⟨g, 72, none⟩ (.int .i64 ((N : Int) + (m : Int)))).heap[g]? = some (.cells (hcells v (keptOf rest a (r.take m)) ((N : Int) + (m : Int))) 112 (0, 0)) := by
        have := heap_setCell_at hgw 72 (.int .i64 ((N : Int) + (m : Int)))
        rwa [hcells_setn hk2] at this
      have hks : Keeps (fun k => k = g) w (w2.setCell ⟨g, 72, none⟩ (.int .i64 ((N : Int) + (m : Int)))) := Keeps.setCell (S := fun k => k = g) hkw (p := ⟨g, 72, none⟩) (fun _ => rfl) _
      have hNm : (((t ++ (p ++ r.take m)).length : Nat) : Int) = (N : Int) + (m : Int) := by rw [← List.append_assoc, List.length_append, ← HN.out, hml]; omega
      have hdl : (r.drop m).length < r.length := by simp; omega
      have hszd := str_size (r.drop m)
      by_cases hfull : a + m = 64
      · have hq : ((a : Int) + (m : Int) == 64) = true := by simp; omega
        have hfl := hH.full (p := r.take m) (by rw [← HAN.out, hml]; exact hfull)
        rw [← HAN.out, List.append_assoc] at hfl
        have HFL := hid hfl
        have HNM := hid hNm
        clear hfl hNm hgw
        go_wp2_with (at_builtin; refine wpList_copy_to wr rfl (.tmp 18) (.tmp 19) 47 9 rfl _ _ rfl rfl hcopy ?_)
        go_still_tail 6, (by kernel_rfl)
        change wpList _ _ _ _ _ (w2.setCell ⟨g, 72, none⟩ (.int .i64 ((N : Int) + (m : Int)))).drew
        have hgs2 : (w2.setCell ⟨g, 72, none⟩ (.int .i64 ((N : Int) + (m : Int)))).drew.heap[g]? = some (.cells (hcells v (keptOf rest a (r.take m)) ((N : Int) + (m : Int))) 112 (0, 0)) := hgs
        have hks2 := hks.drew
        clear hgs hks
        generalize (w2.setCell ⟨g, 72, none⟩ (.int .i64 ((N : Int) + (m : Int)))).drew = w3 at *
        have hT3 := hT.keeps hks2 (by omega)
        go_wp2_with fail
        refine (pblock_any v hv _ hk2 _ g w3 hT3 hgn hgs2).mono ?_
        rintro e w4 ⟨rfl, hk4, hg4⟩
        go_wp2
        go_roundw
        case rel => exact ⟨p ++ r.take m, r.drop m, _, _, rfl, hs2, HFL.out, Eight.add_ok _ _, by rw [HNM.out]; exact hg4, hks2.trans hk4⟩
        case measure => simp only [hszd, hszr]; exact hdl
      · have hq : ((a : Int) + (m : Int) == 64) = false := by simp; omega
        have hpt := hH.part (p := r.take m) (by rw [← HAN.out, hml]; omega)
        rw [← HAN.out, List.append_assoc] at hpt
        have HPT := hid hpt
        have HNM := hid hNm
        clear hpt hNm hgw
        go_wp2_with (at_builtin; refine wpList_copy_to wr rfl (.tmp 18) (.tmp 19) 47 9 rfl _ _ rfl rfl hcopy ?_)
        go_roundw
        case rel => exact ⟨p ++ r.take m, r.drop m, v, _, rfl, hs2, HPT.out, hv, by rw [HNM.out]; exact hgs, hks⟩
        case measure => simp only [hszd, hszr]; exact hdl
    · have hr0 : r = [] := List.eq_nil_of_length_eq_zero (by omega)
      subst hr0
      rw [List.append_nil] at hs
      subst hs
      go_wp2
      go_end0
      exact ⟨rfl, hk, v, rest, hH, hv, hg⟩
end Go.Proofs.YtmflbchiapdhbaaGreatDoor

namespace Go.Proofs.YtmflbchiapdhbaaGreatDoor
open Go.RowKit

/-- the first state lies in its variable -/
def FirstLaid (w : World) : Prop := ∀ j, j < 8 → w.cell? ⟨0, j, none⟩ = some (.int .u32 (eight0.list.getD j 0 : Int))
theorem FirstLaid.keeps {S : Nat → Prop} {w w' : World} (h : FirstLaid w) (hk : Keeps S w w') (hn : ¬ S 0) : FirstLaid w' := fun t ht =>
  (hk.cell (p := ⟨0, t, none⟩) (World.block_lt_of_cell? w _ (h t ht)) hn).trans (h t ht)
def rest0 : List UInt8 := List.replicate 64 0
set_option maxRecDepth 100000 in
set_option maxHeartbeats 1000000 in
theorem pnew_any (w : World) (hF : FirstLaid w) :
    Calls Tryz.prog 41 #[] w fun e w' => e = .returned (.pointer (some ⟨w.heap.size, 0, none⟩)) ∧ Fresh w w' ∧ w'.heap[w.heap.size]? = some (.cells (hcells eight0 rest0 0) 112 (0, 0)) := by
  have c0 := hF 0 (by decide)
  have c1 := hF 1 (by decide)
  have c2 := hF 2 (by decide)
  have c3 := hF 3 (by decide)
  have c4 := hF 4 (by decide)
  have c5 := hF 5 (by decide)
  have c6 := hF 6 (by decide)
  have c7 := hF 7 (by decide)
  simp only [eight0, Eight.list, List.getD_cons_zero, List.getD_cons_succ] at c0 c1 c2 c3 c4 c5 c6 c7
  go_enter Tryz.func41, Tryz.ntmps41
  go_wp2_with (first | (refine wpList_build_to rfl 112 _ rfl (hcells eight0 rest0 0) (by kernel_rfl) ?_))
  go_ret
  exact ⟨rfl, (Keeps.refl _ _).alloc _, heap_alloc_new w _⟩
theorem hcells_one (v : Eight) (rest : List UInt8) (n : Int) : (hcells v rest n).all (·.oneCell') = true := by
  rw [Array.all_eq_true_iff_forall_mem]
  intro x hx
  simp only [hcells, u8s, List.mem_toArray, List.mem_append, List.mem_map, List.mem_cons, List.not_mem_nil, or_false] at hx
  rcases hx with ⟨a, _, rfl⟩ | ⟨a, _, rfl⟩ | rfl <;> rfl
theorem Tryz.sizeHasher : (Tryz.prog.info? 112).map (·.size) = some 73 := by kernel_rfl
end Go.Proofs.YtmflbchiapdhbaaGreatDoor

namespace Go.Proofs.YtmflbchiapdhbaaGreatDoor
open Go.RowKit

noncomputable def Tryz.hasherFields : Array Field := match Tryz.prog.underlying 112 with
  | some (.struct fs) => fs
  | _ => #[]
theorem Tryz.hasherUnder : Tryz.prog.underlying 112 = some (.struct Tryz.hasherFields) := by kernel_rfl
/-- what Sum puts behind: 128, noughts -/
def tail (k : Nat) : List UInt8 := 128 :: List.replicate k 0
theorem tail_succ (k : Nat) : tail k ++ [0] = tail (k + 1) := by simp [tail, List.replicate_succ']
theorem tail_len (k : Nat) : (tail k).length = k + 1 := by simp [tail]

/-- the first j of eight bytes -/
def lead (B j : Nat) : List UInt8 := (bigEnd B 8).take j
theorem lead_succ (B : Nat) {j : Nat} (h : j < 8) : lead B j ++ [UInt8.ofNat (B / 256 ^ (7 - j))] = lead B (j + 1) := by
  rcases (by omega : j = 0 ∨ j = 1 ∨ j = 2 ∨ j = 3 ∨ j = 4 ∨ j = 5 ∨ j = 6 ∨ j = 7) with rfl | rfl | rfl | rfl | rfl | rfl | rfl | rfl <;> simp [lead, bigEnd]
theorem lead_len (B : Nat) {j : Nat} (h : j ≤ 8) : (lead B j).length = j := by simp [lead, bigEnd_len]; omega
theorem lead_all (B : Nat) : lead B 8 = bigEnd B 8 := by rw [lead, List.take_of_length_le (by rw [bigEnd_len]; omega)]
theorem u8s_cons (l : List UInt8) (x : UInt8) (y : Int) (h : y = (x.toNat : Int)) : u8s l ++ [Value.int .u8 y] = u8s (l ++ [x]) := by simp [u8s, h]

theorem state_ix0 (a0 a1 a2 a3 a4 a5 a6 a7 : Value) (u : World) : (Instr.index 109 (.agg #[a0, a1, a2, a3, a4, a5, a6, a7]) (.int .i64 0)).run Tryz.prog u = .ok a0 u := by kernel_rfl
theorem state_ix1 (a0 a1 a2 a3 a4 a5 a6 a7 : Value) (u : World) : (Instr.index 109 (.agg #[a0, a1, a2, a3, a4, a5, a6, a7]) (.int .i64 1)).run Tryz.prog u = .ok a1 u := by kernel_rfl
theorem state_ix2 (a0 a1 a2 a3 a4 a5 a6 a7 : Value) (u : World) : (Instr.index 109 (.agg #[a0, a1, a2, a3, a4, a5, a6, a7]) (.int .i64 2)).run Tryz.prog u = .ok a2 u := by kernel_rfl
theorem state_ix3 (a0 a1 a2 a3 a4 a5 a6 a7 : Value) (u : World) : (Instr.index 109 (.agg #[a0, a1, a2, a3, a4, a5, a6, a7]) (.int .i64 3)).run Tryz.prog u = .ok a3 u := by kernel_rfl
theorem state_ix4 (a0 a1 a2 a3 a4 a5 a6 a7 : Value) (u : World) : (Instr.index 109 (.agg #[a0, a1, a2, a3, a4, a5, a6, a7]) (.int .i64 4)).run Tryz.prog u = .ok a4 u := by kernel_rfl
theorem state_ix5 (a0 a1 a2 a3 a4 a5 a6 a7 : Value) (u : World) : (Instr.index 109 (.agg #[a0, a1, a2, a3, a4, a5, a6, a7]) (.int .i64 5)).run Tryz.prog u = .ok a5 u := by kernel_rfl
theorem state_ix6 (a0 a1 a2 a3 a4 a5 a6 a7 : Value) (u : World) : (Instr.index 109 (.agg #[a0, a1, a2, a3, a4, a5, a6, a7]) (.int .i64 6)).run Tryz.prog u = .ok a6 u := by kernel_rfl
theorem state_ix7 (a0 a1 a2 a3 a4 a5 a6 a7 : Value) (u : World) : (Instr.index 109 (.agg #[a0, a1, a2, a3, a4, a5, a6, a7]) (.int .i64 7)).run Tryz.prog u = .ok a7 u := by kernel_rfl
theorem src4 {P : Program} {tx e : TypeId} (hk : P.underlying tx = some (.slice e)) (w : World) (y0 y1 y2 y3 : Int) : Src P 1 tx (.slice (some ⟨w.heap.size, 0, none⟩) 4 4) 4 [.int .u8 y0, .int .u8 y1, .int .u8 y2, .int .u8 y3] (w.alloc (.cells #[.int .u8 y0, .int .u8 y1, .int .u8 y2, .int .u8 y3] e)) :=
  Src.ofSlice _ hk _ 4 4 _ rfl (fun j y hj => by
    match j, hj with
    | 0, hj => simp at hj; subst hj; simp [Addr.add]
    | 1, hj => simp at hj; subst hj; simp [Addr.add]
    | 2, hj => simp at hj; subst hj; simp [Addr.add]
    | 3, hj => simp at hj; subst hj; simp [Addr.add]
    | (j + 4), hj => simp at hj) (fun u hu => by simp at hu; rcases hu with rfl | rfl | rfl | rfl <;> rfl)
theorem u8s_word {l : List UInt8} {x : Nat} {y0 y1 y2 y3 : Int} (h0 : y0 = (x : Int) / 16777216 % 256) (h1 : y1 = (x : Int) / 65536 % 256) (h2 : y2 = (x : Int) / 256 % 256) (h3 : y3 = (x : Int) % 256) :
    u8s l ++ [Value.int .u8 y0, .int .u8 y1, .int .u8 y2, .int .u8 y3] = u8s (l ++ bigEnd x 4) := by
  have e : bigEnd x 4 = [UInt8.ofNat (x / 16777216), UInt8.ofNat (x / 65536), UInt8.ofNat (x / 256), UInt8.ofNat (x / 1)] := rfl
  have g : ∀ y : Nat, ((UInt8.ofNat y).toNat : Int) = ((y % 256 : Nat) : Int) := fun y => by rw [UInt8.toNat_ofNat']
  rw [e]
  simp only [u8s, List.map_append, List.map_cons, List.map_nil, g, h0, h1, h2, h3]
  congr 1
  have a0 : (x : Int) / 16777216 % 256 = ((x / 16777216 % 256 : Nat) : Int) := by omega
  have a1 : (x : Int) / 65536 % 256 = ((x / 65536 % 256 : Nat) : Int) := by omega
  have a2 : (x : Int) / 256 % 256 = ((x / 256 % 256 : Nat) : Int) := by omega
  have a3 : (x : Int) % 256 = ((x / 1 % 256 : Nat) : Int) := by omega
  rw [a0, a1, a2, a3]

set_option maxRecDepth 100000 in
set_option maxHeartbeats 2000000 in
theorem hsum_any (t : List UInt8) (v : Eight) (rest : List UInt8) (g : Nat) (w : World) (hT : TabLaid w) (hgn : 3 ≤ g) (hH : Hashed t v rest) (hv : v.ok) (hlen : t.length ≤ 70368744177000)
    (hg : w.heap[g]? = some (.cells (hcells v rest (t.length : Int)) 112 (0, 0))) :
    Calls Tryz.prog 43 #[.pointer (some ⟨g, 0, none⟩)] w fun e w' => e = .returned (.string (str (sha t))) ∧ Fresh w w' := by
  have hglt := lt_of_block hg
  have hr64 := hH.at_
  obtain ⟨i0, hi, hz0, hz1, hz2⟩ := info_parts Tryz.infoByte
  have hmk : ∀ u : World, (Instr.makeSlice 47 (.int .i64 1) (.int .i64 128)).run Tryz.prog u = .ok (.slice (some ⟨u.heap.size, 0, none⟩) 1 128) (u.alloc (.cells (madeCells #[.int .u8 0] 128) 5)) := fun u => by
    have h := run_make (P := Tryz.prog) u 47 5 i0 (.int .u8 0) Tryz.underlying47 hi hz0 .i64 .i64 1 128 (by omega) (by omega) (by rw [hz2]; omega) (by omega)
    simpa [hz1, Value.cells] using h
  obtain ⟨N, hN⟩ : ∃ N, N = t.length := ⟨_, rfl⟩
  rw [← hN] at hg
  have HN := hid hN
  have hNb : N ≤ 70368744177000 := by omega
  clear hN hlen
  have hm0 : (madeCells #[Value.int .u8 0] 128)[0]? = some (.int .u8 0) := by simp [madeCells]
  have hc0 : ∀ u : World, (u.alloc (.cells (madeCells #[.int .u8 0] 128) 5)).cell? ⟨u.heap.size, 0, none⟩ = some (.int .u8 0) := fun u => by
    rw [cell_at (heap_alloc_new u _)]
    simp [madeCells]
  go_enter Tryz.func43, Tryz.ntmps43
  go_wp2_with (first | (refine wpList_load_row rfl 112 (.tmp 10) rfl g rfl 112 _ (0, 0) _ hg Tryz.hasherUnder rfl (by rw [Tryz.sizeHasher, hcells_size hr64]) ?_) | (refine wpList_store_row rfl 112 (.tmp 3) (.tmp 11) rfl w.heap.size (hcells v rest (N : Int)) rfl rfl 112 _ (heap_alloc_last w _) (by rw [Tryz.sizeHasher, hcells_size hr64]) (by rw [hcells_size hr64]; rfl) (hcells_one _ _ _) ?_; rw [World.setRow_alloc_new]))
  go_upto_region 4 with (fail)
  obtain ⟨z, hz⟩ : ∃ z, z = noughts N := ⟨_, rfl⟩
  have hzm : (N + 1 + z) % 64 = 56 := by rw [hz]; unfold noughts; omega
  have hzl : z < 64 := by rw [hz]; unfold noughts; omega
  have HZ := hid hz
  have HZM := hid hzm
  have k0 : Fresh w (w.alloc (.cells (hcells v rest (N : Int)) 112)) := (Keeps.refl _ _).alloc _
  have k2 : Fresh w ((w.alloc (.cells (hcells v rest (N : Int)) 112)).alloc (.cells ((madeCells #[.int .u8 0] 128).setIfInBounds 0 (.int .u8 128)) 5)) := k0.alloc _
  have hgb := heap_alloc_new (w.alloc (.cells (hcells v rest (N : Int)) 112)) (.cells ((madeCells #[.int .u8 0] 128).setIfInBounds 0 (.int .u8 128)) 5)
  simp only [World.size_alloc] at hgb
  have hms : (madeCells #[Value.int .u8 0] 128).size = 128 := by simp [madeCells]
  have hrow : ((w.alloc (.cells (hcells v rest (N : Int)) 112)).alloc (.cells ((madeCells #[.int .u8 0] 128).setIfInBounds 0 (.int .u8 128)) 5)).ownsRow 0 5 1 (.slice (some ⟨w.heap.size + 1, 0, none⟩) 1 128) 1 (u8s (tail 0)) :=
    ⟨by simp [u8s, tail], .inr ⟨w.heap.size + 1, 128, _, rfl, by omega, hgb, by omega, by unfold maxLen; omega, by simp [hms], by
      simp only [Nat.mul_one, Array.toList_setIfInBounds]
      have hne : (madeCells #[Value.int .u8 0] 128).toList ≠ [] := by intro h; have := congrArg List.length h; simp [hms] at this
      obtain ⟨x, l, hx⟩ := List.exists_cons_of_ne_nil hne
      rw [hx]
      simp [u8s, tail]⟩⟩
  have hcw : ((w.alloc (.cells (hcells v rest (N : Int)) 112)).alloc (.cells ((madeCells #[.int .u8 0] 128).setIfInBounds 0 (.int .u8 128)) 5)).heap[w.heap.size]? = some (.cells (hcells v rest (N : Int)) 112 (0, 0)) := by
    rw [Below.heap_alloc _ _ _ (by simp)]
    exact heap_alloc_new w _
  clear hz hzm hgb hms hmk hc0 hm0 k0
  go_loopw [4] (fun f wr => ∃ (k gb cap : Nat), f = .slice (some ⟨gb, 0, none⟩) (k + 1) cap ∧ k ≤ z ∧ wr.ownsRow 0 5 1 (.slice (some ⟨gb, 0, none⟩) (k + 1) cap) (k + 1) (u8s (tail k)) ∧ w.heap.size < gb ∧
    wr.heap[w.heap.size]? = some (.cells (hcells v rest (N : Int)) 112 (0, 0)) ∧ Fresh w wr) (fun f _ => match f with | .slice _ n _ => z + 1 - n | _ => 0)
  case atStart => exact ⟨0, _, _, rfl, by omega, hrow, by omega, hcw, k2⟩
  case round =>
    clear hrow hcw k2
    obtain ⟨k, gb, cap, rfl, hk, hrow, hgb, hcw, hf⟩ := hrel
    have cn : wr.cell? ⟨g, 72, none⟩ = some (.int .i64 (N : Int)) := by rw [cell_at (hf.at_ hg (fun h => h)), hcells_many hr64]
    by_cases hkz : k < z
    · have hne : ((N : Int) + ((k : Int) + 1)) % 64 ≠ 56 := by have := HZM.out; omega
      go_wp2_with (at_builtin; refine wpList_push rfl (.tmp 24) (.tmp 25) 47 rfl 5 i0 (.int .u8 0) 1 Tryz.underlying47 hi hz0 hz1 hz2 rfl wr hrow _ (by rfl) (by rfl) rfl (by omega) (by unfold maxLen; omega) ?_)
      intro v5 w5 ha
      have hk5 := ha.keeps
      have hrow5 := ha.row
      have e5 : u8s (tail k) ++ [Value.int .u8 0] = u8s (tail (k + 1)) := by rw [← tail_succ]; simp [u8s]
      rw [e5] at hrow5
      have hnew5 : ∀ g', v5.ownBlock = some g' → w.heap.size < g' := fun g' hg' => by
        rcases ha.own g' hg' with h | h
        · simp [Value.ownBlock] at h; omega
        · have := hf.size; have := lt_of_block hcw; omega
      have hf5 : Fresh w w5 := hf.trans' hk5 fun i hi h => by simp [Value.ownBlock] at h; omega
      have hcw5 := hk5.at_ hcw (fun h => by simp [Value.ownBlock] at h; omega)
      rcases id hrow5.2 with ⟨_, h0⟩ | ⟨g5, cap5, cur5, rfl, _, _, _, _, _, _⟩
      · omega
      have hg5 := hnew5 g5 rfl
      have HR5 := hid hrow5
      clear ha hk5 e5 hrow5 hnew5
      go_wp2
      go_roundw
      case rel => exact ⟨k + 1, g5, cap5, rfl, by omega, HR5.out, hg5, hcw5, hf5⟩
      case measure => simp only; omega
    · obtain rfl : k = z := by omega
      have h56 : ((N : Int) + ((k : Int) + 1)) % 64 = 56 := by have := HZM.out; omega
      go_wp2
      clear cn h56 hkz hk
      have hw8 : 8 * (N : Int) < 9223372036854775808 := by omega
      go_loopw [4, 5] (fun f sh wr => ∃ (j gb cap : Nat), f = .slice (some ⟨gb, 0, none⟩) (k + 1 + j) cap ∧ sh = .int .i64 (56 - 8 * (j : Int)) ∧ j ≤ 8 ∧ wr.ownsRow 0 5 1 (.slice (some ⟨gb, 0, none⟩) (k + 1 + j) cap) (k + 1 + j) (u8s (tail k ++ lead (8 * N) j)) ∧ w.heap.size < gb ∧
        wr.heap[w.heap.size]? = some (.cells (hcells v rest (N : Int)) 112 (0, 0)) ∧ Fresh w wr) (fun _ sh _ => (intOf sh + 8).toNat)
      case atStart => exact ⟨0, gb, cap, rfl, rfl, by omega, by simpa [lead] using hrow, hgb, hcw, hf⟩
      case round =>
        clear hrow hgb hcw hf
        obtain ⟨j, gb, cap, rfl, rfl, hj, hrow, hgb, hcw, hf⟩ := hrel
        have cn : wr.cell? ⟨g, 72, none⟩ = some (.int .i64 (N : Int)) := by rw [cell_at (hf.at_ hg (fun h => h)), hcells_many hr64]
        by_cases hj8 : j < 8
        · have hls := lead_succ (8 * N) hj8
          have HLS := hid hls
          clear hls
          have hx : ∀ y : Int, y = ((UInt8.ofNat (8 * N / 256 ^ (7 - j))).toNat : Int) → u8s (tail k ++ lead (8 * N) j) ++ [Value.int .u8 y] = u8s (tail k ++ lead (8 * N) (j + 1)) := fun y hy => by
            rw [u8s_cons _ _ y hy, List.append_assoc, HLS.out]
          have HX := hid hx
          clear hx
          rcases (by omega : j = 0 ∨ j = 1 ∨ j = 2 ∨ j = 3 ∨ j = 4 ∨ j = 5 ∨ j = 6 ∨ j = 7) with rfl | rfl | rfl | rfl | rfl | rfl | rfl | rfl
          all_goals
            go_wp2_with (at_builtin; refine wpList_push rfl (.tmp 31) (.tmp 40) 47 rfl 5 i0 (.int .u8 0) 1 Tryz.underlying47 hi hz0 hz1 hz2 rfl wr hrow _ (by rfl) (by rfl) rfl (by omega) (by unfold maxLen; omega) ?_)
            intro v5 w5 ha
            have hk5 := ha.keeps
            have hrow5 := ha.row
            rw [HX.out _ (by simp only [UInt8.toNat_ofNat']; first | omega | (simp; done) | (simp; omega))] at hrow5
            have hnew5 : ∀ g', v5.ownBlock = some g' → w.heap.size < g' := fun g' hg' => by
              rcases ha.own g' hg' with h | h
              · simp [Value.ownBlock] at h; omega
              · have := hf.size; have := lt_of_block hcw; omega
            have hf5 : Fresh w w5 := hf.trans' hk5 fun i hi h => by simp [Value.ownBlock] at h; omega
            have hcw5 := hk5.at_ hcw (fun h => by simp [Value.ownBlock] at h; omega)
            rcases id hrow5.2 with ⟨_, h0⟩ | ⟨g5, cap5, cur5, rfl, _, _, _, _, _, _⟩
            · omega
            have hg5 := hnew5 g5 rfl
            have HR5 := hid hrow5
            clear ha hk5 hrow5 hnew5
            go_wp2
            go_roundw
            case rel => exact ⟨_, g5, cap5, rfl, by go_num, by omega, HR5.out, hg5, hcw5, hf5⟩
            case measure => simp [intOf]
        · obtain rfl : j = 8 := by omega
          rw [lead_all] at hrow
          have hbl : (tail k ++ bigEnd (8 * N) 8).length = k + 1 + 8 := by rw [List.length_append, tail_len, bigEnd_len]
          have hct := run_text_of_row (P := Tryz.prog) (w := wr) (base := 0) (e := 5) (v := .slice (some ⟨gb, 0, none⟩) (k + 1 + 8) cap) (bs := tail k ++ bigEnd (8 * N) 8) 47 9 Tryz.underlying47 Tryz.underlying5 Tryz.underlying9 (by rw [hbl]; exact hrow)
          have hfin : Hid (t ++ (tail k ++ bigEnd (8 * N) 8) = filledUp t) := by
            have := filledUp_eq t (8 * N) (by rw [HN.out] at hNb ⊢; omega)
            rw [← HN.out, ← HZ.out] at this
            rw [Hid, ← this]
            simp [fillTo, tail]
          have hTr := hT.keeps hf (fun h => h)
          rw [HN.out] at hcw
          generalize hB : tail k ++ bigEnd (8 * N) 8 = B at hbl hct hfin
          have hct2 : (convert 47 9 (.slice (some ⟨gb, 0, none⟩) (k + 1 + 8) cap)).run Tryz.prog wr = .ok (.string (str B)) wr := hct
          have hNb2 : t.length + B.length ≤ 70368744177664 := by rw [hbl, ← HN.out]; omega
          clear hB hct hrow hgb
          go_wp2_with fail
          refine (write_any t v rest B w.heap.size wr hTr (by omega) hH hv hNb2 hcw).mono ?_
          rintro e w6 ⟨rfl, hk6, v', rest', hH', hv', hg'⟩
          have hf6 : Fresh w w6 := hf.trans' hk6 fun i hi h => by omega
          rw [hfin.out] at hH' hg'
          have hst := hH'.whole (filledUp_len t)
          have hsha : Hid (sha t = bytesOf v'.list 8) := by rw [Hid, hst]; rfl
          have hlt' := eight_lt hv'
          obtain ⟨va, vb, vc, vd, ve, vf, vg, vh⟩ := v'
          have h0 := cell_at hg' 0
          have h1 := cell_at hg' 1
          have h2 := cell_at hg' 2
          have h3 := cell_at hg' 3
          have h4 := cell_at hg' 4
          have h5 := cell_at hg' 5
          have h6 := cell_at hg' 6
          have h7 := cell_at hg' 7
          rw [hcells_state (by decide)] at h0 h1 h2 h3 h4 h5 h6 h7
          simp only [Eight.list, List.getD_cons_zero, List.getD_cons_succ] at h0 h1 h2 h3 h4 h5 h6 h7
          have hwl6 := lt_of_block hg'
          clear hst hH' hk6 hcw hct2 hTr hg' hf hfin cn hj hj8
          go_wp2_with (at_make; refine wpList_make_own _ rfl (.const (.int .i64 0)) (.const (.int .i64 32)) 47 rfl 0 5 i0 (.int .u8 0) 1 Tryz.underlying47 hi hz0 hz1 .i64 .i64 32 32 rfl rfl rfl (by rw [hz2]; omega) (by unfold maxLen; omega) (Nat.zero_le _) ?_)
          intro w7 hrow7 hgr7
          have k7 : Fresh w6 w7 := (Keeps.refl _ w6).grown hgr7 (fun k h => by cases h)
          have hf7 := hf6.trans k7
          have q0 := (k7.cell (p := ⟨w.heap.size, 0, none⟩) hwl6 (fun h => h)).trans h0
          have q1 := (k7.cell (p := ⟨w.heap.size, 1, none⟩) hwl6 (fun h => h)).trans h1
          have q2 := (k7.cell (p := ⟨w.heap.size, 2, none⟩) hwl6 (fun h => h)).trans h2
          have q3 := (k7.cell (p := ⟨w.heap.size, 3, none⟩) hwl6 (fun h => h)).trans h3
          have q4 := (k7.cell (p := ⟨w.heap.size, 4, none⟩) hwl6 (fun h => h)).trans h4
          have q5 := (k7.cell (p := ⟨w.heap.size, 5, none⟩) hwl6 (fun h => h)).trans h5
          have q6 := (k7.cell (p := ⟨w.heap.size, 6, none⟩) hwl6 (fun h => h)).trans h6
          have q7 := (k7.cell (p := ⟨w.heap.size, 7, none⟩) hwl6 (fun h => h)).trans h7
          have hz6 := hf6.size
          clear h0 h1 h2 h3 h4 h5 h6 h7 hgr7 k7
          go_wp2
          clear q0 q1 q2 q3 q4 q5 q6 q7
          have ix0 := state_ix0 (.int .u32 va) (.int .u32 vb) (.int .u32 vc) (.int .u32 vd) (.int .u32 ve) (.int .u32 vf) (.int .u32 vg) (.int .u32 vh)
          have ix1 := state_ix1 (.int .u32 va) (.int .u32 vb) (.int .u32 vc) (.int .u32 vd) (.int .u32 ve) (.int .u32 vf) (.int .u32 vg) (.int .u32 vh)
          have ix2 := state_ix2 (.int .u32 va) (.int .u32 vb) (.int .u32 vc) (.int .u32 vd) (.int .u32 ve) (.int .u32 vf) (.int .u32 vg) (.int .u32 vh)
          have ix3 := state_ix3 (.int .u32 va) (.int .u32 vb) (.int .u32 vc) (.int .u32 vd) (.int .u32 ve) (.int .u32 vf) (.int .u32 vg) (.int .u32 vh)
          have ix4 := state_ix4 (.int .u32 va) (.int .u32 vb) (.int .u32 vc) (.int .u32 vd) (.int .u32 ve) (.int .u32 vf) (.int .u32 vg) (.int .u32 vh)
          have ix5 := state_ix5 (.int .u32 va) (.int .u32 vb) (.int .u32 vc) (.int .u32 vd) (.int .u32 ve) (.int .u32 vf) (.int .u32 vg) (.int .u32 vh)
          have ix6 := state_ix6 (.int .u32 va) (.int .u32 vb) (.int .u32 vc) (.int .u32 vd) (.int .u32 ve) (.int .u32 vf) (.int .u32 vg) (.int .u32 vh)
          have ix7 := state_ix7 (.int .u32 va) (.int .u32 vb) (.int .u32 vc) (.int .u32 vd) (.int .u32 ve) (.int .u32 vf) (.int .u32 vg) (.int .u32 vh)
          have hLL : (Eight.list ⟨va, vb, vc, vd, ve, vf, vg, vh⟩).length = 8 := rfl
          go_loopw [6, 48] (fun f i wr => ∃ (j gb cap : Nat), f = .slice (some ⟨gb, 0, none⟩) (4 * j) cap ∧ i = .int .i64 (j : Int) ∧ j ≤ 8 ∧ wr.ownsRow 0 5 1 (.slice (some ⟨gb, 0, none⟩) (4 * j) cap) (4 * j) (u8s (bytesOf (Eight.list ⟨va, vb, vc, vd, ve, vf, vg, vh⟩) j)) ∧ w.heap.size < gb ∧ Fresh w wr) (fun _ i _ => 8 - (intOf i).toNat)
          case atStart => exact ⟨0, _, _, rfl, rfl, by omega, by simpa [bytesOf, u8s] using hrow7, by omega, hf7⟩
          case round =>
            clear hrow7 hf7 hf6 hwl6 hz6
            obtain ⟨j, gb, cap, rfl, rfl, hj, hrow, hgb, hf⟩ := hrel
            by_cases hj8 : j < 8
            · have hx : ∀ y0 y1 y2 y3 : Int, y0 = ((Eight.list ⟨va, vb, vc, vd, ve, vf, vg, vh⟩).getD j 0 : Int) / 16777216 % 256 → y1 = ((Eight.list ⟨va, vb, vc, vd, ve, vf, vg, vh⟩).getD j 0 : Int) / 65536 % 256 →
                  y2 = ((Eight.list ⟨va, vb, vc, vd, ve, vf, vg, vh⟩).getD j 0 : Int) / 256 % 256 → y3 = ((Eight.list ⟨va, vb, vc, vd, ve, vf, vg, vh⟩).getD j 0 : Int) % 256 →
                  u8s (bytesOf (Eight.list ⟨va, vb, vc, vd, ve, vf, vg, vh⟩) j) ++ [Value.int .u8 y0, .int .u8 y1, .int .u8 y2, .int .u8 y3] = u8s (bytesOf (Eight.list ⟨va, vb, vc, vd, ve, vf, vg, vh⟩) (j + 1)) := fun y0 y1 y2 y3 e0 e1 e2 e3 => by
                rw [u8s_word e0 e1 e2 e3, bytesOf_succ (by omega)]
              have HX := hid hx
              clear hx
              rcases (by omega : j = 0 ∨ j = 1 ∨ j = 2 ∨ j = 3 ∨ j = 4 ∨ j = 5 ∨ j = 6 ∨ j = 7) with rfl | rfl | rfl | rfl | rfl | rfl | rfl | rfl
              all_goals
                go_wp2_with (at_builtin; refine wpList_append_src rfl (.tmp 51) (.tmp 63) 47 47 rfl 5 i0 (.int .u8 0) 1 1 Tryz.underlying47 hi hz0 hz1 hz2 rfl (by decide) (hrow.alloc _) (.slice (some ⟨wr.heap.size, 0, none⟩) 4 4) 4 [_, _, _, _] (by rfl) (by rfl) (src4 Tryz.underlying47 wr _ _ _ _) (by unfold maxLen; omega) (by omega) ?_)
                intro v5 w5 ha
                have hk5 := ha.keeps
                have hrow5 := ha.row
                rw [HX.out _ _ _ _ (by first | rfl | (simp; done) | (simp; omega)) (by first | rfl | (simp; done) | (simp; omega)) (by first | rfl | (simp; done) | (simp; omega)) (by first | rfl | (simp; done) | (simp; omega))] at hrow5
                have hnew5 : ∀ g', v5.ownBlock = some g' → w.heap.size < g' := fun g' hg' => by
                  have := hf.size
                  rcases ha.own g' hg' with h | h
                  · simp [Value.ownBlock] at h; omega
                  · have := h.1; simp at this; omega
                have hf5 : Fresh w w5 := (hf.alloc _).trans' hk5 fun i hi h => by simp [Value.ownBlock] at h; omega
                rcases id hrow5.2 with ⟨_, h0⟩ | ⟨g5, cap5, cur5, rfl, _, _, _, _, _, _⟩
                · omega
                have hg5 := hnew5 g5 rfl
                have HR5 := hid hrow5
                clear ha hk5 hrow5 hnew5
                go_wp2
                go_roundw
                case rel => exact ⟨_, g5, cap5, rfl, by go_num, by omega, HR5.out, hg5, hf5⟩
                case measure => simp [intOf]
            · obtain rfl : j = 8 := by omega
              have hbl := bytesOf_len (Eight.list ⟨va, vb, vc, vd, ve, vf, vg, vh⟩) 8 (by omega)
              have hct := run_text_of_row (P := Tryz.prog) (w := wr) (base := 0) (e := 5) (v := .slice (some ⟨gb, 0, none⟩) (4 * 8) cap) (bs := bytesOf (Eight.list ⟨va, vb, vc, vd, ve, vf, vg, vh⟩) 8) 47 9 Tryz.underlying47 Tryz.underlying5 Tryz.underlying9 (by rw [hbl]; exact hrow)
              rw [← hsha.out] at hct
              have hct2 : (convert 47 9 (.slice (some ⟨gb, 0, none⟩) (4 * 8) cap)).run Tryz.prog wr = .ok (.string (str (sha t))) wr := hct
              clear hct hrow
              go_wp2
              go_ret
              exact ⟨rfl, hf⟩
end Go.Proofs.YtmflbchiapdhbaaGreatDoor

namespace Go.Proofs.YtmflbchiapdhbaaGreatDoor
open Go.RowKit

/-- a list of texts in memory -/
def TextsAt (w : World) (v : Value) (l : List (List UInt8)) : Prop :=
  ∃ ao cap, v = .slice ao l.length cap ∧ ∀ (k : Nat) (s : List UInt8), l[k]? = some s → ∃ bb off, ao = some ⟨bb, off, none⟩ ∧ bb < w.heap.size ∧ w.cell? ⟨bb, off + k, none⟩ = some (.string (str s))
theorem take_more {α : Type} {l : List (List α)} {k : Nat} {s : List α} (h : l[k]? = some s) : (l.take (k + 1)).flatten = (l.take k).flatten ++ s := by
  rw [List.take_add_one, h]
  simp
theorem flat_le {α : Type} (l : List (List α)) (k : Nat) : (l.take k).flatten.length ≤ l.flatten.length := by
  have h : l.flatten = (l.take k).flatten ++ (l.drop k).flatten := by rw [← List.flatten_append, List.take_append_drop]
  rw [h, List.length_append]
  omega

set_option maxRecDepth 100000 in
set_option maxHeartbeats 1000000 in
theorem psum_any (v : Value) (l : List (List UInt8)) (w : World) (hl : TextsAt w v l) (hT : TabLaid w) (hF : FirstLaid w) (hng : 3 ≤ w.heap.size) (hn : l.length ≤ 9223372036854775807) (hb : l.flatten.length ≤ 70368744177000) :
    Calls Tryz.prog 15 #[v] w fun e w' => e = .returned (.string (str (sha l.flatten))) ∧ Fresh w w' := by
  obtain ⟨ao, cap, rfl, hc⟩ := hl
  have HC := hid hc
  clear hc
  go_enter Tryz.func15, Tryz.ntmps15
  go_wp2_with fail
  refine (pnew_any w hF).mono ?_
  rintro e w1 ⟨rfl, f1, hg1⟩
  go_wp2
  go_loopw [9] (fun i wr => ∃ (k : Nat) (v : Eight) (rest : List UInt8), i = .int .i64 (k : Int) ∧ k ≤ l.length ∧ Hashed ((l.take k).flatten) v rest ∧ v.ok ∧
    wr.heap[w.heap.size]? = some (.cells (hcells v rest ((l.take k).flatten.length : Int)) 112 (0, 0)) ∧ Fresh w wr) (fun i _ => l.length - (intOf i).toNat)
  case atStart => exact ⟨0, eight0, rest0, rfl, by omega, Hashed.start rest0 (by simp [rest0]), eight0_ok, by simpa using hg1, f1⟩
  case round =>
    clear hg1 f1
    obtain ⟨k, v, rest, rfl, hk, hH, hv, hg, hf⟩ := hrel
    by_cases hlt : k < l.length
    · obtain ⟨s, hs⟩ : ∃ s, l[k]? = some s := ⟨l[k], by simp [hlt]⟩
      obtain ⟨bb, off, hao, hbb, hcw⟩ := HC.out k s hs
      have hcell := (hf.cell (p := ⟨bb, off + k, none⟩) hbb (fun h => h)).trans hcw
      have hm := take_more hs
      have hle := flat_le l (k + 1)
      have hlen : (l.take k).flatten.length + s.length ≤ 70368744177664 := by rw [hm, List.length_append] at hle; omega
      have hTr := hT.keeps hf (fun h => h)
      have HM := hid hm
      subst hao
      clear hs hcw hm hle
      go_wp2_with fail
      refine (write_any _ v rest s w.heap.size wr hTr hng hH hv hlen hg).mono ?_
      rintro e w2 ⟨rfl, hk2, v2, rest2, hH2, hv2, hg2⟩
      rw [← HM.out] at hH2 hg2
      clear hcell
      go_wp2
      go_roundw
      case rel => exact ⟨k + 1, v2, rest2, by go_num, by omega, hH2, hv2, hg2, hf.trans' hk2 fun i hi h => by omega⟩
      case measure => simp [intOf]; omega
    · have hke : k = l.length := by omega
      rw [hke, List.take_length] at hH hg
      have hTr := hT.keeps hf (fun h => h)
      clear hke
      go_wp2_with fail
      refine (hsum_any _ v rest w.heap.size wr hTr hng hH hv hb hg).mono ?_
      rintro e w2 ⟨rfl, hf2⟩
      go_wp2
      go_ret
      exact ⟨rfl, hf.trans hf2⟩
end Go.Proofs.YtmflbchiapdhbaaGreatDoor

namespace Go.Proofs.YtmflbchiapdhbaaGreatDoor
open Go.RowKit

theorem laidMet_tail {P : Program} {x : String × DataW Unit} {l : List (String × DataW Unit)} {W : World} (h : laidMet P (x :: l) W) : laidMet P l W := by
  obtain ⟨ps, ⟨g, t, cs, fuel, p, q, h1, h2, h3, h4, h5, rfl⟩, hn, hf⟩ := h
  exact ⟨q, h5, (List.nodup_append.1 hn).2.1, fun b off hm => hf b off (List.mem_append.2 (.inr hm))⟩

theorem Tryz.gFirst : Tryz.prog.globalNamed "scrivener/digest.first" = some 0 := by kernel_rfl
theorem Tryz.gFirstType : (Tryz.prog.globals[0]?).map (·.type) = some 109 := by kernel_rfl
theorem Tryz.gNumbers : Tryz.prog.globalNamed "scrivener/digest.numbers" = some 1 := by kernel_rfl
theorem Tryz.gNumbersType : (Tryz.prog.globals[1]?).map (·.type) = some 135 := by kernel_rfl
theorem Tryz.underState : Tryz.prog.underlying 109 = some (.array 8 107) := by kernel_rfl
theorem Tryz.underTab : Tryz.prog.underlying 135 = some (.array 64 107) := by kernel_rfl
theorem Tryz.underWord : Tryz.prog.underlying 107 = some (.int .u32) := by kernel_rfl
theorem Tryz.cellsWord : Tryz.prog.cellsOf 107 = 1 := by kernel_rfl
theorem Tryz.cellsState : Tryz.prog.cellsOf 109 = 8 := by kernel_rfl
theorem Tryz.cellsTab : Tryz.prog.cellsOf 135 = 64 := by kernel_rfl

theorem sha_laid {l : List (String × DataW Unit)} {W : World} (h : laidMet Tryz.prog (("scrivener/digest.first", Rows.laid_scrivener_digest_first) :: ("scrivener/digest.numbers", Rows.laid_scrivener_digest_numbers) :: l) W) : FirstLaid W ∧ TabLaid W := by
  have a := Lib.tabIs_of_head (k := .u32) (zs := eight0.list.map fun (n : Nat) => (n : Int)) Tryz.gFirst Tryz.gFirstType Tryz.underState Tryz.underWord Tryz.cellsWord Tryz.cellsState h
  have b := Lib.tabIs_of_head (k := .u32) (zs := kTab.map fun (n : Nat) => (n : Int)) Tryz.gNumbers Tryz.gNumbersType Tryz.underTab Tryz.underWord Tryz.cellsWord Tryz.cellsTab (laidMet_tail h)
  refine ⟨fun j hj => ?_, fun t ht => ?_⟩
  · have hl : eight0.list.length = 8 := rfl
    have := a.cell Tryz.gFirst j (by rw [List.length_map]; omega)
    rw [this, List.getD, List.getElem?_map, List.getD, List.getElem?_eq_getElem (by omega)]
    rfl
  · have hl : kTab.length = 64 := rfl
    have := b.cell Tryz.gNumbers t (by rw [List.length_map]; omega)
    rw [this, List.getD, List.getElem?_map, kAt, List.getD, List.getElem?_eq_getElem (by omega)]
    rfl
end Go.Proofs.YtmflbchiapdhbaaGreatDoor
