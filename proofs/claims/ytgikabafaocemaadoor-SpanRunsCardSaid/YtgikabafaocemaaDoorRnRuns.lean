/-
  SpanRuns: the law's walk.
-/
import Derived.Test.YtgikabafaocemaaDoorRnLaw
import Derived.Test.YtgikabafaocemaaDoorRnBig
import Derived.Test.YtgikabafaocemaaDoorRnCover
import Derived.Test.YtgikabafaocemaaDoorRnJoin
import Derived.Test.YtgikabafaocemaaDoorSpLawW
import Derived.Test.YtgikabafaocemaaDoorSpKnown
import Derived.Test.YtgikabafaocemaaDoorSpCheckP
import Derived.Test.YtgikabafaocemaaDoorRnTail
import Derived.Deep.CutBlock
import Derived.Deep.Cut
namespace Go.Proofs.YtgikabafaocemaaDoor
open Go.RowKit

theorem ncells_at : ∀ (l : List (Nat × Nat)) (k : Nat) (x : Nat × Nat), l[k]? = some x → (ncells l)[k * 2]? = some (.int .i64 (x.2 : Int)) ∧ (ncells l)[k * 2 + 1]? = some (.int .i64 ((x.1 / 2 ^ x.2 : Nat) : Int))
  | [], k, x, h => by simp at h
  | y :: l, 0, x, h => by simp at h; subst h; exact ⟨rfl, rfl⟩
  | y :: l, k + 1, x, h => by
    have := ncells_at l k x (by simpa using h)
    have e : ncells (y :: l) = [.int .i64 (y.2 : Int), .int .i64 ((y.1 / 2 ^ y.2 : Nat) : Int)] ++ ncells l := by simp [ncells]
    rw [e, List.getElem?_append_right (by simp; omega), List.getElem?_append_right (by simp; omega)]
    have e1 : (k + 1) * 2 - [Value.int .i64 (y.2 : Int), .int .i64 ((y.1 / 2 ^ y.2 : Nat) : Int)].length = k * 2 := by simp; omega
    have e2 : (k + 1) * 2 + 1 - [Value.int .i64 (y.2 : Int), .int .i64 ((y.1 / 2 ^ y.2 : Nat) : Int)].length = k * 2 + 1 := by simp; omega
    rw [e1, e2]
    exact this

set_option maxRecDepth 100000 in
set_option maxHeartbeats 16000000 in
theorem runs_any (size at_ many c : Int) (other : List UInt8) (w : World) (hN : Nums w) (hs : -9223372036854775808 ≤ size) (hs2 : size ≤ 9223372036854775807) (ha : -9223372036854775808 ≤ at_) (ha2 : at_ ≤ 9223372036854775807) (hm : -9223372036854775808 ≤ many) (hm2 : many ≤ 9223372036854775807) :
    Calls Tryd.prog 7 #[.int .i64 size, .int .i64 at_, .int .i64 many, .int .i64 c, .string (str other)] w fun x w' => x = .returned (.bool true) ∧ Fresh w w' := by
  have hk := hid (known_any w hN)
  have HNUM := hid hN
  have p1 := fun W => pick_any size 1099511627776 W (by omega) (by omega) hs hs2
  have q1 := pickN_in size 1099511627776 (by omega)
  generalize pickN size 1099511627776 = P1 at p1 q1
  obtain ⟨n, hn⟩ : ∃ n : Nat, (n : Int) = 1 + P1 := ⟨(1 + P1).toNat, by omega⟩
  have p2 := fun W => pick_any at_ (n : Int) W (by omega) (by omega) ha ha2
  have q2 := pickN_in at_ (n : Int) (by omega)
  generalize pickN at_ (n : Int) = P2 at p2 q2
  obtain ⟨b, rfl⟩ : ∃ b : Nat, (b : Int) = P2 := ⟨P2.toNat, by omega⟩
  have hbn : b < n := by omega
  obtain ⟨M, hM⟩ : ∃ M : Nat, M = min 300 (n - b) := ⟨_, rfl⟩
  have hM1 : 1 ≤ M := by omega
  have p3 := fun W => pick_any many (M : Int) W (by omega) (by omega) hm hm2
  have q3 := pickN_in many (M : Int) (by omega)
  generalize pickN many (M : Int) = P3 at p3 q3
  obtain ⟨m, hmm⟩ : ∃ m : Nat, (m : Int) = 1 + P3 := ⟨(1 + P3).toNat, by omega⟩
  obtain ⟨e, he⟩ : ∃ e : Nat, e = b + m := ⟨_, rfl⟩
  obtain ⟨D, hD⟩ : ∃ D : Nat, D = n - b := ⟨_, rfl⟩
  have hmin := hid (show min (300 : Int) ((n : Int) - (b : Int)) = (M : Int) by omega)
  have hDb : (D : Int) ≤ 1099511627776 := by omega
  have hnb : (n : Int) ≤ 1099511627776 := by omega
  have hbb : (b : Int) ≤ 1099511627776 := by omega
  have heb : (e : Int) ≤ 1099511627776 := by omega
  have hmb : (m : Int) ≤ 300 := by omega
  have hrun := fun W => run_good n b e (by omega) (by omega) (by omega) W
  have hcb := fun W => cover_any b W (by omega)
  have hce := fun W => cover_any e W (by omega)
  obtain ⟨la, hla⟩ := Cut.exists b 0 b (by omega) (by omega)
  obtain ⟨le, hle⟩ := Cut.exists e 0 e (by omega) (by omega)
  have hct := cover_told (n := n) (by omega : b < e) (by omega) (by omega) hla
  have hfew := toldF_few 40 b e 0 n (by omega)
  obtain ⟨TL, hTL⟩ : ∃ TL, toldF 40 b e 0 n = TL := ⟨_, rfl⟩
  have hlen : la.length ≤ TL.length := by rw [← hTL, hct.1, List.length_append, List.length_map]; omega
  rw [hTL] at hrun hfew
  obtain ⟨N, hNN⟩ : ∃ N, TL.length = N := ⟨_, rfl⟩
  rw [hNN] at hfew hlen
  obtain ⟨i0, hi, hz0, hz1, hz2⟩ := info_parts Tryd.infoText
  have HP1 := hid p1
  have HP2 := hid p2
  have HP3 := hid p3
  have HRUN := hid hrun
  have HCB := hid hcb
  have HCE := hid hce
  have HLA := hid hla
  have HLE := hid hle
  have HTL := hid hTL
  have HN := hid hNN
  have HFEW := hid hfew
  have HLAN := hid hlen
  have HLA41 := hid hct.2
  have HBE := hid (show b < e by omega)
  have HEN := hid (show e ≤ n by omega)
  have hn1 := hid (show wrap64 (1 + P1) = (n : Int) from (wrap_small (by omega) (by omega)).trans hn.symm)
  have hm1 := hid (show wrap64 (1 + P3) = (m : Int) from (wrap_small (by omega) (by omega)).trans hmm.symm)
  have he1 := hid (show wrap64 ((b : Int) + (m : Int)) = (e : Int) from (wrap_small (by omega) (by omega)).trans (by omega))
  have hd1 := hid (show wrap64 ((n : Int) - (b : Int)) = (D : Int) from (wrap_small (by omega) (by omega)).trans (by omega))
  have hbm := hid (show (b : Int) + (m : Int) = (e : Int) by omega)
  have HM := hid (show e - b = m ∧ m ≤ 300 ∧ n ≤ 1099511627776 ∧ e = b + m by omega)
  clear p1 p2 p3 hrun hcb hce hla hle hct hTL hNN hfew hlen hs hs2 ha ha2 hm hm2 q1 q2 q3 hn hmm he hM hM1 hbn hD hN
  have hn1 := hn1.out
  have hm1 := hm1.out
  have he1 := he1.out
  have hd1 := hd1.out
  go_enter Tryd.func7, Tryd.ntmps7
  go_wp2_with fail
  refine hk.out.mono ?_
  rintro x w1 ⟨rfl, f1⟩
  go_wp2_with fail
  refine (HP1.out _).mono ?_
  rintro x w2 ⟨rfl, rfl⟩
  go_wp2_with fail
  refine (HP2.out _).mono ?_
  rintro x w2 ⟨rfl, rfl⟩
  go_wp2_with fail
  rw [hmin.out]
  refine (HP3.out _).mono ?_
  rintro x w2 ⟨rfl, rfl⟩
  go_wp2_with fail
  rw [hm1]
  rw [hbm.out]
  refine (HRUN.out _).mono ?_
  rintro x w2 ⟨vt, rfl, hst, f2⟩
  have f2' := f1.trans f2
  have HST := hid hst
  obtain ⟨at0, ct, rfl, hct, -⟩ := hst
  rw [HN.out] at hct ⊢
  have HCT := hid hct
  go_wp2_with fail
  refine (HCB.out _).mono ?_
  rintro x w3 ⟨aoa, l0, rfl, hcu, -, f3⟩
  have := hcu.unique HLA.out
  subst this
  have f3' := f2'.trans f3
  have hgt : ¬ N < l0.length := by have := HLAN.out; omega
  have HGT := hid hgt
  clear hct hcu f2 f2' hn1 hd1 HP1 HP2 HP3 HRUN HCB hk hmin
  go_wp2_with fail
  rw [hbm.out]
  have f00 := f3'.alloc (.cells #[.int .i64 (n : Int), .int .i64 (b : Int), .int .i64 (e : Int), .slice none 0 0] 41)
  have hb := heap_alloc_new w3 (.cells #[.int .i64 (n : Int), .int .i64 (b : Int), .int .i64 (e : Int), .slice none 0 0] 41)
  have fb3 := (Keeps.refl (fun _ => False) w3).alloc (.cells #[.int .i64 (n : Int), .int .i64 (b : Int), .int .i64 (e : Int), .slice none 0 0] 41)
  have hsB : (w3.alloc (.cells #[.int .i64 (n : Int), .int .i64 (b : Int), .int .i64 (e : Int), .slice none 0 0] 41)).heap.size = w3.heap.size + 1 := World.size_alloc _ _
  generalize w3.alloc (.cells #[.int .i64 (n : Int), .int .i64 (b : Int), .int .i64 (e : Int), .slice none 0 0] 41) = wB at f00 hb hsB fb3 ⊢
  have HSTB := hid (show SpansAt w3 _ _ from HST.out.fresh f3)
  have f3B := hid (show w.heap.size ≤ w3.heap.size from f3'.size)
  generalize hrb : w3.heap.size = rb at hb hsB ⊢
  have HRB := hid (show w.heap.size ≤ rb by have := f3B.out; omega)
  have HRB2 := hid (show wB.heap.size = rb + 1 from hsB)
  have HB := hid (show RunAt wB rb n b e (.slice none 0 0) [] from ⟨hb, World.ownsRow_nil _ _ _ _, by simp [Value.ownBlock]⟩)
  have FB := hid f00
  have F3 := hid (show Fresh w w3 from f3')
  have HW3 := hid hrb
  have FB3 := hid fb3
  clear fb3 hb hrb hsB he1 hgt f3 f3' f3B hm1
  go_loopw [20] (fun i wr => ∃ (k : Nat) (vk : Value) (X : List (List UInt8)), i = .int .i64 (k : Int) ∧ k ≤ N ∧ X.length = k ∧ all32P X ∧ RunAt wr rb n b e vk X ∧ Fresh w wr ∧ (∀ g, vk.ownBlock = some g → wB.heap.size ≤ g) ∧ Keeps (fun q => q = rb) wB wr) (fun i _ => N - (intOf i).toNat)
  case atStart => exact ⟨0, .slice none 0 0, [], rfl, Nat.zero_le _, rfl, (fun _ h => nomatch h), HB.out, f00, (fun g hg => by simp [Value.ownBlock] at hg), Keeps.refl _ _⟩
  case round =>
    obtain ⟨k, vk, X, rfl, hk, hX, hXa, hR, kk, ok, kB⟩ := hrel
    have hkb : (k : Int) ≤ 1099511627776 := by have := HFEW.out; omega
    by_cases hlt : k < N
    · have hlti : (k : Int) < (N : Int) := by omega
      have HLT := hid hlt
      have HX := hid hX
      obtain ⟨w2, hw2⟩ : ∃ w2, w2 = wr := ⟨_, rfl⟩
      subst hw2
      have HOK := hid ok
      have HKB := hid kB
      have HJK := hid hR.1
      have HROW := hid hR.2.1
      have hne2 := hR.2.2
      have r0' := (cell_at hR.1 3).trans (show _ = some vk from rfl)
      have r1' := free_at hR.1 3
      have n3 := lt_of_block hR.1
      have HLEN := hid (show X.length + 1 ≤ 1099511627777 by have := HX.out; have := HFEW.out; omega)
      have HXA := hid hXa
      obtain ⟨aok, cpk, erv⟩ := ownsRow_slice hR.2.1
      have HRV := hid erv
      clear ok kB hR erv hXa hlt hk hX
      go_wp2_with fail
      refine wp_region_keep 10 (fun w' => Keeps (fun q => q = rb ∨ vk.ownBlock = some q) w2 w') (fun w' => w'.cell? ⟨rb, 3, none⟩ = some vk ∧ w'.frozen? ⟨rb, 3, none⟩ = false) (fun j => !(j == 9)) (by kernel_rfl) (by kernel_rfl) ?_
      (try (change wpKeep _ _ _ _ _ _ _ _ _ _ (World.drew _)))
      refine wpKeep_takeT (i := 0) (oi := ⟨some 95, _, _, _, _, _⟩) (v := ?_) rfl (by kernel_rfl) (by kernel_rfl) (by kernel_rfl) (by kernel_rfl) (fun _ _ _ h => h) (Or.inl ⟨by rfl, ?_⟩) (Keeps.refl _ _).drew (fun _ => ⟨r0', r1'⟩) ?_
      rotate_left
      · intro w' hT
        go_simp
        (try rw [if_pos (by omega)])
        (try with_reducible rfl)
      rotate_left
      (try simp only [Act.put, List.setIfInBounds_toArray, List.set_cons_zero, List.set_cons_succ])
      refine wpKeep_take (i := 1) (oi := ⟨some 96, _, _, _, _, _⟩) (v := ?_) rfl (by kernel_rfl) (by kernel_rfl) (by kernel_rfl) (by kernel_rfl) (fun _ _ _ h => h) (Or.inl ⟨by rfl, ?_⟩) ⟨(Keeps.refl _ _).drew, ⟨r0', r1'⟩⟩ ?_
      rotate_left
      · intro w' hT
        have hS0 := hT.2
        replace hT := hT.1
        go_simp
        (try rw [if_pos (by omega)])
        (try with_reducible rfl)
      rotate_left
      (try simp only [Act.put, List.setIfInBounds_toArray, List.set_cons_zero, List.set_cons_succ])
      refine wpKeep_takeT (i := 2) (oi := ⟨some 97, _, _, _, _, _⟩) (v := ?_) rfl (by kernel_rfl) (by kernel_rfl) (by kernel_rfl) (by kernel_rfl) (fun _ _ _ h => h) (Or.inl ⟨by rfl, ?_⟩) (Keeps.refl _ _).drew (fun _ => ⟨r0', r1'⟩) ?_
      rotate_left
      · intro w' hT
        go_simp
        (try rw [if_pos (by omega)])
        (try with_reducible rfl)
      rotate_left
      (try simp only [Act.put, List.setIfInBounds_toArray, List.set_cons_zero, List.set_cons_succ])
      refine wpKeep_takeT (i := 3) (oi := ⟨some 98, _, _, _, _, _⟩) (v := ?_) rfl (by kernel_rfl) (by kernel_rfl) (by kernel_rfl) (by kernel_rfl) (fun _ _ _ h => h) (Or.inl ⟨by rfl, ?_⟩) (Keeps.refl _ _).drew (fun _ => ⟨r0', r1'⟩) ?_
      rotate_left
      · intro w' hT
        go_simp
        (try rw [if_pos (by omega)])
        (try with_reducible rfl)
      rotate_left
      (try simp only [Act.put, List.setIfInBounds_toArray, List.set_cons_zero, List.set_cons_succ])
      refine wpKeep_takeT (i := 4) (oi := ⟨some 99, _, _, _, _, _⟩) (v := ?_) rfl (by kernel_rfl) (by kernel_rfl) (by kernel_rfl) (by kernel_rfl) (fun _ _ _ h => h) (Or.inl ⟨by rfl, ?_⟩) (Keeps.refl _ _).drew (fun _ => ⟨r0', r1'⟩) ?_
      rotate_left
      · intro w' hT
        go_simp
        (try rw [if_pos (by omega)])
        (try with_reducible rfl)
      rotate_left
      (try simp only [Act.put, List.setIfInBounds_toArray, List.set_cons_zero, List.set_cons_succ])
      refine wpKeep_ready (rs := [5]) (by kernel_rfl) (by simp) ?_
      refine AllKeep.cons (o := ⟨some 100, _, _, _, _, _⟩) rfl (fun K hK => ?_) AllKeep.nil
      go_simp
      go_at_call 22
      with_reducible refine (leaf_some _ _).mono ?_
      rintro x w3 ⟨sf, rfl, hsl, f3⟩
      have f3' : Fresh w2 w3 := (Keeps.refl (fun _ => False) w2).drew.trans f3
      have s0 := (f3'.cell (p := ⟨rb, 3, none⟩) n3 (fun h => h)).trans r0'
      have s1 := (f3'.frozen (p := ⟨rb, 3, none⟩) n3 (fun h => h)).trans r1'
      have hrow3 := ownsRow_keeps HROW.out f3' (fun _ _ h => h)
      have T3 : Keeps (fun q => q = rb ∨ vk.ownBlock = some q) w2 w3 := f3'.mono (fun _ _ h => h.elim)
      dsimp only
      refine hK.out _ _ T3 (fun _ => ⟨s0, s1⟩) ?_
      clear hK K
      (try simp only [Act.put, List.setIfInBounds_toArray, List.set_cons_zero, List.set_cons_succ])
      refine wpKeep_ready (rs := [6]) (by kernel_rfl) (by simp) ?_
      refine AllKeep.cons (o := ⟨some 101, _, _, _, _, _⟩) rfl (fun K hK => ?_) AllKeep.nil
      go_simp
      have fal := (Keeps.refl (fun _ => False) w3).alloc (.cells #[.string (str sf)] 9)
      have n33 : rb < w3.heap.size := Nat.lt_of_lt_of_le n3 f3'.size
      refine hK.out _ _ (T3.alloc _) (fun _ => ⟨(fal.cell (p := ⟨rb, 3, none⟩) n33 (fun h => h)).trans s0, (fal.frozen (p := ⟨rb, 3, none⟩) n33 (fun h => h)).trans s1⟩) ?_
      clear hK K
      (try simp only [Act.put, List.setIfInBounds_toArray, List.set_cons_zero, List.set_cons_succ])
      refine wpKeep_ready (rs := [7]) (by kernel_rfl) (by simp) ?_
      refine AllKeep.cons (o := ⟨some 102, _, _, _, _, _⟩) rfl (fun K hK => ?_) AllKeep.nil
      refine step_push rfl (.tmp 96) (.tmp 101) 26 rfl 9 i0 (.string ⟨#[]⟩) 16 Tryd.underlying26 hi hz0 hz1 hz2 rfl w3 hrow3 (.string (str sf)) (by rfl) (by rfl) rfl (by have := HLEN.out; omega) (by have := HLEN.out; unfold maxLen; omega) ?_
      intro v6 w6 ha
      have s60 := (ha.keeps.cell (p := ⟨rb, 3, none⟩) n33 hne2).trans s0
      have s61 := (ha.keeps.frozen (p := ⟨rb, 3, none⟩) n33 hne2).trans s1
      have T6 : Keeps (fun q => q = rb ∨ vk.ownBlock = some q) w2 w6 := T3.trans (ha.keeps.mono (fun _ _ h => .inr h))
      refine hK.out _ _ T6 (fun _ => ⟨s60, s61⟩) ?_
      clear hK K
      (try simp only [Act.put, List.setIfInBounds_toArray, List.set_cons_zero, List.set_cons_succ])
      refine wpKeep_takeT (i := 8) (oi := ⟨some 103, _, _, _, _, _⟩) (v := ?_) rfl (by kernel_rfl) (by kernel_rfl) (by kernel_rfl) (by kernel_rfl) (fun _ _ _ h => h) (Or.inl ⟨by rfl, ?_⟩) T6 (fun _ => ⟨s60, s61⟩) ?_
      rotate_left
      · intro w' hT
        go_simp
        (try rw [if_pos (by omega)])
        (try with_reducible rfl)
      rotate_left
      (try simp only [Act.put, List.setIfInBounds_toArray, List.set_cons_zero, List.set_cons_succ])
      refine wpKeep_ready (rs := [9]) (by kernel_rfl) (by simp) ?_
      refine AllKeep.cons (o := ⟨none, _, _, _, _, _⟩) rfl (fun K hK => ?_) AllKeep.nil
      obtain ⟨ao6, cp6, e6⟩ := ownsRow_slice ha.row
      subst e6
      go_simp
      refine hK.out _ _ (T6.setCell (p := ⟨rb, 3, none⟩) (fun _ => .inl rfl) _) (not_early (by kernel_rfl)) ?_
      clear hK K
      (try simp only [Act.put, List.setIfInBounds_toArray, List.set_cons_zero, List.set_cons_succ])
      refine wpKeep_done (by kernel_rfl) ?_ _
      have hv6 := ha.own
      have hrow6 := ha.row
      have J6 := f3'.at_ HJK.out (fun h => h)
      have J6 := ha.keeps.at_ J6 hne2
      generalize Value.slice ao6 (X.length + 1) cp6 = v6 at hv6 hrow6 ⊢
      have hv6j : v6.ownBlock ≠ some rb := fun e => by
        rcases hv6 rb e with z | z
        · exact hne2 z
        · omega
      have hJ7 := heap_setCell_at J6 3 v6
      have hend : RunAt (w6.setCell ⟨rb, 3, none⟩ v6) rb n b e v6 (X ++ [sf]) := by
        refine ⟨hJ7, ?_, hv6j⟩
        rw [texts_snoc, List.length_append]
        exact ownsRow_setCell_ne hrow6 hv6j _
      have kW7 := T6.setCell (p := ⟨rb, 3, none⟩) (fun _ => .inl rfl) v6
      have k7 : Fresh w (w6.setCell ⟨rb, 3, none⟩ v6) := kk.trans' kW7 (fun q hq e => by
        rcases e with e | e
        · have := HRB.out; omega
        · have := HOK.out q e; have := f00.size; omega)
      have k8 : Keeps (fun q => q = rb) wB (w6.setCell ⟨rb, 3, none⟩ v6) := HKB.out.trans' kW7 (fun q hq e => by
        rcases e with e | e
        · exact e
        · have := HOK.out q e; omega)
      have o7 : ∀ g, v6.ownBlock = some g → wB.heap.size ≤ g := fun g hg => by
        rcases hv6 g hg with z | z
        · exact HOK.out g z
        · have := HKB.out.size; have := f3'.size; omega
      have hXn : all32P (X ++ [sf]) := fun z hz => by
        rcases List.mem_append.1 hz with hz | hz
        · exact HXA.out z hz
        · rw [List.mem_singleton.1 hz]; exact hsl
      go_wp2_with fail
      go_roundw
      case rel => exact ⟨k + 1, v6, X ++ [sf], by simp, HLT.out, by rw [List.length_append, HX.out]; rfl, hXn, hend, k7, o7, k8⟩
      case measure => have := HLT.out; simp [intOf]; omega
    · have hkN : k = N := by omega
      have hnlt : ¬ (N : Int) < (N : Int) := by omega
      have HX := hid (hX.trans hkN)
      have HXA := hid hXa
      have HOK := hid ok
      subst hkN
      obtain ⟨wc, hwc⟩ : ∃ wc, wc = wr := ⟨_, rfl⟩
      subst hwc
      have HR := hid hR
      have HKB := hid kB
      clear hlt hk hX hR ok hkb hXa kB
      go_wp2_with fail
      go_loopw [21, 22] (fun v i w4 => ∃ (j : Nat) (Y : List (List UInt8)), i = .int .i64 (j : Int) ∧ j ≤ m ∧ Y.length = j ∧ all32P Y ∧ w4.ownsRow 0 9 1 v Y.length (texts Y) ∧ (∀ g, v.ownBlock = some g → wc.heap.size ≤ g) ∧ Fresh wc w4) (fun _ i _ => m - (intOf i).toNat)
      case atStart => exact ⟨0, [], rfl, Nat.zero_le _, rfl, (fun _ h => nomatch h), World.ownsRow_nil _ _ _ _, (fun g hg => by simp [Value.ownBlock] at hg), Keeps.refl _ _⟩
      case round =>
        obtain ⟨j, Y, rfl, hj, hY, hYa, hrow, ok, f4⟩ := hrel
        by_cases hjm : j < m
        · have hji : (j : Int) < (m : Int) := by omega
          obtain ⟨aoY, cpY, erv⟩ := ownsRow_slice hrow
          have HJM := hid hjm
          have HROW := hid hrow
          have HYA := hid hYa
          have HY := hid hY
          have HO := hid ok
          have HLEN := hid (show Y.length + 1 ≤ 301 by omega)
          subst erv
          clear hjm hj hY hYa hrow ok
          go_wp2_with fail
          refine (leaf_some _ _).mono ?_
          rintro x w5 ⟨sf, rfl, hsl, f5⟩
          have f45 := f4.trans f5
          have hrow5 := ownsRow_keeps HROW.out f5 (fun _ _ h => h)
          have fal := (Keeps.refl (fun _ => False) w5).alloc (.cells #[.string (str sf)] 9)
          have hlb := heap_alloc_new w5 (.cells #[.string (str sf)] 9)
          have hAt : TextsAt (w5.alloc (.cells #[.string (str sf)] 9)) (.slice (some ⟨w5.heap.size, 0, none⟩) 1 1) [sf] := ⟨_, 1, rfl, fun k s hs => by
            match k, hs with
            | 0, hs => simp at hs; subst hs; exact ⟨_, 0, rfl, lt_of_block hlb, cell_at hlb 0⟩
            | (k + 1), hs => simp at hs⟩
          have hsrc : Src Tryd.prog 1 26 (.slice (some ⟨w5.heap.size, 0, none⟩) 1 1) 1 (texts [sf]) (w5.alloc (.cells #[.string (str sf)] 9)) := Src.ofTexts (P := Tryd.prog) Tryd.underlying26 hAt
          have hrow6 := ownsRow_keeps hrow5 fal (fun _ _ h => h)
          clear hlb hrow5 hAt
          go_wp2_with (at_builtin; refine wpList_append_src rfl (.tmp 109) (.tmp 115) 26 26 rfl 9 i0 (.string ⟨#[]⟩) 1 16 Tryd.underlying26 hi hz0 hz1 hz2 rfl (by decide) hrow6 _ 1 (texts [sf]) (by rfl) (by rfl) hsrc (by have := HLEN.out; unfold maxLen; omega) (by have := HLEN.out; omega) ?_)
          intro v6 w6 ha
          replace ha : Appended 9 1 (w5.alloc (.cells #[.string (str sf)] 9)) w6 (.slice aoY Y.length cpY) v6 (Y.length + 1) (texts Y ++ texts [sf]) := ha
          have f6 : Fresh wc w6 := (f45.trans fal).trans' ha.keeps (fun q hq e => by have := HO.out q e; omega)
          have o6 : ∀ g, v6.ownBlock = some g → wc.heap.size ≤ g := fun g hg => by
            rcases ha.own g hg with z | z
            · exact HO.out g z
            · have := (f45.trans fal).size; omega
          have hrow7 : w6.ownsRow 0 9 1 v6 (Y ++ [sf]).length (texts (Y ++ [sf])) := by
            rw [texts_snoc, List.length_append]
            exact ha.row
          obtain ⟨ao6, cp6, rfl⟩ := ownsRow_slice ha.row
          have hYn : all32P (Y ++ [sf]) := fun z hz => by
            rcases List.mem_append.1 hz with hz | hz
            · exact HYA.out z hz
            · rw [List.mem_singleton.1 hz]; exact hsl
          clear ha hsrc hrow6 fal
          go_wp2_with fail
          go_roundw
          case rel => exact ⟨j + 1, Y ++ [sf], by simp, HJM.out, by rw [List.length_append, HY.out]; rfl, hYn, hrow7, o6, f6⟩
          case measure => have := HJM.out; simp [intOf]; omega
        · have hjm2 : j = m := by omega
          subst hjm2
          have hnl : ¬ (j : Int) < (j : Int) := by omega
          obtain ⟨aoY, cpY, erv⟩ := ownsRow_slice hrow
          subst erv
          have hR := HR.out.fresh f4
          have hYN := HX.out
          have f40 := kk.trans f4
          have FW3 := hid ((FB3.out.trans' HKB.out (fun z hz e => by have := HW3.out; omega)).trans f4)
          obtain ⟨VS, hVS⟩ := runsF (X := X) (Y := Y) HBE.out HEN.out HM.out.2.2.1 (by have := HM.out; omega) (by rw [HX.out, HTL.out, HN.out]) (by have := HM.out; omega) HXA.out hYa HLA.out HLE.out
          obtain ⟨V, hV⟩ : ∃ V : Nat × Nat → List UInt8, V = fun y => VS (spanOf y) := ⟨_, rfl⟩
          have h32V : ∀ y, (V y).length = 32 := fun y => by rw [hV]; exact hVS.len32 _
          have hhV : Halves V b e := by rw [hV]; exact hVS.halves
          have hlV : ∀ i s, Y[i]? = some s → V (b + i, 0) = s := by rw [hV]; exact hVS.leaf
          have htV : X.take l0.length = l0.map V := by rw [hV]; exact hVS.takeX
          have hsV : le.map V ++ X.drop l0.length = (dF 40 e 0 n).map VS := by rw [hV]; exact hVS.hashes
          obtain ⟨aok, cpk, erk⟩ := ownsRow_slice hR.2.1
          subst erk
          have tX := OwnTexts_at hR.2.1
          have tY := OwnTexts_at hrow
          have cX := row_le hR.2.1
          have cY := row_le hrow
          have hroot := fun W (q : Fresh wr W) => proot_any (n : Int) (b : Int) (e : Int) _ _ X Y W (tX.fresh q) (tY.fresh q) (by rw [HX.out]; have := HFEW.out; omega) (by rw [hY]; omega) (HNUM.out.fresh (f40.trans q)).dig (fun wb z => listBut_at (tX.fresh q) rfl cX wb z) (fun wb z => listBut_at (tY.fresh q) rfl cY wb z)
          have hcheck := fun W (q : Fresh wr W) root => pcheck_any (n : Int) (b : Int) (e : Int) _ _ X Y root W (tX.fresh q) (tY.fresh q) (by rw [HX.out]; have := HFEW.out; omega) (by rw [hY]; omega) (HNUM.out.fresh (f40.trans q)).dig (fun wb z => listBut_at (tX.fresh q) rfl cX wb z) (fun wb z => listBut_at (tY.fresh q) rfl cY wb z)
          have hcomp := fun W (q : Fresh wr W) => compact_any V b j Y _ W (tY.fresh q) hY (by omega) (by have := HM.out; have := HEN.out; omega) hYa hlV (by rw [show b + j = e by have := HM.out; omega]; exact hhV) (HNUM.out.fresh (f40.trans q)).dig
          rw [hVS.root] at hroot
          rw [show b + j = e by have := HM.out; omega] at hcomp
          unfold runV at hroot hcheck
          rw [hY, HX.out] at *
          have r0' := (cell_at hR.1 0).trans (show _ = some (Value.int .i64 (n : Int)) from rfl)
          have r1' := (cell_at hR.1 1).trans (show _ = some (Value.int .i64 (b : Int)) from rfl)
          have r2' := (cell_at hR.1 2).trans (show _ = some (Value.int .i64 (e : Int)) from rfl)
          have r3' := (cell_at hR.1 3).trans (show _ = some (Value.slice aok _ cpk) from rfl)
          have n3 := lt_of_block hR.1
          have HROOT := hid hroot
          have HCHECK := hid hcheck
          have HCOMP := hid hcomp
          have HVS := hid hVS
          have HVV := hid hV
          have H32V := hid h32V
          have HHV := hid hhV
          have HTV := hid htV
          have HSV := hid hsV
          have HRR := hid hR
          have HROWY := hid hrow
          have HYY := hid hY
          have HO := hid ok
          have HYA := hid hYa
          have TX := hid tX
          have CX := hid cX
          clear hroot hcheck hcomp hVS hV h32V hhV hlV htV hsV tX tY cX cY hR hrow hY ok hYa hjm hj hYN
          go_wp2_with fail
          refine (HROOT.out _ (Keeps.refl _ _)).mono ?_
          rintro x w5 ⟨rfl, f5⟩
          go_wp2_with fail
          refine (HCOMP.out _ f5).mono ?_
          rintro x w6 ⟨um, lm, rfl, hcm, hom, hm32, f6⟩
          have f6' := f5.trans f6
          have HCM := hid hcm
          have HOM := hid hom
          have HM32 := hid hm32
          obtain ⟨aom, cpm, eum⟩ := ownsRow_slice hom.1
          rw [List.length_map] at eum
          subst eum
          clear hcm hom hm32 r0' r1' r2' r3' n3
          go_upto_region 21 with fail
          have fA := (Keeps.refl (fun _ => False) w6).alloc (.cells #[.int .i64 (b : Int), .int .i64 (e : Int), .slice aom lm.length cpm] 67)
          have hb25 := heap_alloc_new w6 (.cells #[.int .i64 (b : Int), .int .i64 (e : Int), .slice aom lm.length cpm] 67)
          generalize w6.alloc (.cells #[.int .i64 (b : Int), .int .i64 (e : Int), .slice aom lm.length cpm] 67) = wA at fA hb25 ⊢
          obtain ⟨p25, hp25⟩ : ∃ p25, w6.heap.size = p25 := ⟨_, rfl⟩
          rw [hp25] at hb25 ⊢
          have f7 := f6'.trans fA
          have hRA := (HRR.out.fresh f7).1
          have HRA := hid hRA
          have HB25 := hid hb25
          have x3 := (cell_at hRA 3).trans (show _ = some (Value.slice aok _ cpk) from rfl)
          have xl := lt_of_block hRA
          have y0 := (cell_at hb25 0).trans (show _ = some (Value.int .i64 (b : Int)) from rfl)
          have y1 := (cell_at hb25 1).trans (show _ = some (Value.int .i64 (e : Int)) from rfl)
          have y2 := (cell_at hb25 2).trans (show _ = some (Value.slice aom lm.length cpm) from rfl)
          have yl := lt_of_block hb25
          have hlk : (l0.length : Int) ≤ (cpk : Int) := by have := HLAN.out; have := CX.out; omega
          have hlk2 : l0.length ≤ cpk := by omega
          have TX7 := TX.out.fresh f7
          have hva : ∀ W, Fresh wA W → TextsAt W (.slice aok l0.length cpk) (l0.map V) := fun W q => by
            obtain ⟨a', c', e', hk'⟩ := TX7.fresh q
            simp only [Value.slice.injEq] at e'
            obtain ⟨rfl, -, rfl⟩ := e'
            refine ⟨_, _, by rw [List.length_map], fun i s hs => hk' i s ?_⟩
            rw [← HTV.out, List.getElem?_take] at hs
            split at hs
            · exact hs
            · cases hs
          have hjoin := fun W (q : Fresh wA W) => join_any V b e l0 lm (.slice aok l0.length cpk) (.slice aom lm.length cpm) W HLA.out HCM.out (by omega) (by have := HLA41.out; omega) (by have := HCM.out.le; have := HM.out; omega) (hva W q) (((HOM.out.at_).fresh fA).fresh q) (fun y _ => H32V.out y) (fun y _ => H32V.out y) HHV.out (HNUM.out.fresh ((f40.trans f7).trans q)).dig (HNUM.out.fresh ((f40.trans f7).trans q)).db
          have HJOIN := hid hjoin
          have HF7 := hid f7
          clear hRA hb25 fA f5 f6 f6' hva hjoin TX7 f7
          go_cut [27, 28] from 129 to 140 (fun s27 s28 wx => ∃ p27 u2, s27 = .pointer (some ⟨p27, 0, none⟩) ∧ s28 = .int .i64 0 ∧ wx.heap[p27]? = some (.cells #[.int .i64 0, .int .i64 (e : Int), u2] 67 (0, 0)) ∧ OwnTexts wA.heap.size wx u2 (le.map V) ∧ wA.heap.size ≤ p27 ∧ u2.ownBlock ≠ some p27 ∧ Fresh wA wx)
          case first =>
            refine wp_region_keep 15 (fun w' => Fresh wA w') (fun _ => True) (fun _ => true) (by kernel_rfl) (by kernel_rfl) ?_
            (try (change wpKeep _ _ _ _ _ _ _ _ _ _ (World.drew _)))
            refine wpKeep_takeT (i := 0) (oi := ⟨some 130, _, _, _, _, _⟩) (v := ?_) rfl (by kernel_rfl) (by kernel_rfl) (by kernel_rfl) (by kernel_rfl) (fun _ _ _ h => h) (Or.inl ⟨by rfl, ?_⟩) (Keeps.refl _ _).drew (fun _ => trivial) ?_
            rotate_left
            · intro w' hT
              have k3 := (hT.cell (p := ⟨rb, 3, none⟩) xl (fun h => h)).trans x3
              have m0 := (hT.cell (p := ⟨p25, 0, none⟩) yl (fun h => h)).trans y0
              have m1 := (hT.cell (p := ⟨p25, 1, none⟩) yl (fun h => h)).trans y1
              have m2 := (hT.cell (p := ⟨p25, 2, none⟩) yl (fun h => h)).trans y2
              go_simp
              (try rw [if_pos (by omega)])
              (try with_reducible rfl)
            rotate_left
            (try simp only [Act.put, List.setIfInBounds_toArray, List.set_cons_zero, List.set_cons_succ])
            refine wpKeep_takeT (i := 1) (oi := ⟨some 131, _, _, _, _, _⟩) (v := ?_) rfl (by kernel_rfl) (by kernel_rfl) (by kernel_rfl) (by kernel_rfl) (fun _ _ _ h => h) (Or.inl ⟨by rfl, ?_⟩) (Keeps.refl _ _).drew (fun _ => trivial) ?_
            rotate_left
            · intro w' hT
              have k3 := (hT.cell (p := ⟨rb, 3, none⟩) xl (fun h => h)).trans x3
              have m0 := (hT.cell (p := ⟨p25, 0, none⟩) yl (fun h => h)).trans y0
              have m1 := (hT.cell (p := ⟨p25, 1, none⟩) yl (fun h => h)).trans y1
              have m2 := (hT.cell (p := ⟨p25, 2, none⟩) yl (fun h => h)).trans y2
              go_simp
              (try rw [if_pos (by omega)])
              (try with_reducible rfl)
            rotate_left
            (try simp only [Act.put, List.setIfInBounds_toArray, List.set_cons_zero, List.set_cons_succ])
            refine wpKeep_takeT (i := 2) (oi := ⟨some 132, _, _, _, _, _⟩) (v := ?_) rfl (by kernel_rfl) (by kernel_rfl) (by kernel_rfl) (by kernel_rfl) (fun _ _ _ h => h) (Or.inl ⟨by rfl, ?_⟩) (Keeps.refl _ _).drew (fun _ => trivial) ?_
            rotate_left
            · intro w' hT
              have k3 := (hT.cell (p := ⟨rb, 3, none⟩) xl (fun h => h)).trans x3
              have m0 := (hT.cell (p := ⟨p25, 0, none⟩) yl (fun h => h)).trans y0
              have m1 := (hT.cell (p := ⟨p25, 1, none⟩) yl (fun h => h)).trans y1
              have m2 := (hT.cell (p := ⟨p25, 2, none⟩) yl (fun h => h)).trans y2
              go_simp
              (try rw [if_pos (by omega)])
              (try with_reducible rfl)
            rotate_left
            (try simp only [Act.put, List.setIfInBounds_toArray, List.set_cons_zero, List.set_cons_succ])
            refine wpKeep_takeT (i := 3) (oi := ⟨some 133, _, _, _, _, _⟩) (v := ?_) rfl (by kernel_rfl) (by kernel_rfl) (by kernel_rfl) (by kernel_rfl) (fun _ _ _ h => h) (Or.inl ⟨by rfl, ?_⟩) (Keeps.refl _ _).drew (fun _ => trivial) ?_
            rotate_left
            · intro w' hT
              have k3 := (hT.cell (p := ⟨rb, 3, none⟩) xl (fun h => h)).trans x3
              have m0 := (hT.cell (p := ⟨p25, 0, none⟩) yl (fun h => h)).trans y0
              have m1 := (hT.cell (p := ⟨p25, 1, none⟩) yl (fun h => h)).trans y1
              have m2 := (hT.cell (p := ⟨p25, 2, none⟩) yl (fun h => h)).trans y2
              go_simp
              (try rw [if_pos (by omega)])
              (try with_reducible rfl)
            rotate_left
            (try simp only [Act.put, List.setIfInBounds_toArray, List.set_cons_zero, List.set_cons_succ])
            refine wpKeep_takeT (i := 4) (oi := ⟨some 134, _, _, _, _, _⟩) (v := ?_) rfl (by kernel_rfl) (by kernel_rfl) (by kernel_rfl) (by kernel_rfl) (fun _ _ _ h => h) (Or.inl ⟨by rfl, ?_⟩) (Keeps.refl _ _).drew (fun _ => trivial) ?_
            rotate_left
            · intro w' hT
              have k3 := (hT.cell (p := ⟨rb, 3, none⟩) xl (fun h => h)).trans x3
              have m0 := (hT.cell (p := ⟨p25, 0, none⟩) yl (fun h => h)).trans y0
              have m1 := (hT.cell (p := ⟨p25, 1, none⟩) yl (fun h => h)).trans y1
              have m2 := (hT.cell (p := ⟨p25, 2, none⟩) yl (fun h => h)).trans y2
              go_simp
              (try rw [if_pos (by omega)])
              (try with_reducible rfl)
            rotate_left
            (try simp only [Act.put, List.setIfInBounds_toArray, List.set_cons_zero, List.set_cons_succ])
            refine wpKeep_takeT (i := 5) (oi := ⟨some 135, _, _, _, _, _⟩) (v := ?_) rfl (by kernel_rfl) (by kernel_rfl) (by kernel_rfl) (by kernel_rfl) (fun _ _ _ h => h) (Or.inl ⟨by rfl, ?_⟩) (Keeps.refl _ _).drew (fun _ => trivial) ?_
            rotate_left
            · intro w' hT
              have k3 := (hT.cell (p := ⟨rb, 3, none⟩) xl (fun h => h)).trans x3
              have m0 := (hT.cell (p := ⟨p25, 0, none⟩) yl (fun h => h)).trans y0
              have m1 := (hT.cell (p := ⟨p25, 1, none⟩) yl (fun h => h)).trans y1
              have m2 := (hT.cell (p := ⟨p25, 2, none⟩) yl (fun h => h)).trans y2
              go_simp
              (try rw [if_pos (by omega)])
              (try with_reducible rfl)
            rotate_left
            (try simp only [Act.put, List.setIfInBounds_toArray, List.set_cons_zero, List.set_cons_succ])
            refine wpKeep_takeT (i := 6) (oi := ⟨some 136, _, _, _, _, _⟩) (v := ?_) rfl (by kernel_rfl) (by kernel_rfl) (by kernel_rfl) (by kernel_rfl) (fun _ _ _ h => h) (Or.inl ⟨by rfl, ?_⟩) (Keeps.refl _ _).drew (fun _ => trivial) ?_
            rotate_left
            · intro w' hT
              have k3 := (hT.cell (p := ⟨rb, 3, none⟩) xl (fun h => h)).trans x3
              have m0 := (hT.cell (p := ⟨p25, 0, none⟩) yl (fun h => h)).trans y0
              have m1 := (hT.cell (p := ⟨p25, 1, none⟩) yl (fun h => h)).trans y1
              have m2 := (hT.cell (p := ⟨p25, 2, none⟩) yl (fun h => h)).trans y2
              go_simp
              (try rw [if_pos (by omega)])
              (try with_reducible rfl)
            rotate_left
            (try simp only [Act.put, List.setIfInBounds_toArray, List.set_cons_zero, List.set_cons_succ])
            refine wpKeep_takeT (i := 7) (oi := ⟨some 137, _, _, _, _, _⟩) (v := ?_) rfl (by kernel_rfl) (by kernel_rfl) (by kernel_rfl) (by kernel_rfl) (fun _ _ _ h => h) (Or.inl ⟨by rfl, ?_⟩) (Keeps.refl _ _).drew (fun _ => trivial) ?_
            rotate_left
            · intro w' hT
              have k3 := (hT.cell (p := ⟨rb, 3, none⟩) xl (fun h => h)).trans x3
              have m0 := (hT.cell (p := ⟨p25, 0, none⟩) yl (fun h => h)).trans y0
              have m1 := (hT.cell (p := ⟨p25, 1, none⟩) yl (fun h => h)).trans y1
              have m2 := (hT.cell (p := ⟨p25, 2, none⟩) yl (fun h => h)).trans y2
              go_simp
              (try rw [if_pos (by omega)])
              (try with_reducible rfl)
            rotate_left
            (try simp only [Act.put, List.setIfInBounds_toArray, List.set_cons_zero, List.set_cons_succ])
            refine wpKeep_ready (rs := [8, 12]) (by kernel_rfl) (by simp) ?_
            refine AllKeep.cons (o := ⟨some 138, _, _, _, _, _⟩) rfl (fun K hK => ?_) (AllKeep.cons (o := ⟨some 27, _, _, _, _, _⟩) rfl (fun K hK => ?_) AllKeep.nil)
            · go_simp
              go_at_call 29
              with_reducible refine (HJOIN.out _ (Keeps.refl (fun _ => False) wA).drew).mono ?_
              rintro x w8 ⟨u2, l9, rfl, hc9, ho9, -, f8⟩
              have := hc9.unique HLE.out
              subst this
              obtain ⟨ao9, cp9, e9⟩ := ownsRow_slice ho9.1
              rw [List.length_map] at e9
              subst e9
              dsimp only
              have f9 : Fresh wA w8 := (Keeps.refl (fun _ => False) wA).drew.trans f8
              have ho9' : OwnTexts wA.heap.size w8 (.slice ao9 l9.length cp9) (l9.map V) := ho9
              refine hK.out _ _ f9 (fun _ => trivial) ?_
              clear hK K
              (try simp only [Act.put, List.setIfInBounds_toArray, List.set_cons_zero, List.set_cons_succ])
              refine wpKeep_takeT (i := 9) (oi := ⟨some 129, _, _, _, _, _⟩) (v := ?_) rfl (by kernel_rfl) (by kernel_rfl) (by kernel_rfl) (by kernel_rfl) (fun _ _ _ h => h) (Or.inl ⟨by rfl, ?_⟩) f9 (fun _ => trivial) ?_
              rotate_left
              · intro w' hT
                go_simp
                (try rw [if_pos (by omega)])
                (try with_reducible rfl)
              rotate_left
              (try simp only [Act.put, List.setIfInBounds_toArray, List.set_cons_zero, List.set_cons_succ])
              refine wpKeep_takeT (i := 10) (oi := ⟨some 139, _, _, _, _, _⟩) (v := ?_) rfl (by kernel_rfl) (by kernel_rfl) (by kernel_rfl) (by kernel_rfl) (fun _ _ _ h => h) (Or.inl ⟨by rfl, ?_⟩) f9 (fun _ => trivial) ?_
              rotate_left
              · intro w' hT
                go_simp
                (try rw [if_pos (by omega)])
                (try with_reducible rfl)
              rotate_left
              (try simp only [Act.put, List.setIfInBounds_toArray, List.set_cons_zero, List.set_cons_succ])
              refine wpKeep_takeT (i := 11) (oi := ⟨some 140, _, _, _, _, _⟩) (v := ?_) rfl (by kernel_rfl) (by kernel_rfl) (by kernel_rfl) (by kernel_rfl) (fun _ _ _ h => h) (Or.inl ⟨by rfl, ?_⟩) f9 (fun _ => trivial) ?_
              rotate_left
              · intro w' hT
                go_simp
                (try rw [if_pos (by omega)])
                (try with_reducible rfl)
              rotate_left
              (try simp only [Act.put, List.setIfInBounds_toArray, List.set_cons_zero, List.set_cons_succ])
              refine wpKeep_ready (rs := [12]) (by kernel_rfl) (by simp) ?_
              refine AllKeep.cons (o := ⟨some 27, _, _, _, _, _⟩) rfl (fun K hK => ?_) AllKeep.nil
              go_simp
              refine hK.out _ _ (f9.alloc _) (fun _ => trivial) ?_
              clear hK K
              (try simp only [Act.put, List.setIfInBounds_toArray, List.set_cons_zero, List.set_cons_succ])
              refine wpKeep_ready (rs := [13]) (by kernel_rfl) (by simp) ?_
              refine AllKeep.cons (o := ⟨none, _, _, _, _, _⟩) rfl (fun K hK => ?_) AllKeep.nil
              go_simp
              refine hK.out _ _ (f9.alloc _) (fun _ => trivial) ?_
              clear hK K
              (try simp only [Act.put, List.setIfInBounds_toArray, List.set_cons_zero, List.set_cons_succ])
              refine wpKeep_takeT (i := 14) (oi := ⟨some 28, _, _, _, _, _⟩) (v := ?_) rfl (by kernel_rfl) (by kernel_rfl) (by kernel_rfl) (by kernel_rfl) (fun _ _ _ h => h) (Or.inl ⟨by rfl, ?_⟩) (f9.alloc _) (fun _ => trivial) ?_
              rotate_left
              · intro w' hT
                go_simp
                (try rw [if_pos (by omega)])
                (try with_reducible rfl)
              rotate_left
              (try simp only [Act.put, List.setIfInBounds_toArray, List.set_cons_zero, List.set_cons_succ])
              refine wpKeep_done (by kernel_rfl) ?_ _
              have hnx := heap_alloc_new w8 (.cells #[.int .i64 0, .int .i64 (e : Int), .slice ao9 l9.length cp9] 67)
              have fnx := (Keeps.refl (fun _ => False) w8).alloc (.cells #[.int .i64 0, .int .i64 (e : Int), .slice ao9 l9.length cp9] 67)
              have h98 := f9.size
              go_wp2_with fail
              go_meet
              case rel => exact ⟨_, _, rfl, rfl, hnx, ho9'.fresh fnx, h98, (fun z => by have := (World.ownsRow.lt ho9'.1 _ z).2; omega), f9.trans fnx⟩
            · go_simp
              refine hK.out _ _ (((Keeps.refl (fun _ => False) wA).alloc _).drew) (fun _ => trivial) ?_
              clear hK K
              (try simp only [Act.put, List.setIfInBounds_toArray, List.set_cons_zero, List.set_cons_succ])
              have fz := ((Keeps.refl (fun _ => False) wA).alloc (.cells #[.int .i64 0, .int .i64 0, .slice none 0 0] 67)).drew
              have hz0 := ((Keeps.refl (fun _ => False) (wA.alloc (.cells #[.int .i64 0, .int .i64 0, .slice none 0 0] 67))).drew).at_ (heap_alloc_new wA (.cells #[.int .i64 0, .int .i64 0, .slice none 0 0] 67)) (fun h => h)
              refine wpKeep_ready (rs := [8]) (by kernel_rfl) (by simp) ?_
              refine AllKeep.cons (o := ⟨some 138, _, _, _, _, _⟩) rfl (fun K hK => ?_) AllKeep.nil
              go_simp
              go_at_call 29
              with_reducible refine (HJOIN.out _ fz).mono ?_
              rintro x w8 ⟨u2, l9, rfl, hc9, ho9, -, f8⟩
              have := hc9.unique HLE.out
              subst this
              obtain ⟨ao9, cp9, e9⟩ := ownsRow_slice ho9.1
              rw [List.length_map] at e9
              subst e9
              dsimp only
              have f9 : Fresh wA w8 := fz.trans f8
              have hz := f8.at_ hz0 (fun h => h)
              have ho9' : OwnTexts (wA.heap.size + 1) w8 (.slice ao9 l9.length cp9) (l9.map V) := by simpa using ho9
              have q0 := cell_at hz 0
              have q1 := cell_at hz 1
              have q2 := cell_at hz 2
              have v0 := free_at hz 0
              have v1 := free_at hz 1
              have v2 := free_at hz 2
              have ql := lt_of_block hz
              simp at q0 q1 q2
              refine hK.out _ _ f9 (fun _ => trivial) ?_
              clear hK K
              (try simp only [Act.put, List.setIfInBounds_toArray, List.set_cons_zero, List.set_cons_succ])
              refine wpKeep_takeT (i := 9) (oi := ⟨some 129, _, _, _, _, _⟩) (v := ?_) rfl (by kernel_rfl) (by kernel_rfl) (by kernel_rfl) (by kernel_rfl) (fun _ _ _ h => h) (Or.inl ⟨by rfl, ?_⟩) f9 (fun _ => trivial) ?_
              rotate_left
              · intro w' hT
                go_simp
                (try rw [if_pos (by omega)])
                (try with_reducible rfl)
              rotate_left
              (try simp only [Act.put, List.setIfInBounds_toArray, List.set_cons_zero, List.set_cons_succ])
              refine wpKeep_takeT (i := 10) (oi := ⟨some 139, _, _, _, _, _⟩) (v := ?_) rfl (by kernel_rfl) (by kernel_rfl) (by kernel_rfl) (by kernel_rfl) (fun _ _ _ h => h) (Or.inl ⟨by rfl, ?_⟩) f9 (fun _ => trivial) ?_
              rotate_left
              · intro w' hT
                go_simp
                (try rw [if_pos (by omega)])
                (try with_reducible rfl)
              rotate_left
              (try simp only [Act.put, List.setIfInBounds_toArray, List.set_cons_zero, List.set_cons_succ])
              refine wpKeep_takeT (i := 11) (oi := ⟨some 140, _, _, _, _, _⟩) (v := ?_) rfl (by kernel_rfl) (by kernel_rfl) (by kernel_rfl) (by kernel_rfl) (fun _ _ _ h => h) (Or.inl ⟨by rfl, ?_⟩) f9 (fun _ => trivial) ?_
              rotate_left
              · intro w' hT
                go_simp
                (try rw [if_pos (by omega)])
                (try with_reducible rfl)
              rotate_left
              (try simp only [Act.put, List.setIfInBounds_toArray, List.set_cons_zero, List.set_cons_succ])
              refine wpKeep_ready (rs := [13]) (by kernel_rfl) (by simp) ?_
              refine AllKeep.cons (o := ⟨none, _, _, _, _, _⟩) rfl (fun K hK => ?_) AllKeep.nil
              go_simp
              refine hK.out _ _ (((f9.setCell (p := ⟨wA.heap.size, 0, none⟩) (fun h => absurd h (by simp)) _).setCell (p := ⟨wA.heap.size, 1, none⟩) (fun h => absurd h (by simp)) _).setCell (p := ⟨wA.heap.size, 2, none⟩) (fun h => absurd h (by simp)) _) (fun _ => trivial) ?_
              clear hK K
              (try simp only [Act.put, List.setIfInBounds_toArray, List.set_cons_zero, List.set_cons_succ])
              refine wpKeep_takeT (i := 14) (oi := ⟨some 28, _, _, _, _, _⟩) (v := ?_) rfl (by kernel_rfl) (by kernel_rfl) (by kernel_rfl) (by kernel_rfl) (fun _ _ _ h => h) (Or.inl ⟨by rfl, ?_⟩) (((f9.setCell (p := ⟨wA.heap.size, 0, none⟩) (fun h => absurd h (by simp)) _).setCell (p := ⟨wA.heap.size, 1, none⟩) (fun h => absurd h (by simp)) _).setCell (p := ⟨wA.heap.size, 2, none⟩) (fun h => absurd h (by simp)) _) (fun _ => trivial) ?_
              rotate_left
              · intro w' hT
                go_simp
                (try rw [if_pos (by omega)])
                (try with_reducible rfl)
              rotate_left
              (try simp only [Act.put, List.setIfInBounds_toArray, List.set_cons_zero, List.set_cons_succ])
              refine wpKeep_done (by kernel_rfl) ?_ _
              have hnx := heap_setCell_at (heap_setCell_at (heap_setCell_at hz 0 (.int .i64 0)) 1 (.int .i64 (e : Int))) 2 (.slice ao9 l9.length cp9)
              have kx := ((((Keeps.refl (fun q => q = wA.heap.size) w8).setCell (p := ⟨wA.heap.size, 0, none⟩) (fun _ => rfl) (.int .i64 0)).setCell (p := ⟨wA.heap.size, 1, none⟩) (fun _ => rfl) (.int .i64 (e : Int))).setCell (p := ⟨wA.heap.size, 2, none⟩) (fun _ => rfl) (.slice ao9 l9.length cp9))
              go_wp2_with fail
              go_meet
              case rel => exact ⟨_, _, rfl, rfl, by simpa using hnx, ⟨ownsRow_keeps ho9'.1 kx (fun z hz e => by have := ho9'.2 z hz; omega), fun z hz => by have := ho9'.2 z hz; omega⟩, Nat.le_refl _, (fun z => by have := ho9'.2 _ z; omega), (((f9.setCell (p := ⟨wA.heap.size, 0, none⟩) (fun h => absurd h (by simp)) _).setCell (p := ⟨wA.heap.size, 1, none⟩) (fun h => absurd h (by simp)) _).setCell (p := ⟨wA.heap.size, 2, none⟩) (fun h => absurd h (by simp)) _)⟩
          case rest =>
            obtain ⟨p27, u2, rfl, rfl, hb27, hou, hp27, hne27, f8⟩ := hcut
            obtain ⟨ao9, cp9, e9⟩ := ownsRow_slice hou.1
            rw [List.length_map] at e9
            subst e9
            have HB27 := hid hb27
            have HOU := hid hou
            have HP27 := hid hp27
            have HNE27 := hid hne27
            have HF8 := hid f8
            clear hb27 hou hp27 hne27 x3 xl y0 y1 y2 yl HJOIN
            go_wp2_with fail
            rw [hbm.out]
            refine (HCE.out _).mono ?_
            rintro x w9 ⟨ao3, l3, rfl, hc3, ⟨cap3, hrow3⟩, f9⟩
            have := hc3.unique HLE.out
            subst this
            have HROW3 := hid hrow3
            have hb9 := f9.at_ HB27.out (fun h => h)
            have y0 := (cell_at hb9 2).trans (show _ = some (Value.slice ao9 l3.length cp9) from rfl)
            have yl := lt_of_block hb9
            have f89 := f8.trans f9
            clear hc3 hrow3 f8
            go_wp2_with fail
            clear y0 yl hb9
            obtain ⟨wd, hwd⟩ : ∃ wd, wd = w9 := ⟨_, rfl⟩
            subst hwd
            obtain ⟨i1, ki, kz0, kz1, kz2⟩ := info_parts Tryd.infoSpan
            have hll : l3.length ≤ 41 := (cut_few HLE.out (by have := HBE.out; omega) HEN.out HM.out.2.2.1).2
            have HLL := hid hll
            clear hll
            go_loopw [31, 32] (fun v i w4 => ∃ (q : Nat) (A : List (Nat × Nat)), i = .int .i64 (q : Int) ∧ q ≤ l3.length ∧ A = (l3.take q).map spanOf ∧ w4.ownsRow 0 24 2 v A.length (spanCells A) ∧ (∀ g, v.ownBlock = some g → wd.heap.size ≤ g) ∧ Fresh wd w4) (fun _ i _ => l3.length - (intOf i).toNat)
            case atStart => exact ⟨0, [], rfl, Nat.zero_le _, rfl, World.ownsRow_nil _ _ _ _, (fun g hg => by simp [Value.ownBlock] at hg), Keeps.refl _ _⟩
            case round =>
              obtain ⟨q, A, rfl, hq, hA, hrow, ok, f4⟩ := hrel
              obtain ⟨aoS, cpS, erv⟩ := ownsRow_slice hrow
              subst erv
              have hAl : A.length = q := by rw [hA, List.length_map, List.length_take]; omega
              have HROW := hid hrow
              have HO := hid ok
              have HA := hid hA
              have HAL := hid hAl
              by_cases hlt : q < l3.length
              · obtain ⟨y, hy⟩ : ∃ y, l3[q]? = some y := ⟨l3[q], by simp⟩
                obtain ⟨y1, y2⟩ := y
                obtain ⟨g1, g2, g3, g4, g5⟩ := HLE.out.row.1.get hy
                simp only at g1 g2 g3 g4 g5
                obtain ⟨g, eao, hcells⟩ := rowCellsB (ownsRow_keeps HROW3.out f4 (fun _ _ h => h)) (by omega)
                subst eao
                have hc := ncells_at l3 q _ hy
                obtain ⟨gl, x0⟩ := hcells _ _ hc.1
                have x1 := (hcells _ _ hc.2).2
                (try simp only at x0 x1)
                have hk40 : y2 ≤ 40 := pow_le_of40 (by have := HEN.out; have := HM.out; omega)
                have hki : (y2 : Int) ≤ 40 := by omega
                obtain ⟨P, hP⟩ : ∃ P, 2 ^ y2 = P := ⟨_, rfl⟩
                obtain ⟨Q, hQ⟩ : ∃ Q, y1 / 2 ^ y2 = Q := ⟨_, rfl⟩
                have hPi : (2 : Int) ^ y2 = (P : Int) := by rw [← hP]; simp
                have hmul : Q * P = y1 := by rw [← hQ, ← hP]; exact Nat.div_mul_cancel (Nat.dvd_of_mod_eq_zero g3)
                have hy1b : y1 + P ≤ 1099511627776 := by rw [hP] at g5; have := HEN.out; have := HM.out; omega
                have hmi : (Q : Int) * (P : Int) = (y1 : Int) := by rw [← hmul]; simp
                have hmi2 : ((Q : Int) + 1) * (P : Int) = ((y1 : Int) + (P : Int)) := by rw [Int.add_mul, hmi]; simp
                have hQb : (Q : Int) ≤ 1099511627776 := by
                  have := Nat.div_le_self y1 (2 ^ y2)
                  rw [hQ] at this
                  omega
                have hQb0 : (0 : Int) ≤ (Q : Int) := by omega
                have w1 : IntKind.i64.wrap ((Q : Int) * (P : Int)) = (y1 : Int) := by rw [hmi, IntWalk.i64_in _ (by omega)]
                have w0 : IntKind.i64.wrap ((Q : Int) + 1) = (Q : Int) + 1 := IntWalk.i64_in _ (by omega)
                have w2 : IntKind.i64.wrap (((Q : Int) + 1) * (P : Int)) = ((y1 : Int) + (P : Int)) := by rw [hmi2, IntWalk.i64_in _ (by omega)]
                rw [hQ] at x1
                have hqi : (q : Int) < (l3.length : Int) := by omega
                have hq0 : (0 : Int) ≤ (q : Int) := by omega
                have hqb : (q : Int) ≤ 41 := by have := HLL.out; omega
                have hof : ¬ (Value.slice aoS A.length cpS).ownBlock = some g := fun z => by have := HO.out g z; have := (World.ownsRow.lt HROW3.out g rfl).2; omega
                have hsp : spanOf (y1, y2) = (y1, y1 + P) := by rw [← hP]; rfl
                have HSP := hid hsp
                have HY := hid hy
                have HLT := hid hlt
                have HBD := hid (show (A.length + 1) * 16 ≤ 140737488355328 ∧ A.length + 1 ≤ 42 by have := HLL.out; omega)
                clear hsp hcells hc hy g1 g2 g3 g4 g5 hk40 hP hQ hmul hmi hmi2 hlt hq hA hrow ok hAl
                go_wp2_with fail
                refine wp_region_keep 28 (fun w' => Keeps (fun z => (Value.slice aoS A.length cpS).ownBlock = some z) wr w') (fun _ => True) (fun _ => true) (by kernel_rfl) (by kernel_rfl) ?_
                (try (change wpKeep _ _ _ _ _ _ _ _ _ _ (World.drew _)))
                refine wpKeep_takeT (i := 0) (oi := ⟨some 177, _, _, _, _, _⟩) (v := ?_) rfl (by kernel_rfl) (by kernel_rfl) (by kernel_rfl) (by kernel_rfl) (fun _ _ _ h => h) (Or.inl ⟨by rfl, ?_⟩) (Keeps.refl _ _).drew (fun _ => trivial) ?_
                rotate_left
                · intro w' hT
                  have k0 := (hT.cell (p := ⟨g, q * 2, none⟩) gl hof).trans x0
                  have k1 := (hT.cell (p := ⟨g, q * 2 + 1, none⟩) gl hof).trans x1
                  go_simp
                  (try rw [if_pos (by omega)])
                  (try with_reducible rfl)
                rotate_left
                (try simp only [Act.put, List.setIfInBounds_toArray, List.set_cons_zero, List.set_cons_succ])
                refine wpKeep_takeT (i := 1) (oi := ⟨some 178, _, _, _, _, _⟩) (v := ?_) rfl (by kernel_rfl) (by kernel_rfl) (by kernel_rfl) (by kernel_rfl) (fun _ _ _ h => h) (Or.inl ⟨by rfl, ?_⟩) (Keeps.refl _ _).drew (fun _ => trivial) ?_
                rotate_left
                · intro w' hT
                  have k0 := (hT.cell (p := ⟨g, q * 2, none⟩) gl hof).trans x0
                  have k1 := (hT.cell (p := ⟨g, q * 2 + 1, none⟩) gl hof).trans x1
                  go_simp
                  (try rw [if_pos (by omega)])
                  (try with_reducible rfl)
                rotate_left
                (try simp only [Act.put, List.setIfInBounds_toArray, List.set_cons_zero, List.set_cons_succ])
                refine wpKeep_takeT (i := 2) (oi := ⟨some 179, _, _, _, _, _⟩) (v := ?_) rfl (by kernel_rfl) (by kernel_rfl) (by kernel_rfl) (by kernel_rfl) (fun _ _ _ h => h) (Or.inl ⟨by rfl, ?_⟩) (Keeps.refl _ _).drew (fun _ => trivial) ?_
                rotate_left
                · intro w' hT
                  have k0 := (hT.cell (p := ⟨g, q * 2, none⟩) gl hof).trans x0
                  have k1 := (hT.cell (p := ⟨g, q * 2 + 1, none⟩) gl hof).trans x1
                  go_simp
                  (try rw [if_pos (by omega)])
                  (try with_reducible rfl)
                rotate_left
                (try simp only [Act.put, List.setIfInBounds_toArray, List.set_cons_zero, List.set_cons_succ])
                refine wpKeep_takeT (i := 3) (oi := ⟨some 180, _, _, _, _, _⟩) (v := ?_) rfl (by kernel_rfl) (by kernel_rfl) (by kernel_rfl) (by kernel_rfl) (fun _ _ _ h => h) (Or.inl ⟨by rfl, ?_⟩) (Keeps.refl _ _).drew (fun _ => trivial) ?_
                rotate_left
                · intro w' hT
                  have k0 := (hT.cell (p := ⟨g, q * 2, none⟩) gl hof).trans x0
                  have k1 := (hT.cell (p := ⟨g, q * 2 + 1, none⟩) gl hof).trans x1
                  go_simp
                  (try rw [if_pos (by omega)])
                  (try with_reducible rfl)
                rotate_left
                (try simp only [Act.put, List.setIfInBounds_toArray, List.set_cons_zero, List.set_cons_succ])
                refine wpKeep_takeT (i := 4) (oi := ⟨some 181, _, _, _, _, _⟩) (v := ?_) rfl (by kernel_rfl) (by kernel_rfl) (by kernel_rfl) (by kernel_rfl) (fun _ _ _ h => h) (Or.inl ⟨by rfl, ?_⟩) (Keeps.refl _ _).drew (fun _ => trivial) ?_
                rotate_left
                · intro w' hT
                  have k0 := (hT.cell (p := ⟨g, q * 2, none⟩) gl hof).trans x0
                  have k1 := (hT.cell (p := ⟨g, q * 2 + 1, none⟩) gl hof).trans x1
                  go_simp
                  (try rw [if_pos (by omega)])
                  (try with_reducible rfl)
                rotate_left
                (try simp only [Act.put, List.setIfInBounds_toArray, List.set_cons_zero, List.set_cons_succ])
                refine wpKeep_takeT (i := 5) (oi := ⟨some 182, _, _, _, _, _⟩) (v := ?_) rfl (by kernel_rfl) (by kernel_rfl) (by kernel_rfl) (by kernel_rfl) (fun _ _ _ h => h) (Or.inl ⟨by rfl, ?_⟩) (Keeps.refl _ _).drew (fun _ => trivial) ?_
                rotate_left
                · intro w' hT
                  have k0 := (hT.cell (p := ⟨g, q * 2, none⟩) gl hof).trans x0
                  have k1 := (hT.cell (p := ⟨g, q * 2 + 1, none⟩) gl hof).trans x1
                  go_simp
                  (try rw [if_pos (by omega)])
                  (try with_reducible rfl)
                rotate_left
                (try simp only [Act.put, List.setIfInBounds_toArray, List.set_cons_zero, List.set_cons_succ])
                refine wpKeep_takeT (i := 6) (oi := ⟨some 183, _, _, _, _, _⟩) (v := ?_) rfl (by kernel_rfl) (by kernel_rfl) (by kernel_rfl) (by kernel_rfl) (fun _ _ _ h => h) (Or.inl ⟨by rfl, ?_⟩) (Keeps.refl _ _).drew (fun _ => trivial) ?_
                rotate_left
                · intro w' hT
                  have k0 := (hT.cell (p := ⟨g, q * 2, none⟩) gl hof).trans x0
                  have k1 := (hT.cell (p := ⟨g, q * 2 + 1, none⟩) gl hof).trans x1
                  go_simp
                  (try rw [if_pos (by omega)])
                  (try with_reducible rfl)
                rotate_left
                (try simp only [Act.put, List.setIfInBounds_toArray, List.set_cons_zero, List.set_cons_succ])
                refine wpKeep_takeT (i := 7) (oi := ⟨some 184, _, _, _, _, _⟩) (v := ?_) rfl (by kernel_rfl) (by kernel_rfl) (by kernel_rfl) (by kernel_rfl) (fun _ _ _ h => h) (Or.inl ⟨by rfl, ?_⟩) (Keeps.refl _ _).drew (fun _ => trivial) ?_
                rotate_left
                · intro w' hT
                  have k0 := (hT.cell (p := ⟨g, q * 2, none⟩) gl hof).trans x0
                  have k1 := (hT.cell (p := ⟨g, q * 2 + 1, none⟩) gl hof).trans x1
                  go_simp
                  (try rw [if_pos (by omega)])
                  (try with_reducible rfl)
                rotate_left
                (try simp only [Act.put, List.setIfInBounds_toArray, List.set_cons_zero, List.set_cons_succ])
                refine wpKeep_takeT (i := 8) (oi := ⟨some 185, _, _, _, _, _⟩) (v := ?_) rfl (by kernel_rfl) (by kernel_rfl) (by kernel_rfl) (by kernel_rfl) (fun _ _ _ h => h) (Or.inl ⟨by rfl, ?_⟩) (Keeps.refl _ _).drew (fun _ => trivial) ?_
                rotate_left
                · intro w' hT
                  have k0 := (hT.cell (p := ⟨g, q * 2, none⟩) gl hof).trans x0
                  have k1 := (hT.cell (p := ⟨g, q * 2 + 1, none⟩) gl hof).trans x1
                  go_simp
                  (try rw [if_pos (by omega)])
                  (try with_reducible rfl)
                rotate_left
                (try simp only [Act.put, List.setIfInBounds_toArray, List.set_cons_zero, List.set_cons_succ])
                refine wpKeep_takeT (i := 9) (oi := ⟨some 186, _, _, _, _, _⟩) (v := ?_) rfl (by kernel_rfl) (by kernel_rfl) (by kernel_rfl) (by kernel_rfl) (fun _ _ _ h => h) (Or.inl ⟨by rfl, ?_⟩) (Keeps.refl _ _).drew (fun _ => trivial) ?_
                rotate_left
                · intro w' hT
                  have k0 := (hT.cell (p := ⟨g, q * 2, none⟩) gl hof).trans x0
                  have k1 := (hT.cell (p := ⟨g, q * 2 + 1, none⟩) gl hof).trans x1
                  go_simp
                  (try rw [if_pos (by omega)])
                  (try with_reducible rfl)
                rotate_left
                (try simp only [Act.put, List.setIfInBounds_toArray, List.set_cons_zero, List.set_cons_succ])
                refine wpKeep_takeT (i := 10) (oi := ⟨some 187, _, _, _, _, _⟩) (v := ?_) rfl (by kernel_rfl) (by kernel_rfl) (by kernel_rfl) (by kernel_rfl) (fun _ _ _ h => h) (Or.inl ⟨by rfl, ?_⟩) (Keeps.refl _ _).drew (fun _ => trivial) ?_
                rotate_left
                · intro w' hT
                  have k0 := (hT.cell (p := ⟨g, q * 2, none⟩) gl hof).trans x0
                  have k1 := (hT.cell (p := ⟨g, q * 2 + 1, none⟩) gl hof).trans x1
                  go_simp
                  (try rw [if_pos (by omega)])
                  (try with_reducible rfl)
                rotate_left
                (try simp only [Act.put, List.setIfInBounds_toArray, List.set_cons_zero, List.set_cons_succ])
                refine wpKeep_takeT (i := 11) (oi := ⟨some 188, _, _, _, _, _⟩) (v := ?_) rfl (by kernel_rfl) (by kernel_rfl) (by kernel_rfl) (by kernel_rfl) (fun _ _ _ h => h) (Or.inl ⟨by rfl, ?_⟩) (Keeps.refl _ _).drew (fun _ => trivial) ?_
                rotate_left
                · intro w' hT
                  have k0 := (hT.cell (p := ⟨g, q * 2, none⟩) gl hof).trans x0
                  have k1 := (hT.cell (p := ⟨g, q * 2 + 1, none⟩) gl hof).trans x1
                  go_simp
                  (try rw [if_pos (by omega)])
                  (try with_reducible rfl)
                rotate_left
                (try simp only [Act.put, List.setIfInBounds_toArray, List.set_cons_zero, List.set_cons_succ])
                refine wpKeep_takeT (i := 12) (oi := ⟨some 189, _, _, _, _, _⟩) (v := ?_) rfl (by kernel_rfl) (by kernel_rfl) (by kernel_rfl) (by kernel_rfl) (fun _ _ _ h => h) (Or.inl ⟨by rfl, ?_⟩) (Keeps.refl _ _).drew (fun _ => trivial) ?_
                rotate_left
                · intro w' hT
                  have k0 := (hT.cell (p := ⟨g, q * 2, none⟩) gl hof).trans x0
                  have k1 := (hT.cell (p := ⟨g, q * 2 + 1, none⟩) gl hof).trans x1
                  go_simp
                  (try rw [if_pos (by omega)])
                  (try with_reducible rfl)
                rotate_left
                (try simp only [Act.put, List.setIfInBounds_toArray, List.set_cons_zero, List.set_cons_succ])
                refine wpKeep_takeT (i := 13) (oi := ⟨some 190, _, _, _, _, _⟩) (v := ?_) rfl (by kernel_rfl) (by kernel_rfl) (by kernel_rfl) (by kernel_rfl) (fun _ _ _ h => h) (Or.inl ⟨by rfl, ?_⟩) (Keeps.refl _ _).drew (fun _ => trivial) ?_
                rotate_left
                · intro w' hT
                  have k0 := (hT.cell (p := ⟨g, q * 2, none⟩) gl hof).trans x0
                  have k1 := (hT.cell (p := ⟨g, q * 2 + 1, none⟩) gl hof).trans x1
                  go_simp
                  (try rw [if_pos (by omega)])
                  (try with_reducible rfl)
                rotate_left
                (try simp only [Act.put, List.setIfInBounds_toArray, List.set_cons_zero, List.set_cons_succ])
                refine wpKeep_takeT (i := 14) (oi := ⟨some 191, _, _, _, _, _⟩) (v := ?_) rfl (by kernel_rfl) (by kernel_rfl) (by kernel_rfl) (by kernel_rfl) (fun _ _ _ h => h) (Or.inl ⟨by rfl, ?_⟩) (Keeps.refl _ _).drew (fun _ => trivial) ?_
                rotate_left
                · intro w' hT
                  have k0 := (hT.cell (p := ⟨g, q * 2, none⟩) gl hof).trans x0
                  have k1 := (hT.cell (p := ⟨g, q * 2 + 1, none⟩) gl hof).trans x1
                  go_simp
                  (try rw [if_pos (by omega)])
                  (try with_reducible rfl)
                rotate_left
                (try simp only [Act.put, List.setIfInBounds_toArray, List.set_cons_zero, List.set_cons_succ])
                refine wpKeep_takeT (i := 15) (oi := ⟨some 192, _, _, _, _, _⟩) (v := ?_) rfl (by kernel_rfl) (by kernel_rfl) (by kernel_rfl) (by kernel_rfl) (fun _ _ _ h => h) (Or.inl ⟨by rfl, ?_⟩) (Keeps.refl _ _).drew (fun _ => trivial) ?_
                rotate_left
                · intro w' hT
                  have k0 := (hT.cell (p := ⟨g, q * 2, none⟩) gl hof).trans x0
                  have k1 := (hT.cell (p := ⟨g, q * 2 + 1, none⟩) gl hof).trans x1
                  go_simp
                  (try rw [if_pos (by omega)])
                  (try with_reducible rfl)
                rotate_left
                (try simp only [Act.put, List.setIfInBounds_toArray, List.set_cons_zero, List.set_cons_succ])
                refine wpKeep_takeT (i := 16) (oi := ⟨some 193, _, _, _, _, _⟩) (v := ?_) rfl (by kernel_rfl) (by kernel_rfl) (by kernel_rfl) (by kernel_rfl) (fun _ _ _ h => h) (Or.inl ⟨by rfl, ?_⟩) (Keeps.refl _ _).drew (fun _ => trivial) ?_
                rotate_left
                · intro w' hT
                  have k0 := (hT.cell (p := ⟨g, q * 2, none⟩) gl hof).trans x0
                  have k1 := (hT.cell (p := ⟨g, q * 2 + 1, none⟩) gl hof).trans x1
                  go_simp
                  (try rw [if_pos (by omega)])
                  (try with_reducible rfl)
                rotate_left
                (try simp only [Act.put, List.setIfInBounds_toArray, List.set_cons_zero, List.set_cons_succ])
                refine wpKeep_takeT (i := 17) (oi := ⟨some 194, _, _, _, _, _⟩) (v := ?_) rfl (by kernel_rfl) (by kernel_rfl) (by kernel_rfl) (by kernel_rfl) (fun _ _ _ h => h) (Or.inl ⟨by rfl, ?_⟩) (Keeps.refl _ _).drew (fun _ => trivial) ?_
                rotate_left
                · intro w' hT
                  have k0 := (hT.cell (p := ⟨g, q * 2, none⟩) gl hof).trans x0
                  have k1 := (hT.cell (p := ⟨g, q * 2 + 1, none⟩) gl hof).trans x1
                  go_simp
                  (try rw [if_pos (by omega)])
                  (try with_reducible rfl)
                rotate_left
                (try simp only [Act.put, List.setIfInBounds_toArray, List.set_cons_zero, List.set_cons_succ])
                refine wpKeep_takeT (i := 18) (oi := ⟨some 195, _, _, _, _, _⟩) (v := ?_) rfl (by kernel_rfl) (by kernel_rfl) (by kernel_rfl) (by kernel_rfl) (fun _ _ _ h => h) (Or.inl ⟨by rfl, ?_⟩) (Keeps.refl _ _).drew (fun _ => trivial) ?_
                rotate_left
                · intro w' hT
                  have k0 := (hT.cell (p := ⟨g, q * 2, none⟩) gl hof).trans x0
                  have k1 := (hT.cell (p := ⟨g, q * 2 + 1, none⟩) gl hof).trans x1
                  go_simp
                  (try rw [if_pos (by omega)])
                  (try with_reducible rfl)
                rotate_left
                (try simp only [Act.put, List.setIfInBounds_toArray, List.set_cons_zero, List.set_cons_succ])
                refine wpKeep_takeT (i := 19) (oi := ⟨some 196, _, _, _, _, _⟩) (v := ?_) rfl (by kernel_rfl) (by kernel_rfl) (by kernel_rfl) (by kernel_rfl) (fun _ _ _ h => h) (Or.inl ⟨by rfl, ?_⟩) (Keeps.refl _ _).drew (fun _ => trivial) ?_
                rotate_left
                · intro w' hT
                  have k0 := (hT.cell (p := ⟨g, q * 2, none⟩) gl hof).trans x0
                  have k1 := (hT.cell (p := ⟨g, q * 2 + 1, none⟩) gl hof).trans x1
                  go_simp
                  (try rw [if_pos (by omega)])
                  (try with_reducible rfl)
                rotate_left
                (try simp only [Act.put, List.setIfInBounds_toArray, List.set_cons_zero, List.set_cons_succ])
                refine wpKeep_takeT (i := 20) (oi := ⟨some 197, _, _, _, _, _⟩) (v := ?_) rfl (by kernel_rfl) (by kernel_rfl) (by kernel_rfl) (by kernel_rfl) (fun _ _ _ h => h) (Or.inl ⟨by rfl, ?_⟩) (Keeps.refl _ _).drew (fun _ => trivial) ?_
                rotate_left
                · intro w' hT
                  have k0 := (hT.cell (p := ⟨g, q * 2, none⟩) gl hof).trans x0
                  have k1 := (hT.cell (p := ⟨g, q * 2 + 1, none⟩) gl hof).trans x1
                  go_simp
                  (try rw [if_pos (by omega)])
                  (try with_reducible rfl)
                rotate_left
                (try simp only [Act.put, List.setIfInBounds_toArray, List.set_cons_zero, List.set_cons_succ])
                refine wpKeep_takeT (i := 21) (oi := ⟨some 198, _, _, _, _, _⟩) (v := ?_) rfl (by kernel_rfl) (by kernel_rfl) (by kernel_rfl) (by kernel_rfl) (fun _ _ _ h => h) (Or.inl ⟨by rfl, ?_⟩) (Keeps.refl _ _).drew (fun _ => trivial) ?_
                rotate_left
                · intro w' hT
                  have k0 := (hT.cell (p := ⟨g, q * 2, none⟩) gl hof).trans x0
                  have k1 := (hT.cell (p := ⟨g, q * 2 + 1, none⟩) gl hof).trans x1
                  go_simp
                  (try rw [if_pos (by omega)])
                  (try with_reducible rfl)
                rotate_left
                (try simp only [Act.put, List.setIfInBounds_toArray, List.set_cons_zero, List.set_cons_succ])
                refine wpKeep_takeT (i := 22) (oi := ⟨some 199, _, _, _, _, _⟩) (v := ?_) rfl (by kernel_rfl) (by kernel_rfl) (by kernel_rfl) (by kernel_rfl) (fun _ _ _ h => h) (Or.inl ⟨by rfl, ?_⟩) (Keeps.refl _ _).drew (fun _ => trivial) ?_
                rotate_left
                · intro w' hT
                  have k0 := (hT.cell (p := ⟨g, q * 2, none⟩) gl hof).trans x0
                  have k1 := (hT.cell (p := ⟨g, q * 2 + 1, none⟩) gl hof).trans x1
                  go_simp
                  (try rw [if_pos (by omega)])
                  (try with_reducible rfl)
                rotate_left
                (try simp only [Act.put, List.setIfInBounds_toArray, List.set_cons_zero, List.set_cons_succ])
                refine wpKeep_takeT (i := 23) (oi := ⟨some 200, _, _, _, _, _⟩) (v := ?_) rfl (by kernel_rfl) (by kernel_rfl) (by kernel_rfl) (by kernel_rfl) (fun _ _ _ h => h) (Or.inl ⟨by rfl, ?_⟩) (Keeps.refl _ _).drew (fun _ => trivial) ?_
                rotate_left
                · intro w' hT
                  have k0 := (hT.cell (p := ⟨g, q * 2, none⟩) gl hof).trans x0
                  have k1 := (hT.cell (p := ⟨g, q * 2 + 1, none⟩) gl hof).trans x1
                  go_simp
                  (try rw [if_pos (by omega)])
                  (try with_reducible rfl)
                rotate_left
                (try simp only [Act.put, List.setIfInBounds_toArray, List.set_cons_zero, List.set_cons_succ])
                refine wpKeep_takeT (i := 24) (oi := ⟨some 201, _, _, _, _, _⟩) (v := ?_) rfl (by kernel_rfl) (by kernel_rfl) (by kernel_rfl) (by kernel_rfl) (fun _ _ _ h => h) (Or.inl ⟨by rfl, ?_⟩) (Keeps.refl _ _).drew (fun _ => trivial) ?_
                rotate_left
                · intro w' hT
                  have k0 := (hT.cell (p := ⟨g, q * 2, none⟩) gl hof).trans x0
                  have k1 := (hT.cell (p := ⟨g, q * 2 + 1, none⟩) gl hof).trans x1
                  go_simp
                  (try rw [if_pos (by omega)])
                  (try with_reducible rfl)
                rotate_left
                (try simp only [Act.put, List.setIfInBounds_toArray, List.set_cons_zero, List.set_cons_succ])
                refine wpKeep_ready (rs := [25]) (by kernel_rfl) (by simp) ?_
                refine AllKeep.cons (o := ⟨some 202, _, _, _, _, _⟩) rfl (fun K hK => ?_) AllKeep.nil
                go_simp
                refine hK.out _ _ ((Keeps.refl _ wr).alloc _).drew (fun _ => trivial) ?_
                clear hK K
                (try simp only [Act.put, List.setIfInBounds_toArray, List.set_cons_zero, List.set_cons_succ])
                refine wpKeep_ready (rs := [26]) (by kernel_rfl) (by simp) ?_
                refine AllKeep.cons (o := ⟨some 203, _, _, _, _, _⟩) rfl (fun K hK => ?_) AllKeep.nil
                have hdr := ((Keeps.refl (fun _ => False) wr).alloc (.cells #[.int .i64 (y1 : Int), .int .i64 ((y1 : Int) + (P : Int))] 24)).drew
                refine push_wp rfl (.tmp 177) (.tmp 202) 60 rfl 24 i1 (.agg #[.int .i64 0, .int .i64 0]) 2 16 Tryd.underlying60 ki kz0 kz1 kz2 rfl (by decide) _ (ownsRow_keeps HROW.out hdr (fun _ _ h => h)) wr.heap.size [.int .i64 (y1 : Int), .int .i64 ((y1 : Int) + (P : Int))] rfl (heap_alloc_new wr _) (by simp [Value.oneCell']) rfl rfl (by have := HBD.out; omega) (by have := HBD.out; unfold maxLen; omega) ?_
                intro v5 w5 ha
                have k5 : Keeps (fun z => (Value.slice aoS A.length cpS).ownBlock = some z) wr w5 := (hdr.mono (fun _ _ h => h.elim)).trans ha.keeps
                have hrow5 := ha.row
                have hown5 : ∀ z, v5.ownBlock = some z → (Value.slice aoS A.length cpS).ownBlock = some z ∨ wr.heap.size ≤ z := fun z hz => by
                  rcases ha.own z hz with q | q
                  · exact .inl q
                  · exact .inr (by have := hdr.size; omega)
                obtain ⟨ao5, cp5, rfl⟩ := ownsRow_slice ha.row
                clear ha hdr
                refine hK.out _ _ k5 (fun _ => trivial) ?_
                clear hK K
                (try simp only [Act.put, List.setIfInBounds_toArray, List.set_cons_zero, List.set_cons_succ])
                refine wpKeep_takeT (i := 27) (oi := ⟨some 31, _, _, _, _, _⟩) (v := ?_) rfl (by kernel_rfl) (by kernel_rfl) (by kernel_rfl) (by kernel_rfl) (fun _ _ _ h => h) (Or.inl ⟨by rfl, ?_⟩) k5 (fun _ => trivial) ?_
                rotate_left
                · intro w' hT
                  go_simp
                  (try rw [if_pos (by omega)])
                  (try with_reducible rfl)
                rotate_left
                (try simp only [Act.put, List.setIfInBounds_toArray, List.set_cons_zero, List.set_cons_succ])
                refine wpKeep_done (by kernel_rfl) ?_ _
                have hcl : spanCells A ++ [Value.int .i64 (y1 : Int), .int .i64 ((y1 : Int) + (P : Int))] = spanCells (A ++ [(y1, y1 + P)]) := by rw [spanCells_snoc]; simp
                rw [hcl] at hrow5
                have hT : A ++ [(y1, y1 + P)] = (l3.take (q + 1)).map spanOf := by rw [HA.out, List.take_add_one, HY.out, List.map_append, ← HSP.out]; rfl
                have hr5 : w5.ownsRow 0 24 2 (.slice ao5 (A.length + 1) cp5) (A ++ [(y1, y1 + P)]).length (spanCells (A ++ [(y1, y1 + P)])) := by rw [List.length_append]; exact hrow5
                have hws := f4.size
                have ho5 : ∀ z, (Value.slice ao5 (A.length + 1) cp5).ownBlock = some z → wd.heap.size ≤ z := fun z hz => by
                  rcases hown5 z hz with q | q
                  · exact HO.out z q
                  · omega
                have f5 : Fresh wd w5 := f4.trans' k5 (fun z hz e => by have := HO.out z e; omega)
                have H1 := hid hr5
                have H3 := hid ho5
                have H5 := hid f5
                have HT := hid hT
                clear hr5 ho5 f5 hT hrow5 hcl hown5 k5
                go_wp2_with fail
                go_roundw
                case rel => exact ⟨q + 1, _, by go_num, HLT.out, HT.out, H1.out, H3.out, H5.out⟩
                case measure => have := HLT.out; simp [intOf]; omega
              · obtain rfl : q = l3.length := by omega
                rw [List.take_length] at hA
                have f94 := f89.trans f4
                have hSp := (HSTB.out.fresh (FW3.out.trans (HF7.out.trans f94))).from HN.out HLAN.out
                have hsrcS := Src.ofSpans hSp
                rw [List.length_drop, HN.out] at hsrcS
                have HSRC := hid hsrcS
                have HA2 := hid hA
                have HTD := hid (show A ++ TL.drop l0.length = dF 40 e 0 n by rw [hA, ← HTL.out]; exact HVS.out.spans)
                have HLK := hid (show l0.length ≤ k ∧ k ≤ 81 from ⟨HLAN.out, by have := HFEW.out; omega⟩)
                clear hlt hq hrow ok hAl hA hSp hsrcS
                have hDn : A.length + (k - l0.length) = (dF 40 e 0 n).length := by rw [← HTD.out, List.length_append, List.length_drop, HN.out]
                have HDN := hid hDn
                have hws4 := f4.size
                have HWS4 := hid hws4
                clear hDn hws4
                go_upto_region 30 with fail
                go_cut [31] from 204 to 209 (fun s31 wx => ∃ aoD cpD, s31 = .slice aoD (dF 40 e 0 n).length cpD ∧ wx.ownsRow 0 24 2 (.slice aoD (dF 40 e 0 n).length cpD) (dF 40 e 0 n).length (spanCells (dF 40 e 0 n)) ∧ (∀ z, (Value.slice aoD (dF 40 e 0 n).length cpD).ownBlock = some z → wd.heap.size ≤ z) ∧ Keeps (fun z => (Value.slice aoS A.length cpS).ownBlock = some z) wr wx)
                case first =>
                  by_cases hcd : ct = l0.length
                  · subst hcd
                    have HS := HSRC.out
                    rw [if_pos rfl, Nat.sub_self] at HS
                    go_wp2_with (at_builtin; refine wpList_append_src rfl (.tmp 204) (.tmp 208) 60 60 rfl 24 i1 (.agg #[.int .i64 0, .int .i64 0]) 2 16 Tryd.underlying60 ki kz0 kz1 kz2 rfl (by decide) HROW.out _ (k - l0.length) (spanCells (TL.drop l0.length)) rfl rfl HS (by have := HLK.out; have := HLL.out; have := HAL.out; unfold maxLen; omega) (by have := HLK.out; have := HLL.out; have := HAL.out; omega) ?_; intro v5 w5 ha; obtain ⟨aoD, cpD, rfl⟩ := ownsRow_slice ha.row; have HAP := hid ha; clear ha)
                    have hrowD := HAP.out.row
                    rw [← show spanCells (A ++ TL.drop l0.length) = spanCells A ++ spanCells (TL.drop l0.length) by simp [spanCells], HTD.out, HDN.out] at hrowD
                    have hownD : ∀ z, (Value.slice aoD (dF 40 e 0 n).length cpD).ownBlock = some z → wd.heap.size ≤ z := fun z hz => by
                      rw [← HDN.out] at hz
                      rcases HAP.out.own z hz with q | q
                      · exact HO.out z q
                      · have := q.1; have := HWS4.out; omega
                    rw [HDN.out]
                    (try go_wp2_with fail)
                    go_meet
                    case rel => exact ⟨_, _, rfl, hrowD, hownD, HAP.out.keeps⟩
                  · have HS := HSRC.out
                    rw [if_neg hcd] at HS
                    go_wp2_with (at_builtin; refine wpList_append_src rfl (.tmp 204) (.tmp 208) 60 60 rfl 24 i1 (.agg #[.int .i64 0, .int .i64 0]) 2 16 Tryd.underlying60 ki kz0 kz1 kz2 rfl (by decide) HROW.out _ (k - l0.length) (spanCells (TL.drop l0.length)) rfl rfl HS (by have := HLK.out; have := HLL.out; have := HAL.out; unfold maxLen; omega) (by have := HLK.out; have := HLL.out; have := HAL.out; omega) ?_; intro v5 w5 ha; obtain ⟨aoD, cpD, rfl⟩ := ownsRow_slice ha.row; have HAP := hid ha; clear ha)
                    have hrowD := HAP.out.row
                    rw [← show spanCells (A ++ TL.drop l0.length) = spanCells A ++ spanCells (TL.drop l0.length) by simp [spanCells], HTD.out, HDN.out] at hrowD
                    have hownD : ∀ z, (Value.slice aoD (dF 40 e 0 n).length cpD).ownBlock = some z → wd.heap.size ≤ z := fun z hz => by
                      rw [← HDN.out] at hz
                      rcases HAP.out.own z hz with q | q
                      · exact HO.out z q
                      · have := q.1; have := HWS4.out; omega
                    rw [HDN.out]
                    (try go_wp2_with fail)
                    go_meet
                    case rel => exact ⟨_, _, rfl, hrowD, hownD, HAP.out.keeps⟩
                case rest =>
                  rename_i w5o
                  obtain ⟨aoD, cpD, rfl, hrowD, hownD, hkD⟩ := hcut
                  obtain ⟨w5, hw5⟩ : ∃ w5, w5 = wc := ⟨_, rfl⟩
                  subst hw5
                  have f95 : Fresh wA w5 := f94.trans' hkD (fun z hz e => by have := HO.out z e; have := f89.size; omega)
                  have f85 : Keeps (fun z => wd.heap.size ≤ z) wd w5 := (f4.mono (fun _ _ h => h.elim)).trans (hkD.mono (fun z _ h => HO.out z h))
                  have HROWD := hid hrowD
                  have HOWND := hid hownD
                  have HF95 := hid f95
                  have hb5 := f85.at_ (f9.at_ HB27.out (fun h => h)) (by have := lt_of_block (f9.at_ HB27.out (fun h => h)); omega)
                  have c27 := (cell_at hb5 2).trans (show _ = some (Value.slice ao9 l3.length cp9) from rfl)
                  have l27 := lt_of_block hb5
                  have hrb5 := f95.at_ HRA.out (fun h => h)
                  have crb := (cell_at hrb5 3).trans (show _ = some (Value.slice aok _ cpk) from rfl)
                  have lrb := lt_of_block hrb5
                  have hrow5 := ownsRow_keeps (ownsRow_keeps HOU.out.1 f9 (fun _ _ h => h)) f85 (fun z hz e => by have := (World.ownsRow.lt HOU.out.1 z hz).2; have := f9.size; omega)
                  rw [List.length_map] at hrow5
                  have HROW5 := hid hrow5
                  have hof27 : ¬ (Value.slice ao9 l3.length cp9).ownBlock = some p27 := HNE27.out
                  have hofrb : ¬ (Value.slice ao9 l3.length cp9).ownBlock = some rb := fun z => by have := HOU.out.2 rb z; have := lt_of_block HRA.out; omega
                  have HX2 : X.length = k := by obtain ⟨_, _, e', _⟩ := TX.out; simp only [Value.slice.injEq] at e'; exact e'.2.1.symm
                  have TXD := (TX.out.fresh (HF7.out.trans f95)).from HX2 HLAN.out CX.out
                  have HTXD := hid TXD
                  have hcpk : (l0.length : Int) ≤ (k : Int) ∧ (k : Int) ≤ (cpk : Int) := by have := HLK.out; have := CX.out; omega
                  obtain ⟨hc1, hc2⟩ := hcpk
                  have HF9 := hid f9
                  have HX3 := hid HX2
                  have HRB5 := hid hrb5
                  clear HX2 hb5 hrb5 hrow5 TXD hrowD hownD f85 f94 f4 f9 f95 hkD
                  go_upto_region 31 with fail
                  go_cut [33, 34] from 210 to 225 (fun s33 s34 wx => s33 = .string (str (VS (0, n))) ∧ s34 = .int .i64 0 ∧ Fresh wA wx)
                  case first =>
                    refine wp_region_keep 18 (fun w' => Keeps (fun z => (Value.slice ao9 l3.length cp9).ownBlock = some z) w5 w') (fun _ => True) (fun _ => true) (by kernel_rfl) (by kernel_rfl) ?_
                    (try (change wpKeep _ _ _ _ _ _ _ _ _ _ (World.drew _)))
                    refine wpKeep_takeT (i := 0) (oi := ⟨some 211, _, _, _, _, _⟩) (v := ?_) rfl (by kernel_rfl) (by kernel_rfl) (by kernel_rfl) (by kernel_rfl) (fun _ _ _ h => h) (Or.inl ⟨by rfl, ?_⟩) (Keeps.refl _ _).drew (fun _ => trivial) ?_
                    rotate_left
                    · intro w' hT
                      have z27 := (hT.cell (p := ⟨p27, 2, none⟩) l27 hof27).trans c27
                      have zrb := (hT.cell (p := ⟨rb, 3, none⟩) lrb hofrb).trans crb
                      go_simp
                      (try rw [if_pos (by omega)])
                      (try with_reducible rfl)
                    rotate_left
                    (try simp only [Act.put, List.setIfInBounds_toArray, List.set_cons_zero, List.set_cons_succ])
                    refine wpKeep_takeT (i := 1) (oi := ⟨some 212, _, _, _, _, _⟩) (v := ?_) rfl (by kernel_rfl) (by kernel_rfl) (by kernel_rfl) (by kernel_rfl) (fun _ _ _ h => h) (Or.inl ⟨by rfl, ?_⟩) (Keeps.refl _ _).drew (fun _ => trivial) ?_
                    rotate_left
                    · intro w' hT
                      have z27 := (hT.cell (p := ⟨p27, 2, none⟩) l27 hof27).trans c27
                      have zrb := (hT.cell (p := ⟨rb, 3, none⟩) lrb hofrb).trans crb
                      go_simp
                      (try rw [if_pos (by omega)])
                      (try with_reducible rfl)
                    rotate_left
                    (try simp only [Act.put, List.setIfInBounds_toArray, List.set_cons_zero, List.set_cons_succ])
                    refine wpKeep_takeT (i := 2) (oi := ⟨some 213, _, _, _, _, _⟩) (v := ?_) rfl (by kernel_rfl) (by kernel_rfl) (by kernel_rfl) (by kernel_rfl) (fun _ _ _ h => h) (Or.inl ⟨by rfl, ?_⟩) (Keeps.refl _ _).drew (fun _ => trivial) ?_
                    rotate_left
                    · intro w' hT
                      have z27 := (hT.cell (p := ⟨p27, 2, none⟩) l27 hof27).trans c27
                      have zrb := (hT.cell (p := ⟨rb, 3, none⟩) lrb hofrb).trans crb
                      go_simp
                      (try rw [if_pos (by omega)])
                      (try with_reducible rfl)
                    rotate_left
                    (try simp only [Act.put, List.setIfInBounds_toArray, List.set_cons_zero, List.set_cons_succ])
                    refine wpKeep_takeT (i := 3) (oi := ⟨some 214, _, _, _, _, _⟩) (v := ?_) rfl (by kernel_rfl) (by kernel_rfl) (by kernel_rfl) (by kernel_rfl) (fun _ _ _ h => h) (Or.inl ⟨by rfl, ?_⟩) (Keeps.refl _ _).drew (fun _ => trivial) ?_
                    rotate_left
                    · intro w' hT
                      have z27 := (hT.cell (p := ⟨p27, 2, none⟩) l27 hof27).trans c27
                      have zrb := (hT.cell (p := ⟨rb, 3, none⟩) lrb hofrb).trans crb
                      go_simp
                      (try rw [if_pos (by omega)])
                      (try with_reducible rfl)
                    rotate_left
                    (try simp only [Act.put, List.setIfInBounds_toArray, List.set_cons_zero, List.set_cons_succ])
                    refine wpKeep_takeT (i := 4) (oi := ⟨some 215, _, _, _, _, _⟩) (v := ?_) rfl (by kernel_rfl) (by kernel_rfl) (by kernel_rfl) (by kernel_rfl) (fun _ _ _ h => h) (Or.inl ⟨by rfl, ?_⟩) (Keeps.refl _ _).drew (fun _ => trivial) ?_
                    rotate_left
                    · intro w' hT
                      have z27 := (hT.cell (p := ⟨p27, 2, none⟩) l27 hof27).trans c27
                      have zrb := (hT.cell (p := ⟨rb, 3, none⟩) lrb hofrb).trans crb
                      go_simp
                      (try rw [if_pos (by omega)])
                      (try with_reducible rfl)
                    rotate_left
                    (try simp only [Act.put, List.setIfInBounds_toArray, List.set_cons_zero, List.set_cons_succ])
                    refine wpKeep_takeT (i := 5) (oi := ⟨some 216, _, _, _, _, _⟩) (v := ?_) rfl (by kernel_rfl) (by kernel_rfl) (by kernel_rfl) (by kernel_rfl) (fun _ _ _ h => h) (Or.inl ⟨by rfl, ?_⟩) (Keeps.refl _ _).drew (fun _ => trivial) ?_
                    rotate_left
                    · intro w' hT
                      have z27 := (hT.cell (p := ⟨p27, 2, none⟩) l27 hof27).trans c27
                      have zrb := (hT.cell (p := ⟨rb, 3, none⟩) lrb hofrb).trans crb
                      go_simp
                      (try rw [if_pos (by omega)])
                      (try with_reducible rfl)
                    rotate_left
                    (try simp only [Act.put, List.setIfInBounds_toArray, List.set_cons_zero, List.set_cons_succ])
                    refine wpKeep_takeT (i := 6) (oi := ⟨some 217, _, _, _, _, _⟩) (v := ?_) rfl (by kernel_rfl) (by kernel_rfl) (by kernel_rfl) (by kernel_rfl) (fun _ _ _ h => h) (Or.inl ⟨by rfl, ?_⟩) (Keeps.refl _ _).drew (fun _ => trivial) ?_
                    rotate_left
                    · intro w' hT
                      have z27 := (hT.cell (p := ⟨p27, 2, none⟩) l27 hof27).trans c27
                      have zrb := (hT.cell (p := ⟨rb, 3, none⟩) lrb hofrb).trans crb
                      go_simp
                      (try rw [if_pos (by omega)])
                      (try with_reducible rfl)
                    rotate_left
                    (try simp only [Act.put, List.setIfInBounds_toArray, List.set_cons_zero, List.set_cons_succ])
                    refine wpKeep_takeT (i := 7) (oi := ⟨some 218, _, _, _, _, _⟩) (v := ?_) rfl (by kernel_rfl) (by kernel_rfl) (by kernel_rfl) (by kernel_rfl) (fun _ _ _ h => h) (Or.inl ⟨by rfl, ?_⟩) (Keeps.refl _ _).drew (fun _ => trivial) ?_
                    rotate_left
                    · intro w' hT
                      have z27 := (hT.cell (p := ⟨p27, 2, none⟩) l27 hof27).trans c27
                      have zrb := (hT.cell (p := ⟨rb, 3, none⟩) lrb hofrb).trans crb
                      go_simp
                      (try rw [if_pos (by omega)])
                      (try with_reducible rfl)
                    rotate_left
                    (try simp only [Act.put, List.setIfInBounds_toArray, List.set_cons_zero, List.set_cons_succ])
                    refine wpKeep_takeT (i := 8) (oi := ⟨some 219, _, _, _, _, _⟩) (v := ?_) rfl (by kernel_rfl) (by kernel_rfl) (by kernel_rfl) (by kernel_rfl) (fun _ _ _ h => h) (Or.inl ⟨by rfl, ?_⟩) (Keeps.refl _ _).drew (fun _ => trivial) ?_
                    rotate_left
                    · intro w' hT
                      have z27 := (hT.cell (p := ⟨p27, 2, none⟩) l27 hof27).trans c27
                      have zrb := (hT.cell (p := ⟨rb, 3, none⟩) lrb hofrb).trans crb
                      go_simp
                      (try rw [if_pos (by omega)])
                      (try with_reducible rfl)
                    rotate_left
                    (try simp only [Act.put, List.setIfInBounds_toArray, List.set_cons_zero, List.set_cons_succ])
                    refine wpKeep_takeT (i := 10) (oi := ⟨some 221, _, _, _, _, _⟩) (v := ?_) rfl (by kernel_rfl) (by kernel_rfl) (by kernel_rfl) (by kernel_rfl) (fun _ _ _ h => h) (Or.inl ⟨by rfl, ?_⟩) (Keeps.refl _ _).drew (fun _ => trivial) ?_
                    rotate_left
                    · intro w' hT
                      have z27 := (hT.cell (p := ⟨p27, 2, none⟩) l27 hof27).trans c27
                      have zrb := (hT.cell (p := ⟨rb, 3, none⟩) lrb hofrb).trans crb
                      go_simp
                      (try rw [if_pos (by omega)])
                      (try with_reducible rfl)
                    rotate_left
                    (try simp only [Act.put, List.setIfInBounds_toArray, List.set_cons_zero, List.set_cons_succ])
                    refine wpKeep_takeT (i := 11) (oi := ⟨some 222, _, _, _, _, _⟩) (v := ?_) rfl (by kernel_rfl) (by kernel_rfl) (by kernel_rfl) (by kernel_rfl) (fun _ _ _ h => h) (Or.inl ⟨by rfl, ?_⟩) (Keeps.refl _ _).drew (fun _ => trivial) ?_
                    rotate_left
                    · intro w' hT
                      have z27 := (hT.cell (p := ⟨p27, 2, none⟩) l27 hof27).trans c27
                      have zrb := (hT.cell (p := ⟨rb, 3, none⟩) lrb hofrb).trans crb
                      go_simp
                      (try rw [if_pos (by omega)])
                      (try with_reducible rfl)
                    rotate_left
                    (try simp only [Act.put, List.setIfInBounds_toArray, List.set_cons_zero, List.set_cons_succ])
                    refine wpKeep_ready (rs := [9]) (by kernel_rfl) (by simp) ?_
                    refine AllKeep.cons (o := ⟨some 220, _, _, _, _, _⟩) rfl (fun K hK => ?_) AllKeep.nil
                    have hdr := (Keeps.refl (fun _ => False) w5).drew
                    refine append_wp rfl (.tmp 214) (.tmp 219) 26 rfl 9 i0 (.string ⟨#[]⟩) 16 Tryd.underlying26 hi hz0 hz1 hz2 rfl (ownsRow_keeps HROW5.out hdr (fun _ _ h => h)) _ (X.drop l0.length).length (texts (X.drop l0.length)) (by rfl) (by rfl) (Src.ofTexts Tryd.underlying26 (HTXD.out.fresh hdr)) (by rw [List.length_drop, HX3.out]; have := HLK.out; have := HLL.out; unfold maxLen; omega) (by rw [List.length_drop, HX3.out]; have := HLK.out; have := HLL.out; omega) ?_
                    intro v7 w7 ha
                    have k7 : Keeps (fun z => (Value.slice ao9 l3.length cp9).ownBlock = some z) w5 w7 := (hdr.mono (fun _ _ h => h.elim)).trans ha.keeps
                    have hrow7 := ha.row
                    rw [show texts (l3.map V) ++ texts (X.drop l0.length) = texts (l3.map V ++ X.drop l0.length) by simp [texts], HSV.out, show l3.length + (X.drop l0.length).length = ((dF 40 e 0 n).map VS).length by rw [← HSV.out, List.length_append, List.length_map]] at hrow7
                    have TH7 : TextsAt w7 v7 ((dF 40 e 0 n).map VS) := OwnTexts_at hrow7
                    clear ha hdr
                    refine hK.out _ _ k7 (fun _ => trivial) ?_
                    clear hK K
                    (try simp only [Act.put, List.setIfInBounds_toArray, List.set_cons_zero, List.set_cons_succ])
                    refine wpKeep_ready (rs := [12]) (by kernel_rfl) (by simp) ?_
                    refine AllKeep.cons (o := ⟨some 223, _, _, _, _, _⟩) rfl (fun K hK => ?_) AllKeep.nil
                    have hS7 : SpansAt w7 (.slice aoD (dF 40 e 0 n).length cpD) (dF 40 e 0 n) := spansAt_row (ownsRow_keeps HROWD.out k7 (fun z hz q => by have := HOWND.out z hz; have h1 := (World.ownsRow.lt HOU.out.1 z q).2; have h2 := HF9.out.size; omega))
                    have f07 : Fresh w w7 := (f40.trans (HF7.out.trans HF95.out)).trans' k7 (fun z hz q => by have := HOU.out.2 z q; have := (f40.trans HF7.out).size; omega)
                    have HBF := bigFold_any VS e b n HBE.out HVS.out.len32 HVS.out.cut (by have := HBE.out; have := HEN.out; omega) HM.out.2.2.1 (fun z => by have := HBE.out; have := HEN.out; omega) (dF 40 e 0 n) rfl (by have := HVS.out.few; omega) _ v7 w7 hS7 TH7 (HNUM.out.fresh f07).dig
                    unfold spanV at HBF
                    dsimp only at HBF
                    rw [show ((0 : Nat) : Int) = 0 from rfl] at HBF
                    go_simp
                    go_at_call 30
                    with_reducible refine HBF.mono ?_
                    rintro x w8 ⟨rfl, f8w⟩
                    have k8 : Keeps (fun z => (Value.slice ao9 l3.length cp9).ownBlock = some z) w5 w8 := k7.trans (f8w.mono (fun _ _ h => h.elim))
                    dsimp only
                    refine hK.out _ _ k8 (fun _ => trivial) ?_
                    clear hK K
                    (try simp only [Act.put, List.setIfInBounds_toArray, List.set_cons_zero, List.set_cons_succ])
                    refine wpKeep_takeT (i := 13) (oi := ⟨some 210, _, _, _, _, _⟩) (v := ?_) rfl (by kernel_rfl) (by kernel_rfl) (by kernel_rfl) (by kernel_rfl) (fun _ _ _ h => h) (Or.inl ⟨by rfl, ?_⟩) k8 (fun _ => trivial) ?_
                    rotate_left
                    · intro w' hT
                      go_simp
                      (try rw [if_pos (by omega)])
                      (try with_reducible rfl)
                    rotate_left
                    (try simp only [Act.put, List.setIfInBounds_toArray, List.set_cons_zero, List.set_cons_succ])
                    refine wpKeep_takeT (i := 14) (oi := ⟨some 224, _, _, _, _, _⟩) (v := ?_) rfl (by kernel_rfl) (by kernel_rfl) (by kernel_rfl) (by kernel_rfl) (fun _ _ _ h => h) (Or.inl ⟨by rfl, ?_⟩) k8 (fun _ => trivial) ?_
                    rotate_left
                    · intro w' hT
                      go_simp
                      (try rw [if_pos (by omega)])
                      (try with_reducible rfl)
                    rotate_left
                    (try simp only [Act.put, List.setIfInBounds_toArray, List.set_cons_zero, List.set_cons_succ])
                    refine wpKeep_takeT (i := 15) (oi := ⟨some 225, _, _, _, _, _⟩) (v := ?_) rfl (by kernel_rfl) (by kernel_rfl) (by kernel_rfl) (by kernel_rfl) (fun _ _ _ h => h) (Or.inl ⟨by rfl, ?_⟩) k8 (fun _ => trivial) ?_
                    rotate_left
                    · intro w' hT
                      go_simp
                      (try rw [if_pos (by omega)])
                      (try with_reducible rfl)
                    rotate_left
                    (try simp only [Act.put, List.setIfInBounds_toArray, List.set_cons_zero, List.set_cons_succ])
                    refine wpKeep_takeT (i := 16) (oi := ⟨some 33, _, _, _, _, _⟩) (v := ?_) rfl (by kernel_rfl) (by kernel_rfl) (by kernel_rfl) (by kernel_rfl) (fun _ _ _ h => h) (Or.inl ⟨by rfl, ?_⟩) k8 (fun _ => trivial) ?_
                    rotate_left
                    · intro w' hT
                      go_simp
                      (try rw [if_pos (by omega)])
                      (try with_reducible rfl)
                    rotate_left
                    (try simp only [Act.put, List.setIfInBounds_toArray, List.set_cons_zero, List.set_cons_succ])
                    refine wpKeep_takeT (i := 17) (oi := ⟨some 34, _, _, _, _, _⟩) (v := ?_) rfl (by kernel_rfl) (by kernel_rfl) (by kernel_rfl) (by kernel_rfl) (fun _ _ _ h => h) (Or.inl ⟨by rfl, ?_⟩) k8 (fun _ => trivial) ?_
                    rotate_left
                    · intro w' hT
                      go_simp
                      (try rw [if_pos (by omega)])
                      (try with_reducible rfl)
                    rotate_left
                    (try simp only [Act.put, List.setIfInBounds_toArray, List.set_cons_zero, List.set_cons_succ])
                    refine wpKeep_done (by kernel_rfl) ?_ _
                    have fin : Fresh wA w8 := HF95.out.trans' k8 (fun z hz q => by have := HOU.out.2 z q; omega)
                    clear HTXD
                    generalize (if cpk = l0.length then aok else Option.map (fun x => x.add l0.length) aok) = aoz
                    first | go_meet | (simp only [Exit.then]; go_meet) | (go_wp2_with fail; go_meet)
                    case rel => exact ⟨rfl, rfl, fin⟩
                  case rest =>
                    obtain ⟨rfl, rfl, f10⟩ := hcut
                    obtain ⟨w10, hw10⟩ : ∃ w10, w10 = wc := ⟨_, rfl⟩
                    subst hw10
                    have hck : ∀ r, checkOf n b e X Y r = if VS (0, n) = r then 0 else 142 := fun r => by
                      unfold checkOf
                      rw [HVS.out.root]
                      simp
                    have HCK := hid hck
                    have hrb10 := f10.at_ HRA.out (fun h => h)
                    have r0 := (cell_at hrb10 0).trans (show _ = some (Value.int .i64 (n : Int)) from rfl)
                    have r1 := (cell_at hrb10 1).trans (show _ = some (Value.int .i64 (b : Int)) from rfl)
                    have r2 := (cell_at hrb10 2).trans (show _ = some (Value.int .i64 (e : Int)) from rfl)
                    have r3 := (cell_at hrb10 3).trans (show _ = some (Value.slice aok _ cpk) from rfl)
                    have rl := lt_of_block hrb10
                    clear hrb10 hck c27 l27 crb lrb hof27 hofrb hc1 hc2
                    go_wp2_with fail
                    refine (HCHECK.out _ (HF7.out.trans f10) other).mono ?_
                    rintro x w11 ⟨rfl, f11⟩
                    have f12 := f10.trans f11
                    have hrb12 := f12.at_ HRA.out (fun h => h)
                    clear r0 r1 r2 r3 rl
                    have r0 := (cell_at hrb12 0).trans (show _ = some (Value.int .i64 (n : Int)) from rfl)
                    have r1 := (cell_at hrb12 1).trans (show _ = some (Value.int .i64 (b : Int)) from rfl)
                    have r2 := (cell_at hrb12 2).trans (show _ = some (Value.int .i64 (e : Int)) from rfl)
                    have r3 := (cell_at hrb12 3).trans (show _ = some (Value.slice aok _ cpk) from rfl)
                    have rl := lt_of_block hrb12
                    clear hrb12
                    have hss : ((str (VS (0, n))).toList == (str (VS (0, n))).toList) = true := by simp
                    rw [HCK.out other]
                    by_cases ho : VS (0, n) = other
                    · have hoe : ((str other).toList == (str (VS (0, n))).toList) = true := by rw [ho]; simp
                      rw [if_pos ho]
                      clear ho
                      go_wp2_with fail
                      refine (HCHECK.out _ (HF7.out.trans f12) (VS (0, n))).mono ?_
                      rintro x w13 ⟨rfl, f13⟩
                      rw [HCK.out, if_pos rfl]
                      go_wp2_with fail
                      go_ret
                      exact ⟨by first | rfl | simp, f40.trans (HF7.out.trans (f12.trans f13))⟩
                    · have hoe : ((str other).toList == (str (VS (0, n))).toList) = false := by rw [str_toList, str_toList]; simp; exact fun h => ho h.symm
                      rw [if_neg ho]
                      clear ho
                      go_wp2_with fail
                      refine (HCHECK.out _ (HF7.out.trans f12) (VS (0, n))).mono ?_
                      rintro x w13 ⟨rfl, f13⟩
                      rw [HCK.out, if_pos rfl]
                      go_wp2_with fail
                      go_ret
                      exact ⟨by first | rfl | simp, f40.trans (HF7.out.trans (f12.trans f13))⟩
end Go.Proofs.YtgikabafaocemaaDoor
