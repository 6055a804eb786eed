/-
  The laws on spans: run.
-/
import Derived.Test.YtgikabafaocemaaDoorMSpD
import Derived.Test.YtgikabafaocemaaDoorMSpF
import Derived.Test.YtgikabafaocemaaDoorSpRoot
import Derived.Test.YtgikabafaocemaaDoorMMsF
namespace Go.Proofs.YtgikabafaocemaaDoor
open Go.RowKit

/-- a run in a box of its own -/
def RunAt (w : World) (rb n b e : Nat) (v : Value) (l : List (List UInt8)) : Prop :=
  w.heap[rb]? = some (.cells #[.int .i64 (n : Int), .int .i64 (b : Int), .int .i64 (e : Int), v] 41 (0, 0)) ∧ w.ownsRow 0 9 1 v l.length (texts l) ∧ v.ownBlock ≠ some rb
theorem RunAt.fresh {w w' : World} {rb n b e : Nat} {v : Value} {l : List (List UInt8)} (h : RunAt w rb n b e v l) (f : Fresh w w') : RunAt w' rb n b e v l := ⟨f.at_ h.1 (fun h => h), ownsRow_keeps h.2.1 f (fun _ _ h => h), h.2.2⟩
theorem leaf_some (c : Int) (w : World) : Calls Tryd.prog 22 #[.int .i64 c] w fun e w' => ∃ s : List UInt8, e = .returned (.string (str s)) ∧ s.length = 32 ∧ Fresh w w' :=
  (leaf_any c w).mono (by rintro e w' ⟨rfl, f⟩; exact ⟨_, rfl, leafL_len c, f⟩)

structure RightRun (w w' : World) (n b e : Nat) (vH vL : Value) (H L : List (List UInt8)) : Prop where
  be : b < e
  en : e ≤ n
  big : n ≤ 1099511627776
  few : e - b ≤ 300
  told : H.length = (toldF 40 b e 0 n).length
  len : L.length = e - b
  allH : all32P H
  allL : all32P L
  ownH : OwnTexts w.heap.size w' vH H
  ownL : OwnTexts w.heap.size w' vL L
  apart : ∀ g, vH.ownBlock = some g → vL.ownBlock ≠ some g
  fresh : Fresh w w'

def RunOut (w : World) (x : Ending) (w' : World) : Prop :=
  ∃ (n b e : Nat) (vH vL : Value) (H L : List (List UInt8)), x = .returned (.tuple #[runV n b e vH, vL]) ∧ RightRun w w' n b e vH vL H L

set_option maxRecDepth 100000 in
set_option maxHeartbeats 4000000 in
theorem run_any (size at_ many c : Int) (w : World) (hs : -9223372036854775808 ≤ size) (hs2 : size ≤ 9223372036854775807) (ha : -9223372036854775808 ≤ at_) (ha2 : at_ ≤ 9223372036854775807) (hm : -9223372036854775808 ≤ many) (hm2 : many ≤ 9223372036854775807) :
    Calls Tryd.prog 21 #[.int .i64 size, .int .i64 at_, .int .i64 many, .int .i64 c] w (RunOut w) := by
  have p1 := fun W => pick_any size 1099511627776 W (by omega) (by omega) hs hs2
  have q1 := pickN_in size 1099511627776 (by omega)
  generalize pickN size 1099511627776 = P1 at p1 q1
  obtain ⟨n, hn⟩ : ∃ n : Nat, (n : Int) = 1 + P1 := ⟨(1 + P1).toNat, by omega⟩
  have p2 := fun W => pick_any at_ (n : Int) W (by omega) (by omega) ha ha2
  have q2 := pickN_in at_ (n : Int) (by omega)
  generalize pickN at_ (n : Int) = P2 at p2 q2
  obtain ⟨b, rfl⟩ : ∃ b : Nat, (b : Int) = P2 := ⟨P2.toNat, by omega⟩
  have hbn : b < n := by omega
  obtain ⟨M, hM⟩ : ∃ M : Nat, M = min 300 (n - b) := ⟨_, rfl⟩
  have hM1 : 1 ≤ M := by omega
  have p3 := fun W => pick_any many (M : Int) W (by omega) (by omega) hm hm2
  have q3 := pickN_in many (M : Int) (by omega)
  generalize pickN many (M : Int) = P3 at p3 q3
  obtain ⟨m, hmm⟩ : ∃ m : Nat, (m : Int) = 1 + P3 := ⟨(1 + P3).toNat, by omega⟩
  obtain ⟨e, he⟩ : ∃ e : Nat, e = b + m := ⟨_, rfl⟩
  obtain ⟨D, hD⟩ : ∃ D : Nat, D = n - b := ⟨_, rfl⟩
  have hmin := hid (show min (300 : Int) ((n : Int) - (b : Int)) = (M : Int) by omega)
  have hDb : (D : Int) ≤ 1099511627776 := by omega
  have hnb : (n : Int) ≤ 1099511627776 := by omega
  have hbb : (b : Int) ≤ 1099511627776 := by omega
  have heb : (e : Int) ≤ 1099511627776 := by omega
  have hmb : (m : Int) ≤ 300 := by omega
  have htold : ∀ W, Calls Tryd.prog 44 #[.agg #[.int .i64 (b : Int), .int .i64 (e : Int)], .int .i64 0, .int .i64 (n : Int)] W (fun x w' => ∃ v, x = .returned v ∧ OwnSpans W w' v (toldF 40 b e 0 n)) := fun W => told_any b e 40 0 n W (by omega) (by omega) (by omega) (by omega)
  have hfew := toldF_len 40 b e 0 n
  obtain ⟨TL, hTL⟩ : ∃ TL, toldF 40 b e 0 n = TL := ⟨_, rfl⟩
  rw [hTL] at htold hfew
  obtain ⟨N, hN⟩ : ∃ N, TL.length = N := ⟨_, rfl⟩
  have hN0 : N ≤ 1099511627776 := by rw [← hN]; simpa using hfew
  obtain ⟨i0, hi, hz0, hz1, hz2⟩ := info_parts Tryd.infoText
  have HP1 := hid p1
  have HP2 := hid p2
  have HP3 := hid p3
  have HT := hid htold
  have HTL := hid hTL
  have HN := hid hN
  have HN0 := hid hN0
  have HBE := hid (show b < e by omega)
  have HEN := hid (show e ≤ n by omega)
  have hn1 := hid (show wrap64 (1 + P1) = (n : Int) from (wrap_small (by omega) (by omega)).trans hn.symm)
  have hm1 := hid (show wrap64 (1 + P3) = (m : Int) from (wrap_small (by omega) (by omega)).trans hmm.symm)
  have he1 := hid (show wrap64 ((b : Int) + (m : Int)) = (e : Int) from (wrap_small (by omega) (by omega)).trans (by omega))
  have hd1 := hid (show wrap64 ((n : Int) - (b : Int)) = (D : Int) from (wrap_small (by omega) (by omega)).trans (by omega))
  have hbm := hid (show (b : Int) + (m : Int) = (e : Int) by omega)
  have HM := hid (show e - b = m ∧ m ≤ 300 ∧ n ≤ 1099511627776 by omega)
  clear p1 p2 p3 htold hTL hN hN0 hfew hs hs2 ha ha2 hm hm2 q1 q2 q3 hn hmm he hM hM1 hbn hD
  have hn1 := hn1.out
  have hm1 := hm1.out
  have he1 := he1.out
  have hd1 := hd1.out
  go_enter Tryd.func21, Tryd.ntmps21
  go_wp2_with fail
  refine (HP1.out _).mono ?_
  rintro x w1 ⟨rfl, rfl⟩
  go_wp2_with fail
  refine (HP2.out _).mono ?_
  rintro x w1 ⟨rfl, rfl⟩
  go_wp2_with fail
  rw [hmin.out]
  refine (HP3.out _).mono ?_
  rintro x w1 ⟨rfl, rfl⟩
  go_wp2_with fail
  rw [hm1]
  rw [hbm.out]
  have f0 := (Keeps.refl (fun _ => False) w).alloc (.cells #[.int .i64 0, .int .i64 0, .int .i64 0, .slice none 0 0] 41)
  have f00 := f0.alloc (.cells #[.int .i64 (n : Int), .int .i64 (b : Int), .int .i64 (e : Int), .slice none 0 0] 41)
  have z0 := (heap_alloc_new w (.cells #[.int .i64 0, .int .i64 0, .int .i64 0, .slice none 0 0] 41))
  have z1 := ((Keeps.refl (fun _ => False) _).alloc (.cells #[.int .i64 (n : Int), .int .i64 (b : Int), .int .i64 (e : Int), .slice none 0 0] 41)).at_ z0 (fun h => h)
  have hb := heap_alloc_new (w.alloc (.cells #[.int .i64 0, .int .i64 0, .int .i64 0, .slice none 0 0] 41)) (.cells #[.int .i64 (n : Int), .int .i64 (b : Int), .int .i64 (e : Int), .slice none 0 0] 41)
  rw [World.size_alloc] at hb
  generalize (w.alloc (.cells #[.int .i64 0, .int .i64 0, .int .i64 0, .slice none 0 0] 41)).alloc (.cells #[.int .i64 (n : Int), .int .i64 (b : Int), .int .i64 (e : Int), .slice none 0 0] 41) = wB at f00 z1 hb ⊢
  generalize hrb : w.heap.size + 1 = rb at hb ⊢
  generalize hr0 : w.heap.size = r0 at z1 ⊢
  have HRB := hid hrb
  have HR0 := hid hr0
  have hne : r0 ≠ rb := by omega
  have HB := hid (show RunAt wB rb n b e (.slice none 0 0) [] from ⟨hb, World.ownsRow_nil _ _ _ _, by simp [Value.ownBlock]⟩)
  have HZ := hid z1
  clear f0 z0 z1 hb hrb hr0 hn1 hm1 he1 hd1
  go_loopw [13] (fun i wr => ∃ (k : Nat) (vk : Value) (X : List (List UInt8)), i = .int .i64 (k : Int) ∧ k ≤ N ∧ X.length = k ∧ all32P X ∧ RunAt wr rb n b e vk X ∧ Fresh w wr ∧ (∀ g, vk.ownBlock = some g → wB.heap.size ≤ g) ∧ Keeps (fun q => q = rb) wB wr) (fun i _ => N - (intOf i).toNat)
  case atStart => exact ⟨0, .slice none 0 0, [], rfl, Nat.zero_le _, rfl, (fun _ h => nomatch h), HB.out, f00, (fun g hg => by simp [Value.ownBlock] at hg), Keeps.refl _ _⟩
  case round =>
    obtain ⟨k, vk, X, rfl, hk, hX, hXa, hR, kk, ok, kB⟩ := hrel
    have HR := hid hR
    have R1 := (cell_at hR.1 1).trans (show _ = some (Value.int .i64 (b : Int)) from rfl)
    have R2 := (cell_at hR.1 2).trans (show _ = some (Value.int .i64 (e : Int)) from rfl)
    have hkb : (k : Int) ≤ 1099511627776 := by have := HN0.out; omega
    by_cases hlt : k < N
    · have hlti : (k : Int) < (N : Int) := by omega
      have HLT := hid hlt
      have HX := hid hX
      clear hlt hk hX hR
      go_wp2_with fail
      refine (HT.out wr).mono ?_
      rintro x w2 ⟨v2, rfl, hos⟩
      obtain ⟨ao2, cp2, rfl⟩ := ownsRow_slice hos.1
      rw [HN.out]
      have kk := kk.trans hos.2.2
      have f2 := hos.2.2
      have hR := HR.out.fresh f2
      have HOK := hid ok
      have kB2 := kB.trans (f2.mono (fun _ _ h => h.elim))
      have HKB := hid kB2
      have HJK := hid hR.1
      have HROW := hid hR.2.1
      have hne2 := hR.2.2
      have r0' := (cell_at hR.1 3).trans (show _ = some vk from rfl)
      have r1' := free_at hR.1 3
      have n3 := lt_of_block hR.1
      have HLEN := hid (show X.length + 1 ≤ 1099511627777 by have := HX.out; have := HN0.out; omega)
      have HXA := hid hXa
      obtain ⟨aok, cpk, erv⟩ := ownsRow_slice hR.2.1
      have HRV := hid erv
      clear hos HR R1 R2 ok kB f2 kB2 hR erv hXa
      go_wp2_with fail
      refine wp_region_keep 10 (fun w' => Keeps (fun q => q = rb ∨ vk.ownBlock = some q) w2 w') (fun w' => w'.cell? ⟨rb, 3, none⟩ = some vk ∧ w'.frozen? ⟨rb, 3, none⟩ = false) (fun j => !(j == 9)) (by kernel_rfl) (by kernel_rfl) ?_
      (try (change wpKeep _ _ _ _ _ _ _ _ _ _ (World.drew _)))
      refine wpKeep_takeT (i := 0) (oi := ⟨some 49, _, _, _, _, _⟩) (v := ?_) rfl (by kernel_rfl) (by kernel_rfl) (by kernel_rfl) (by kernel_rfl) (fun _ _ _ h => h) (Or.inl ⟨by rfl, ?_⟩) (Keeps.refl _ _).drew (fun _ => ⟨r0', r1'⟩) ?_
      rotate_left
      · intro w' hT
        go_simp
        (try rw [if_pos (by omega)])
        (try with_reducible rfl)
      rotate_left
      (try simp only [Act.put, List.setIfInBounds_toArray, List.set_cons_zero, List.set_cons_succ])
      refine wpKeep_take (i := 1) (oi := ⟨some 50, _, _, _, _, _⟩) (v := ?_) rfl (by kernel_rfl) (by kernel_rfl) (by kernel_rfl) (by kernel_rfl) (fun _ _ _ h => h) (Or.inl ⟨by rfl, ?_⟩) ⟨(Keeps.refl _ _).drew, ⟨r0', r1'⟩⟩ ?_
      rotate_left
      · intro w' hT
        have hS0 := hT.2
        replace hT := hT.1
        go_simp
        (try rw [if_pos (by omega)])
        (try with_reducible rfl)
      rotate_left
      (try simp only [Act.put, List.setIfInBounds_toArray, List.set_cons_zero, List.set_cons_succ])
      refine wpKeep_takeT (i := 2) (oi := ⟨some 51, _, _, _, _, _⟩) (v := ?_) rfl (by kernel_rfl) (by kernel_rfl) (by kernel_rfl) (by kernel_rfl) (fun _ _ _ h => h) (Or.inl ⟨by rfl, ?_⟩) (Keeps.refl _ _).drew (fun _ => ⟨r0', r1'⟩) ?_
      rotate_left
      · intro w' hT
        go_simp
        (try rw [if_pos (by omega)])
        (try with_reducible rfl)
      rotate_left
      (try simp only [Act.put, List.setIfInBounds_toArray, List.set_cons_zero, List.set_cons_succ])
      refine wpKeep_takeT (i := 3) (oi := ⟨some 52, _, _, _, _, _⟩) (v := ?_) rfl (by kernel_rfl) (by kernel_rfl) (by kernel_rfl) (by kernel_rfl) (fun _ _ _ h => h) (Or.inl ⟨by rfl, ?_⟩) (Keeps.refl _ _).drew (fun _ => ⟨r0', r1'⟩) ?_
      rotate_left
      · intro w' hT
        go_simp
        (try rw [if_pos (by omega)])
        (try with_reducible rfl)
      rotate_left
      (try simp only [Act.put, List.setIfInBounds_toArray, List.set_cons_zero, List.set_cons_succ])
      refine wpKeep_takeT (i := 4) (oi := ⟨some 53, _, _, _, _, _⟩) (v := ?_) rfl (by kernel_rfl) (by kernel_rfl) (by kernel_rfl) (by kernel_rfl) (fun _ _ _ h => h) (Or.inl ⟨by rfl, ?_⟩) (Keeps.refl _ _).drew (fun _ => ⟨r0', r1'⟩) ?_
      rotate_left
      · intro w' hT
        go_simp
        (try rw [if_pos (by omega)])
        (try with_reducible rfl)
      rotate_left
      (try simp only [Act.put, List.setIfInBounds_toArray, List.set_cons_zero, List.set_cons_succ])
      refine wpKeep_ready (rs := [5]) (by kernel_rfl) (by simp) ?_
      refine AllKeep.cons (o := ⟨some 54, _, _, _, _, _⟩) rfl (fun K hK => ?_) AllKeep.nil
      go_simp
      go_at_call 22
      with_reducible refine (leaf_some _ _).mono ?_
      rintro x w3 ⟨sf, rfl, hsl, f3⟩
      have f3' : Fresh w2 w3 := (Keeps.refl (fun _ => False) w2).drew.trans f3
      have s0 := (f3'.cell (p := ⟨rb, 3, none⟩) n3 (fun h => h)).trans r0'
      have s1 := (f3'.frozen (p := ⟨rb, 3, none⟩) n3 (fun h => h)).trans r1'
      have hrow3 := ownsRow_keeps HROW.out f3' (fun _ _ h => h)
      have T3 : Keeps (fun q => q = rb ∨ vk.ownBlock = some q) w2 w3 := f3'.mono (fun _ _ h => h.elim)
      dsimp only
      refine hK.out _ _ T3 (fun _ => ⟨s0, s1⟩) ?_
      clear hK K
      (try simp only [Act.put, List.setIfInBounds_toArray, List.set_cons_zero, List.set_cons_succ])
      refine wpKeep_ready (rs := [6]) (by kernel_rfl) (by simp) ?_
      refine AllKeep.cons (o := ⟨some 55, _, _, _, _, _⟩) rfl (fun K hK => ?_) AllKeep.nil
      go_simp
      have fal := (Keeps.refl (fun _ => False) w3).alloc (.cells #[.string (str sf)] 9)
      have n33 : rb < w3.heap.size := Nat.lt_of_lt_of_le n3 f3'.size
      refine hK.out _ _ (T3.alloc _) (fun _ => ⟨(fal.cell (p := ⟨rb, 3, none⟩) n33 (fun h => h)).trans s0, (fal.frozen (p := ⟨rb, 3, none⟩) n33 (fun h => h)).trans s1⟩) ?_
      clear hK K
      (try simp only [Act.put, List.setIfInBounds_toArray, List.set_cons_zero, List.set_cons_succ])
      refine wpKeep_ready (rs := [7]) (by kernel_rfl) (by simp) ?_
      refine AllKeep.cons (o := ⟨some 56, _, _, _, _, _⟩) rfl (fun K hK => ?_) AllKeep.nil
      refine step_push rfl (.tmp 50) (.tmp 55) 26 rfl 9 i0 (.string ⟨#[]⟩) 16 Tryd.underlying26 hi hz0 hz1 hz2 rfl w3 hrow3 (.string (str sf)) (by rfl) (by rfl) rfl (by have := HLEN.out; omega) (by have := HLEN.out; unfold maxLen; omega) ?_
      intro v6 w6 ha
      have s60 := (ha.keeps.cell (p := ⟨rb, 3, none⟩) n33 hne2).trans s0
      have s61 := (ha.keeps.frozen (p := ⟨rb, 3, none⟩) n33 hne2).trans s1
      have T6 : Keeps (fun q => q = rb ∨ vk.ownBlock = some q) w2 w6 := T3.trans (ha.keeps.mono (fun _ _ h => .inr h))
      refine hK.out _ _ T6 (fun _ => ⟨s60, s61⟩) ?_
      clear hK K
      (try simp only [Act.put, List.setIfInBounds_toArray, List.set_cons_zero, List.set_cons_succ])
      refine wpKeep_takeT (i := 8) (oi := ⟨some 57, _, _, _, _, _⟩) (v := ?_) rfl (by kernel_rfl) (by kernel_rfl) (by kernel_rfl) (by kernel_rfl) (fun _ _ _ h => h) (Or.inl ⟨by rfl, ?_⟩) T6 (fun _ => ⟨s60, s61⟩) ?_
      rotate_left
      · intro w' hT
        go_simp
        (try rw [if_pos (by omega)])
        (try with_reducible rfl)
      rotate_left
      (try simp only [Act.put, List.setIfInBounds_toArray, List.set_cons_zero, List.set_cons_succ])
      refine wpKeep_ready (rs := [9]) (by kernel_rfl) (by simp) ?_
      refine AllKeep.cons (o := ⟨none, _, _, _, _, _⟩) rfl (fun K hK => ?_) AllKeep.nil
      obtain ⟨ao6, cp6, e6⟩ := ownsRow_slice ha.row
      subst e6
      go_simp
      refine hK.out _ _ (T6.setCell (p := ⟨rb, 3, none⟩) (fun _ => .inl rfl) _) (not_early (by kernel_rfl)) ?_
      clear hK K
      (try simp only [Act.put, List.setIfInBounds_toArray, List.set_cons_zero, List.set_cons_succ])
      refine wpKeep_done (by kernel_rfl) ?_ _
      have hv6 := ha.own
      have hrow6 := ha.row
      have J6 := f3'.at_ HJK.out (fun h => h)
      have J6 := ha.keeps.at_ J6 hne2
      generalize Value.slice ao6 (X.length + 1) cp6 = v6 at hv6 hrow6 ⊢
      have hv6j : v6.ownBlock ≠ some rb := fun e => by
        rcases hv6 rb e with z | z
        · exact hne2 z
        · omega
      have hJ7 := heap_setCell_at J6 3 v6
      have hend : RunAt (w6.setCell ⟨rb, 3, none⟩ v6) rb n b e v6 (X ++ [sf]) := by
        refine ⟨hJ7, ?_, hv6j⟩
        rw [texts_snoc, List.length_append]
        exact ownsRow_setCell_ne hrow6 hv6j _
      have kW7 := T6.setCell (p := ⟨rb, 3, none⟩) (fun _ => .inl rfl) v6
      have k7 : Fresh w (w6.setCell ⟨rb, 3, none⟩ v6) := kk.trans' kW7 (fun q hq e => by
        rcases e with e | e
        · have := HRB.out; omega
        · have := HOK.out q e; have := f00.size; omega)
      have k8 : Keeps (fun q => q = rb) wB (w6.setCell ⟨rb, 3, none⟩ v6) := HKB.out.trans' kW7 (fun q hq e => by
        rcases e with e | e
        · exact e
        · have := HOK.out q e; omega)
      have o7 : ∀ g, v6.ownBlock = some g → wB.heap.size ≤ g := fun g hg => by
        rcases hv6 g hg with z | z
        · exact HOK.out g z
        · have := HKB.out.size; have := f3'.size; omega
      have hXn : all32P (X ++ [sf]) := fun z hz => by
        rcases List.mem_append.1 hz with hz | hz
        · exact HXA.out z hz
        · rw [List.mem_singleton.1 hz]; exact hsl
      go_wp2_with fail
      go_roundw
      case rel => exact ⟨k + 1, v6, X ++ [sf], by simp, HLT.out, by rw [List.length_append, HX.out]; rfl, hXn, hend, k7, o7, k8⟩
      case measure => have := HLT.out; simp [intOf]; omega
    · have hkN : k = N := by omega
      have hnlt : ¬ (N : Int) < (N : Int) := by omega
      have HX := hid (hX.trans hkN)
      have HXA := hid hXa
      have HOK := hid ok
      subst hkN
      clear hlt hk hX hR ok hkb hXa
      go_wp2_with fail
      refine (HT.out wr).mono ?_
      rintro x w3 ⟨v2, rfl, hos⟩
      obtain ⟨ao2, cp2, rfl⟩ := ownsRow_slice hos.1
      rw [HN.out]
      have kk := kk.trans hos.2.2
      have f2 := hos.2.2
      have kB2 := kB.trans (f2.mono (fun _ _ h => h.elim))
      have HR3 := hid (HR.out.fresh f2)
      have HZ3 := hid (kB2.at_ HZ.out hne)
      have HKB := hid kB2
      clear hos HR R1 R2 kB f2 kB2 HZ
      go_wp2_with fail
      go_loopw [14, 15] (fun v i wr => ∃ (j : Nat) (Y : List (List UInt8)), i = .int .i64 (j : Int) ∧ j ≤ m ∧ Y.length = j ∧ all32P Y ∧ wr.ownsRow 0 9 1 v Y.length (texts Y) ∧ (∀ g, v.ownBlock = some g → w3.heap.size ≤ g) ∧ Fresh w3 wr) (fun _ i _ => m - (intOf i).toNat)
      case atStart => exact ⟨0, [], rfl, Nat.zero_le _, rfl, (fun _ h => nomatch h), World.ownsRow_nil _ _ _ _, (fun g hg => by simp [Value.ownBlock] at hg), Keeps.refl _ _⟩
      case round =>
        obtain ⟨j, Y, rfl, hj, hY, hYa, hrow, ok, f4⟩ := hrel
        by_cases hjm : j < m
        · have hji : (j : Int) < (m : Int) := by omega
          obtain ⟨aoY, cpY, erv⟩ := ownsRow_slice hrow
          have HJM := hid hjm
          have HROW := hid hrow
          have HYA := hid hYa
          have HY := hid hY
          have HO := hid ok
          have HLEN := hid (show Y.length + 1 ≤ 301 by omega)
          subst erv
          clear hjm hj hY hYa hrow ok
          go_wp2_with fail
          refine (leaf_some _ _).mono ?_
          rintro x w5 ⟨sf, rfl, hsl, f5⟩
          have f45 := f4.trans f5
          have hrow5 := ownsRow_keeps HROW.out f5 (fun _ _ h => h)
          have fal := (Keeps.refl (fun _ => False) w5).alloc (.cells #[.string (str sf)] 9)
          have hlb := heap_alloc_new w5 (.cells #[.string (str sf)] 9)
          have hAt : TextsAt (w5.alloc (.cells #[.string (str sf)] 9)) (.slice (some ⟨w5.heap.size, 0, none⟩) 1 1) [sf] := ⟨_, 1, rfl, fun k s hs => by
            match k, hs with
            | 0, hs => simp at hs; subst hs; exact ⟨_, 0, rfl, lt_of_block hlb, cell_at hlb 0⟩
            | (k + 1), hs => simp at hs⟩
          have hsrc : Src Tryd.prog 1 26 (.slice (some ⟨w5.heap.size, 0, none⟩) 1 1) 1 (texts [sf]) (w5.alloc (.cells #[.string (str sf)] 9)) := Src.ofTexts (P := Tryd.prog) Tryd.underlying26 hAt
          have hrow6 := ownsRow_keeps hrow5 fal (fun _ _ h => h)
          clear hlb hrow5 hAt
          go_wp2_with (at_builtin; refine wpList_append_src rfl (.tmp 63) (.tmp 69) 26 26 rfl 9 i0 (.string ⟨#[]⟩) 1 16 Tryd.underlying26 hi hz0 hz1 hz2 rfl (by decide) hrow6 _ 1 (texts [sf]) (by rfl) (by rfl) hsrc (by have := HLEN.out; unfold maxLen; omega) (by have := HLEN.out; omega) ?_)
          intro v6 w6 ha
          replace ha : Appended 9 1 (w5.alloc (.cells #[.string (str sf)] 9)) w6 (.slice aoY Y.length cpY) v6 (Y.length + 1) (texts Y ++ texts [sf]) := ha
          have f6 : Fresh w3 w6 := (f45.trans fal).trans' ha.keeps (fun q hq e => by have := HO.out q e; omega)
          have o6 : ∀ g, v6.ownBlock = some g → w3.heap.size ≤ g := fun g hg => by
            rcases ha.own g hg with z | z
            · exact HO.out g z
            · have := (f45.trans fal).size; omega
          have hrow7 : w6.ownsRow 0 9 1 v6 (Y ++ [sf]).length (texts (Y ++ [sf])) := by
            rw [texts_snoc, List.length_append]
            exact ha.row
          obtain ⟨ao6, cp6, rfl⟩ := ownsRow_slice ha.row
          have hYn : all32P (Y ++ [sf]) := fun z hz => by
            rcases List.mem_append.1 hz with hz | hz
            · exact HYA.out z hz
            · rw [List.mem_singleton.1 hz]; exact hsl
          clear ha hsrc hrow6 fal
          go_wp2_with fail
          go_roundw
          case rel => exact ⟨j + 1, Y ++ [sf], by simp, HJM.out, by rw [List.length_append, HY.out]; rfl, hYn, hrow7, o6, f6⟩
          case measure => have := HJM.out; simp [intOf]; omega
        · have hjm2 : j = m := by omega
          subst hjm2
          have hnl : ¬ (j : Int) < (j : Int) := by omega
          obtain ⟨aoY, cpY, erv⟩ := ownsRow_slice hrow
          have HROW := hid hrow
          have HYA := hid hYa
          have HY := hid hY
          have HO := hid ok
          have hR := HR3.out.fresh f4
          have hz := f4.at_ HZ3.out (fun h => h)
          have r0' := (cell_at hR.1 0).trans (show _ = some (Value.int .i64 (n : Int)) from rfl)
          have r1' := (cell_at hR.1 1).trans (show _ = some (Value.int .i64 (b : Int)) from rfl)
          have r2' := (cell_at hR.1 2).trans (show _ = some (Value.int .i64 (e : Int)) from rfl)
          obtain ⟨aok, cpk, erk⟩ := ownsRow_slice hR.2.1
          subst erk
          subst erv
          have r3' := (cell_at hR.1 3).trans (show _ = some (Value.slice aok X.length cpk) from rfl)
          have n3 := lt_of_block hR.1
          have HRR := hid hR
          have HZ4 := hid hz
          have n0 := lt_of_block hz
          have z0 := cell_at hz 0
          have z1 := cell_at hz 1
          have z2 := cell_at hz 2
          have z3 := cell_at hz 3
          have y0 := free_at hz 0
          have y1 := free_at hz 1
          have y2 := free_at hz 2
          have y3 := free_at hz 3
          clear hjm hj hY hYa hrow ok hR hz
          go_wp2_with fail
          have hfin := heap_setCell_at (heap_setCell_at (heap_setCell_at (heap_setCell_at HZ4.out 0 (.int .i64 (n : Int))) 1 (.int .i64 (b : Int))) 2 (.int .i64 (e : Int))) 3 (.slice aok X.length cpk)
          have fS := (((((Keeps.refl (fun q => q = r0) wr).setCell (p := ⟨r0, 0, none⟩) (fun _ => rfl) (.int .i64 (n : Int))).setCell (p := ⟨r0, 1, none⟩) (fun _ => rfl) (.int .i64 (b : Int))).setCell (p := ⟨r0, 2, none⟩) (fun _ => rfl) (.int .i64 (e : Int))).setCell (p := ⟨r0, 3, none⟩) (fun _ => rfl) (.slice aok X.length cpk))
          refine bodyPost_ret (results_row2 rfl _ _ r0 41 _ (0, 0) _ rfl (by exact hfin) Tryd.underlying41 rfl (by kernel_rfl)) rfl ?_
          have hs0 := HR0.out
          have hs1 := HRB.out
          have hs2 := f00.size
          have hs3 := kk.size
          have hs4 := HKB.out.size
          have hrb3 := lt_of_block HR3.out.1
          have hs5 := lt_of_block HB.out.1
          show RunOut _ _ _
          unfold RunOut
          refine ⟨n, b, e, .slice aok X.length cpk, .slice aoY Y.length cpY, X, Y, rfl, ⟨HBE.out, HEN.out, HM.out.2.2, by have := HM.out; omega, by rw [HX.out, HTL.out, HN.out], by have := HM.out; have := HY.out; omega, HXA.out, HYA.out, ⟨ownsRow_keeps HRR.out.2.1 fS (fun q hq e => ?_), fun g hg => ?_⟩, ⟨ownsRow_keeps HROW.out fS (fun q hq e => ?_), fun g hg => ?_⟩, fun g hg q => (by have := HO.out g q; have := (World.ownsRow.lt HR3.out.2.1 g hg).2; omega), (kk.trans f4).trans' fS (fun q hq e => by have e' : q = r0 := e; omega)⟩⟩
          · have := HOK.out q hq; have e' : q = r0 := e; omega
          · have := HOK.out g hg; omega
          · have := HO.out q hq; have e' : q = r0 := e; omega
          · have := HO.out g hg; omega
