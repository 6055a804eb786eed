/-
  Package recursion: Split, parts, root.
-/
import Derived.Test.YtgikabafaocemaaDoorMSpB
import Derived.Test.YtgikabafaocemaaDoorMSpA
import Derived.Test.YtgikabafaocemaaDoorRowT
import Derived.Test.YtgikabafaocemaaDoorMMsF
namespace Go.Proofs.YtgikabafaocemaaDoor
open Go.RowKit
attribute [local go_sem] run_store_func

set_option maxRecDepth 100000 in
set_option maxHeartbeats 1000000 in
theorem recsplit_any (n : Nat) (h1 : 2 ≤ n) (h2 : n ≤ 2199023255552) (w : World) :
    Calls Tryd.prog 98 #[.int .i64 (n : Int)] w fun x w' => x = .returned (.int .i64 (splitN n : Int)) ∧ Fresh w w' := by
  have hU := fun j => splitN_unique (n := n) (j := j)
  have HU := hid hU
  clear hU
  go_enter Tryd.func98, Tryd.ntmps98
  go_wp2_with fail
  go_loopw [3] (fun k wr => ∃ K : Nat, k = .int .i64 (K : Int) ∧ Hid (∃ j, K = 2 ^ j) ∧ 0 < K ∧ K < n ∧ Fresh w wr) (fun k _ => n - (intOf k).toNat)
  case atStart => exact ⟨1, rfl, ⟨0, rfl⟩, by omega, by omega, Keeps.refl _ _⟩
  case round =>
    obtain ⟨K, rfl, hK, hK0, hKn, fr⟩ := hrel
    by_cases hlt : 2 * K < n
    · go_wp2_with fail
      go_roundw
      case rel => exact ⟨K * 2, by simp, by obtain ⟨j, rfl⟩ := hK.out; exact ⟨j + 1, rfl⟩, by omega, by omega, fr⟩
      case measure => simp [intOf]; omega
    · have hsp : K = splitN n := by
        obtain ⟨j, rfl⟩ := hK.out
        exact HU.out j (by omega) (by omega)
      have HSP := hid hsp
      clear hsp HU hK
      go_wp2_with fail
      go_ret
      exact ⟨by rw [← HSP.out]; rfl, fr⟩

/-- a list to be read, whose room is as it should be -/
def RoomIn (w : World) (bb : Nat) (v : Value) (l : List (List UInt8)) : Prop :=
  ∃ off cap, v = .slice (some ⟨bb, off, none⟩) l.length cap ∧ l.length ≤ cap ∧ bb < w.heap.size ∧ ∀ (k : Nat) (s : List UInt8), l[k]? = some s → w.cell? ⟨bb, off + k, none⟩ = some (.string (str s))
theorem RoomIn.keeps {S : Nat → Prop} {w w' : World} {bb : Nat} {v : Value} {l : List (List UInt8)} (h : RoomIn w bb v l) (f : Keeps S w w') (hS : ¬ S bb) : RoomIn w' bb v l := by
  obtain ⟨off, cap, e, hc, hb, hk⟩ := h
  exact ⟨off, cap, e, hc, Nat.lt_of_lt_of_le hb f.size, fun k s hs => (f.cell (p := ⟨bb, off + k, none⟩) hb hS).trans (hk k s hs)⟩
def RoomAt (w : World) (v : Value) (l : List (List UInt8)) : Prop := ∃ bb, RoomIn w bb v l
theorem RoomAt.fresh {w w' : World} {v : Value} {l : List (List UInt8)} (h : RoomAt w v l) (f : Fresh w w') : RoomAt w' v l := by
  obtain ⟨bb, h⟩ := h
  exact ⟨bb, h.keeps f (fun h => h)⟩

set_option maxRecDepth 100000 in
set_option maxHeartbeats 1000000 in
theorem recparts_any (bb : Nat) (v : Value) (l : List (List UInt8)) (w : World) (hl : RoomIn w bb v l) (h1 : 2 ≤ l.length) (h2 : l.length ≤ 1099511627776) :
    Calls Tryd.prog 59 #[v] w fun x w' => (∃ v1 v2, x = .returned (.tuple #[v1, v2]) ∧ RoomIn w' bb v1 (l.take (splitN l.length)) ∧ RoomIn w' bb v2 (l.drop (splitN l.length))) ∧ Fresh w w' := by
  have hs := recsplit_any l.length h1 (by omega)
  obtain ⟨hpos, hlt, -⟩ := splitN_facts h1
  obtain ⟨off, cap, rfl, hc, hb, hk⟩ := hl
  obtain ⟨K, hK⟩ : ∃ K, splitN l.length = K := ⟨_, rfl⟩
  obtain ⟨n, hn⟩ : ∃ n, l.length = n := ⟨_, rfl⟩
  rw [hK] at hs hlt hpos ⊢
  rw [hn] at hs hlt h1 h2 hc ⊢
  have HS := hid hs
  have HK := hid hk
  have HN := hid hn
  have hn1 : (n : Int) ≤ 1099511627776 := by omega
  have hK1 : (K : Int) < (n : Int) := by omega
  have hc1 : (n : Int) ≤ (cap : Int) := by omega
  have hKn : ¬ n = K := by omega
  have hKn2 : ¬ n - K = 0 := by omega
  clear hs hk hn hK
  go_enter Tryd.func59, Tryd.ntmps59
  go_wp2_with fail
  refine (HS.out _).mono ?_
  rintro x w1 ⟨rfl, f1⟩
  go_wp2_with fail
  go_region
  go_wp2_with fail
  go_ret2
  have e1 : (l.take K).length = K := by rw [List.length_take, HN.out]; omega
  have e2 : (l.drop K).length = n - K := by rw [List.length_drop, HN.out]
  refine ⟨⟨_, _, rfl, ⟨off, K, by rw [e1]; rfl, by rw [e1]; exact Nat.le_refl _, Nat.lt_of_lt_of_le hb (f1.drew).size, fun k s hs => ?_⟩, ⟨off + K, n - K, by rw [e2]; rfl, by rw [e2]; exact Nat.le_refl _, Nat.lt_of_lt_of_le hb (f1.drew).size, fun k s hs => ?_⟩⟩, f1.drew⟩
  · have hk : k < K := by
      have := (List.getElem?_eq_some_iff.1 hs).1
      omega
    rw [List.getElem?_take, if_pos hk] at hs
    exact (f1.drew.cell (p := ⟨bb, off + k, none⟩) hb (fun h => h)).trans (HK.out k s hs)
  · rw [List.getElem?_drop] at hs
    have := (f1.drew.cell (p := ⟨bb, off + (K + k), none⟩) hb (fun h => h)).trans (HK.out (K + k) s hs)
    rw [show off + K + k = off + (K + k) by omega]
    exact this

/-- the closure that root makes, in its box -/
def RootBox (w : World) (rk : Nat) : Prop :=
  w.heap[rk]? = some (.cells #[.func (.func 96) #[] #[.pointer (some ⟨rk, 0, none⟩)]] 103 (0, 0))

theorem RootBox.fresh {w w' : World} {rk : Nat} (h : RootBox w rk) (f : Fresh w w') : RootBox w' rk := f.at_ h (fun h => h)

set_option maxRecDepth 100000 in
set_option maxHeartbeats 2000000 in
theorem root1_any (rk : Nat) : ∀ (N : Nat) (l : List (List UInt8)) (v : Value) (w : World), l.length ≤ N → 1 ≤ l.length → l.length ≤ 4096 → all32P l → RoomAt w v l → RootBox w rk → Dig w →
    Calls Tryd.prog 96 #[v, .pointer (some ⟨rk, 0, none⟩)] w fun x w' => x = .returned (.string (str (hashL l))) ∧ Fresh w w' := by
  intro N
  induction N with
  | zero => intro l v w h1 h2; omega
  | succ N ih =>
    intro l v w hN h1 h2 h32 hr hb hd
    by_cases hone : l.length = 1
    · obtain ⟨x, rfl⟩ : ∃ x, l = [x] := by
        cases l with
        | nil => simp at h1
        | cons x r =>
          cases r with
          | nil => exact ⟨x, rfl⟩
          | cons y r => simp at hone
      rw [hashL_one]
      obtain ⟨bb, off, cap, rfl, hc, hbb, hk⟩ := hr
      have hx := hk 0 x rfl
      have hx0 : w.cell? ⟨bb, off, none⟩ = some (.string (str x)) := hx
      clear hk hN h1 h2 h32 hone ih hx hb
      go_enter Tryd.func96, Tryd.ntmps96
      go_wp2_with fail
      go_ret
      exact ⟨rfl, Keeps.refl _ _⟩
    · obtain ⟨hpos, hlt, hup⟩ := splitN_facts (show 2 ≤ l.length by omega)
      obtain ⟨bb, hr⟩ := hr
      have hp := recparts_any bb v l w hr (by omega) (by omega)
      rw [hashL_split (show 2 ≤ l.length by omega)]
      obtain ⟨K, hK⟩ : ∃ K, splitN l.length = K := ⟨_, rfl⟩
      rw [hK] at hp hpos hlt ⊢
      have e1 : (l.take K).length = K := by rw [List.length_take]; omega
      have e2 : (l.drop K).length = l.length - K := by rw [List.length_drop]
      have a1 : all32P (l.take K) := fun z hz => h32 z (List.mem_of_mem_take hz)
      have a2 : all32P (l.drop K) := fun z hz => h32 z (List.mem_of_mem_drop hz)
      have ih1 := fun v w => ih (l.take K) v w (by omega) (by omega) (by omega) a1
      have ih2 := fun v w => ih (l.drop K) v w (by omega) (by omega) (by omega) a2
      have n1 := hashL_len a1
      have n2 := hashL_len a2
      generalize l.take K = LA at *
      generalize l.drop K = LB at *
      generalize hashL LA = RA at *
      generalize hashL LB = RB at *
      have hlen1 : ¬ l.length = 0 := by omega
      obtain ⟨off, cap, rfl, hc, hbb, hk⟩ := hr
      obtain ⟨n, hn⟩ : ∃ n, l.length = n := ⟨_, rfl⟩
      rw [hn] at hp hone hlen1 ⊢
      have q1 : ((n : Int) == 0) = false := by simpa using hlen1
      have q2 : ((n : Int) == 1) = false := by simp; omega
      have HP := hid hp
      have IH1 := hid ih1
      have IH2 := hid ih2
      have HB := hid hb
      have HD := hid hd
      have N1 := hid n1
      have N2 := hid n2
      clear hp ih ih1 ih2 hb hd n1 n2 hk hc hbb hn hone hlen1 hN h1 h2 h32 hK a1 a2 e1 e2 hpos hlt hup
      go_enter Tryd.func96, Tryd.ntmps96
      go_wp2_with fail
      refine HP.out.mono ?_
      rintro x w1 ⟨⟨v1, v2, rfl, r1, r2⟩, f1⟩
      have R1 := hid (show RoomAt _ _ _ from ⟨_, r1⟩)
      have R2 := hid (show RoomAt _ _ _ from ⟨_, r2⟩)
      have hb1 := f1.at_ HB.out (fun h => h)
      have c0 := (cell_at hb1 0).trans (show _ = some (Value.func (.func 96) #[] #[.pointer (some ⟨rk, 0, none⟩)]) from rfl)
      have c1 := lt_of_block hb1
      have HB1 := hid (show RootBox w1 rk from hb1)
      obtain ⟨o1, p1, ev1, -⟩ := r1
      obtain ⟨o2, p2, ev2, -⟩ := r2
      subst ev1
      subst ev2
      clear hb1
      go_wp2_with fail
      refine wp_region_keep 12 (fun w' => Fresh w1 w') (fun _ => True) (fun _ => true) (by kernel_rfl) (by kernel_rfl) ?_
      (try (change wpKeep _ _ _ _ _ _ _ _ _ _ (World.drew _)))
      refine wpKeep_takeT (i := 0) (oi := ⟨some 24, _, _, _, _, _⟩) (v := ?_) rfl (by kernel_rfl) (by kernel_rfl) (by kernel_rfl) (by kernel_rfl) (fun _ _ _ h => h) (Or.inl ⟨by rfl, ?_⟩) (Keeps.refl (fun _ => False) w1).drew (fun _ => trivial) ?_
      rotate_left
      · intro w' hT
        have y0 := (hT.cell (p := ⟨rk, 0, none⟩) c1 (fun h => h)).trans c0
        go_simp
        (try rw [if_pos (by omega)])
        (try with_reducible rfl)
      rotate_left
      (try simp only [Act.put, List.setIfInBounds_toArray, List.set_cons_zero, List.set_cons_succ])
      refine wpKeep_takeT (i := 1) (oi := ⟨some 25, _, _, _, _, _⟩) (v := ?_) rfl (by kernel_rfl) (by kernel_rfl) (by kernel_rfl) (by kernel_rfl) (fun _ _ _ h => h) (Or.inl ⟨by rfl, ?_⟩) (Keeps.refl (fun _ => False) w1).drew (fun _ => trivial) ?_
      rotate_left
      · intro w' hT
        go_simp
        (try rw [if_pos (by omega)])
        (try with_reducible rfl)
      rotate_left
      (try simp only [Act.put, List.setIfInBounds_toArray, List.set_cons_zero, List.set_cons_succ])
      refine wpKeep_takeT (i := 3) (oi := ⟨some 27, _, _, _, _, _⟩) (v := ?_) rfl (by kernel_rfl) (by kernel_rfl) (by kernel_rfl) (by kernel_rfl) (fun _ _ _ h => h) (Or.inl ⟨by rfl, ?_⟩) (Keeps.refl (fun _ => False) w1).drew (fun _ => trivial) ?_
      rotate_left
      · intro w' hT
        have y0 := (hT.cell (p := ⟨rk, 0, none⟩) c1 (fun h => h)).trans c0
        go_simp
        (try rw [if_pos (by omega)])
        (try with_reducible rfl)
      rotate_left
      (try simp only [Act.put, List.setIfInBounds_toArray, List.set_cons_zero, List.set_cons_succ])
      refine wpKeep_takeT (i := 4) (oi := ⟨some 28, _, _, _, _, _⟩) (v := ?_) rfl (by kernel_rfl) (by kernel_rfl) (by kernel_rfl) (by kernel_rfl) (fun _ _ _ h => h) (Or.inl ⟨by rfl, ?_⟩) (Keeps.refl (fun _ => False) w1).drew (fun _ => trivial) ?_
      rotate_left
      · intro w' hT
        go_simp
        (try rw [if_pos (by omega)])
        (try with_reducible rfl)
      rotate_left
      (try simp only [Act.put, List.setIfInBounds_toArray, List.set_cons_zero, List.set_cons_succ])
      refine wpKeep_ready (rs := [2]) (by kernel_rfl) (by simp) ?_
      refine AllKeep.cons (o := ⟨some 26, _, _, _, _, _⟩) rfl (fun K hK => ?_) AllKeep.nil
      go_simp
      go_at_call 96
      with_reducible refine (IH1.out _ _ (R1.out.fresh (Keeps.refl (fun _ => False) w1).drew) (HB1.out.fresh (Keeps.refl (fun _ => False) w1).drew) (HD.out.fresh (f1.trans (Keeps.refl (fun _ => False) w1).drew))).mono ?_
      rintro x w2 ⟨rfl, f2⟩
      have f2 : Fresh w1 w2 := (Keeps.refl (fun _ => False) w1).drew.trans f2
      dsimp only
      refine hK.out _ _ f2 (fun _ => trivial) ?_
      clear hK K
      (try simp only [Act.put, List.setIfInBounds_toArray, List.set_cons_zero, List.set_cons_succ])
      refine wpKeep_ready (rs := [5]) (by kernel_rfl) (by simp) ?_
      refine AllKeep.cons (o := ⟨some 29, _, _, _, _, _⟩) rfl (fun K hK => ?_) AllKeep.nil
      go_simp
      go_at_call 96
      with_reducible refine (IH2.out _ _ (R2.out.fresh f2) (HB1.out.fresh f2) (HD.out.fresh (f1.trans f2))).mono ?_
      rintro x w3 ⟨rfl, f3⟩
      have f3 : Fresh w1 w3 := f2.trans f3
      dsimp only
      refine hK.out _ _ f3 (fun _ => trivial) ?_
      clear hK K
      (try simp only [Act.put, List.setIfInBounds_toArray, List.set_cons_zero, List.set_cons_succ])
      refine wpKeep_ready (rs := [6]) (by kernel_rfl) (by simp) ?_
      refine AllKeep.cons (o := ⟨some 30, _, _, _, _, _⟩) rfl (fun K hK => ?_) AllKeep.nil
      go_simp
      go_at_call 97
      with_reducible refine (node_any RA RB N1.out N2.out _ (HD.out.fresh (f1.trans f3))).mono ?_
      rintro x w4 ⟨rfl, f4⟩
      have f4 : Fresh w1 w4 := f3.trans f4
      dsimp only
      refine hK.out _ _ f4 (fun _ => trivial) ?_
      clear hK K
      (try simp only [Act.put, List.setIfInBounds_toArray, List.set_cons_zero, List.set_cons_succ])
      refine wpKeep_takeT (i := 7) (oi := ⟨some 23, _, _, _, _, _⟩) (v := ?_) rfl (by kernel_rfl) (by kernel_rfl) (by kernel_rfl) (by kernel_rfl) (fun _ _ _ h => h) (Or.inl ⟨by rfl, ?_⟩) f4 (fun _ => trivial) ?_
      rotate_left
      · intro w' hT
        go_simp
        (try rw [if_pos (by omega)])
        (try with_reducible rfl)
      rotate_left
      (try simp only [Act.put, List.setIfInBounds_toArray, List.set_cons_zero, List.set_cons_succ])
      refine wpKeep_takeT (i := 8) (oi := ⟨some 31, _, _, _, _, _⟩) (v := ?_) rfl (by kernel_rfl) (by kernel_rfl) (by kernel_rfl) (by kernel_rfl) (fun _ _ _ h => h) (Or.inl ⟨by rfl, ?_⟩) f4 (fun _ => trivial) ?_
      rotate_left
      · intro w' hT
        go_simp
        (try rw [if_pos (by omega)])
        (try with_reducible rfl)
      rotate_left
      (try simp only [Act.put, List.setIfInBounds_toArray, List.set_cons_zero, List.set_cons_succ])
      refine wpKeep_takeT (i := 9) (oi := ⟨some 32, _, _, _, _, _⟩) (v := ?_) rfl (by kernel_rfl) (by kernel_rfl) (by kernel_rfl) (by kernel_rfl) (fun _ _ _ h => h) (Or.inl ⟨by rfl, ?_⟩) f4 (fun _ => trivial) ?_
      rotate_left
      · intro w' hT
        go_simp
        (try rw [if_pos (by omega)])
        (try with_reducible rfl)
      rotate_left
      (try simp only [Act.put, List.setIfInBounds_toArray, List.set_cons_zero, List.set_cons_succ])
      refine wpKeep_takeT (i := 10) (oi := ⟨some 6, _, _, _, _, _⟩) (v := ?_) rfl (by kernel_rfl) (by kernel_rfl) (by kernel_rfl) (by kernel_rfl) (fun _ _ _ h => h) (Or.inl ⟨by rfl, ?_⟩) f4 (fun _ => trivial) ?_
      rotate_left
      · intro w' hT
        go_simp
        (try rw [if_pos (by omega)])
        (try with_reducible rfl)
      rotate_left
      (try simp only [Act.put, List.setIfInBounds_toArray, List.set_cons_zero, List.set_cons_succ])
      refine wpKeep_takeT (i := 11) (oi := ⟨some 7, _, _, _, _, _⟩) (v := ?_) rfl (by kernel_rfl) (by kernel_rfl) (by kernel_rfl) (by kernel_rfl) (fun _ _ _ h => h) (Or.inl ⟨by rfl, ?_⟩) f4 (fun _ => trivial) ?_
      rotate_left
      · intro w' hT
        go_simp
        (try rw [if_pos (by omega)])
        (try with_reducible rfl)
      rotate_left
      (try simp only [Act.put, List.setIfInBounds_toArray, List.set_cons_zero, List.set_cons_succ])
      refine wpKeep_done (by kernel_rfl) ?_ _
      go_wp2_with fail
      go_ret
      exact ⟨rfl, f1.trans f4⟩
end Go.Proofs.YtgikabafaocemaaDoor
