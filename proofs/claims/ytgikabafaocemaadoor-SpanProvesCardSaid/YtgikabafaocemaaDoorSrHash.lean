/-
  The document's tile: the hash of some leaves.
-/
import Derived.Test.YtgikabafaocemaaDoorSpRecA
namespace Go.Proofs.YtgikabafaocemaaDoor
open Go.RowKit

set_option maxRecDepth 100000 in
set_option maxHeartbeats 1000000 in
theorem node7_any (a b : List UInt8) (ha : a.length = 32) (hb : b.length = 32) (w : World) :
    Calls Tryd.prog 120 #[.string (str a), .string (str b)] w fun e w' => e = .returned (.string (str (nodeH a b))) ∧ Fresh w w' := by
  have sa := str_size a
  have sb := str_size b
  rw [ha] at sa
  rw [hb] at sb
  have hP := hid (refsum_any (1 :: (a ++ b)) w (by simp; omega))
  have hc1 : str ([1] : List UInt8) ++ str a = str (1 :: a) := by
    apply ByteArray.ext
    simp [str, ByteArray.data_append]
  have hc2 : str (1 :: a) ++ str b = str (1 :: (a ++ b)) := by
    apply ByteArray.ext
    simp [str, ByteArray.data_append]
  have s1 := str_size (1 :: a)
  simp only [List.length_cons, ha] at s1
  go_enter Tryd.func120, Tryd.ntmps120
  go_wp2_with fail
  refine hP.out.mono ?_
  rintro e w1 ⟨rfl, f1⟩
  go_wp2_with fail
  go_ret
  exact ⟨rfl, f1⟩

/-- the loop's number is the split -/
theorem split_of {k n : Nat} (h1 : ∃ j, k = 2 ^ j) (h2 : k < n) (h3 : n ≤ 2 * k) : k = splitN n := by
  obtain ⟨j, rfl⟩ := h1
  exact splitN_unique h2 h3

set_option maxRecDepth 100000 in
set_option maxHeartbeats 2000000 in
theorem hash7_any (bb : Nat) : ∀ (N : Nat) (l : List (List UInt8)) (v : Value) (w : World), l.length ≤ N → 1 ≤ l.length → l.length ≤ 4096 → all32P l → RoomIn w bb v l →
    Calls Tryd.prog 90 #[v] w fun x w' => x = .returned (.string (str (hashL l))) ∧ Fresh w w' := by
  intro N
  induction N with
  | zero => intro l v w h1 h2; omega
  | succ N ih =>
    intro l v w hN h1 h2 h32 hr
    by_cases hone : l.length = 1
    · obtain ⟨x, rfl⟩ : ∃ x, l = [x] := by
        cases l with
        | nil => simp at h1
        | cons x r =>
          cases r with
          | nil => exact ⟨x, rfl⟩
          | cons y r => simp at hone
      rw [hashL_one]
      obtain ⟨off, cap, rfl, hc, hbb, hk⟩ := hr
      have hx := hk 0 x rfl
      have hx0 : w.cell? ⟨bb, off, none⟩ = some (.string (str x)) := hx
      clear hk hN h1 h2 h32 hone ih hx
      go_enter Tryd.func90, Tryd.ntmps90
      go_wp2_with fail
      go_ret
      exact ⟨rfl, Keeps.refl _ _⟩
    · obtain ⟨hpos, hlt, hup⟩ := splitN_facts (show 2 ≤ l.length by omega)
      rw [hashL_split (show 2 ≤ l.length by omega)]
      have hsp := fun k => split_of (k := k) (n := l.length)
      obtain ⟨K, hK⟩ : ∃ K, splitN l.length = K := ⟨_, rfl⟩
      rw [hK] at hpos hlt ⊢
      simp only [hK] at hsp
      have e1 : (l.take K).length = K := by rw [List.length_take]; omega
      have e2 : (l.drop K).length = l.length - K := by rw [List.length_drop]
      have a1 : all32P (l.take K) := fun z hz => h32 z (List.mem_of_mem_take hz)
      have a2 : all32P (l.drop K) := fun z hz => h32 z (List.mem_of_mem_drop hz)
      have ih1 := fun v w => ih (l.take K) v w (by omega) (by omega) (by omega) a1
      have ih2 := fun v w => ih (l.drop K) v w (by omega) (by omega) (by omega) a2
      have n1 := hashL_len a1
      have n2 := hashL_len a2
      obtain ⟨off, cap, rfl, hc, hbb, hk⟩ := hr
      obtain ⟨n, hn⟩ : ∃ n, l.length = n := ⟨_, rfl⟩
      have r1 : RoomIn w bb (.slice (some ⟨bb, off, none⟩) K cap) (l.take K) := ⟨off, cap, by rw [e1], by omega, hbb, fun k s hs => by
        have hkK : k < K := by have := (List.getElem?_eq_some_iff.1 hs).1; omega
        rw [List.getElem?_take, if_pos hkK] at hs
        exact hk k s hs⟩
      have r2 : RoomIn w bb (.slice (some ⟨bb, off + K, none⟩) (n - K) (cap - K)) (l.drop K) := ⟨off + K, cap - K, by rw [e2, hn], by omega, hbb, fun k s hs => by
        rw [List.getElem?_drop] at hs
        rw [show off + K + k = off + (K + k) by omega]
        exact hk (K + k) s hs⟩
      generalize l.take K = LA at *
      generalize l.drop K = LB at *
      generalize hashL LA = RA at *
      generalize hashL LB = RB at *
      rw [hn] at hone hsp hlt hup hc h2 ⊢
      have q1 : ((n : Int) == 0) = false := by simp; omega
      have q2 : ((n : Int) == 1) = false := by simp; omega
      have IH1 := hid ih1
      have IH2 := hid ih2
      have N1 := hid n1
      have N2 := hid n2
      have HSP := hid hsp
      have R1 := hid r1
      have R2 := hid r2
      have hKn : (K : Int) < (n : Int) := by omega
      have hnc : (n : Int) ≤ (cap : Int) := by omega
      have hn4 : (n : Int) ≤ 4096 := by omega
      have hKc : (K : Int) ≤ (cap : Int) := by omega
      have hKc2 : ¬ cap = K := by omega
      clear ih ih1 ih2 n1 n2 hk hbb hn hN h1 h32 hK a1 a2 e1 e2 hsp r1 r2 hone
      go_enter Tryd.func90, Tryd.ntmps90
      go_wp2_with fail
      go_loop [3] (fun i => ∃ (k : Nat), i = .int .i64 (k : Int) ∧ (∃ j, k = 2 ^ j) ∧ k < n) (fun i => n - (intOf i).toNat)
      case atStart => exact ⟨1, rfl, ⟨0, rfl⟩, by omega⟩
      case round =>
        obtain ⟨k, rfl, hp, hkn⟩ := hrel
        have hk0 : 0 < k := by obtain ⟨j, rfl⟩ := hp; exact Nat.pow_pos (by omega)
        by_cases h2k : 2 * k < n
        · have h2i : (2 : Int) * (k : Int) < (n : Int) := by omega
          have HP := hid hp
          clear hp
          go_wp2_with fail
          go_round
          case rel => exact ⟨2 * k, by go_num, by obtain ⟨j, hj⟩ := HP.out; exact ⟨j + 1, by rw [hj, Nat.pow_succ]; omega⟩, h2k⟩
          case measure => simp [intOf]; omega
        · obtain rfl : k = K := HSP.out k hp hkn (by omega)
          have h2i : ¬ (2 : Int) * (k : Int) < (n : Int) := by omega
          clear hp h2k hup
          go_wp2_with fail
          refine wp_region_keep 10 (fun w' => Fresh w w') (fun _ => True) (fun _ => true) (by kernel_rfl) (by kernel_rfl) ?_
          (try (change wpKeep _ _ _ _ _ _ _ _ _ _ (World.drew _)))
          refine wpKeep_takeT (i := 0) (oi := ⟨some 21, _, _, _, _, _⟩) (v := ?_) rfl (by kernel_rfl) (by kernel_rfl) (by kernel_rfl) (by kernel_rfl) (fun _ _ _ h => h) (Or.inl ⟨by rfl, ?_⟩) (Keeps.refl _ _).drew (fun _ => trivial) ?_
          rotate_left
          · intro w' hT
            go_simp
            (try rw [if_pos (by omega)])
            (try with_reducible rfl)
          rotate_left
          (try simp only [Act.put, List.setIfInBounds_toArray, List.set_cons_zero, List.set_cons_succ])
          refine wpKeep_takeT (i := 1) (oi := ⟨some 22, _, _, _, _, _⟩) (v := ?_) rfl (by kernel_rfl) (by kernel_rfl) (by kernel_rfl) (by kernel_rfl) (fun _ _ _ h => h) (Or.inl ⟨by rfl, ?_⟩) (Keeps.refl _ _).drew (fun _ => trivial) ?_
          rotate_left
          · intro w' hT
            go_simp
            (try rw [if_pos (by omega)])
            (try with_reducible rfl)
          rotate_left
          (try simp only [Act.put, List.setIfInBounds_toArray, List.set_cons_zero, List.set_cons_succ])
          refine wpKeep_takeT (i := 2) (oi := ⟨some 23, _, _, _, _, _⟩) (v := ?_) rfl (by kernel_rfl) (by kernel_rfl) (by kernel_rfl) (by kernel_rfl) (fun _ _ _ h => h) (Or.inl ⟨by rfl, ?_⟩) (Keeps.refl _ _).drew (fun _ => trivial) ?_
          rotate_left
          · intro w' hT
            go_simp
            (try rw [if_pos (by omega)])
            (try with_reducible rfl)
          rotate_left
          (try simp only [Act.put, List.setIfInBounds_toArray, List.set_cons_zero, List.set_cons_succ])
          refine wpKeep_takeT (i := 4) (oi := ⟨some 25, _, _, _, _, _⟩) (v := ?_) rfl (by kernel_rfl) (by kernel_rfl) (by kernel_rfl) (by kernel_rfl) (fun _ _ _ h => h) (Or.inl ⟨by rfl, ?_⟩) (Keeps.refl _ _).drew (fun _ => trivial) ?_
          rotate_left
          · intro w' hT
            go_simp
            (try rw [if_pos (by omega)])
            (try with_reducible rfl)
          rotate_left
          (try simp only [Act.put, List.setIfInBounds_toArray, List.set_cons_zero, List.set_cons_succ])
          refine wpKeep_takeT (i := 5) (oi := ⟨some 26, _, _, _, _, _⟩) (v := ?_) rfl (by kernel_rfl) (by kernel_rfl) (by kernel_rfl) (by kernel_rfl) (fun _ _ _ h => h) (Or.inl ⟨by rfl, ?_⟩) (Keeps.refl _ _).drew (fun _ => trivial) ?_
          rotate_left
          · intro w' hT
            go_simp
            (try rw [if_pos (by omega)])
            (try with_reducible rfl)
          rotate_left
          (try simp only [Act.put, List.setIfInBounds_toArray, List.set_cons_zero, List.set_cons_succ])
          refine wpKeep_takeT (i := 6) (oi := ⟨some 27, _, _, _, _, _⟩) (v := ?_) rfl (by kernel_rfl) (by kernel_rfl) (by kernel_rfl) (by kernel_rfl) (fun _ _ _ h => h) (Or.inl ⟨by rfl, ?_⟩) (Keeps.refl _ _).drew (fun _ => trivial) ?_
          rotate_left
          · intro w' hT
            go_simp
            (try rw [if_pos (by omega)])
            (try with_reducible rfl)
          rotate_left
          (try simp only [Act.put, List.setIfInBounds_toArray, List.set_cons_zero, List.set_cons_succ])
          refine wpKeep_ready (rs := [3]) (by kernel_rfl) (by simp) ?_
          refine AllKeep.cons (o := ⟨some 24, _, _, _, _, _⟩) rfl (fun K hK => ?_) AllKeep.nil
          go_simp
          go_at_call 90
          with_reducible refine (IH1.out _ _ (R1.out.keeps (Keeps.refl (fun _ => False) w |>.drew) (fun h => h))).mono ?_
          rintro x w1 ⟨rfl, f1⟩
          have f1 : Fresh w w1 := (Keeps.refl (fun _ => False) w |>.drew).trans f1
          dsimp only
          refine hK.out _ _ f1 (fun _ => trivial) ?_
          clear hK K
          (try simp only [Act.put, List.setIfInBounds_toArray, List.set_cons_zero, List.set_cons_succ])
          refine wpKeep_ready (rs := [7]) (by kernel_rfl) (by simp) ?_
          refine AllKeep.cons (o := ⟨some 28, _, _, _, _, _⟩) rfl (fun K hK => ?_) AllKeep.nil
          go_simp
          go_at_call 90
          with_reducible refine (IH2.out _ _ (R2.out.keeps (f1) (fun h => h))).mono ?_
          rintro x w2 ⟨rfl, f2⟩
          have f2 : Fresh w w2 := (f1).trans f2
          dsimp only
          refine hK.out _ _ f2 (fun _ => trivial) ?_
          clear hK K
          (try simp only [Act.put, List.setIfInBounds_toArray, List.set_cons_zero, List.set_cons_succ])
          refine wpKeep_ready (rs := [8]) (by kernel_rfl) (by simp) ?_
          refine AllKeep.cons (o := ⟨some 29, _, _, _, _, _⟩) rfl (fun K hK => ?_) AllKeep.nil
          go_simp
          go_at_call 120
          with_reducible refine (node7_any RA RB N1.out N2.out _).mono ?_
          rintro x w3 ⟨rfl, f3⟩
          have f3 : Fresh w w3 := f2.trans f3
          dsimp only
          refine hK.out _ _ f3 (fun _ => trivial) ?_
          clear hK K
          (try simp only [Act.put, List.setIfInBounds_toArray, List.set_cons_zero, List.set_cons_succ])
          refine wpKeep_takeT (i := 9) (oi := ⟨some 2, _, _, _, _, _⟩) (v := ?_) rfl (by kernel_rfl) (by kernel_rfl) (by kernel_rfl) (by kernel_rfl) (fun _ _ _ h => h) (Or.inl ⟨by rfl, ?_⟩) f3 (fun _ => trivial) ?_
          rotate_left
          · intro w' hT
            go_simp
            (try rw [if_pos (by omega)])
            (try with_reducible rfl)
          rotate_left
          (try simp only [Act.put, List.setIfInBounds_toArray, List.set_cons_zero, List.set_cons_succ])
          refine wpKeep_done (by kernel_rfl) ?_ _
          go_wp2_with fail
          go_ret
          exact ⟨rfl, f3⟩
end Go.Proofs.YtgikabafaocemaaDoor
