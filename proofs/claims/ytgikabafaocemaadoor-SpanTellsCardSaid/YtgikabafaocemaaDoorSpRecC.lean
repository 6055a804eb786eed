/-
  Package recursion: Many.
-/
import Derived.Test.YtgikabafaocemaaDoorSpRecB
import Derived.Test.YtgikabafaocemaaDoorSpSearchShelf
import Derived.Test.YtgikabafaocemaaDoorMSpC
import Derived.Test.YtgikabafaocemaaDoorMSpA
namespace Go.Proofs.YtgikabafaocemaaDoor
open Go.RowKit
attribute [local go_sem] run_store_func

def idxL (b m : Nat) : List Int := (List.range m).map fun k => ((b + k : Nat) : Int)
theorem idxL_len (b m : Nat) : (idxL b m).length = m := by simp [idxL]
theorem idxL_succ (b m : Nat) : idxL b (m + 1) = idxL b m ++ [((b + m : Nat) : Int)] := by simp [idxL, List.range_succ]
theorem idxL_get (b m j : Nat) (h : j < m) : (idxL b m).getD j 0 = ((b + j : Nat) : Int) := by
  rw [List.getD, idxL, List.getElem?_map, List.getElem?_range h]
  rfl
theorem idxL_sorted (b m : Nat) : (idxL b m).Pairwise (· ≤ ·) := by
  unfold idxL
  rw [List.pairwise_map]
  exact List.Pairwise.imp (fun h => by omega) List.pairwise_lt_range
theorem idxL_count (b x : Nat) : ∀ m, (idxL b m).countP (· < (x : Int)) = min m (x - b)
  | 0 => by simp [idxL]
  | m + 1 => by
    rw [idxL_succ, List.countP_append, idxL_count b x m]
    by_cases h : b + m < x
    · have : decide (((b + m : Nat) : Int) < (x : Int)) = true := decide_eq_true (by omega)
      simp only [List.countP_cons, this, List.countP_nil, if_true]
      omega
    · have : decide (((b + m : Nat) : Int) < (x : Int)) = false := decide_eq_false (by omega)
      simp only [List.countP_cons, this, List.countP_nil, Bool.false_eq_true, if_false]
      omega

/-- a list in a box of its own, to be appended to -/
def OutAt (w : World) (ob : Nat) (v : Value) (l : List (List UInt8)) : Prop :=
  w.heap[ob]? = some (.cells #[v] 26 (0, 0)) ∧ w.ownsRow 0 9 1 v l.length (texts l) ∧ v.ownBlock ≠ some ob
theorem OutAt.fresh {w w' : World} {ob : Nat} {v : Value} {l : List (List UInt8)} (h : OutAt w ob v l) (f : Fresh w w') : OutAt w' ob v l := ⟨f.at_ h.1 (fun h => h), ownsRow_keeps h.2.1 f (fun _ _ h => h), h.2.2⟩
/-- what Many's closure has caught -/
structure ManyEnv (w : World) (B ib ob mb kb io icap rb m : Nat) : Prop where
  idx : w.heap[ib]? = some (.cells #[.slice (some ⟨kb, io, none⟩) m icap] 22 (0, 0))
  cell : ∀ k, k < m → w.cell? ⟨kb, io + k, none⟩ = some (.int .i64 ((rb + k : Nat) : Int))
  many : w.heap[mb]? = some (.cells #[.func (.func 56) #[] #[.pointer (some ⟨ib, 0, none⟩), .pointer (some ⟨ob, 0, none⟩), .pointer (some ⟨mb, 0, none⟩)]] 100 (0, 0))
  ne1 : ib ≠ ob
  ne2 : mb ≠ ob
  ne3 : kb ≠ ob
  l1 : ib < B
  l2 : mb < B
  l3 : kb < B
  l4 : ob < B
  room : B ≤ w.heap.size
  glob : 4 ≤ ob
theorem ManyEnv.keeps {S : Nat → Prop} {w w' : World} {B ib ob mb kb io icap rb m : Nat} (h : ManyEnv w B ib ob mb kb io icap rb m) (K : Keeps S w w') (hS : ∀ q, S q → q = ob ∨ B ≤ q) : ManyEnv w' B ib ob mb kb io icap rb m := by
  have n1 : ¬ S ib := fun q => by have := h.ne1; have := h.l1; rcases hS _ q with e | e <;> omega
  have n2 : ¬ S mb := fun q => by have := h.ne2; have := h.l2; rcases hS _ q with e | e <;> omega
  have n3 : ¬ S kb := fun q => by have := h.ne3; have := h.l3; rcases hS _ q with e | e <;> omega
  exact ⟨K.at_ h.idx n1, fun k hk => (K.cell (p := ⟨kb, io + k, none⟩) (Nat.lt_of_lt_of_le h.l3 h.room) n3).trans (h.cell k hk), K.at_ h.many n2, h.ne1, h.ne2, h.ne3, h.l1, h.l2, h.l3, h.l4, Nat.le_trans h.room K.size, h.glob⟩

/-- what a call of it leaves -/
def ManyOut (w : World) (ob : Nat) (vo : Value) (X : List (List UInt8)) (x : Ending) (w' : World) : Prop :=
  (∃ r, x = .returned r) ∧ ∃ v', OutAt w' ob v' X ∧ Keeps (fun q => q = ob ∨ vo.ownBlock = some q) w w' ∧ ∀ g, v'.ownBlock = some g → vo.ownBlock = some g ∨ w.heap.size ≤ g

set_option maxRecDepth 100000 in
set_option maxHeartbeats 4000000 in
theorem many1_out (B ib ob mb kb io icap rb m lb : Nat) (b e : Nat) (l X : List (List UInt8)) (vo v : Value) (w : World) (hm : 1 ≤ m) (hm2 : m ≤ 256) (hrb : rb ≤ 4096) (hbe : b < e) (he : e ≤ 4096) (hll : l.length = e - b) (h32 : all32P l) (hX : X.length + 1 ≤ 2199023255552) (hr : RoomIn w lb v l) (ho : OutAt w ob vo X) (hE : ManyEnv w B ib ob mb kb io icap rb m) (hd : Dig w) (hout : rb + m ≤ b ∨ e ≤ rb) :
    Calls Tryd.prog 56 #[.int .i64 (b : Int), v, .pointer (some ⟨ib, 0, none⟩), .pointer (some ⟨ob, 0, none⟩), .pointer (some ⟨mb, 0, none⟩)] w (ManyOut w ob vo (X ++ [hashL l])) := by
  have hbs := Tryd.slices_BinarySearch_int kb io m icap (idxL rb m) (b : Int) w (by rw [idxL_len]; exact Nat.le_refl _) (by omega) (fun j hj => by rw [idxL_len] at hj; rw [idxL_get rb m j hj]; exact hE.cell j hj) (by rw [List.take_of_length_le (by rw [idxL_len]; exact Nat.le_refl _)]; exact idxL_sorted rb m)
  rw [List.take_of_length_le (by rw [idxL_len]; exact Nat.le_refl _), idxL_count] at hbs
  obtain ⟨A, hA⟩ : ∃ A, min m (b - rb) = A := ⟨_, rfl⟩
  rw [hA] at hbs
  obtain ⟨fd, hfd⟩ : ∃ fd, (idxL rb m).contains (b : Int) = fd := ⟨_, rfl⟩
  rw [hfd] at hbs
  have HBS := hid hbs
  have i0 := (cell_at hE.idx 0).trans (show _ = some (Value.slice (some ⟨kb, io, none⟩) m icap) from rfl)
  have i1 := lt_of_block hE.idx
  have hroot := hid (fun W (f : Fresh w W) => recroot_any v l W ⟨lb, hr.keeps f (fun h => h)⟩ (by omega) (by omega) h32 (hd.fresh f))
  obtain ⟨RH, hRH⟩ : ∃ RH, hashL l = RH := ⟨_, rfl⟩
  rw [hRH] at hroot ⊢
  have k0 := hE.cell 0 (by omega)
  have kbs : kb < w.heap.size := Nat.lt_of_lt_of_le hE.l3 hE.room
  obtain ⟨off, cap, rfl, hc, hlb2, hk⟩ := hr
  obtain ⟨n, hn⟩ : ∃ n, l.length = n := ⟨_, rfl⟩
  rw [hn] at hroot hll ⊢
  have HO := hid ho
  obtain ⟨aoX, cpX, evo⟩ := ownsRow_slice ho.2.1
  have HRV := hid evo
  have hne2 := ho.2.2
  have n3 := lt_of_block ho.1
  have o0 := (cell_at ho.1 0).trans (show _ = some vo from rfl)
  have o1 := free_at ho.1 0
  have HROW := hid ho.2.1
  have HLEN := hid hX
  obtain ⟨i9, hi, hz0, hz1, hz2⟩ := info_parts Tryd.infoText
  have hbn := hid (show wrap64 ((b : Int) + (n : Int)) = (e : Int) from (wrap_small (by omega) (by omega)).trans (by omega))
  have hmi : (m : Int) ≤ 256 := by omega
  have k0' : w.cell? ⟨kb, io, none⟩ = some (.int .i64 (rb : Int)) := k0
  have HNE3 := hid hE.ne3
  have HNE1 := hid hE.ne1
  have go : ∀ (a : Act) (K : Act → World → Prop), True := fun _ _ => trivial
  clear hbs hn hll h32 hd hE hc hlb2 hk hRH ho evo hX k0 hfd go
  by_cases hb2 : rb + m ≤ b
  · have hAm : A = m := by omega
    subst hAm
    have q1 : ((A : Int) == (A : Int)) = true := by simp
    clear hA hb2 hout hbn
    go_enter Tryd.func56, Tryd.ntmps56
    go_wp2_with fail
    refine HBS.out.mono ?_
    rintro x w1 ⟨rfl, qd, rfl⟩
    go_wp2_with fail
    have fq : Fresh w (w.drewN qd) := (Keeps.refl _ _).drewN _
    generalize w.drewN qd = W0 at fq ⊢
    have p0 := (fq.cell (p := ⟨ob, 0, none⟩) n3 (fun h => h)).trans o0
    have p1 := (fq.frozen (p := ⟨ob, 0, none⟩) n3 (fun h => h)).trans o1
    have n0 : ob < W0.heap.size := Nat.lt_of_lt_of_le n3 fq.size
    refine wp_region_keep 6 (fun w' => Keeps (fun q => q = ob ∨ vo.ownBlock = some q) W0 w') (fun w' => w'.cell? ⟨ob, 0, none⟩ = some vo ∧ w'.frozen? ⟨ob, 0, none⟩ = false) (fun j => !(j == 5)) (by kernel_rfl) (by kernel_rfl) ?_
    (try (change wpKeep _ _ _ _ _ _ _ _ _ _ (World.drew _)))
    refine wpKeep_take (i := 0) (oi := ⟨some 33, _, _, _, _, _⟩) (v := ?_) rfl (by kernel_rfl) (by kernel_rfl) (by kernel_rfl) (by kernel_rfl) (fun _ _ _ h => h) (Or.inl ⟨by rfl, ?_⟩) ⟨(Keeps.refl _ _).drew, ⟨p0, p1⟩⟩ ?_
    rotate_left
    · intro w' hT
      have hS0 := hT.2
      replace hT := hT.1
      go_simp
      (try rw [if_pos (by omega)])
      (try with_reducible rfl)
    rotate_left
    (try simp only [Act.put, List.setIfInBounds_toArray, List.set_cons_zero, List.set_cons_succ])
    refine wpKeep_takeT (i := 1) (oi := ⟨some 34, _, _, _, _, _⟩) (v := ?_) rfl (by kernel_rfl) (by kernel_rfl) (by kernel_rfl) (by kernel_rfl) (fun _ _ _ h => h) (Or.inl ⟨by rfl, ?_⟩) (Keeps.refl _ _).drew (fun _ => ⟨p0, p1⟩) ?_
    rotate_left
    · intro w' hT
      go_simp
      (try rw [if_pos (by omega)])
      (try with_reducible rfl)
    rotate_left
    (try simp only [Act.put, List.setIfInBounds_toArray, List.set_cons_zero, List.set_cons_succ])
    refine wpKeep_ready (rs := [2]) (by kernel_rfl) (by simp) ?_
    refine AllKeep.cons (o := ⟨some 35, _, _, _, _, _⟩) rfl (fun K hK => ?_) AllKeep.nil
    go_simp
    go_at_call 58
    with_reducible refine (hroot.out _ (fq.trans (Keeps.refl _ _).drew)).mono ?_
    rintro x w3 ⟨rfl, f3⟩
    have f3' : Fresh W0 w3 := (Keeps.refl (fun _ => False) W0).drew.trans f3
    have s0 := (f3'.cell (p := ⟨ob, 0, none⟩) n0 (fun h => h)).trans p0
    have s1 := (f3'.frozen (p := ⟨ob, 0, none⟩) n0 (fun h => h)).trans p1
    have hrow3 := ownsRow_keeps HROW.out (fq.trans f3') (fun _ _ h => h)
    have T3 : Keeps (fun q => q = ob ∨ vo.ownBlock = some q) W0 w3 := f3'.mono (fun _ _ h => h.elim)
    dsimp only
    refine hK.out _ _ T3 (fun _ => ⟨s0, s1⟩) ?_
    clear hK K
    (try simp only [Act.put, List.setIfInBounds_toArray, List.set_cons_zero, List.set_cons_succ])
    refine wpKeep_ready (rs := [3]) (by kernel_rfl) (by simp) ?_
    refine AllKeep.cons (o := ⟨some 36, _, _, _, _, _⟩) rfl (fun K hK => ?_) AllKeep.nil
    go_simp
    have fal := (Keeps.refl (fun _ => False) w3).alloc (.cells #[.string (str RH)] 9)
    have n33 : ob < w3.heap.size := Nat.lt_of_lt_of_le n0 f3'.size
    refine hK.out _ _ (T3.alloc _) (fun _ => ⟨(fal.cell (p := ⟨ob, 0, none⟩) n33 (fun h => h)).trans s0, (fal.frozen (p := ⟨ob, 0, none⟩) n33 (fun h => h)).trans s1⟩) ?_
    clear hK K
    (try simp only [Act.put, List.setIfInBounds_toArray, List.set_cons_zero, List.set_cons_succ])
    refine wpKeep_ready (rs := [4]) (by kernel_rfl) (by simp) ?_
    refine AllKeep.cons (o := ⟨some 37, _, _, _, _, _⟩) rfl (fun K hK => ?_) AllKeep.nil
    refine step_push rfl (.tmp 33) (.tmp 36) 26 rfl 9 i9 (.string ⟨#[]⟩) 16 Tryd.underlying26 hi hz0 hz1 hz2 rfl w3 hrow3 (.string (str RH)) (by rfl) (by rfl) rfl (by have := HLEN.out; omega) (by have := HLEN.out; unfold maxLen; omega) ?_
    intro v6 w6 ha
    have s60 := (ha.keeps.cell (p := ⟨ob, 0, none⟩) n33 hne2).trans s0
    have s61 := (ha.keeps.frozen (p := ⟨ob, 0, none⟩) n33 hne2).trans s1
    have T6 : Keeps (fun q => q = ob ∨ vo.ownBlock = some q) W0 w6 := T3.trans (ha.keeps.mono (fun _ _ h => .inr h))
    refine hK.out _ _ T6 (fun _ => ⟨s60, s61⟩) ?_
    clear hK K
    (try simp only [Act.put, List.setIfInBounds_toArray, List.set_cons_zero, List.set_cons_succ])
    refine wpKeep_ready (rs := [5]) (by kernel_rfl) (by simp) ?_
    refine AllKeep.cons (o := ⟨none, _, _, _, _, _⟩) rfl (fun K hK => ?_) AllKeep.nil
    obtain ⟨ao6, cp6, e6⟩ := ownsRow_slice ha.row
    subst e6
    go_simp
    refine hK.out _ _ (T6.setCell (p := ⟨ob, 0, none⟩) (fun _ => .inl rfl) _) (not_early (by kernel_rfl)) ?_
    clear hK K
    (try simp only [Act.put, List.setIfInBounds_toArray, List.set_cons_zero, List.set_cons_succ])
    refine wpKeep_done (by kernel_rfl) ?_ _
    have hv6 := ha.own
    have hrow6 := ha.row
    have J6 := f3'.at_ (fq.at_ HO.out.1 (fun h => h)) (fun h => h)
    have J6 := ha.keeps.at_ J6 hne2
    generalize Value.slice ao6 (X.length + 1) cp6 = v6 at hv6 hrow6 ⊢
    have hv6j : v6.ownBlock ≠ some ob := fun e => by
      rcases hv6 ob e with z | z
      · exact hne2 z
      · omega
    have hJ7 := heap_setCell_at J6 0 v6
    have hend : OutAt (w6.setCell ⟨ob, 0, none⟩ v6) ob v6 (X ++ [RH]) := by
      refine ⟨hJ7, ?_, hv6j⟩
      rw [texts_snoc, List.length_append]
      exact ownsRow_setCell_ne hrow6 hv6j _
    have k7 : Keeps (fun q => q = ob ∨ vo.ownBlock = some q) w (w6.setCell ⟨ob, 0, none⟩ v6) := (fq.mono (fun _ _ h => h.elim)).trans (T6.setCell (p := ⟨ob, 0, none⟩) (fun _ => .inl rfl) v6)
    have o7 : ∀ g, v6.ownBlock = some g → vo.ownBlock = some g ∨ w.heap.size ≤ g := fun g hg => by
      rcases hv6 g hg with z | z
      · exact .inl z
      · have := fq.size; have := f3'.size; exact .inr (by omega)
    go_wp2_with fail
    go_end0
    unfold ManyOut
    exact ⟨⟨Value.tuple #[], rfl⟩, ⟨v6, hend, k7, o7⟩⟩
  · have hA0 : A = 0 := by omega
    have her : e ≤ rb := by omega
    subst hA0
    have q1 : (((0 : Nat) : Int) == (m : Int)) = false := by simp; omega
    have q2 : (e : Int) ≤ (rb : Int) := by omega
    have q3 : (0 : Int) < (m : Int) := by omega
    have hbn := hbn.out
    clear hA hb2 hout her
    go_enter Tryd.func56, Tryd.ntmps56
    go_wp2_with fail
    refine HBS.out.mono ?_
    rintro x w1 ⟨rfl, qd, rfl⟩
    go_wp2_with fail
    have fq : Fresh w (w.drewN qd) := (Keeps.refl _ _).drewN _
    generalize w.drewN qd = W0 at fq ⊢
    have p0 := (fq.cell (p := ⟨ob, 0, none⟩) n3 (fun h => h)).trans o0
    have p1 := (fq.frozen (p := ⟨ob, 0, none⟩) n3 (fun h => h)).trans o1
    have n0 : ob < W0.heap.size := Nat.lt_of_lt_of_le n3 fq.size
    refine wp_region_keep 6 (fun w' => Keeps (fun q => q = ob ∨ vo.ownBlock = some q) W0 w') (fun w' => w'.cell? ⟨ob, 0, none⟩ = some vo ∧ w'.frozen? ⟨ob, 0, none⟩ = false) (fun j => !(j == 5)) (by kernel_rfl) (by kernel_rfl) ?_
    (try (change wpKeep _ _ _ _ _ _ _ _ _ _ (World.drew _)))
    refine wpKeep_take (i := 0) (oi := ⟨some 33, _, _, _, _, _⟩) (v := ?_) rfl (by kernel_rfl) (by kernel_rfl) (by kernel_rfl) (by kernel_rfl) (fun _ _ _ h => h) (Or.inl ⟨by rfl, ?_⟩) ⟨(Keeps.refl _ _).drew, ⟨p0, p1⟩⟩ ?_
    rotate_left
    · intro w' hT
      have hS0 := hT.2
      replace hT := hT.1
      go_simp
      (try rw [if_pos (by omega)])
      (try with_reducible rfl)
    rotate_left
    (try simp only [Act.put, List.setIfInBounds_toArray, List.set_cons_zero, List.set_cons_succ])
    refine wpKeep_takeT (i := 1) (oi := ⟨some 34, _, _, _, _, _⟩) (v := ?_) rfl (by kernel_rfl) (by kernel_rfl) (by kernel_rfl) (by kernel_rfl) (fun _ _ _ h => h) (Or.inl ⟨by rfl, ?_⟩) (Keeps.refl _ _).drew (fun _ => ⟨p0, p1⟩) ?_
    rotate_left
    · intro w' hT
      go_simp
      (try rw [if_pos (by omega)])
      (try with_reducible rfl)
    rotate_left
    (try simp only [Act.put, List.setIfInBounds_toArray, List.set_cons_zero, List.set_cons_succ])
    refine wpKeep_ready (rs := [2]) (by kernel_rfl) (by simp) ?_
    refine AllKeep.cons (o := ⟨some 35, _, _, _, _, _⟩) rfl (fun K hK => ?_) AllKeep.nil
    go_simp
    go_at_call 58
    with_reducible refine (hroot.out _ (fq.trans (Keeps.refl _ _).drew)).mono ?_
    rintro x w3 ⟨rfl, f3⟩
    have f3' : Fresh W0 w3 := (Keeps.refl (fun _ => False) W0).drew.trans f3
    have s0 := (f3'.cell (p := ⟨ob, 0, none⟩) n0 (fun h => h)).trans p0
    have s1 := (f3'.frozen (p := ⟨ob, 0, none⟩) n0 (fun h => h)).trans p1
    have hrow3 := ownsRow_keeps HROW.out (fq.trans f3') (fun _ _ h => h)
    have T3 : Keeps (fun q => q = ob ∨ vo.ownBlock = some q) W0 w3 := f3'.mono (fun _ _ h => h.elim)
    dsimp only
    refine hK.out _ _ T3 (fun _ => ⟨s0, s1⟩) ?_
    clear hK K
    (try simp only [Act.put, List.setIfInBounds_toArray, List.set_cons_zero, List.set_cons_succ])
    refine wpKeep_ready (rs := [3]) (by kernel_rfl) (by simp) ?_
    refine AllKeep.cons (o := ⟨some 36, _, _, _, _, _⟩) rfl (fun K hK => ?_) AllKeep.nil
    go_simp
    have fal := (Keeps.refl (fun _ => False) w3).alloc (.cells #[.string (str RH)] 9)
    have n33 : ob < w3.heap.size := Nat.lt_of_lt_of_le n0 f3'.size
    refine hK.out _ _ (T3.alloc _) (fun _ => ⟨(fal.cell (p := ⟨ob, 0, none⟩) n33 (fun h => h)).trans s0, (fal.frozen (p := ⟨ob, 0, none⟩) n33 (fun h => h)).trans s1⟩) ?_
    clear hK K
    (try simp only [Act.put, List.setIfInBounds_toArray, List.set_cons_zero, List.set_cons_succ])
    refine wpKeep_ready (rs := [4]) (by kernel_rfl) (by simp) ?_
    refine AllKeep.cons (o := ⟨some 37, _, _, _, _, _⟩) rfl (fun K hK => ?_) AllKeep.nil
    refine step_push rfl (.tmp 33) (.tmp 36) 26 rfl 9 i9 (.string ⟨#[]⟩) 16 Tryd.underlying26 hi hz0 hz1 hz2 rfl w3 hrow3 (.string (str RH)) (by rfl) (by rfl) rfl (by have := HLEN.out; omega) (by have := HLEN.out; unfold maxLen; omega) ?_
    intro v6 w6 ha
    have s60 := (ha.keeps.cell (p := ⟨ob, 0, none⟩) n33 hne2).trans s0
    have s61 := (ha.keeps.frozen (p := ⟨ob, 0, none⟩) n33 hne2).trans s1
    have T6 : Keeps (fun q => q = ob ∨ vo.ownBlock = some q) W0 w6 := T3.trans (ha.keeps.mono (fun _ _ h => .inr h))
    refine hK.out _ _ T6 (fun _ => ⟨s60, s61⟩) ?_
    clear hK K
    (try simp only [Act.put, List.setIfInBounds_toArray, List.set_cons_zero, List.set_cons_succ])
    refine wpKeep_ready (rs := [5]) (by kernel_rfl) (by simp) ?_
    refine AllKeep.cons (o := ⟨none, _, _, _, _, _⟩) rfl (fun K hK => ?_) AllKeep.nil
    obtain ⟨ao6, cp6, e6⟩ := ownsRow_slice ha.row
    subst e6
    go_simp
    refine hK.out _ _ (T6.setCell (p := ⟨ob, 0, none⟩) (fun _ => .inl rfl) _) (not_early (by kernel_rfl)) ?_
    clear hK K
    (try simp only [Act.put, List.setIfInBounds_toArray, List.set_cons_zero, List.set_cons_succ])
    refine wpKeep_done (by kernel_rfl) ?_ _
    have hv6 := ha.own
    have hrow6 := ha.row
    have J6 := f3'.at_ (fq.at_ HO.out.1 (fun h => h)) (fun h => h)
    have J6 := ha.keeps.at_ J6 hne2
    generalize Value.slice ao6 (X.length + 1) cp6 = v6 at hv6 hrow6 ⊢
    have hv6j : v6.ownBlock ≠ some ob := fun e => by
      rcases hv6 ob e with z | z
      · exact hne2 z
      · omega
    have hJ7 := heap_setCell_at J6 0 v6
    have hend : OutAt (w6.setCell ⟨ob, 0, none⟩ v6) ob v6 (X ++ [RH]) := by
      refine ⟨hJ7, ?_, hv6j⟩
      rw [texts_snoc, List.length_append]
      exact ownsRow_setCell_ne hrow6 hv6j _
    have k7 : Keeps (fun q => q = ob ∨ vo.ownBlock = some q) w (w6.setCell ⟨ob, 0, none⟩ v6) := (fq.mono (fun _ _ h => h.elim)).trans (T6.setCell (p := ⟨ob, 0, none⟩) (fun _ => .inl rfl) v6)
    have o7 : ∀ g, v6.ownBlock = some g → vo.ownBlock = some g ∨ w.heap.size ≤ g := fun g hg => by
      rcases hv6 g hg with z | z
      · exact .inl z
      · have := fq.size; have := f3'.size; exact .inr (by omega)
    go_wp2_with fail
    go_end0
    unfold ManyOut
    exact ⟨⟨Value.tuple #[], rfl⟩, ⟨v6, hend, k7, o7⟩⟩

set_option maxRecDepth 100000 in
set_option maxHeartbeats 4000000 in
theorem many1_rec (B ib ob mb kb io icap rb m lb : Nat) (b e k : Nat) (l X Y Z : List (List UInt8)) (vo v : Value) (w : World) (hm : 1 ≤ m) (hm2 : m ≤ 256) (hbe : b < e) (he : e ≤ 4096) (hll : l.length = e - b) (hl2 : 2 ≤ l.length) (hkk : b + splitN (e - b) = k) (hlB : lb < B) (hlb : lb ≠ ob) (hr : RoomIn w lb v l) (ho : OutAt w ob vo X) (hown : ∀ g, vo.ownBlock = some g → B ≤ g) (hE : ManyEnv w B ib ob mb kb io icap rb m) (hd : Dig w) (hout : ¬ (rb + m ≤ b ∨ e ≤ rb))
    (ih1 : ∀ (v' : Value) (w' : World), RoomIn w' lb v' (l.take (k - b)) → OutAt w' ob vo X → ManyEnv w' B ib ob mb kb io icap rb m → Dig w' → Calls Tryd.prog 56 #[.int .i64 (b : Int), v', .pointer (some ⟨ib, 0, none⟩), .pointer (some ⟨ob, 0, none⟩), .pointer (some ⟨mb, 0, none⟩)] w' (ManyOut w' ob vo Y))
    (ih2 : ∀ (vo' v' : Value) (w' : World), RoomIn w' lb v' (l.drop (k - b)) → OutAt w' ob vo' Y → (∀ g, vo'.ownBlock = some g → B ≤ g) → ManyEnv w' B ib ob mb kb io icap rb m → Dig w' → Calls Tryd.prog 56 #[.int .i64 (k : Int), v', .pointer (some ⟨ib, 0, none⟩), .pointer (some ⟨ob, 0, none⟩), .pointer (some ⟨mb, 0, none⟩)] w' (ManyOut w' ob vo' Z)) :
    Calls Tryd.prog 56 #[.int .i64 (b : Int), v, .pointer (some ⟨ib, 0, none⟩), .pointer (some ⟨ob, 0, none⟩), .pointer (some ⟨mb, 0, none⟩)] w (ManyOut w ob vo Z) := by
  have hbs := Tryd.slices_BinarySearch_int kb io m icap (idxL rb m) (b : Int) w (by rw [idxL_len]; exact Nat.le_refl _) (by omega) (fun j hj => by rw [idxL_len] at hj; rw [idxL_get rb m j hj]; exact hE.cell j hj) (by rw [List.take_of_length_le (by rw [idxL_len]; exact Nat.le_refl _)]; exact idxL_sorted rb m)
  rw [List.take_of_length_le (by rw [idxL_len]; exact Nat.le_refl _), idxL_count] at hbs
  obtain ⟨A, hA⟩ : ∃ A, min m (b - rb) = A := ⟨_, rfl⟩
  rw [hA] at hbs
  obtain ⟨fd, hfd⟩ : ∃ fd, (idxL rb m).contains (b : Int) = fd := ⟨_, rfl⟩
  rw [hfd] at hbs
  have HBS := hid hbs
  have i0 := (cell_at hE.idx 0).trans (show _ = some (Value.slice (some ⟨kb, io, none⟩) m icap) from rfl)
  have i1 := lt_of_block hE.idx
  have hAm : A < m := by omega
  have k0 := hE.cell A hAm
  obtain ⟨V, hV⟩ : ∃ V, rb + A = V := ⟨_, rfl⟩
  rw [hV] at k0
  have hAmi : (A : Int) < (m : Int) := by omega
  have hAne : ((A : Int) == (m : Int)) = false := by simp; omega
  have kbs : kb < w.heap.size := Nat.lt_of_lt_of_le hE.l3 hE.room
  have hp := fun W (f : Fresh w W) => recparts_any lb v l W (hr.keeps f (fun h => h)) hl2 (by omega)
  obtain ⟨off, cap, rfl, hc, hlb2, hk⟩ := hr
  obtain ⟨n, hn⟩ : ∃ n, l.length = n := ⟨_, rfl⟩
  have hnb : e - b = n := by omega
  have hVe : (V : Int) < (b : Int) + (n : Int) := by omega
  rw [hn] at hp hll hl2 ⊢
  rw [hnb] at hkk
  have hkb : k - b = splitN n := by omega
  rw [hkb] at ih1 ih2
  have hsl : splitN n < n := (splitN_facts hl2).2.1
  have e1 : (l.take (splitN n)).length = splitN n := by rw [List.length_take]; omega
  obtain ⟨K, hK⟩ : ∃ K, splitN n = K := ⟨_, rfl⟩
  rw [hK] at hp ih1 ih2 hkk hsl e1
  have HP := hid hp
  have IH1 := hid ih1
  have IH2 := hid ih2
  have HO := hid ho
  have HE := hid hE
  have HD := hid hd
  have HOWN := hid hown
  have HLB := hid hlb
  have HLBB := hid hlB
  have E1 := hid e1
  have hmi : (m : Int) ≤ 256 := by omega
  have hn1 : (1 : Int) < (n : Int) := by omega
  have hni : (n : Int) ≤ 4096 := by omega
  have hKi : (K : Int) ≤ 4096 := by omega
  have hbi : (b : Int) ≤ 4096 := by omega
  have HBK := hid (show (b : Int) + (K : Int) = (k : Int) by omega)
  have HGL := hid (show ∀ q, (q = ob ∨ vo.ownBlock = some q) → q = ob ∨ B ≤ q from fun q h => h.imp id (hown q))
  clear hbs hfd hA hV hp ih1 ih2 ho hE hd hown hlb hlB hout hll hl2 hkk hkb hsl e1 hK hnb hn hc hlb2 hk hbe he hm2 hAm
  go_enter Tryd.func56, Tryd.ntmps56
  go_wp2_with fail
  refine HBS.out.mono ?_
  rintro x w1 ⟨rfl, qd, rfl⟩
  have fq : Fresh w (w.drewN qd) := (Keeps.refl _ _).drewN _
  go_wp2_with fail
  refine (HP.out _ fq).mono ?_
  rintro x w1 ⟨⟨v1, v2, rfl, r1, r2⟩, f1⟩
  have fp := fq.trans f1
  have R1 := hid r1
  have R2 := hid r2
  obtain ⟨o1, p1, ev1, -⟩ := r1
  rw [E1.out] at ev1
  subst ev1
  have hm1 := fp.at_ HE.out.many (fun h => h)
  have m0 := (cell_at hm1 0).trans (show _ = some (Value.func (.func 56) #[] #[.pointer (some ⟨ib, 0, none⟩), .pointer (some ⟨ob, 0, none⟩), .pointer (some ⟨mb, 0, none⟩)]) from rfl)
  have m1 := lt_of_block hm1
  clear hm1 r2 i0 k0
  go_wp2_with fail
  refine (IH1.out _ w1 R1.out (HO.out.fresh fp) (HE.out.keeps fp (fun _ h => h.elim)) (HD.out.fresh fp)).mono ?_
  rintro x w2 ⟨⟨rr, rfl⟩, vo2, ho2, k2, own2⟩
  have hE2 := (HE.out.keeps fp (fun _ h => h.elim)).keeps k2 HGL.out
  have hR2 := R2.out.keeps k2 (fun h => by
    rcases HGL.out _ h with e | e
    · exact HLB.out e
    · have := HLBB.out; omega)
  have hd2 := (HD.out.fresh fp).keepsOut (k2.mono (fun q _ h => HGL.out q h)) HE.out.glob (by have := HE.out.glob; have := HE.out.l4; omega)
  have hown2 : ∀ g, vo2.ownBlock = some g → B ≤ g := fun g hg => by
    rcases own2 g hg with z | z
    · exact HOWN.out g z
    · have := HE.out.room; have := fp.size; omega
  have n0 := (cell_at hE2.many 0).trans (show _ = some (Value.func (.func 56) #[] #[.pointer (some ⟨ib, 0, none⟩), .pointer (some ⟨ob, 0, none⟩), .pointer (some ⟨mb, 0, none⟩)]) from rfl)
  have n1 := lt_of_block hE2.many
  have IH3 := hid (IH2.out vo2 v2 w2 hR2 ho2 hown2 hE2 hd2)
  clear hE2 hR2 hd2 ho2 m0
  go_wp2_with fail
  rw [HBK.out]
  refine IH3.out.mono ?_
  rintro x w3 ⟨⟨rr3, rfl⟩, vo3, ho3, k3, own3⟩
  have HO3 := hid ho3
  clear ho3
  go_wp2_with fail
  go_end0
  unfold ManyOut
  have kk : Keeps (fun q => q = ob ∨ vo.ownBlock = some q) w1 w3 := k2.trans' k3 (fun q hq e => by
    rcases e with e | e
    · exact .inl e
    · rcases own2 q e with z | z
      · exact .inr z
      · omega)
  exact ⟨⟨_, rfl⟩, vo3, HO3.out, (fp.mono (fun _ _ h => h.elim)).trans kk, fun g hg => by
    rcases own3 g hg with z | z
    · rcases own2 g z with y | y
      · exact .inl y
      · have := fp.size; exact .inr (by omega)
    · have := fp.size; have := k2.size; exact .inr (by omega)⟩

set_option maxRecDepth 100000 in
set_option maxHeartbeats 4000000 in
theorem many1_one (B ib ob mb kb io icap rb m lb : Nat) (b : Nat) (l X : List (List UInt8)) (vo v : Value) (w : World) (hm : 1 ≤ m) (hm2 : m ≤ 256) (he : b + 1 ≤ 4096) (hll : l.length = 1) (hr : RoomIn w lb v l) (ho : OutAt w ob vo X) (hE : ManyEnv w B ib ob mb kb io icap rb m) (hout : ¬ (rb + m ≤ b ∨ b + 1 ≤ rb)) :
    Calls Tryd.prog 56 #[.int .i64 (b : Int), v, .pointer (some ⟨ib, 0, none⟩), .pointer (some ⟨ob, 0, none⟩), .pointer (some ⟨mb, 0, none⟩)] w (ManyOut w ob vo X) := by
  have hbs := Tryd.slices_BinarySearch_int kb io m icap (idxL rb m) (b : Int) w (by rw [idxL_len]; exact Nat.le_refl _) (by omega) (fun j hj => by rw [idxL_len] at hj; rw [idxL_get rb m j hj]; exact hE.cell j hj) (by rw [List.take_of_length_le (by rw [idxL_len]; exact Nat.le_refl _)]; exact idxL_sorted rb m)
  rw [List.take_of_length_le (by rw [idxL_len]; exact Nat.le_refl _), idxL_count] at hbs
  obtain ⟨A, hA⟩ : ∃ A, min m (b - rb) = A := ⟨_, rfl⟩
  rw [hA] at hbs
  obtain ⟨fd, hfd⟩ : ∃ fd, (idxL rb m).contains (b : Int) = fd := ⟨_, rfl⟩
  rw [hfd] at hbs
  have HBS := hid hbs
  have i0 := (cell_at hE.idx 0).trans (show _ = some (Value.slice (some ⟨kb, io, none⟩) m icap) from rfl)
  have i1 := lt_of_block hE.idx
  have hAm : A < m := by omega
  have k0 := hE.cell A hAm
  obtain ⟨V, hV⟩ : ∃ V, rb + A = V := ⟨_, rfl⟩
  rw [hV] at k0
  have hVe : (V : Int) < (b : Int) + 1 := by omega
  have hAmi : (A : Int) < (m : Int) := by omega
  have hAne : ((A : Int) == (m : Int)) = false := by simp; omega
  have kbs : kb < w.heap.size := Nat.lt_of_lt_of_le hE.l3 hE.room
  obtain ⟨off, cap, rfl, hc, hlb2, hk⟩ := hr
  rw [hll]
  have HO := hid ho
  have hmi : (m : Int) ≤ 256 := by omega
  have hbi : (b : Int) ≤ 4096 := by omega
  clear hbs hfd hA hV ho hE hout hll hc hlb2 hk he hm2 hAm
  go_enter Tryd.func56, Tryd.ntmps56
  go_wp2_with fail
  refine HBS.out.mono ?_
  rintro x w1 ⟨rfl, qd, rfl⟩
  have fq : Fresh w (w.drewN qd) := (Keeps.refl _ _).drewN _
  go_wp2_with fail
  go_end0
  unfold ManyOut
  exact ⟨⟨_, rfl⟩, vo, HO.out.fresh fq, fq.mono (fun _ _ h => h.elim), fun g hg => .inl hg⟩

set_option maxRecDepth 100000 in
theorem many1_any (B ib ob mb kb io icap rb m lb : Nat) (L : List (List UInt8)) (hL : L.length ≤ 4096) (h32 : all32P L) (hm : 1 ≤ m) (hm2 : m ≤ 256) (hrb : rb ≤ 4096) (hlb : lb ≠ ob) (hlB : lb < B) :
    ∀ (f b e : Nat) (X : List (List UInt8)) (vo v : Value) (w : World), b < e → e - b ≤ 2 ^ f → e ≤ L.length → X.length + 2 ^ f ≤ 2199023255552 → RoomIn w lb v (sl L b e) → OutAt w ob vo X → (∀ g, vo.ownBlock = some g → B ≤ g) → ManyEnv w B ib ob mb kb io icap rb m → Dig w →
    Calls Tryd.prog 56 #[.int .i64 (b : Int), v, .pointer (some ⟨ib, 0, none⟩), .pointer (some ⟨ob, 0, none⟩), .pointer (some ⟨mb, 0, none⟩)] w (ManyOut w ob vo (X ++ toldH L (toldF f rb (rb + m) b e))) := by
  have hall : ∀ b e, all32P (sl L b e) := fun b e z hz => h32 z (List.mem_of_mem_drop (List.mem_of_mem_take hz))
  intro f
  induction f with
  | zero =>
    intro b e X vo v w hbe hf he hX hr ho hown hE hd
    have hlen : (sl L b e).length = e - b := sl_len L he
    have he1 : e = b + 1 := by simp at hf; omega
    by_cases hout : rb + m ≤ b ∨ e ≤ rb
    · rw [toldF_out hout]
      exact many1_out B ib ob mb kb io icap rb m lb b e (sl L b e) X vo v w hm hm2 hrb hbe (by omega) hlen (hall b e) (by omega) hr ho hE hd hout
    · subst he1
      rw [toldF_in 0 rb (rb + m) b (b + 1) (by omega) (by omega) (by omega)]
      rw [show X ++ toldH L [] = X by simp [toldH]]
      exact many1_one B ib ob mb kb io icap rb m lb b (sl L b (b + 1)) X vo v w hm hm2 (by omega) (by omega) hr ho hE hout
  | succ f ih =>
    intro b e X vo v w hbe hf he hX hr ho hown hE hd
    have hlen : (sl L b e).length = e - b := sl_len L he
    have h2f : 2 ^ (f + 1) = 2 ^ f + 2 ^ f := by rw [Nat.pow_succ]; omega
    have hpf : 0 < 2 ^ f := Nat.pow_pos (by omega)
    by_cases hout : rb + m ≤ b ∨ e ≤ rb
    · rw [toldF_out hout]
      exact many1_out B ib ob mb kb io icap rb m lb b e (sl L b e) X vo v w hm hm2 hrb hbe (by omega) hlen (hall b e) (by omega) hr ho hE hd hout
    · by_cases he1 : e = b + 1
      · subst he1
        rw [toldF_in (f + 1) rb (rb + m) b (b + 1) (by omega) (by omega) (by omega)]
        rw [show X ++ toldH L [] = X by simp [toldH]]
        exact many1_one B ib ob mb kb io icap rb m lb b (sl L b (b + 1)) X vo v w hm hm2 (by omega) (by omega) hr ho hE hout
      · obtain ⟨g1, g2, g3⟩ := splitN_facts (n := e - b) (by omega)
        have g4 := splitN_le (n := e - b) (f := f) (by omega) hf
        rw [toldF_two hout (by omega)]
        obtain ⟨k, hk⟩ : ∃ k, b + splitN (e - b) = k := ⟨_, rfl⟩
        rw [hk]
        have hT := toldF_len f rb (rb + m) b k
        refine many1_rec B ib ob mb kb io icap rb m lb b e k (sl L b e) X (X ++ toldH L (toldF f rb (rb + m) b k)) _ vo v w hm hm2 hbe (by omega) hlen (by omega) hk hlB hlb hr ho hown hE hd hout (fun v' w' h1 h2 h3 h4 => ?_) (fun vo' v' w' h1 h2 h5 h3 h4 => ?_)
        · rw [sl_take L (by omega) (by omega)] at h1
          exact ih b k X vo v' w' (by omega) (by omega) (by omega) (by omega) h1 h2 hown h3 h4
        · rw [sl_drop L (by omega) (by omega)] at h1
          have := ih k e (X ++ toldH L (toldF f rb (rb + m) b k)) vo' v' w' (by omega) (by omega) (by omega) (by rw [List.length_append, toldH, List.length_map]; omega) h1 h2 h5 h3 h4
          rw [List.append_assoc, ← (show toldH L (toldF f rb (rb + m) b k ++ toldF f rb (rb + m) k e) = toldH L (toldF f rb (rb + m) b k) ++ toldH L (toldF f rb (rb + m) k e) from List.map_append)] at this
          exact this
end Go.Proofs.YtgikabafaocemaaDoor
