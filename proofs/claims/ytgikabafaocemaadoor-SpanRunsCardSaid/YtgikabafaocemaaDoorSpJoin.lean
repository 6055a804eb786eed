/-
  The program's span: a Joiner that takes what fits.
-/
import Derived.Test.YtgikabafaocemaaDoorSpProve
import Derived.Test.YtgikabafaocemaaDoorMSpA
import Derived.Test.YtgikabafaocemaaDoorSpJoinShelf
import Derived.Test.YtgikabafaocemaaDoorDvCloneShelf
import Derived.Test.YtgikabafaocemaaDoorMMsF
namespace Go.Proofs.YtgikabafaocemaaDoor
open Go.RowKit Go.Maps

theorem own_of_row {w : World} {B : Nat} {e : TypeId} {size : Nat} {v : Value} {n : Nat} {xs : List Value} (h : w.ownsRow B e size v n xs) : w.ownsRow 0 e size v n xs ∧ ∀ g, v.ownBlock = some g → B ≤ g :=
  ⟨⟨h.1, h.2.imp id fun ⟨g, cap, cur, he, _, r⟩ => ⟨g, cap, cur, he, Nat.zero_le _, r⟩⟩, fun g hg => (h.lt g hg).1⟩
theorem fresh_below {w w' : World} (h : Below w.heap.size w w') : Fresh w w' := (Keeps.of_below h).mono fun k hk hk2 => absurd hk (by omega)
/-- slices.Clone, of a list of texts -/
theorem clone_any (v : Value) (l : List (List UInt8)) (w : World) (h : TextsAt w v l) (hl : l.length ≤ 1000000) :
    Calls Tryd.prog 83 #[v] w fun e w' => ∃ v', e = .returned v' ∧ OwnTexts w.heap.size w' v' l ∧ Fresh w w' := by
  obtain ⟨ao, cap, rfl, hc⟩ := h
  cases l with
  | nil =>
    cases ao with
    | none =>
      refine (Tryd.slices_Clone_string_nil 0 cap w).mono ?_
      rintro e w' ⟨rfl, rfl⟩
      exact ⟨_, rfl, ⟨World.ownsRow_nil _ _ _ _, fun _ h => nomatch h⟩, Keeps.refl _ _⟩
    | some a =>
      refine (Tryd.slices_Clone_string_zero a cap w).mono ?_
      rintro e w' ⟨v', rfl, hrow, -, hb⟩
      exact ⟨v', rfl, own_of_row hrow, fresh_below hb⟩
  | cons x r =>
    obtain ⟨bb, off, rfl, hbb, -⟩ := hc 0 x rfl
    refine (Tryd.slices_Clone_string bb off (x :: r).length cap ((x :: r).map str) w (by simp) (by omega) (fun j hj => ?_)).mono ?_
    · have hj2 : j < (x :: r).length := by simpa using hj
      obtain ⟨b2, o2, he, -, hcell⟩ := hc j (x :: r)[j] (List.getElem?_eq_getElem hj2)
      simp only [Option.some.injEq, Addr.mk.injEq, and_true] at he
      rw [he.1, he.2, hcell, List.getD, List.getElem?_map, List.getElem?_eq_getElem hj2]
      rfl
    · rintro e w' ⟨v', rfl, hrow, -, hb⟩
      refine ⟨v', rfl, ?_, fresh_below hb⟩
      have h2 := own_of_row hrow
      have e1 : (((x :: r).map str).take (x :: r).length).map Value.string = texts (x :: r) := by
        rw [List.take_of_length_le (by simp)]
        simp [texts]
      rw [e1] at h2
      exact h2

set_option maxRecDepth 100000 in
set_option maxHeartbeats 1000000 in
theorem sclone_any (s : List UInt8) (w : World) (hs : s.length ≤ 281474976710656) :
    Calls Tryd.prog 82 #[.string (str s)] w fun x w' => x = .returned (.string (str s)) ∧ Fresh w w' := by
  have hc := hid (Tryd.stringslite_Clone (str s) w (by rw [str_size]; exact hs))
  go_enter Tryd.func82, Tryd.ntmps82
  go_wp2_with fail
  refine hc.out.mono ?_
  rintro x w1 ⟨rfl, f⟩
  have f := fresh_below f
  go_wp2_with fail
  go_ret
  exact ⟨rfl, f⟩

set_option maxRecDepth 100000 in
set_option maxHeartbeats 1000000 in
theorem long_no (s : List UInt8) (w : World) (hs : s.length ≤ 1000) :
    Calls Tryd.prog 81 #[.string (str s)] w fun x w' => x = .returned (.bool false) ∧ w = w' := by
  have hz := str_size s
  have hi : ¬ (1000 : Int) < (s.length : Int) := by omega
  go_enter Tryd.func81, Tryd.ntmps81
  go_wp2_with fail
  go_ret
  exact ⟨by simp <;> omega, rfl⟩
set_option maxRecDepth 100000 in
set_option maxHeartbeats 2000000 in
theorem indexLong_no (v : Value) (l : List (List UInt8)) (w : World) (hl : TextsAt w v l) (hn : l.length ≤ 9223372036854775807) (hs : ∀ s ∈ l, s.length ≤ 1000) :
    Calls Tryd.prog 105 #[v, .func (.func 81) #[] #[]] w fun x w' => x = .returned (.int .i64 (-1)) ∧ Fresh w w' := by
  obtain ⟨ao, cap, rfl, hc⟩ := hl
  have HC := hid hc
  clear hc
  go_enter Tryd.func105, Tryd.ntmps105
  go_wp2_with fail
  go_loopw [8] (fun i wr => ∃ k : Nat, i = .int .i64 (k : Int) ∧ k ≤ l.length ∧ Fresh w wr) (fun i _ => l.length - (intOf i).toNat)
  case atStart => exact ⟨0, rfl, Nat.zero_le _, Keeps.refl _ _⟩
  case round =>
    obtain ⟨k, rfl, hk, fr⟩ := hrel
    by_cases hlt : k < l.length
    · obtain ⟨s, hs1⟩ : ∃ s, l[k]? = some s := ⟨l[k], by simp [hlt]⟩
      obtain ⟨bb, off, rfl, hbb, hcw⟩ := HC.out k s hs1
      have hcell := (fr.cell (p := ⟨bb, off + k, none⟩) hbb (fun h => h)).trans hcw
      have HCL := hid (long_no s wr (hs s (List.mem_of_getElem? hs1)))
      clear hcw hs1
      go_wp2_with fail
      refine HCL.out.mono ?_
      rintro x w1 ⟨rfl, rfl⟩
      go_wp2_with fail
      go_roundw
      case rel => exact ⟨k + 1, by simp, by omega, fr⟩
      case measure => simp [intOf]; omega
    · have hke : k = l.length := by omega
      clear hke
      go_wp2_with fail
      go_ret
      exact ⟨rfl, fr⟩
set_option maxRecDepth 100000 in
set_option maxHeartbeats 1000000 in
theorem containsLong_no (v : Value) (l : List (List UInt8)) (w : World) (hl : TextsAt w v l) (hn : l.length ≤ 9223372036854775807) (hs : ∀ s ∈ l, s.length ≤ 1000) :
    Calls Tryd.prog 69 #[v, .func (.func 81) #[] #[]] w fun x w' => x = .returned (.bool false) ∧ Fresh w w' := by
  have HI := hid (indexLong_no v l w hl hn hs)
  obtain ⟨ao, cap, rfl, -⟩ := hl
  go_enter Tryd.func69, Tryd.ntmps69
  go_wp2_with fail
  refine HI.out.mono ?_
  rintro x w1 ⟨rfl, f1⟩
  go_wp2_with fail
  go_ret
  exact ⟨rfl, f1⟩

/-- a joiner in memory: its span, its list -/
def JoinAt (w : World) (jb b e : Nat) (v : Value) (l : List (List UInt8)) : Prop :=
  w.heap[jb]? = some (.cells #[.int .i64 (b : Int), .int .i64 (e : Int), v] 140 (0, 0)) ∧ w.ownsRow 0 9 1 v l.length (texts l) ∧ v.ownBlock ≠ some jb
theorem JoinAt.fresh {w w' : World} {jb b e : Nat} {v : Value} {l : List (List UInt8)} (h : JoinAt w jb b e v l) (f : Fresh w w') : JoinAt w' jb b e v l := ⟨f.at_ h.1 (fun h => h), ownsRow_keeps h.2.1 f (fun _ _ h => h), h.2.2⟩

set_option maxRecDepth 100000 in
set_option maxHeartbeats 1000000 in
theorem newjoiner_any (b e : Nat) (w : World) (hbe : b < e) (he : e ≤ 1099511627776) :
    Calls Tryd.prog 33 #[spanV (b, e)] w fun x w' => ∃ jb, x = .returned (.tuple #[.pointer (some ⟨jb, 0, none⟩), .int .i64 0]) ∧ JoinAt w' jb b e (.slice none 0 0) [] ∧ w.heap.size ≤ jb ∧ Fresh w w' := by
  have hI := fun W => isRun_any 1099511627776 b e W
  rw [decide_eq_true (show (0 ≤ (b : Int) ∧ (b : Int) < e ∧ (e : Int) ≤ 1099511627776) by omega)] at hI
  have HI := hid hI
  have f0 : Fresh w (w.alloc (spanC b e)) := (Keeps.refl _ _).alloc _
  have hb := heap_alloc_new w (spanC b e)
  clear hI
  unfold spanC spanV at *
  go_enter Tryd.func33, Tryd.ntmps33
  go_wp2_with fail
  refine (HI.out _).mono ?_
  rintro x w1 ⟨rfl, f1⟩
  have hb1 := f1.at_ hb (fun h => h)
  have c0 := (cell_at hb1 0).trans (show _ = some (Value.int .i64 (b : Int)) from rfl)
  have c1 := (cell_at hb1 1).trans (show _ = some (Value.int .i64 (e : Int)) from rfl)
  have f2 := f0.trans f1
  clear hb hb1
  go_wp2_with fail
  go_ret2
  exact ⟨w1.heap.size, rfl, ⟨heap_alloc_new _ _, ⟨rfl, .inl ⟨rfl, rfl⟩⟩, by simp [Value.ownBlock]⟩, f2.size, f2.alloc _⟩

set_option maxRecDepth 100000 in
set_option maxHeartbeats 1000000 in
theorem jdone_any (jb b e : Nat) (v : Value) (l : List (List UInt8)) (w : World) (h : JoinAt w jb b e v l) (hbe : b < e) (he : e ≤ 1099511627776) :
    Calls Tryd.prog 36 #[.pointer (some ⟨jb, 0, none⟩)] w fun x w' => x = .returned (.bool (decide (l.length = e - b))) ∧ Fresh w w' := by
  obtain ⟨hj, hrow, hne⟩ := h
  obtain ⟨ao, cap, rfl⟩ := ownsRow_slice hrow
  have c0 := (cell_at hj 0).trans (show _ = some (Value.int .i64 (b : Int)) from rfl)
  have c1 := (cell_at hj 1).trans (show _ = some (Value.int .i64 (e : Int)) from rfl)
  have c2 := (cell_at hj 2).trans (show _ = some (Value.slice ao l.length cap) from rfl)
  have hw : IntKind.i64.wrap ((e : Int) - (b : Int)) = ((e - b : Nat) : Int) := by rw [IntKind.wrap_i64]; omega
  have hw2 : wrap64 ((e : Int) - (b : Int)) = ((e - b : Nat) : Int) := by rw [wrap_small (by omega) (by omega)]; omega
  have hq : (((l.length : Nat) : Int) == ((e - b : Nat) : Int)) = decide (l.length = e - b) := by
    by_cases hc : l.length = e - b
    · rw [hc]; simp
    · rw [decide_eq_false hc]; simp; omega
  clear hj hrow
  go_enter Tryd.func36, Tryd.ntmps36
  go_wp2_with fail
  go_quiet (fail)
  go_wp2_with fail
  go_ret
  exact ⟨by first | rfl | (simp only [hw, hw2, hq]; rfl), (Keeps.refl _ _).drewN _⟩

/-- a list to be read, none of whose blocks is among these -/
def ListOff (S : Nat → Prop) (w : World) (v : Value) (l : List (List UInt8)) : Prop :=
  ∃ ao cap, v = .slice ao l.length cap ∧ ∀ (k : Nat) (s : List UInt8), l[k]? = some s → ∃ bb off, ao = some ⟨bb, off, none⟩ ∧ ¬ S bb ∧ bb < w.heap.size ∧ w.cell? ⟨bb, off + k, none⟩ = some (.string (str s))

set_option maxRecDepth 100000 in
set_option maxHeartbeats 4000000 in
theorem jtake_any (jb b e : Nat) (v vc : Value) (l m : List (List UInt8)) (w : World) (h : JoinAt w jb b e v l) (hbe : b < e) (he : e ≤ 1099511627776) (hm : ListOff (fun q => q = jb ∨ v.ownBlock = some q) w vc m) (hm0 : 1 ≤ m.length) (hml : l.length + m.length ≤ e - b) (hs : ∀ s ∈ m, s.length ≤ 1000) :
    Calls Tryd.prog 34 #[.pointer (some ⟨jb, 0, none⟩), .int .i64 ((b + l.length : Nat) : Int), vc] w fun x w' => x = .returned (.int .i64 0) ∧ ∃ v', JoinAt w' jb b e v' (l ++ m) ∧ Keeps (fun q => q = jb ∨ v.ownBlock = some q) w w' ∧ ∀ g, v'.ownBlock = some g → v.ownBlock = some g ∨ w.heap.size ≤ g := by
  have hmt : TextsAt w vc m := by
    obtain ⟨ao, cap, e1, hk⟩ := hm
    exact ⟨ao, cap, e1, fun k s hs => by obtain ⟨bb, off, q1, q2, q3, q4⟩ := hk k s hs; exact ⟨bb, off, q1, q3, q4⟩⟩
  have hdone := fun W q => jdone_any jb b e v l W q hbe he
  rw [decide_eq_false (show ¬ l.length = e - b by omega)] at hdone
  have hlong := fun W (f : Fresh w W) => containsLong_no vc m W (hmt.fresh f) (by omega) hs
  have HDONE := hid hdone
  have HLONG := hid hlong
  have HJ := hid h
  obtain ⟨hj, hrow, hne⟩ := h
  obtain ⟨ao, cap, hv⟩ := ownsRow_slice hrow
  have HV := hid hv
  have c0 := (cell_at hj 0).trans (show _ = some (Value.int .i64 (b : Int)) from rfl)
  have c1 := (cell_at hj 1).trans (show _ = some (Value.int .i64 (e : Int)) from rfl)
  have c2 := (cell_at hj 2).trans (show _ = some v from rfl)
  rw [hv] at c2
  obtain ⟨am, cm, rfl, hmc⟩ := hm
  obtain ⟨W0, hW0⟩ : ∃ W0, b + l.length = W0 := ⟨_, rfl⟩
  have hw : IntKind.i64.wrap ((b : Int) + (l.length : Int)) = (W0 : Int) := by rw [IntKind.wrap_i64]; omega
  have hw2 : wrap64 ((b : Int) + (l.length : Int)) = (W0 : Int) := (wrap_small (by omega) (by omega)).trans (by omega)
  have hw3 : wrap64 ((e : Int) - (W0 : Int)) = (e : Int) - (W0 : Int) := wrap_small (by omega) (by omega)
  rw [hW0]
  have hm1 : ((m.length : Int) == 0) = false := by simpa using (by omega : m.length ≠ 0)
  have hm2 : ¬ (e : Int) - (W0 : Int) < (m.length : Int) := by omega
  have hmm : (m.length : Int) ≤ 1099511627776 := by omega
  have hwl : (W0 : Int) ≤ 1099511627776 := by omega
  have hel : (e : Int) ≤ 1099511627776 := by omega
  have HMC := hid hmc
  have HML := hid hml
  have HM0 := hid hm0
  have HB := hid hbe
  have HE := hid he
  have HJB := hid (lt_of_block hj)
  obtain ⟨i0, hi, hz0, hz1, hz2⟩ := info_parts Tryd.infoText
  have HSS := hid hs
  clear hdone hlong hmc hmt hml hm0 hW0 hj hrow hv hbe he hs
  go_enter Tryd.func34, Tryd.ntmps34
  go_wp2_with fail
  go_quiet (fail)
  go_wp2_with fail
  refine (HDONE.out _ (HJ.out.fresh ((Keeps.refl _ _).drewN _))).mono ?_
  rintro x w1 ⟨rfl, f1⟩
  have f1' := ((Keeps.refl (fun _ => False) w).drewN nq).trans f1
  go_wp2_with fail
  refine (HLONG.out _ f1').mono ?_
  rintro x w2 ⟨rfl, f2⟩
  have f2' := f1'.trans f2
  have J2 := HJ.out.fresh f2'
  clear c0 c1 c2
  have c1 := (cell_at J2.1 1).trans (show _ = some (Value.int .i64 (e : Int)) from rfl)
  have HJ2 := hid J2
  clear J2
  go_wp2_with fail
  clear c1 f1 f1' f2
  go_loopw [53] (fun i wr => ∃ (k : Nat) (vk : Value), i = .int .i64 (k : Int) ∧ k ≤ m.length ∧ JoinAt wr jb b e vk (l ++ m.take k) ∧ Keeps (fun q => q = jb ∨ v.ownBlock = some q) w wr ∧ ∀ g, vk.ownBlock = some g → v.ownBlock = some g ∨ w.heap.size ≤ g) (fun i _ => m.length - (intOf i).toNat)
  case atStart => exact ⟨0, v, rfl, Nat.zero_le _, by rw [List.take_zero, List.append_nil]; exact HJ2.out, f2'.mono (fun _ _ h => h.elim), fun g hg => .inl hg⟩
  case round =>
    obtain ⟨k, vk, rfl, hk, hJk, kk, ok⟩ := hrel
    by_cases hlt : k < m.length
    · obtain ⟨s, hs1⟩ : ∃ s, m[k]? = some s := ⟨m[k], by simp [hlt]⟩
      obtain ⟨bb, off, rfl, hnS, hbb, hcw⟩ := HMC.out k s hs1
      have hcell := (kk.cell (p := ⟨bb, off + k, none⟩) hbb hnS).trans hcw
      have hmk : m.take (k + 1) = m.take k ++ [s] := by rw [List.take_add_one, hs1]; rfl
      have hki : (k : Int) ≤ 1099511627776 := by omega
      have hlti : (k : Int) < (m.length : Int) := by omega
      have hsl : s.length ≤ 281474976710656 := by have := HSS.out s (List.mem_of_getElem? hs1); omega
      have hcl := fun W => sclone_any s W hsl
      obtain ⟨hj, hrow, hne2⟩ := hJk
      obtain ⟨aok, cpk, erv⟩ := ownsRow_slice hrow
      have r0 := (cell_at hj 2).trans (show _ = some vk from rfl)
      have r1 := free_at hj 2
      have n3 := lt_of_block hj
      have HCL := hid hcl
      have HS := hid hs1
      have HLT := hid hlt
      have HMK := hid hmk
      have HROW := hid hrow
      have HJK := hid hj
      have HRV := hid erv
      have hlen : (l ++ m.take k).length + 1 ≤ 1099511627776 := by rw [List.length_append, List.length_take]; have := HML.out; have := HE.out; omega
      have HLEN := hid hlen
      clear hcl hs1 hlt hmk hrow hj erv hlen hcw hsl hk
      go_wp2_with fail
      refine wp_region_keep 12 (fun w' => Keeps (fun q => q = jb ∨ vk.ownBlock = some q) wr w') (fun w' => w'.cell? ⟨jb, 2, none⟩ = some vk ∧ w'.frozen? ⟨jb, 2, none⟩ = false) (fun j => !(j == 11)) (by kernel_rfl) (by kernel_rfl) ?_
      (try (change wpKeep _ _ _ _ _ _ _ _ _ _ (World.drew _)))
      refine wpKeep_takeT (i := 0) (oi := ⟨some 57, _, _, _, _, _⟩) (v := ?_) rfl (by kernel_rfl) (by kernel_rfl) (by kernel_rfl) (by kernel_rfl) (fun _ _ _ h => h) (Or.inl ⟨by rfl, ?_⟩) (Keeps.refl _ _).drew (fun _ => ⟨r0, r1⟩) ?_
      rotate_left
      · intro w' hT
        go_simp
        (try with_reducible rfl)
      rotate_left
      (try simp only [Act.put, List.setIfInBounds_toArray, List.set_cons_zero, List.set_cons_succ])
      refine wpKeep_takeT (i := 1) (oi := ⟨some 58, _, _, _, _, _⟩) (v := ?_) rfl (by kernel_rfl) (by kernel_rfl) (by kernel_rfl) (by kernel_rfl) (fun _ _ _ h => h) (Or.inl ⟨by rfl, ?_⟩) (Keeps.refl _ _).drew (fun _ => ⟨r0, r1⟩) ?_
      rotate_left
      · intro w' hT
        go_simp
        (try with_reducible rfl)
      rotate_left
      (try simp only [Act.put, List.setIfInBounds_toArray, List.set_cons_zero, List.set_cons_succ])
      refine wpKeep_takeT (i := 2) (oi := ⟨some 59, _, _, _, _, _⟩) (v := ?_) rfl (by kernel_rfl) (by kernel_rfl) (by kernel_rfl) (by kernel_rfl) (fun _ _ _ h => h) (Or.inl ⟨by rfl, ?_⟩) (Keeps.refl _ _).drew (fun _ => ⟨r0, r1⟩) ?_
      rotate_left
      · intro w' hT
        go_simp
        (try with_reducible rfl)
      rotate_left
      (try simp only [Act.put, List.setIfInBounds_toArray, List.set_cons_zero, List.set_cons_succ])
      refine wpKeep_takeT (i := 3) (oi := ⟨some 60, _, _, _, _, _⟩) (v := ?_) rfl (by kernel_rfl) (by kernel_rfl) (by kernel_rfl) (by kernel_rfl) (fun _ _ _ h => h) (Or.inl ⟨by rfl, ?_⟩) (Keeps.refl _ _).drew (fun _ => ⟨r0, r1⟩) ?_
      rotate_left
      · intro w' hT
        go_simp
        (try with_reducible rfl)
      rotate_left
      (try simp only [Act.put, List.setIfInBounds_toArray, List.set_cons_zero, List.set_cons_succ])
      refine wpKeep_take (i := 4) (oi := ⟨some 61, _, _, _, _, _⟩) (v := ?_) rfl (by kernel_rfl) (by kernel_rfl) (by kernel_rfl) (by kernel_rfl) (fun _ _ _ h => h) (Or.inl ⟨by rfl, ?_⟩) ⟨(Keeps.refl _ _).drew, ⟨r0, r1⟩⟩ ?_
      rotate_left
      · intro w' hT
        have hS0 := hT.2
        replace hT := hT.1
        go_simp
        (try with_reducible rfl)
      rotate_left
      (try simp only [Act.put, List.setIfInBounds_toArray, List.set_cons_zero, List.set_cons_succ])
      refine wpKeep_takeT (i := 5) (oi := ⟨some 62, _, _, _, _, _⟩) (v := ?_) rfl (by kernel_rfl) (by kernel_rfl) (by kernel_rfl) (by kernel_rfl) (fun _ _ _ h => h) (Or.inl ⟨by rfl, ?_⟩) (Keeps.refl _ _).drew (fun _ => ⟨r0, r1⟩) ?_
      rotate_left
      · intro w' hT
        go_simp
        (try with_reducible rfl)
      rotate_left
      (try simp only [Act.put, List.setIfInBounds_toArray, List.set_cons_zero, List.set_cons_succ])
      refine wpKeep_ready (rs := [6]) (by kernel_rfl) (by simp) ?_
      refine AllKeep.cons (o := ⟨some 63, _, _, _, _, _⟩) rfl (fun K hK => ?_) AllKeep.nil
      go_simp
      go_at_call 82
      with_reducible refine (HCL.out _).mono ?_
      rintro x w3 ⟨rfl, f3⟩
      have f3' : Fresh wr w3 := (Keeps.refl (fun _ => False) wr).drew.trans f3
      have s0 := (f3'.cell (p := ⟨jb, 2, none⟩) n3 (fun h => h)).trans r0
      have s1 := (f3'.frozen (p := ⟨jb, 2, none⟩) n3 (fun h => h)).trans r1
      have hrow3 := ownsRow_keeps HROW.out f3' (fun _ _ h => h)
      have T3 : Keeps (fun q => q = jb ∨ vk.ownBlock = some q) wr w3 := f3'.mono (fun _ _ h => h.elim)
      dsimp only
      refine hK.out _ _ T3 (fun _ => ⟨s0, s1⟩) ?_
      clear hK K
      (try simp only [Act.put, List.setIfInBounds_toArray, List.set_cons_zero, List.set_cons_succ])
      refine wpKeep_ready (rs := [7]) (by kernel_rfl) (by simp) ?_
      refine AllKeep.cons (o := ⟨some 64, _, _, _, _, _⟩) rfl (fun K hK => ?_) AllKeep.nil
      go_simp
      have fal := (Keeps.refl (fun _ => False) w3).alloc (.cells #[.string (str s)] 9)
      have n33 : jb < w3.heap.size := Nat.lt_of_lt_of_le n3 f3'.size
      refine hK.out _ _ (T3.alloc _) (fun _ => ⟨(fal.cell (p := ⟨jb, 2, none⟩) n33 (fun h => h)).trans s0, (fal.frozen (p := ⟨jb, 2, none⟩) n33 (fun h => h)).trans s1⟩) ?_
      clear hK K
      (try simp only [Act.put, List.setIfInBounds_toArray, List.set_cons_zero, List.set_cons_succ])
      refine wpKeep_ready (rs := [8]) (by kernel_rfl) (by simp) ?_
      refine AllKeep.cons (o := ⟨some 65, _, _, _, _, _⟩) rfl (fun K hK => ?_) AllKeep.nil
      refine step_push rfl (.tmp 61) (.tmp 64) 26 rfl 9 i0 (.string ⟨#[]⟩) 16 Tryd.underlying26 hi hz0 hz1 hz2 rfl w3 hrow3 (.string (str s)) (by rfl) (by rfl) rfl (by have := HLEN.out; omega) (by have := HLEN.out; unfold maxLen; omega) ?_
      intro v6 w6 ha
      have s60 := (ha.keeps.cell (p := ⟨jb, 2, none⟩) n33 hne2).trans s0
      have s61 := (ha.keeps.frozen (p := ⟨jb, 2, none⟩) n33 hne2).trans s1
      have T6 : Keeps (fun q => q = jb ∨ vk.ownBlock = some q) wr w6 := T3.trans (ha.keeps.mono (fun _ _ h => .inr h))
      refine hK.out _ _ T6 (fun _ => ⟨s60, s61⟩) ?_
      clear hK K
      (try simp only [Act.put, List.setIfInBounds_toArray, List.set_cons_zero, List.set_cons_succ])
      refine wpKeep_takeT (i := 9) (oi := ⟨some 66, _, _, _, _, _⟩) (v := ?_) rfl (by kernel_rfl) (by kernel_rfl) (by kernel_rfl) (by kernel_rfl) (fun _ _ _ h => h) (Or.inl ⟨by rfl, ?_⟩) T6 (fun _ => ⟨s60, s61⟩) ?_
      rotate_left
      · intro w' hT
        go_simp
        (try with_reducible rfl)
      rotate_left
      (try simp only [Act.put, List.setIfInBounds_toArray, List.set_cons_zero, List.set_cons_succ])
      refine wpKeep_takeT (i := 10) (oi := ⟨some 67, _, _, _, _, _⟩) (v := ?_) rfl (by kernel_rfl) (by kernel_rfl) (by kernel_rfl) (by kernel_rfl) (fun _ _ _ h => h) (Or.inl ⟨by rfl, ?_⟩) T6 (fun _ => ⟨s60, s61⟩) ?_
      rotate_left
      · intro w' hT
        go_simp
        (try with_reducible rfl)
      rotate_left
      (try simp only [Act.put, List.setIfInBounds_toArray, List.set_cons_zero, List.set_cons_succ])
      refine wpKeep_ready (rs := [11]) (by kernel_rfl) (by simp) ?_
      refine AllKeep.cons (o := ⟨none, _, _, _, _, _⟩) rfl (fun K hK => ?_) AllKeep.nil
      obtain ⟨ao6, cp6, e6⟩ := ownsRow_slice ha.row
      subst e6
      go_simp
      refine hK.out _ _ (T6.setCell (p := ⟨jb, 2, none⟩) (fun _ => .inl rfl) _) (not_early (by kernel_rfl)) ?_
      clear hK K
      (try simp only [Act.put, List.setIfInBounds_toArray, List.set_cons_zero, List.set_cons_succ])
      refine wpKeep_done (by kernel_rfl) ?_ _
      have hv6 := ha.own
      have hrow6 := ha.row
      have J6 := (f3'.at_ HJK.out (fun h => h))
      have J6 := ha.keeps.at_ J6 hne2
      have hE : (l ++ m.take k).length = l.length + min k m.length := by simp
      rw [hE] at hv6 hrow6
      generalize Value.slice ao6 (l.length + min k m.length + 1) cp6 = v6 at hv6 hrow6 ⊢
      rw [← hE] at hrow6
      have hv6j : v6.ownBlock ≠ some jb := fun e => by
        rcases hv6 jb e with z | z
        · exact hne2 z
        · omega
      have hJ7 := heap_setCell_at J6 2 v6
      have hend : JoinAt (w6.setCell ⟨jb, 2, none⟩ v6) jb b e v6 (l ++ m.take (k + 1)) := by
        refine ⟨hJ7, ?_, hv6j⟩
        rw [HMK.out, ← List.append_assoc, texts_snoc, List.length_append]
        exact ownsRow_setCell_ne hrow6 hv6j _
      have k7 : Keeps (fun q => q = jb ∨ v.ownBlock = some q) w (w6.setCell ⟨jb, 2, none⟩ v6) := kk.trans' (T6.setCell (p := ⟨jb, 2, none⟩) (fun _ => .inl rfl) _) (fun q hq e => by
        rcases e with e | e
        · exact .inl e
        · rcases ok q e with z | z
          · exact .inr z
          · omega)
      have o7 : ∀ g, v6.ownBlock = some g → v.ownBlock = some g ∨ w.heap.size ≤ g := fun g hg => by
        rcases hv6 g hg with z | z
        · exact ok g z
        · have := kk.size; have := f3'.size; exact .inr (by omega)
      go_wp2_with fail
      go_roundw
      case rel => exact ⟨k + 1, v6, by simp, HLT.out, hend, k7, o7⟩
      case measure => have := HLT.out; simp [intOf]; omega
    · have hkm : k = m.length := by omega
      have hnlt : ¬ (k : Int) < (m.length : Int) := by omega
      rw [hkm, List.take_length] at hJk
      have HJK := hid hJk
      clear hkm hlt hk hJk
      go_wp2_with fail
      go_ret
      exact ⟨rfl, vk, HJK.out, kk, ok⟩

set_option maxRecDepth 100000 in
set_option maxHeartbeats 1000000 in
theorem jentries_any (jb b e : Nat) (v : Value) (l : List (List UInt8)) (w : World) (h : JoinAt w jb b e v l) (hl : l.length ≤ 1000000) :
    Calls Tryd.prog 35 #[.pointer (some ⟨jb, 0, none⟩)] w fun x w' => ∃ v', x = .returned v' ∧ ClipRow w w' v' l ∧ Fresh w w' := by
  have hat : TextsAt w v l := OwnTexts_at h.2.1
  have hcl := hid (clone_any v l w hat hl)
  have c2 := (cell_at h.1 2).trans (show _ = some v from rfl)
  clear h hat
  go_enter Tryd.func35, Tryd.ntmps35
  go_wp2_with fail
  refine hcl.out.mono ?_
  rintro x w1 ⟨v1, rfl, hrow, f1⟩
  obtain ⟨ao1, cp1, rfl⟩ := ownsRow_slice hrow.1
  have hc := hid (clipTexts_any ao1 l.length cp1 w1 (row_le hrow.1))
  go_wp2_with fail
  refine hc.out.mono ?_
  rintro x w2 ⟨rfl, f2⟩
  go_wp2_with fail
  go_ret
  exact ⟨_, rfl, ⟨ao1, cp1, ownsRow_keeps hrow.1 f2 (fun _ _ h => h), hrow.2, rfl⟩, f1.trans f2⟩
end Go.Proofs.YtgikabafaocemaaDoor
