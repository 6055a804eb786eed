/-
  SpanProves: the law's walk.
-/
import Derived.Test.YtgikabafaocemaaDoorSrProveP
import Derived.Test.YtgikabafaocemaaDoorSpBookB
import Derived.Test.YtgikabafaocemaaDoorSpLawN
import Derived.Test.YtgikabafaocemaaDoorSpKnown
import Derived.Test.YtgikabafaocemaaDoorMSpA
namespace Go.Proofs.YtgikabafaocemaaDoor
open Go.RowKit

def proveR (L : List (List UInt8)) (n b e : Int) : Int × Int × Int × List (List UInt8) × Int :=
  if n < 1 ∨ (L.length : Int) < n ∨ ¬ (0 ≤ b ∧ b < e ∧ e ≤ n) then (0, 0, 0, [], 140) else (n, b, e, toldH L (toldF 40 b.toNat e.toNat 0 n.toNat), 0)
theorem proveR_few (L : List (List UInt8)) (n b e : Int) : (proveR L n b e).2.2.2.1.length ≤ 1000 := by
  unfold proveR
  split
  · simp
  · have := toldF_few 40 b.toNat e.toNat 0 n.toNat (by omega)
    show (toldH _ _).length ≤ _
    rw [toldH, List.length_map]
    omega
def runOf (r : Int × Int × Int × List (List UInt8) × Int) (v : Value) : Ending := .returned (.tuple #[.agg #[.int .i64 r.1, .int .i64 r.2.1, .int .i64 r.2.2.1, v], .int .i64 r.2.2.2.2])
theorem pprove_any (S : Nat → Prop) (tb h : Nat) (L : List (List UInt8)) (n b e : Int) (w : World) (ht : TileTree S w tb h L) (hd : Dig w) :
    Calls Tryd.prog 14 #[.pointer (some ⟨tb, 0, none⟩), .int .i64 n, .agg #[.int .i64 b, .int .i64 e]] w fun x w' => ∃ v y, x = runOf (proveR L n b e) v ∧ Clip v y ∧ OwnTexts w.heap.size w' y (proveR L n b e).2.2.2.1 ∧ Fresh w w' := by
  unfold proveR
  by_cases hbad : n < 1 ∨ (L.length : Int) < n ∨ ¬ (0 ≤ b ∧ b < e ∧ e ≤ n)
  · rw [if_pos hbad]
    refine (pprove_bad S tb h L n b e w ht hbad).mono ?_
    rintro x w' ⟨rfl, f⟩
    exact ⟨_, _, rfl, Clip.same, ⟨World.ownsRow_nil _ _ _ _, fun g hg => by simp [Value.ownBlock] at hg⟩, f⟩
  · rw [if_neg hbad]
    obtain ⟨n, rfl⟩ : ∃ n' : Nat, n = n' := ⟨n.toNat, by omega⟩
    obtain ⟨b, rfl⟩ : ∃ n' : Nat, b = n' := ⟨b.toNat, by omega⟩
    obtain ⟨e, rfl⟩ : ∃ n' : Nat, e = n' := ⟨e.toNat, by omega⟩
    simp only [Int.toNat_natCast]
    refine (pprove_good S tb h L n b e w ht hd (by omega) (by omega) (by omega) (by omega)).mono ?_
    rintro x w' ⟨v, rfl, ⟨ao, cap, h1, h2, rfl⟩, f⟩
    exact ⟨_, _, rfl, ⟨ao, _, _, cap, rfl, rfl, .inr rfl⟩, ⟨h1, h2⟩, f⟩
theorem rprove_any (B xb : Nat) (h : Int) (L : List (List UInt8)) (n b e : Int) (w : World) (ht : DocTree B w xb h L) (h32 : all32P L) (hL : L.length ≤ 4096) :
    Calls Tryd.prog 15 #[.pointer (some ⟨xb, 0, none⟩), .int .i64 n, .agg #[.int .i64 b, .int .i64 e]] w fun x w' => ∃ v, x = runOf (proveR L n b e) v ∧ TextsAt w' v (proveR L n b e).2.2.2.1 ∧ Fresh w w' := by
  unfold proveR
  by_cases hbad : n < 1 ∨ (L.length : Int) < n ∨ ¬ (0 ≤ b ∧ b < e ∧ e ≤ n)
  · rw [if_pos hbad]
    refine (rprove_bad B xb h L n b e w ht hbad).mono ?_
    rintro x w' ⟨rfl, f⟩
    exact ⟨_, rfl, ⟨none, 0, rfl, fun k s hs => by simp at hs⟩, f⟩
  · rw [if_neg hbad]
    obtain ⟨n, rfl⟩ : ∃ n' : Nat, n = n' := ⟨n.toNat, by omega⟩
    obtain ⟨b, rfl⟩ : ∃ n' : Nat, b = n' := ⟨b.toNat, by omega⟩
    obtain ⟨e, rfl⟩ : ∃ n' : Nat, e = n' := ⟨e.toNat, by omega⟩
    simp only [Int.toNat_natCast]
    refine (rprove_good B xb h L n b e w ht h32 hL (by omega) (by omega) (by omega) (by omega)).mono ?_
    rintro x w' ⟨v, rfl, h1, f⟩
    exact ⟨_, rfl, h1.at_, f⟩

set_option maxRecDepth 100000 in
set_option maxHeartbeats 8000000 in
theorem proves_any (vr : Value) (nr : Nat) (height size sb se at_ many : Int) (w : World) (hv : NumbersAt w vr nr) (hN : Nums w) (hh : -9223372036854775808 ≤ height) (hh2 : height ≤ 9223372036854775807) (hs : -9223372036854775808 ≤ size) (hs2 : size ≤ 9223372036854775807) (ha : -9223372036854775808 ≤ at_) (ha2 : at_ ≤ 9223372036854775807) (hm : -9223372036854775808 ≤ many) (hm2 : many ≤ 9223372036854775807) :
    Calls Tryd.prog 3 #[vr, .int .i64 height, .int .i64 size, .agg #[.int .i64 sb, .int .i64 se], .int .i64 at_, .int .i64 many] w fun x w' => x = .returned (.bool true) ∧ Fresh w w' := by
  have f0 : Fresh w (w.alloc (.cells #[.int .i64 sb, .int .i64 se] 24)) := (Keeps.refl _ _).alloc _
  have hs0 := heap_alloc_new w (.cells #[.int .i64 sb, .int .i64 se] 24)
  have hk := hid (known_any _ (hN.fresh f0))
  have hnum := hid (fun W (f : Fresh w W) => numbered_any vr nr 200 W (by
    obtain ⟨ao, cap, e, hc⟩ := hv
    exact ⟨ao, cap, e, fun k hk => by
      obtain ⟨bb, off, z, q1, q2, q3⟩ := hc k hk
      exact ⟨bb, off, z, q1, Nat.lt_of_lt_of_le q2 f.size, (f.cell (p := ⟨bb, off + k, none⟩) q2 (fun h => h)).trans q3⟩⟩) (by omega))
  have p0 := fun W => pick_any height 8 W (by omega) (by omega) hh hh2
  have q0 := pickN_in height 8 (by omega)
  have HN := hid hN
  have HS0 := hid hs0
  obtain ⟨P0, hP0⟩ : ∃ P, pickN height 8 = P := ⟨_, rfl⟩
  rw [hP0] at p0 q0
  obtain ⟨q00, q01⟩ := q0
  have HP0 := hid p0
  obtain ⟨aor, cpr, rfl, -⟩ := hv
  clear hN hs0 p0 hP0
  go_enter Tryd.func3, Tryd.ntmps3
  go_wp2_with fail
  refine hk.out.mono ?_
  rintro x w1 ⟨rfl, f1⟩
  have f1' := f0.trans f1
  go_wp2_with fail
  refine (hnum.out w1 f1').mono ?_
  rintro x w2 ⟨v2, l, rfl, hl, h32, hown, f2⟩
  have f2' := f1'.trans f2
  have hll : l.length ≤ 200 := by omega
  have hpl := hid (planted_any v2 l height w2 hown.at_ h32 (by omega) hh hh2 (HN.out.fresh f2'))
  obtain ⟨ao2, cp2, ev2⟩ := ownsRow_slice hown.1
  subst ev2
  have H32 := hid h32
  have HOWN := hid hown
  clear hk hnum hl h32 hown hh hh2
  have HLL := hid hll
  clear hll
  go_wp2_with fail
  refine hpl.out.mono ?_
  rintro x w3 ⟨tb, rfl, hT, f3⟩
  have f3' := f2'.trans f3
  have hq1 : ∀ W, (binOp .eql 28 (.pointer (some ⟨tb, 0, none⟩)) (.pointer none)).run Tryd.prog W = .ok (.bool false) W := fun W => by kernel_rfl
  obtain ⟨hgt, S, hTT, hS⟩ := hT
  have HTT := hid hTT
  clear hpl hTT hS
  go_wp2_with fail
  refine (HP0.out _).mono ?_
  rintro x w4 ⟨rfl, rfl⟩
  have hnew := hid (fun W => new7_any (1 + P0) (by omega) (by omega) W)
  go_wp2_with fail
  refine (hnew.out _).mono ?_
  rintro x w4 ⟨xb, rfl, hD, f4⟩
  have HD := hid hD
  clear hD
  obtain ⟨N, hNl⟩ : ∃ N, l.length = N := ⟨_, rfl⟩
  have HNL := hid hNl
  rw [hNl] at HLL HOWN ⊢
  have hNb : (N : Int) ≤ 200 := by have := HLL.out; omega
  clear hNl
  go_wp2_with fail
  clear hq1
  go_loopw [18] (fun i wr => ∃ n : Nat, i = .int .i64 (n : Int) ∧ n ≤ N ∧ DocTree w3.heap.size wr xb (1 + P0) (l.take n) ∧ Keeps (fun q => w3.heap.size ≤ q) w3 wr) (fun i _ => N - (intOf i).toNat)
  case atStart => exact ⟨0, rfl, Nat.zero_le _, HD.out, f4.mono (fun _ _ h => h.elim)⟩
  case round =>
    obtain ⟨n, rfl, hn, hD, k5⟩ := hrel
    have HD2 := hid hD
    have HK5 := hid k5
    by_cases hlt : n < N
    · obtain ⟨s, hs⟩ : ∃ s, l[n]? = some s := ⟨l[n]'(by rw [HNL.out]; exact hlt), by simp⟩
      have hrow := HOWN.out.1
      rw [HNL.out] at hrow
      obtain ⟨g, rfl, hc⟩ := rowCellsB hrow (by omega)
      obtain ⟨gl, hcx⟩ := hc n (.string (str s)) (by rw [texts, List.getElem?_map, hs]; rfl)
      have hg3 : g < w3.heap.size := Nat.lt_of_lt_of_le gl f3.size
      have hcx2 := (k5.cell (p := ⟨g, n, none⟩) hg3 (by show ¬ w3.heap.size ≤ g; omega)).trans ((f3.cell (p := ⟨g, n, none⟩) gl (fun h => h)).trans hcx)
      have hgl2 : g < wr.heap.size := Nat.lt_of_lt_of_le hg3 k5.size
      have hni : (n : Int) < (N : Int) := by omega
      have hn0 : (0 : Int) ≤ (n : Int) := by omega
      have htk : l.take (n + 1) = l.take n ++ [s] := by rw [List.take_add_one, hs]; rfl
      have hadd := hid (add7_any w3.heap.size xb (1 + P0) (l.take n) s wr HD2.out (H32.out s (List.mem_of_getElem? hs)) (by rw [List.length_take]; have := HLL.out; omega))
      have HTK := hid htk
      have HLT := hid hlt
      clear hD k5 hs hc hcx htk hlt hrow
      go_wp2_with fail
      refine hadd.out.mono ?_
      rintro x w6 ⟨rfl, hD6, k6⟩
      have HD6 := hid (hD6 (Nat.le_trans HK5.out.size (Nat.le_refl _)))
      clear hD6
      go_wp2_with fail
      go_roundw
      case rel => exact ⟨n + 1, by go_num, HLT.out, by rw [HTK.out]; exact HD6.out, HK5.out.trans k6⟩
      case measure => have := HLT.out; simp [intOf]; omega
    · obtain rfl : n = N := by omega
      rename World => w5
      have hD5 : DocTree w3.heap.size w5 xb (1 + P0) l := by
        have := HD2.out
        rwa [List.take_of_length_le (by rw [HNL.out]; exact Nat.le_refl _)] at this
      have f5' : Fresh w w5 := f3'.trans' k5 (fun q hq e => by have := f3'.size; omega)
      have HT5 := hid (HTT.out.keeps k5 (fun g hg e => by have := (HTT.out.lives g hg).2; omega))
      have HD5 := hid hD5
      have p1 := fun W => pick_any size ((n : Int) + 2) W (by omega) (by omega) hs hs2
      have q1 := pickN_in size ((n : Int) + 2) (by omega)
      generalize pickN size ((n : Int) + 2) = P1 at p1 q1
      obtain ⟨q10, q11⟩ := q1
      have p2 := fun W => pick_any at_ (P1 + 1) W (by omega) (by omega) ha ha2
      have q2 := pickN_in at_ (P1 + 1) (by omega)
      generalize pickN at_ (P1 + 1) = P2 at p2 q2
      obtain ⟨q20, q21⟩ := q2
      obtain ⟨D0, hD0⟩ : ∃ D0, P1 - P2 = D0 := ⟨_, rfl⟩
      obtain ⟨D1, hD1⟩ : ∃ D1, D0 + 1 = D1 := ⟨_, rfl⟩
      have p3 := fun W => pick_any many D1 W (by omega) (by omega) hm hm2
      have q3 := pickN_in many D1 (by omega)
      generalize pickN many D1 = P3 at p3 q3
      obtain ⟨P4, hP4⟩ : ∃ P4, P2 + P3 = P4 := ⟨_, rfl⟩
      have z1 : IntKind.i64.wrap (P1 - P2) = D0 := by rw [hD0]; exact IntWalk.i64_in _ (by omega)
      have z2 : IntKind.i64.wrap (D0 + 1) = D1 := by rw [hD1]; exact IntWalk.i64_in _ (by omega)
      have z3 : IntKind.i64.wrap (P2 + P3) = P4 := by rw [hP4]; exact IntWalk.i64_in _ (by omega)
      have Z1 := hid z1
      have Z2 := hid z2
      have Z3 := hid z3
      have HP1 := hid p1
      have HP2 := hid p2
      have HP3 := hid p3
      have hP1b : P1 ≤ 300 := by omega
      have hs3 := ((f1.trans f2).trans f3).at_ HS0.out (fun h => h)
      have hs5 := k5.at_ hs3 (by have := lt_of_block hs3; show ¬ w3.heap.size ≤ _; omega)
      have g0 := (cell_at hs5 0).trans (show _ = some (Value.int .i64 sb) from rfl)
      have g1 := (cell_at hs5 1).trans (show _ = some (Value.int .i64 se) from rfl)
      have gl := lt_of_block hs5
      have HS5 := hid hs5
      clear hD k5 hlt hD5 p1 p2 p3 q3 hD0 hD1 hP4 z1 z2 z3 hm hm2 ha ha2 hs hs2 q01 hn hs3 hs5 g0 g1
      go_wp2_with fail
      refine (HP1.out _).mono ?_
      rintro x w6 ⟨rfl, rfl⟩
      go_wp2_with fail
      refine (HP2.out _).mono ?_
      rintro x w6 ⟨rfl, rfl⟩
      go_wp2_with fail
      have fy := (Keeps.refl (fun _ => False) w5).alloc (.cells #[.int .i64 P2, .int .i64 0] 24)
      have hy := heap_alloc_new w5 (.cells #[.int .i64 P2, .int .i64 0] 24)
      generalize w5.alloc (.cells #[.int .i64 P2, .int .i64 0] 24) = wy at fy hy ⊢
      obtain ⟨yb, hyb⟩ : ∃ yb, w5.heap.size = yb := ⟨_, rfl⟩
      rw [hyb] at hy ⊢
      have HYB := hid hyb
      have y0 := (cell_at hy 0).trans (show _ = some (Value.int .i64 P2) from rfl)
      have y1 := (cell_at hy 1).trans (show _ = some (Value.int .i64 0) from rfl)
      have y1f := free_at hy 1
      have yl := lt_of_block hy
      have HY := hid hy
      have z1 := Z1.out
      have z2 := Z2.out
      have z3 := Z3.out
      clear hyb hy
      refine wp_region_keep 12 (fun w' => Keeps (fun q => q = yb) wy w') (fun w' => w'.cell? ⟨yb, 0, none⟩ = some (.int .i64 P2) ∧ w'.cell? ⟨yb, 1, none⟩ = some (.int .i64 0) ∧ w'.frozen? ⟨yb, 1, none⟩ = false) (fun j => !(j == 11)) (by kernel_rfl) (by kernel_rfl) ?_
      (try (change wpKeep _ _ _ _ _ _ _ _ _ _ (World.drew _)))
      refine wpKeep_takeT (i := 0) (oi := ⟨some 76, _, _, _, _, _⟩) (v := ?_) rfl (by kernel_rfl) (by kernel_rfl) (by kernel_rfl) (by kernel_rfl) (fun _ _ _ h => h) (Or.inl ⟨by rfl, ?_⟩) (Keeps.refl _ _).drew (fun _ => ⟨y0, y1, y1f⟩) ?_
      rotate_left
      · intro w' hT
        go_simp
        (try rw [if_pos (by omega)])
        (try with_reducible rfl)
      rotate_left
      (try simp only [Act.put, List.setIfInBounds_toArray, List.set_cons_zero, List.set_cons_succ])
      refine wpKeep_take (i := 1) (oi := ⟨some 77, _, _, _, _, _⟩) (v := ?_) rfl (by kernel_rfl) (by kernel_rfl) (by kernel_rfl) (by kernel_rfl) (fun _ _ _ h => h) (Or.inl ⟨by rfl, ?_⟩) ⟨(Keeps.refl _ _).drew, ⟨y0, y1, y1f⟩⟩ ?_
      rotate_left
      · intro w' hT
        have hS0 := hT.2
        replace hT := hT.1
        go_simp
        (try rw [if_pos (by omega)])
        (try with_reducible rfl)
      rotate_left
      (try simp only [Act.put, List.setIfInBounds_toArray, List.set_cons_zero, List.set_cons_succ])
      refine wpKeep_takeT (i := 2) (oi := ⟨some 78, _, _, _, _, _⟩) (v := ?_) rfl (by kernel_rfl) (by kernel_rfl) (by kernel_rfl) (by kernel_rfl) (fun _ _ _ h => h) (Or.inl ⟨by rfl, ?_⟩) (Keeps.refl _ _).drew (fun _ => ⟨y0, y1, y1f⟩) ?_
      rotate_left
      · intro w' hT
        go_simp
        (try rw [if_pos (by omega)])
        (try with_reducible rfl)
      rotate_left
      (try simp only [Act.put, List.setIfInBounds_toArray, List.set_cons_zero, List.set_cons_succ])
      refine wpKeep_takeT (i := 3) (oi := ⟨some 79, _, _, _, _, _⟩) (v := ?_) rfl (by kernel_rfl) (by kernel_rfl) (by kernel_rfl) (by kernel_rfl) (fun _ _ _ h => h) (Or.inl ⟨by rfl, ?_⟩) (Keeps.refl _ _).drew (fun _ => ⟨y0, y1, y1f⟩) ?_
      rotate_left
      · intro w' hT
        go_simp
        (try rw [if_pos (by omega)])
        (try with_reducible rfl)
      rotate_left
      (try simp only [Act.put, List.setIfInBounds_toArray, List.set_cons_zero, List.set_cons_succ])
      refine wpKeep_takeT (i := 4) (oi := ⟨some 80, _, _, _, _, _⟩) (v := ?_) rfl (by kernel_rfl) (by kernel_rfl) (by kernel_rfl) (by kernel_rfl) (fun _ _ _ h => h) (Or.inl ⟨by rfl, ?_⟩) (Keeps.refl _ _).drew (fun _ => ⟨y0, y1, y1f⟩) ?_
      rotate_left
      · intro w' hT
        go_simp
        (try rw [if_pos (by omega)])
        (try with_reducible rfl)
      rotate_left
      (try simp only [Act.put, List.setIfInBounds_toArray, List.set_cons_zero, List.set_cons_succ])
      refine wpKeep_take (i := 5) (oi := ⟨some 81, _, _, _, _, _⟩) (v := ?_) rfl (by kernel_rfl) (by kernel_rfl) (by kernel_rfl) (by kernel_rfl) (fun _ _ _ h => h) (Or.inl ⟨by rfl, ?_⟩) ⟨(Keeps.refl _ _).drew, ⟨y0, y1, y1f⟩⟩ ?_
      rotate_left
      · intro w' hT
        have hS0 := hT.2
        replace hT := hT.1
        go_simp
        (try rw [if_pos (by omega)])
        (try with_reducible rfl)
      rotate_left
      (try simp only [Act.put, List.setIfInBounds_toArray, List.set_cons_zero, List.set_cons_succ])
      refine wpKeep_takeT (i := 6) (oi := ⟨some 82, _, _, _, _, _⟩) (v := ?_) rfl (by kernel_rfl) (by kernel_rfl) (by kernel_rfl) (by kernel_rfl) (fun _ _ _ h => h) (Or.inl ⟨by rfl, ?_⟩) (Keeps.refl _ _).drew (fun _ => ⟨y0, y1, y1f⟩) ?_
      rotate_left
      · intro w' hT
        go_simp
        (try rw [if_pos (by omega)])
        (try with_reducible rfl)
      rotate_left
      (try simp only [Act.put, List.setIfInBounds_toArray, List.set_cons_zero, List.set_cons_succ])
      refine wpKeep_takeT (i := 7) (oi := ⟨some 83, _, _, _, _, _⟩) (v := ?_) rfl (by kernel_rfl) (by kernel_rfl) (by kernel_rfl) (by kernel_rfl) (fun _ _ _ h => h) (Or.inl ⟨by rfl, ?_⟩) (Keeps.refl _ _).drew (fun _ => ⟨y0, y1, y1f⟩) ?_
      rotate_left
      · intro w' hT
        go_simp
        (try rw [if_pos (by omega)])
        (try with_reducible rfl)
      rotate_left
      (try simp only [Act.put, List.setIfInBounds_toArray, List.set_cons_zero, List.set_cons_succ])
      refine wpKeep_ready (rs := [8]) (by kernel_rfl) (by simp) ?_
      refine AllKeep.cons (o := ⟨some 84, _, _, _, _, _⟩) rfl (fun K hK => ?_) AllKeep.nil
      go_simp
      (try rw [z1])
      (try rw [z2])
      go_at_call 12
      with_reducible refine (HP3.out _).mono ?_
      rintro x w7 ⟨rfl, rfl⟩
      dsimp only
      refine hK.out _ _ (Keeps.refl _ _).drew (fun _ => ⟨y0, y1, y1f⟩) ?_
      clear hK K
      (try simp only [Act.put, List.setIfInBounds_toArray, List.set_cons_zero, List.set_cons_succ])
      refine wpKeep_takeT (i := 9) (oi := ⟨some 85, _, _, _, _, _⟩) (v := ?_) rfl (by kernel_rfl) (by kernel_rfl) (by kernel_rfl) (by kernel_rfl) (fun _ _ _ h => h) (Or.inl ⟨by rfl, ?_⟩) (Keeps.refl _ _).drew (fun _ => ⟨y0, y1, y1f⟩) ?_
      rotate_left
      · intro w' hT
        go_simp
        (try rw [if_pos (by omega)])
        (try with_reducible rfl)
      rotate_left
      (try simp only [Act.put, List.setIfInBounds_toArray, List.set_cons_zero, List.set_cons_succ])
      refine wpKeep_takeT (i := 10) (oi := ⟨some 86, _, _, _, _, _⟩) (v := ?_) rfl (by kernel_rfl) (by kernel_rfl) (by kernel_rfl) (by kernel_rfl) (fun _ _ _ h => h) (Or.inl ⟨by rfl, ?_⟩) (Keeps.refl _ _).drew (fun _ => ⟨y0, y1, y1f⟩) ?_
      rotate_left
      · intro w' hT
        go_simp
        (try rw [if_pos (by omega)])
        (try with_reducible rfl)
      rotate_left
      (try simp only [Act.put, List.setIfInBounds_toArray, List.set_cons_zero, List.set_cons_succ])
      refine wpKeep_ready (rs := [11]) (by kernel_rfl) (by simp) ?_
      refine AllKeep.cons (o := ⟨none, _, _, _, _, _⟩) rfl (fun K hK => ?_) AllKeep.nil
      go_simp
      (try rw [z3])
      refine hK.out _ _ (((Keeps.refl (fun q => q = yb) wy).drew).setCell (p := ⟨yb, 1, none⟩) (fun _ => rfl) _) (not_early (by kernel_rfl)) ?_
      clear hK K
      (try simp only [Act.put, List.setIfInBounds_toArray, List.set_cons_zero, List.set_cons_succ])
      refine wpKeep_done (by kernel_rfl) ?_ _
      clear z1 z2 z3
      go_wp2_with fail
      have hy7 := heap_setCell_at HY.out 1 (.int .i64 P4)
      have ky7 : Keeps (fun q => q = yb) wy (wy.setCell ⟨yb, 1, none⟩ (.int .i64 P4)) := (Keeps.refl (fun q => q = yb) wy).setCell (p := ⟨yb, 1, none⟩) (fun _ => rfl) _
      have hsz := World.size_setCell wy ⟨yb, 1, none⟩ (.int .i64 P4)
      rw [← hsz]
      generalize wy.setCell ⟨yb, 1, none⟩ (.int .i64 P4) = w7 at hy7 ky7 ⊢
      clear y0 y1 y1f hsz
      replace hy7 : w7.heap[yb]? = some (.cells #[.int .i64 P2, .int .i64 P4] 24 (0, 0)) := hy7
      have k57 : Keeps (fun q => q = yb) w5 w7 := (fy.mono (fun _ _ h => h.elim)).trans ky7
      have f57 : Fresh w5 w7 := fy.trans' ky7 (fun q hq e => by have := HYB.out; omega)
      have HSZ7 := hid (show w5.heap.size < w7.heap.size by have := lt_of_block hy7; have := HYB.out; omega)
      have fo := ((Keeps.refl (fun _ => False) w7).alloc (.cells #[.slice none 0 0, .slice none 0 0, .slice none 0 0, .slice none 0 0, .slice none 0 0] 39)).drew
      have ho : (w7.alloc (.cells #[.slice none 0 0, .slice none 0 0, .slice none 0 0, .slice none 0 0, .slice none 0 0] 39)).drew.heap[w7.heap.size]? = some (.cells #[.slice none 0 0, .slice none 0 0, .slice none 0 0, .slice none 0 0, .slice none 0 0] 39) := heap_alloc_new w7 (.cells #[.slice none 0 0, .slice none 0 0, .slice none 0 0, .slice none 0 0, .slice none 0 0] 39)
      generalize (w7.alloc (.cells #[.slice none 0 0, .slice none 0 0, .slice none 0 0, .slice none 0 0, .slice none 0 0] 39)).drew = w8 at fo ho ⊢
      have f58 : Fresh w5 w8 := f57.trans fo
      have f8 : Fresh w w8 := f5'.trans f58
      have HT8 := hid (HT5.out.fresh f58)
      have HD8 := hid (HD5.out.fresh f58)
      have HSB := hid (f58.at_ HS5.out (fun h => h))
      have HYB8 := hid (fo.at_ hy7 (fun h => h))
      obtain ⟨ob, hob⟩ : ∃ ob, w7.heap.size = ob := ⟨_, rfl⟩
      rw [hob] at ho ⊢
      have HOB := hid hob
      have HNO := hid (show Noted ob (fun g => if g = ob then 1 else 0) w8 ob [] [] (.slice none 0 0) (.slice none 0 0) [] from
        ⟨ho, if_pos rfl, World.ownsRow_nil _ _ _ _, fun g hg => by simp [Value.ownBlock] at hg, World.ownsRow_nil _ _ _ _, fun g hg => by simp [Value.ownBlock] at hg, rfl, rfl, fun j v l hv => by simp at hv, fun j v l hv => by simp at hv, fun g hg => if_neg (by omega)⟩)
      have HBL := hid (show ob ≤ w8.heap.size by have := fo.size; omega)
      have hlow := hid (show ∀ q, q < w7.heap.size → ¬ ob ≤ q from fun q hq => by omega)
      have HT7 := hid (HT5.out.lives)
      have HYL := hid (lt_of_block hy7)
      clear hy7 ky7 k57 ho hob
      go_loopw [22] (fun i wr => ∃ (t : Nat) (c : Nat → Nat) (F : List Value) (C : List (List (List UInt8))) (fv wv : Value) (Wv : List Value), i = .int .i64 (t : Int) ∧ t ≤ 4 ∧ F.length = t ∧ Noted ob c wr ob F C fv wv Wv ∧ (∀ l ∈ C, l.length ≤ 1000) ∧ Keeps (fun q => ob ≤ q) w8 wr) (fun i _ => 4 - (intOf i).toNat)
      case atStart => exact ⟨0, _, [], [], _, _, [], rfl, by omega, rfl, HNO.out, (fun l hl => by simp at hl), Keeps.refl _ _⟩
      case round =>
        obtain ⟨t, c, F, C, fv, wv, Wv, rfl, ht, hF, hno, hC, k9⟩ := hrel
        have HF := hid hF
        have HNO2 := hid hno
        have HC := hid hC
        have HK9 := hid k9
        have hS9 := k9.at_ HSB.out (show ¬ ob ≤ w.heap.size by have := gl; have := HOB.out; have := HSZ7.out; omega)
        have hY9 := k9.at_ HYB8.out (show ¬ ob ≤ yb by have := HYL.out; have := HOB.out; omega)
        have k59 : Keeps (fun q => ob ≤ q) w5 wr := (f58.mono (fun _ _ h => h.elim)).trans k9
        have HT9 := hid (HT5.out.keeps k59 (fun g hg e => by have := (HT5.out.lives g hg).2; have := HOB.out; have := HSZ7.out; omega))
        have HD9 := hid (HD5.out.keeps k59 (fun q hq hq2 e => by have := HOB.out; have := HSZ7.out; omega))
        have hB9 := k9.size
        have HB9 := hid (show ob ≤ wr.heap.size by have := HBL.out; omega)
        have HN9 := hid (HN.out.keeps ((f8.mono (fun _ _ h => h.elim)).trans k9) (fun q hq => by have := HN.out.dig.room; have := f5'.size; have := HOB.out; have := HSZ7.out; omega))
        have x0 := (cell_at hS9 0).trans (show _ = some (Value.int .i64 sb) from rfl)
        have x1 := (cell_at hS9 1).trans (show _ = some (Value.int .i64 se) from rfl)
        have xl := lt_of_block hS9
        have y0 := (cell_at hY9 0).trans (show _ = some (Value.int .i64 P2) from rfl)
        have y1 := (cell_at hY9 1).trans (show _ = some (Value.int .i64 P4) from rfl)
        have yl := lt_of_block hY9
        clear hno hC k9 hS9 hY9 k59 hB9
        by_cases ht4 : t < 4
        · by_cases hpar : t % 2 = 1
          · have htp : (t : Int) % 2 = 1 := by omega
            have htb : (t : Int) < 4 := by omega
            have ht0 : (0 : Int) ≤ (t : Int) := by omega
            go_wp2_with fail
            have fz := (Keeps.refl (fun _ => False) wr).alloc (.cells #[.int .i64 P2, .int .i64 P4] 24)
            have hz := heap_alloc_new wr (.cells #[.int .i64 P2, .int .i64 P4] 24)
            have hpv := pprove_any S tb hgt l P1 P2 P4 _ (HT9.out.fresh fz) (HN9.out.fresh fz).dig
            have hrv := fun W (f : Fresh wr W) => rprove_any w3.heap.size xb (1 + P0) l P1 P2 P4 W (HD9.out.fresh f) H32.out (by rw [HNL.out]; have := HLL.out; omega)
            have hfew := proveR_few l P1 P2 P4
            generalize proveR l P1 P2 P4 = RR at hpv hrv hfew
            obtain ⟨r1, r2, r3, H, er⟩ := RR
            simp only [runOf] at hpv hrv hfew
            have HRV := hid hrv
            have HFEW := hid hfew
            generalize hzb : wr.heap.size = zb at hz ⊢
            have HZB := hid hzb
            generalize wr.alloc (.cells #[.int .i64 P2, .int .i64 P4] 24) = W0 at fz hz hpv ⊢
            clear hrv hfew hzb htp ht0 x0 x1 xl y0 y1 yl
            refine hpv.mono ?_
            rintro x wA ⟨v, y, rfl, hcl, hoy, fA⟩
            have fzA := fz.trans fA
            have hzA := fA.at_ hz (fun h => h)
            have z0 := (cell_at hzA 0).trans (show _ = some (Value.int .i64 P2) from rfl)
            have z1 := (cell_at hzA 1).trans (show _ = some (Value.int .i64 P4) from rfl)
            have zl := lt_of_block hzA
            obtain ⟨va, vn, vc, rfl⟩ : ∃ ax n cx, v = .slice ax n cx := by
              obtain ⟨ao, nn, cap, cap', e1, e2, -⟩ := id hcl
              exact ⟨ao, nn, cap, e2⟩
            have HCL := hid hcl
            have HOY := hid hoy
            clear hpv hz hzA hcl hoy
            go_wp2_with fail
            have fra := (Keeps.refl (fun _ => False) wA).alloc (.cells #[.int .i64 r1, .int .i64 r2, .int .i64 r3, .slice va vn vc] 41)
            have hra := heap_alloc_new wA (.cells #[.int .i64 r1, .int .i64 r2, .int .i64 r3, .slice va vn vc] 41)
            generalize wA.alloc (.cells #[.int .i64 r1, .int .i64 r2, .int .i64 r3, .slice va vn vc] 41) = W1 at fra hra ⊢
            generalize wA.heap.size = ra at hra ⊢
            clear z0 z1 zl
            refine (HRV.out W1 (fzA.trans fra)).mono ?_
            rintro x wB ⟨vB, rfl, hB, fB⟩
            have fzB := (fzA.trans fra).trans fB
            have hrB := fB.at_ hra (fun h => h)
            have HBT := hid hB
            obtain ⟨ba, bc, eB, -⟩ := hB
            subst eB
            have k3 := (cell_at hrB 3).trans (show _ = some (Value.slice va vn vc) from rfl)
            have kl := lt_of_block hrB
            have HRB := hid hrB
            clear hra hrB
            go_wp2_with fail
            have frb := (Keeps.refl (fun _ => False) wB).alloc (.cells #[.int .i64 r1, .int .i64 r2, .int .i64 r3, .slice ba H.length bc] 41)
            have hrb := heap_alloc_new wB (.cells #[.int .i64 r1, .int .i64 r2, .int .i64 r3, .slice ba H.length bc] 41)
            generalize wB.alloc (.cells #[.int .i64 r1, .int .i64 r2, .int .i64 r3, .slice ba H.length bc] 41) = W2 at frb hrb ⊢
            generalize wB.heap.size = rb at hrb ⊢
            have fA2 : Fresh wA W2 := (fra.trans fB).trans frb
            have hat : TextsAt wA (.slice va vn vc) H := by
              obtain ⟨ao, nn, cap, cap', e1, e2, -⟩ := HCL.out
              have h0 := OwnTexts_at HOY.out.1
              rw [e1] at h0
              simp only [Value.slice.injEq] at e2
              obtain ⟨rfl, rfl, rfl⟩ := e2
              obtain ⟨ao4, cap4, e4, hk4⟩ := h0
              simp only [Value.slice.injEq] at e4
              obtain ⟨rfl, rfl, rfl⟩ := e4
              exact ⟨_, vc, rfl, hk4⟩
            have hsm := same_any (.slice va vn vc) (.slice ba H.length bc) H H W2 (hat.fresh fA2) (HBT.out.fresh frb) (by have := HFEW.out; omega) (by have := HFEW.out; omega)
            rw [decide_eq_true rfl] at hsm
            have HRB2 := hid (frb.at_ HRB.out (fun h => h))
            have HRB3 := hid hrb
            clear hat k3 kl hrb
            refine hsm.mono ?_
            rintro x wC ⟨rfl, fC⟩
            have hra3 := fC.at_ HRB2.out (fun h => h)
            have hrb3 := fC.at_ HRB3.out (fun h => h)
            have a0 := (cell_at hra3 0).trans (show _ = some (Value.int .i64 r1) from rfl)
            have a1 := (cell_at hra3 1).trans (show _ = some (Value.int .i64 r2) from rfl)
            have a2 := (cell_at hra3 2).trans (show _ = some (Value.int .i64 r3) from rfl)
            have a3 := (cell_at hra3 3).trans (show _ = some (Value.slice va vn vc) from rfl)
            have al := lt_of_block hra3
            have b0 := (cell_at hrb3 0).trans (show _ = some (Value.int .i64 r1) from rfl)
            have b1 := (cell_at hrb3 1).trans (show _ = some (Value.int .i64 r2) from rfl)
            have b2 := (cell_at hrb3 2).trans (show _ = some (Value.int .i64 r3) from rfl)
            have bl := lt_of_block hrb3
            clear hra3 hrb3 hsm
            have fAC := fA2.trans fC
            have fzC := fzA.trans fAC
            have hnoC := HNO2.out.made fzC HB9.out (5 + F.length)
            have htk := takes_any ob (paint c wr (5 + F.length)) ob F C fv wv (.slice va vn vc) Wv H wC hnoC (by have := HB9.out; have := fzC.size; omega) ⟨y, HCL.out, ownsRow_keeps HOY.out.1 fAC (fun _ _ h => h), fun g hg => paint_new (by have := HOY.out.2 g hg; have := fz.size; have := fA.size; omega)⟩ (by have := HF.out; omega) (by have := HFEW.out; omega)
            have HTK := hid htk
            clear hnoC htk
            go_wp2_with fail
            refine (HTK.out).mono ?_
            rintro x wD ⟨rfl, ⟨c', fv', wv', wx, hno'⟩, kD⟩
            have HNOD := hid hno'
            have HKD := hid (HK9.out.trans ((fzC.mono (fun _ _ h => h.elim)).trans kD))
            have htb : (t : Int) < 4 := by omega
            clear hno' kD a0 a1 a2 a3 b0 b1 b2
            go_wp2_with fail
            go_roundw
            case rel => exact ⟨t + 1, c', _, _, fv', wv', _, by go_num, by omega, by rw [List.length_append, HF.out]; rfl, HNOD.out, (fun l hl => by
              rcases List.mem_append.1 hl with hl | hl
              · exact HC.out l hl
              · rw [List.mem_singleton.1 hl]; exact HFEW.out), HKD.out⟩
            case measure => simp [intOf]; omega
          · have htp : (t : Int) % 2 = 0 := by omega
            have htb : (t : Int) < 4 := by omega
            have ht0 : (0 : Int) ≤ (t : Int) := by omega
            go_wp2_with fail
            have fz := (Keeps.refl (fun _ => False) wr).alloc (.cells #[.int .i64 sb, .int .i64 se] 24)
            have hz := heap_alloc_new wr (.cells #[.int .i64 sb, .int .i64 se] 24)
            have hpv := pprove_any S tb hgt l size sb se _ (HT9.out.fresh fz) (HN9.out.fresh fz).dig
            have hrv := fun W (f : Fresh wr W) => rprove_any w3.heap.size xb (1 + P0) l size sb se W (HD9.out.fresh f) H32.out (by rw [HNL.out]; have := HLL.out; omega)
            have hfew := proveR_few l size sb se
            generalize proveR l size sb se = RR at hpv hrv hfew
            obtain ⟨r1, r2, r3, H, er⟩ := RR
            simp only [runOf] at hpv hrv hfew
            have HRV := hid hrv
            have HFEW := hid hfew
            generalize hzb : wr.heap.size = zb at hz ⊢
            have HZB := hid hzb
            generalize wr.alloc (.cells #[.int .i64 sb, .int .i64 se] 24) = W0 at fz hz hpv ⊢
            clear hrv hfew hzb htp ht0 x0 x1 xl y0 y1 yl
            refine hpv.mono ?_
            rintro x wA ⟨v, y, rfl, hcl, hoy, fA⟩
            have fzA := fz.trans fA
            have hzA := fA.at_ hz (fun h => h)
            have z0 := (cell_at hzA 0).trans (show _ = some (Value.int .i64 sb) from rfl)
            have z1 := (cell_at hzA 1).trans (show _ = some (Value.int .i64 se) from rfl)
            have zl := lt_of_block hzA
            obtain ⟨va, vn, vc, rfl⟩ : ∃ ax n cx, v = .slice ax n cx := by
              obtain ⟨ao, nn, cap, cap', e1, e2, -⟩ := id hcl
              exact ⟨ao, nn, cap, e2⟩
            have HCL := hid hcl
            have HOY := hid hoy
            clear hpv hz hzA hcl hoy
            go_wp2_with fail
            have fra := (Keeps.refl (fun _ => False) wA).alloc (.cells #[.int .i64 r1, .int .i64 r2, .int .i64 r3, .slice va vn vc] 41)
            have hra := heap_alloc_new wA (.cells #[.int .i64 r1, .int .i64 r2, .int .i64 r3, .slice va vn vc] 41)
            generalize wA.alloc (.cells #[.int .i64 r1, .int .i64 r2, .int .i64 r3, .slice va vn vc] 41) = W1 at fra hra ⊢
            generalize wA.heap.size = ra at hra ⊢
            clear z0 z1 zl
            refine (HRV.out W1 (fzA.trans fra)).mono ?_
            rintro x wB ⟨vB, rfl, hB, fB⟩
            have fzB := (fzA.trans fra).trans fB
            have hrB := fB.at_ hra (fun h => h)
            have HBT := hid hB
            obtain ⟨ba, bc, eB, -⟩ := hB
            subst eB
            have k3 := (cell_at hrB 3).trans (show _ = some (Value.slice va vn vc) from rfl)
            have kl := lt_of_block hrB
            have HRB := hid hrB
            clear hra hrB
            go_wp2_with fail
            have frb := (Keeps.refl (fun _ => False) wB).alloc (.cells #[.int .i64 r1, .int .i64 r2, .int .i64 r3, .slice ba H.length bc] 41)
            have hrb := heap_alloc_new wB (.cells #[.int .i64 r1, .int .i64 r2, .int .i64 r3, .slice ba H.length bc] 41)
            generalize wB.alloc (.cells #[.int .i64 r1, .int .i64 r2, .int .i64 r3, .slice ba H.length bc] 41) = W2 at frb hrb ⊢
            generalize wB.heap.size = rb at hrb ⊢
            have fA2 : Fresh wA W2 := (fra.trans fB).trans frb
            have hat : TextsAt wA (.slice va vn vc) H := by
              obtain ⟨ao, nn, cap, cap', e1, e2, -⟩ := HCL.out
              have h0 := OwnTexts_at HOY.out.1
              rw [e1] at h0
              simp only [Value.slice.injEq] at e2
              obtain ⟨rfl, rfl, rfl⟩ := e2
              obtain ⟨ao4, cap4, e4, hk4⟩ := h0
              simp only [Value.slice.injEq] at e4
              obtain ⟨rfl, rfl, rfl⟩ := e4
              exact ⟨_, vc, rfl, hk4⟩
            have hsm := same_any (.slice va vn vc) (.slice ba H.length bc) H H W2 (hat.fresh fA2) (HBT.out.fresh frb) (by have := HFEW.out; omega) (by have := HFEW.out; omega)
            rw [decide_eq_true rfl] at hsm
            have HRB2 := hid (frb.at_ HRB.out (fun h => h))
            have HRB3 := hid hrb
            clear hat k3 kl hrb
            refine hsm.mono ?_
            rintro x wC ⟨rfl, fC⟩
            have hra3 := fC.at_ HRB2.out (fun h => h)
            have hrb3 := fC.at_ HRB3.out (fun h => h)
            have a0 := (cell_at hra3 0).trans (show _ = some (Value.int .i64 r1) from rfl)
            have a1 := (cell_at hra3 1).trans (show _ = some (Value.int .i64 r2) from rfl)
            have a2 := (cell_at hra3 2).trans (show _ = some (Value.int .i64 r3) from rfl)
            have a3 := (cell_at hra3 3).trans (show _ = some (Value.slice va vn vc) from rfl)
            have al := lt_of_block hra3
            have b0 := (cell_at hrb3 0).trans (show _ = some (Value.int .i64 r1) from rfl)
            have b1 := (cell_at hrb3 1).trans (show _ = some (Value.int .i64 r2) from rfl)
            have b2 := (cell_at hrb3 2).trans (show _ = some (Value.int .i64 r3) from rfl)
            have bl := lt_of_block hrb3
            clear hra3 hrb3 hsm
            have fAC := fA2.trans fC
            have fzC := fzA.trans fAC
            have hnoC := HNO2.out.made fzC HB9.out (5 + F.length)
            have htk := takes_any ob (paint c wr (5 + F.length)) ob F C fv wv (.slice va vn vc) Wv H wC hnoC (by have := HB9.out; have := fzC.size; omega) ⟨y, HCL.out, ownsRow_keeps HOY.out.1 fAC (fun _ _ h => h), fun g hg => paint_new (by have := HOY.out.2 g hg; have := fz.size; have := fA.size; omega)⟩ (by have := HF.out; omega) (by have := HFEW.out; omega)
            have HTK := hid htk
            clear hnoC htk
            go_wp2_with fail
            refine (HTK.out).mono ?_
            rintro x wD ⟨rfl, ⟨c', fv', wv', wx, hno'⟩, kD⟩
            have HNOD := hid hno'
            have HKD := hid (HK9.out.trans ((fzC.mono (fun _ _ h => h.elim)).trans kD))
            have htb : (t : Int) < 4 := by omega
            clear hno' kD a0 a1 a2 a3 b0 b1 b2
            go_wp2_with fail
            go_roundw
            case rel => exact ⟨t + 1, c', _, _, fv', wv', _, by go_num, by omega, by rw [List.length_append, HF.out]; rfl, HNOD.out, (fun l hl => by
              rcases List.mem_append.1 hl with hl | hl
              · exact HC.out l hl
              · rw [List.mem_singleton.1 hl]; exact HFEW.out), HKD.out⟩
            case measure => simp [intOf]; omega
        · obtain rfl : t = 4 := by omega
          have hst := hid (still_any ob c ob F C fv wv Wv wr HNO2.out HB9.out (by have := HF.out; omega) HC.out)
          clear x0 x1 xl y0 y1 yl
          go_wp2_with fail
          refine (hst.out).mono ?_
          rintro x wE ⟨rfl, kE⟩
          have hsz := hid (tlsize_any S tb hgt l wE (HT9.out.keeps kE (fun g hg e => by have := (HT5.out.lives g hg).2; have := HOB.out; have := HSZ7.out; omega)))
          rw [HNL.out] at hsz
          have HKE := hid ((f8.mono (S' := fun q => ob ≤ q) (fun _ _ h => h.elim)).trans (HK9.out.trans kE))
          have hwo := hid (show w.heap.size ≤ ob by have := f5'.size; have := HOB.out; have := HSZ7.out; omega)
          clear kE hst
          go_wp2_with fail
          refine (hsz.out).mono ?_
          rintro x wG ⟨rfl, fG⟩
          go_wp2_with fail
          go_ret
          refine ⟨by simp, (Keeps.refl (fun _ => False) w).trans' (HKE.out.trans (fG.mono (fun _ _ h => h.elim))) (fun q hq e => by have := hwo.out; omega)⟩
end Go.Proofs.YtgikabafaocemaaDoor
