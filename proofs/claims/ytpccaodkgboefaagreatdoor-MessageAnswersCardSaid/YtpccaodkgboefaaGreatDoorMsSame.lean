/-
  The law's own looks at requests and replies: two values of one are the same.
-/
import Derived.Test.YtpccaodkgboefaaGreatDoorMsSameL
import Derived.Test.YtpccaodkgboefaaGreatDoorMMsA
import Derived.Test.YtpccaodkgboefaaGreatDoorMsRepM
import Derived.StillTailTactics
namespace Go.Proofs.YtpccaodkgboefaaGreatDoor
open Go.RowKit

mutual
/-- lists that a program can hold -/
def Fine : Req → Prop
  | .mk _ _ _ _ l e qs => l.length ≤ 9223372036854775807 ∧ e.length ≤ 9223372036854775807 ∧ FineAll qs
def FineAll : List Req → Prop
  | [] => True
  | x :: r => Fine x ∧ FineAll r
end
theorem FineAll.all : ∀ {l : List Req}, FineAll l → ∀ x ∈ l, Fine x
  | y :: r, h, x, hx => by
    rw [FineAll] at h
    rcases List.mem_cons.1 hx with rfl | hx
    · exact h.1
    · exact FineAll.all h.2 x hx
theorem Fine.parts {R : Req} (h : Fine R) : R.list.length ≤ 9223372036854775807 ∧ R.entries.length ≤ 9223372036854775807 ∧ ∀ x ∈ R.asks, Fine x := by
  cases R
  rw [Fine] at h
  exact ⟨h.1, h.2.1, h.2.2.all⟩

set_option maxRecDepth 100000 in
set_option maxHeartbeats 4000000 in
theorem sameRequest_self (n : Nat) : ∀ (R : Req), SizeOf.sizeOf R ≤ n → ∀ (B1 B2 : Nat → Prop) (v1 v2 : Value) (w : World), ReqAt B1 w R v1 → ReqAt B2 w R v2 → Fine R →
    Calls Tryz.prog 11 #[v1, v2] w fun e w' => e = .returned (.bool true) ∧ Fresh w w' := by
  induction n with
  | zero =>
    intro R hR
    exfalso
    cases R
    simp at hR
  | succ n ih =>
    intro R hR B1 B2 v1 v2 w hv1 hv2 hF
    obtain ⟨hf1, hf2, hf3⟩ := hF.parts
    obtain ⟨xv4, xv5, xa6, xc6, rfl, ⟨xh4, -⟩, ⟨xh5, -⟩, xr, xal⟩ := hv1.parts
    have xs4 := xh4.ints_
    obtain ⟨xa4, xc4, rfl, -⟩ := xs4
    have xs5 := xh5.texts
    obtain ⟨xa5, xc5, rfl, -⟩ := xs5
    obtain ⟨yv4, yv5, ya6, yc6, rfl, ⟨yh4, -⟩, ⟨yh5, -⟩, yr, yal⟩ := hv2.parts
    have ys4 := yh4.ints_
    obtain ⟨ya4, yc4, rfl, -⟩ := ys4
    have ys5 := yh5.texts
    obtain ⟨ya5, yc5, rfl, -⟩ := ys5
    have hmem : ∀ u ∈ R.asks, SizeOf.sizeOf u ≤ n := fun u hu => by have := Req.lt_of_mem hu; omega
    have f1 : Fresh w ((w.alloc (.cells #[.int .i64 R.kind, .int .i64 R.a, .int .i64 R.b, .int .i64 R.size, .slice xa4 R.list.length xc4, .slice xa5 R.entries.length xc5, .slice xa6 R.asks.length xc6] 26)).alloc (.cells #[.int .i64 R.kind, .int .i64 R.a, .int .i64 R.b, .int .i64 R.size, .slice ya4 R.list.length yc4, .slice ya5 R.entries.length yc5, .slice ya6 R.asks.length yc6] 26)) := ((Keeps.refl _ _).alloc _).alloc _
    have hb1 := heap_alloc_new w (.cells #[.int .i64 R.kind, .int .i64 R.a, .int .i64 R.b, .int .i64 R.size, .slice xa4 R.list.length xc4, .slice xa5 R.entries.length xc5, .slice xa6 R.asks.length xc6] 26)
    have hb1' := ((Keeps.refl (fun _ => False) (w.alloc (.cells #[.int .i64 R.kind, .int .i64 R.a, .int .i64 R.b, .int .i64 R.size, .slice xa4 R.list.length xc4, .slice xa5 R.entries.length xc5, .slice xa6 R.asks.length xc6] 26))).alloc (.cells #[.int .i64 R.kind, .int .i64 R.a, .int .i64 R.b, .int .i64 R.size, .slice ya4 R.list.length yc4, .slice ya5 R.entries.length yc5, .slice ya6 R.asks.length yc6] 26)).at_ hb1 (fun h => h)
    have hb2 := heap_alloc_new (w.alloc (.cells #[.int .i64 R.kind, .int .i64 R.a, .int .i64 R.b, .int .i64 R.size, .slice xa4 R.list.length xc4, .slice xa5 R.entries.length xc5, .slice xa6 R.asks.length xc6] 26)) (.cells #[.int .i64 R.kind, .int .i64 R.a, .int .i64 R.b, .int .i64 R.size, .slice ya4 R.list.length yc4, .slice ya5 R.entries.length yc5, .slice ya6 R.asks.length yc6] 26)
    obtain ⟨w1, hw1⟩ : ∃ w1, (w.alloc (.cells #[.int .i64 R.kind, .int .i64 R.a, .int .i64 R.b, .int .i64 R.size, .slice xa4 R.list.length xc4, .slice xa5 R.entries.length xc5, .slice xa6 R.asks.length xc6] 26)).alloc (.cells #[.int .i64 R.kind, .int .i64 R.a, .int .i64 R.b, .int .i64 R.size, .slice ya4 R.list.length yc4, .slice ya5 R.entries.length yc5, .slice ya6 R.asks.length yc6] 26) = w1 := ⟨_, rfl⟩
    obtain ⟨g1, hg1⟩ : ∃ g, w.heap.size = g := ⟨_, rfl⟩
    obtain ⟨g2, hg2⟩ : ∃ g, (w.alloc (.cells #[.int .i64 R.kind, .int .i64 R.a, .int .i64 R.b, .int .i64 R.size, .slice xa4 R.list.length xc4, .slice xa5 R.entries.length xc5, .slice xa6 R.asks.length xc6] 26)).heap.size = g := ⟨_, rfl⟩
    rw [hw1, hg1] at hb1'
    rw [hw1, hg2] at hb2
    rw [hw1] at f1
    clear hb1
    have h1i := sameInts_self _ _ R.list w1 (xh4.keeps_if f1 (fun _ _ _ h => h)) (yh4.keeps_if f1 (fun _ _ _ h => h)) hf1
    have h2i := fun w2 (f2 : Fresh w1 w2) => sameTexts_self _ _ R.entries w2 (xh5.keeps_if (f1.trans f2) (fun _ _ _ h => h)) (yh5.keeps_if (f1.trans f2) (fun _ _ _ h => h)) hf2
    have x0 := cell_at hb1' 4
    have x1 := cell_at hb2 4
    simp at x0 x1
    have H1 := hid h1i
    have H2 := hid h2i
    have HX := hid xr
    have HY := hid yr
    have HM := hid hmem
    have HB1 := hid hb1'
    have HB2 := hid hb2
    have HF3 := hid hf3
    clear h1i h2i xr yr hmem hb1' hb2 hf3 hf1 hf2 xh4 xh5 yh4 yh5 hv1 hv2 hF hR
    go_enter Tryz.func11, Tryz.ntmps11
    go_wp2_with fail
    refine H1.out.mono ?_
    rintro e w2 ⟨rfl, f2⟩
    have hc1 := f2.at_ HB1.out (fun h => h)
    have hc2 := f2.at_ HB2.out (fun h => h)
    have z0 := cell_at hc1 5
    have z1 := cell_at hc2 5
    simp at z0 z1
    clear hc1 hc2 x0 x1
    go_wp2_with fail
    refine (H2.out _ f2).mono ?_
    rintro e w3 ⟨rfl, f3⟩
    have F3 := f2.trans f3
    have hc1 := F3.at_ HB1.out (fun h => h)
    have hc2 := F3.at_ HB2.out (fun h => h)
    have p0 := cell_at hc1 0
    have q0 := cell_at hc2 0
    have p1 := cell_at hc1 1
    have q1 := cell_at hc2 1
    have p2 := cell_at hc1 2
    have q2 := cell_at hc2 2
    have p3 := cell_at hc1 3
    have q3 := cell_at hc2 3
    have p4 := cell_at hc1 4
    have q4 := cell_at hc2 4
    have p5 := cell_at hc1 5
    have q5 := cell_at hc2 5
    have p6 := cell_at hc1 6
    have q6 := cell_at hc2 6
    simp at p0 q0 p1 q1 p2 q2 p3 q3 p4 q4 p5 q5 p6 q6
    have e0 : (R.kind != R.kind) = false := by simp
    have e1 : (R.a != R.a) = false := by simp
    have e2 : (R.b != R.b) = false := by simp
    have e3 : (R.size != R.size) = false := by simp
    have eq : ((R.asks.length : Int) != (R.asks.length : Int)) = false := by simp
    clear z0 z1 f2 f3 HB1 HB2
    go_wp2_with fail
    clear eq e0 e1 e2 e3 p0 q0 p1 q1 p2 q2 p3 q3 p4 q4 p5 q5 hc1 hc2
    have hg1w : g1 < w3.heap.size := World.block_lt_of_cell? w3 _ p6
    have hg2w : g2 < w3.heap.size := World.block_lt_of_cell? w3 _ q6
    go_loopw [7] (fun i wr => ∃ m : Nat, i = .int .i64 (m : Int) ∧ m ≤ R.asks.length ∧ Fresh w3 wr) (fun i _ => R.asks.length - (intOf i).toNat)
    case atStart => exact ⟨0, rfl, by omega, Keeps.refl _ _⟩
    case round =>
      obtain ⟨m, rfl, hm, fr⟩ := hrel
      have p6 := (fr.cell (p := ⟨g1, 6, none⟩) hg1w (fun h => h)).trans p6
      have q6 := (fr.cell (p := ⟨g2, 6, none⟩) hg2w (fun h => h)).trans q6
      by_cases hlt : m < R.asks.length
      · obtain ⟨u, hu⟩ : ∃ u, R.asks[m]? = some u := ⟨R.asks[m], by simp⟩
        have FW := f1.trans (F3.trans fr)
        have hr1 := (ReqsAt.keeps FW (fun _ h => h.elim) _ _ _ HX.out).get hu
        have hr2 := (ReqsAt.keeps FW (fun _ h => h.elim) _ _ _ HY.out).get hu
        obtain ⟨bb, off, c0, c1, c2, c3, c4, c5, c6, rfl, -, hb1, y0, y1, y2, y3, y4, y5, y6, hxa⟩ := hr1
        obtain ⟨bb', off', d0, d1, d2, d3, d4, d5, d6, rfl, -, hb2, z0, z1, z2, z3, z4, z5, z6, hya⟩ := hr2
        rw [Nat.zero_add] at y0 z0 y1 z1 y2 z2 y3 z3 y4 z4 y5 z5 y6 z6
        obtain ⟨lx, ex, ax, capx, he, ⟨hl1, -⟩, ⟨hl2, -⟩, -⟩ := hxa.parts
        obtain ⟨alx, clx, rfl, -⟩ := hl1.ints_
        obtain ⟨aex, cex, rfl, -⟩ := hl2.texts
        obtain ⟨lx', ex', ax', capx', he', ⟨hl1', -⟩, ⟨hl2', -⟩, -⟩ := hya.parts
        obtain ⟨alx', clx', rfl, -⟩ := hl1'.ints_
        obtain ⟨aex', cex', rfl, -⟩ := hl2'.texts
        clear hl1 hl2 hl1' hl2'
        simp only [Value.agg.injEq, Array.mk.injEq, List.cons.injEq, and_true] at he he'
        obtain ⟨rfl, rfl, rfl, rfl, rfl, rfl, rfl⟩ := he
        obtain ⟨rfl, rfl, rfl, rfl, rfl, rfl, rfl⟩ := he'
        have hcall := fun W (hW : Fresh wr W) => ih u (HM.out u (List.mem_of_getElem? hu)) _ _ _ _ W (hxa.fresh hW) (hya.fresh hW) (HF3.out u (List.mem_of_getElem? hu))
        have HC := hid hcall
        clear hxa hya hu hcall
        have hm0 : (0 : Int) ≤ (m : Int) := by omega
        have hm1 : (m : Int) < (R.asks.length : Int) := by omega
        go_wp2_with fail
        go_still_tail 10, (by kernel_rfl)
        change wpList _ _ _ _ _ wr.drew
        have hd : Fresh wr wr.drew := (Keeps.refl _ _).drewN 1
        go_wp2_with fail
        refine (HC.out _ hd).mono ?_
        rintro e w5 ⟨rfl, f5⟩
        go_wp2_with fail
        go_roundw
        case rel => exact ⟨m + 1, by go_num, by omega, fr.trans (hd.trans f5)⟩
        case measure => simp [intOf]; omega
      · obtain rfl : m = R.asks.length := by omega
        go_wp2_with fail
        go_ret
        exact ⟨rfl, f1.trans (F3.trans fr)⟩

mutual
def FineR : Rep → Prop
  | .mk _ _ _ _ _ h e qs => h.length ≤ 9223372036854775807 ∧ e.length ≤ 9223372036854775807 ∧ FineRs qs
def FineRs : List Rep → Prop
  | [] => True
  | x :: r => FineR x ∧ FineRs r
end
theorem FineRs.all : ∀ {l : List Rep}, FineRs l → ∀ x ∈ l, FineR x
  | y :: r, h, x, hx => by
    rw [FineRs] at h
    rcases List.mem_cons.1 hx with rfl | hx
    · exact h.1
    · exact FineRs.all h.2 x hx
theorem FineR.parts {R : Rep} (h : FineR R) : R.hashes.length ≤ 9223372036854775807 ∧ R.entries.length ≤ 9223372036854775807 ∧ ∀ x ∈ R.replies, FineR x := by
  cases R
  rw [FineR] at h
  exact ⟨h.1, h.2.1, h.2.2.all⟩
theorem Rep.lt_of_mem {R x : Rep} (h : x ∈ R.replies) : SizeOf.sizeOf x < SizeOf.sizeOf R := by
  cases R with
  | mk k a b s l e h qs =>
    have := List.sizeOf_lt_of_mem h
    simp only [Rep.replies] at this
    simp only [Rep.mk.sizeOf_spec]
    omega

set_option maxRecDepth 100000 in
set_option maxHeartbeats 4000000 in
theorem sameReply_self (n : Nat) : ∀ (R : Rep), SizeOf.sizeOf R ≤ n → ∀ (B1 B2 : Nat → Prop) (v1 v2 : Value) (w : World), RepAt B1 w R v1 → RepAt B2 w R v2 → FineR R →
    Calls Tryz.prog 21 #[v1, v2] w fun e w' => e = .returned (.bool true) ∧ Fresh w w' := by
  induction n with
  | zero =>
    intro R hR
    exfalso
    cases R
    simp at hR
  | succ n ih =>
    intro R hR B1 B2 v1 v2 w hv1 hv2 hF
    obtain ⟨hf1, hf2, hf3⟩ := hF.parts
    obtain ⟨xv5, xv6, xa7, xc7, rfl, ⟨xh5, -⟩, ⟨xh6, -⟩, xr, xal⟩ := hv1.parts
    have xs5 := xh5.texts
    obtain ⟨xa5, xc5, rfl, -⟩ := xs5
    have xs6 := xh6.texts
    obtain ⟨xa6, xc6, rfl, -⟩ := xs6
    obtain ⟨yv5, yv6, ya7, yc7, rfl, ⟨yh5, -⟩, ⟨yh6, -⟩, yr, yal⟩ := hv2.parts
    have ys5 := yh5.texts
    obtain ⟨ya5, yc5, rfl, -⟩ := ys5
    have ys6 := yh6.texts
    obtain ⟨ya6, yc6, rfl, -⟩ := ys6
    have hmem : ∀ u ∈ R.replies, SizeOf.sizeOf u ≤ n := fun u hu => by have := Rep.lt_of_mem hu; omega
    have f1 : Fresh w ((w.alloc (.cells #[.int .i64 R.status, .int .i64 R.size, .int .i64 R.a, .int .i64 R.b, .string (str R.root), .slice xa5 R.hashes.length xc5, .slice xa6 R.entries.length xc6, .slice xa7 R.replies.length xc7] 48)).alloc (.cells #[.int .i64 R.status, .int .i64 R.size, .int .i64 R.a, .int .i64 R.b, .string (str R.root), .slice ya5 R.hashes.length yc5, .slice ya6 R.entries.length yc6, .slice ya7 R.replies.length yc7] 48)) := ((Keeps.refl _ _).alloc _).alloc _
    have hb1 := heap_alloc_new w (.cells #[.int .i64 R.status, .int .i64 R.size, .int .i64 R.a, .int .i64 R.b, .string (str R.root), .slice xa5 R.hashes.length xc5, .slice xa6 R.entries.length xc6, .slice xa7 R.replies.length xc7] 48)
    have hb1' := ((Keeps.refl (fun _ => False) (w.alloc (.cells #[.int .i64 R.status, .int .i64 R.size, .int .i64 R.a, .int .i64 R.b, .string (str R.root), .slice xa5 R.hashes.length xc5, .slice xa6 R.entries.length xc6, .slice xa7 R.replies.length xc7] 48))).alloc (.cells #[.int .i64 R.status, .int .i64 R.size, .int .i64 R.a, .int .i64 R.b, .string (str R.root), .slice ya5 R.hashes.length yc5, .slice ya6 R.entries.length yc6, .slice ya7 R.replies.length yc7] 48)).at_ hb1 (fun h => h)
    have hb2 := heap_alloc_new (w.alloc (.cells #[.int .i64 R.status, .int .i64 R.size, .int .i64 R.a, .int .i64 R.b, .string (str R.root), .slice xa5 R.hashes.length xc5, .slice xa6 R.entries.length xc6, .slice xa7 R.replies.length xc7] 48)) (.cells #[.int .i64 R.status, .int .i64 R.size, .int .i64 R.a, .int .i64 R.b, .string (str R.root), .slice ya5 R.hashes.length yc5, .slice ya6 R.entries.length yc6, .slice ya7 R.replies.length yc7] 48)
    obtain ⟨w1, hw1⟩ : ∃ w1, (w.alloc (.cells #[.int .i64 R.status, .int .i64 R.size, .int .i64 R.a, .int .i64 R.b, .string (str R.root), .slice xa5 R.hashes.length xc5, .slice xa6 R.entries.length xc6, .slice xa7 R.replies.length xc7] 48)).alloc (.cells #[.int .i64 R.status, .int .i64 R.size, .int .i64 R.a, .int .i64 R.b, .string (str R.root), .slice ya5 R.hashes.length yc5, .slice ya6 R.entries.length yc6, .slice ya7 R.replies.length yc7] 48) = w1 := ⟨_, rfl⟩
    obtain ⟨g1, hg1⟩ : ∃ g, w.heap.size = g := ⟨_, rfl⟩
    obtain ⟨g2, hg2⟩ : ∃ g, (w.alloc (.cells #[.int .i64 R.status, .int .i64 R.size, .int .i64 R.a, .int .i64 R.b, .string (str R.root), .slice xa5 R.hashes.length xc5, .slice xa6 R.entries.length xc6, .slice xa7 R.replies.length xc7] 48)).heap.size = g := ⟨_, rfl⟩
    rw [hw1, hg1] at hb1'
    rw [hw1, hg2] at hb2
    rw [hw1] at f1
    clear hb1
    have h1i := sameTexts_self _ _ R.hashes w1 (xh5.keeps_if f1 (fun _ _ _ h => h)) (yh5.keeps_if f1 (fun _ _ _ h => h)) hf1
    have h2i := fun w2 (f2 : Fresh w1 w2) => sameTexts_self _ _ R.entries w2 (xh6.keeps_if (f1.trans f2) (fun _ _ _ h => h)) (yh6.keeps_if (f1.trans f2) (fun _ _ _ h => h)) hf2
    have x0 := cell_at hb1' 5
    have x1 := cell_at hb2 5
    simp at x0 x1
    have H1 := hid h1i
    have H2 := hid h2i
    have HX := hid xr
    have HY := hid yr
    have HM := hid hmem
    have HB1 := hid hb1'
    have HB2 := hid hb2
    have HF3 := hid hf3
    clear h1i h2i xr yr hmem hb1' hb2 hf3 hf1 hf2 xh5 xh6 yh5 yh6 hv1 hv2 hF hR
    go_enter Tryz.func21, Tryz.ntmps21
    go_wp2_with fail
    refine H1.out.mono ?_
    rintro e w2 ⟨rfl, f2⟩
    have hc1 := f2.at_ HB1.out (fun h => h)
    have hc2 := f2.at_ HB2.out (fun h => h)
    have z0 := cell_at hc1 6
    have z1 := cell_at hc2 6
    simp at z0 z1
    clear hc1 hc2 x0 x1
    go_wp2_with fail
    refine (H2.out _ f2).mono ?_
    rintro e w3 ⟨rfl, f3⟩
    have F3 := f2.trans f3
    have hc1 := F3.at_ HB1.out (fun h => h)
    have hc2 := F3.at_ HB2.out (fun h => h)
    have p0 := cell_at hc1 0
    have q0 := cell_at hc2 0
    have p1 := cell_at hc1 1
    have q1 := cell_at hc2 1
    have p2 := cell_at hc1 2
    have q2 := cell_at hc2 2
    have p3 := cell_at hc1 3
    have q3 := cell_at hc2 3
    have p4 := cell_at hc1 4
    have q4 := cell_at hc2 4
    have p5 := cell_at hc1 5
    have q5 := cell_at hc2 5
    have p6 := cell_at hc1 6
    have q6 := cell_at hc2 6
    have p7 := cell_at hc1 7
    have q7 := cell_at hc2 7
    simp at p0 q0 p1 q1 p2 q2 p3 q3 p4 q4 p5 q5 p6 q6 p7 q7
    have e0 : (R.status != R.status) = false := by simp
    have e1 : (R.size != R.size) = false := by simp
    have e2 : (R.a != R.a) = false := by simp
    have e3 : (R.b != R.b) = false := by simp
    have e4 : ((str R.root).toList == (str R.root).toList) = true := by simp
    have eq : ((R.replies.length : Int) != (R.replies.length : Int)) = false := by simp
    clear z0 z1 f2 f3 HB1 HB2
    go_wp2_with fail
    clear eq e0 e1 e2 e3 e4 p0 q0 p1 q1 p2 q2 p3 q3 p4 q4 p5 q5 p6 q6 hc1 hc2
    have hg1w : g1 < w3.heap.size := World.block_lt_of_cell? w3 _ p7
    have hg2w : g2 < w3.heap.size := World.block_lt_of_cell? w3 _ q7
    go_loopw [7] (fun i wr => ∃ m : Nat, i = .int .i64 (m : Int) ∧ m ≤ R.replies.length ∧ Fresh w3 wr) (fun i _ => R.replies.length - (intOf i).toNat)
    case atStart => exact ⟨0, rfl, by omega, Keeps.refl _ _⟩
    case round =>
      obtain ⟨m, rfl, hm, fr⟩ := hrel
      have p7 := (fr.cell (p := ⟨g1, 7, none⟩) hg1w (fun h => h)).trans p7
      have q7 := (fr.cell (p := ⟨g2, 7, none⟩) hg2w (fun h => h)).trans q7
      by_cases hlt : m < R.replies.length
      · obtain ⟨u, hu⟩ : ∃ u, R.replies[m]? = some u := ⟨R.replies[m], by simp⟩
        have FW := f1.trans (F3.trans fr)
        have hr1 := (RepsAt.keeps FW (fun _ h => h.elim) _ _ _ HX.out).get hu
        have hr2 := (RepsAt.keeps FW (fun _ h => h.elim) _ _ _ HY.out).get hu
        obtain ⟨bb, off, c0, c1, c2, c3, c4, c5, c6, c7, rfl, -, hb1, y0, y1, y2, y3, y4, y5, y6, y7, hxa⟩ := hr1
        obtain ⟨bb', off', d0, d1, d2, d3, d4, d5, d6, d7, rfl, -, hb2, z0, z1, z2, z3, z4, z5, z6, z7, hya⟩ := hr2
        rw [Nat.zero_add] at y0 z0 y1 z1 y2 z2 y3 z3 y4 z4 y5 z5 y6 z6 y7 z7
        obtain ⟨lx, ex, ax, capx, he, ⟨hl1, -⟩, ⟨hl2, -⟩, -⟩ := hxa.parts
        obtain ⟨alx, clx, rfl, -⟩ := hl1.texts
        obtain ⟨aex, cex, rfl, -⟩ := hl2.texts
        obtain ⟨lx', ex', ax', capx', he', ⟨hl1', -⟩, ⟨hl2', -⟩, -⟩ := hya.parts
        obtain ⟨alx', clx', rfl, -⟩ := hl1'.texts
        obtain ⟨aex', cex', rfl, -⟩ := hl2'.texts
        clear hl1 hl2 hl1' hl2'
        simp only [Value.agg.injEq, Array.mk.injEq, List.cons.injEq, and_true] at he he'
        obtain ⟨rfl, rfl, rfl, rfl, rfl, rfl, rfl, rfl⟩ := he
        obtain ⟨rfl, rfl, rfl, rfl, rfl, rfl, rfl, rfl⟩ := he'
        have hcall := fun W (hW : Fresh wr W) => ih u (HM.out u (List.mem_of_getElem? hu)) _ _ _ _ W (hxa.fresh hW) (hya.fresh hW) (HF3.out u (List.mem_of_getElem? hu))
        have HC := hid hcall
        clear hxa hya hu hcall
        have hm0 : (0 : Int) ≤ (m : Int) := by omega
        have hm1 : (m : Int) < (R.replies.length : Int) := by omega
        go_wp2_with fail
        go_still_tail 10, (by kernel_rfl)
        change wpList _ _ _ _ _ wr.drew
        have hd : Fresh wr wr.drew := (Keeps.refl _ _).drewN 1
        go_wp2_with fail
        refine (HC.out _ hd).mono ?_
        rintro e w5 ⟨rfl, f5⟩
        go_wp2_with fail
        go_roundw
        case rel => exact ⟨m + 1, by go_num, by omega, fr.trans (hd.trans f5)⟩
        case measure => simp [intOf]; omega
      · obtain rfl : m = R.replies.length := by omega
        go_wp2_with fail
        go_ret
        exact ⟨rfl, f1.trans (F3.trans fr)⟩
end Go.Proofs.YtpccaodkgboefaaGreatDoor
