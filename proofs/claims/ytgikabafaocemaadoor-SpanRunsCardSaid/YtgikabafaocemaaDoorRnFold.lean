/-
  The program's shape: fold.
-/
import Derived.Test.YtgikabafaocemaaDoorRnCut
import Derived.Test.YtgikabafaocemaaDoorRnPush
import Derived.Test.YtgikabafaocemaaDoorMSpA
import Derived.Test.YtgikabafaocemaaDoorMSpB
namespace Go.Proofs.YtgikabafaocemaaDoor
open Go.RowKit
attribute [local go_sem] run_store_func

theorem Tryd.infoKnown : (Tryd.prog.info? 132).map (fun i => (i.zero, i.size, i.bytes)) = some (some (.agg #[.int .i64 0, .int .i64 0, .string ⟨#[]⟩]), 3, 32) := by kernel_rfl

/-- a list of what is known: spans with their hashes -/
def KnownAt (V : Nat × Nat → List UInt8) (w : World) (v : Value) (l : List (Nat × Nat)) : Prop := w.ownsRow 0 132 3 v l.length (pcells V l)
theorem KnownAt.fresh {V : Nat × Nat → List UInt8} {w w' : World} {v : Value} {l : List (Nat × Nat)} (h : KnownAt V w v l) (f : Fresh w w') : KnownAt V w' v l := ownsRow_keeps h f (fun _ _ h => h)

set_option maxRecDepth 100000 in
set_option maxHeartbeats 1000000 in
theorem foldIs_any (x y : Nat × Nat) (h : List UInt8) (p : Nat) (w : World) (hp : w.heap[p]? = some (spanC y.1 y.2)) :
    Calls Tryd.prog 111 #[.agg #[.int .i64 (x.1 : Int), .int .i64 (x.2 : Int), .string (str h)], .pointer (some ⟨p, 0, none⟩)] w fun e w' => e = .returned (.bool (decide (x = y))) ∧ Fresh w w' := by
  obtain ⟨x1, x2⟩ := x
  obtain ⟨y1, y2⟩ := y
  dsimp only at hp ⊢
  unfold spanC at hp
  have f0 : Fresh w (w.alloc (.cells #[.int .i64 (x1 : Int), .int .i64 (x2 : Int), .string (str h)] 132)) := (Keeps.refl _ _).alloc _
  have hp1 := f0.at_ hp (fun h => h)
  have y0 := cell_at hp1 0
  have y1' := cell_at hp1 1
  simp at y0 y1'
  have HF := hid f0
  clear f0 hp hp1
  by_cases h1 : x1 = y1
  · subst h1
    by_cases h2 : x2 = y2
    · subst h2
      go_enter Tryd.func111, Tryd.ntmps111
      go_wp2_with fail
      go_ret
      exact ⟨by simp, HF.out⟩
    · have hd : Hid (decide ((x1, x2) = (x1, y2)) = false) := by simp [Hid, h2]
      go_enter Tryd.func111, Tryd.ntmps111
      go_wp2_with fail
      go_ret
      exact ⟨by rw [hd.out]; rfl, HF.out⟩
  · have hd : Hid (decide ((x1, x2) = (y1, y2)) = false) := by simp [Hid, h1]
    go_enter Tryd.func111, Tryd.ntmps111
    go_wp2_with fail
    go_ret
    exact ⟨by rw [hd.out]; rfl, HF.out⟩

set_option maxRecDepth 100000 in
set_option maxHeartbeats 2000000 in
theorem knownIndex_any (V : Nat × Nat → List UInt8) (v : Value) (l : List (Nat × Nat)) (y : Nat × Nat) (p : Nat) (w : World) (hl : KnownAt V w v l) (hn : l.length ≤ 1000000) (hp : w.heap[p]? = some (spanC y.1 y.2)) (r : Int) (hr : (l = [y] ∧ r = 0) ∨ (y ∉ l ∧ r = -1)) :
    Calls Tryd.prog 110 #[v, .func (.func 111) #[] #[.pointer (some ⟨p, 0, none⟩)]] w fun x w' => x = .returned (.int .i64 r) ∧ Fresh w w' := by
  obtain ⟨ao, cap, rfl⟩ := ownsRow_slice hl
  have HL := hid hl
  have HR := hid hr
  have HP := hid hp
  have hni : (l.length : Int) ≤ 1000000 := by omega
  clear hl hr hp hn
  go_enter Tryd.func110, Tryd.ntmps110
  go_wp2_with fail
  go_loopw [8] (fun i wr => ∃ k : Nat, i = .int .i64 (k : Int) ∧ k ≤ l.length ∧ (l = [y] → k = 0) ∧ Fresh w wr) (fun i _ => l.length - (intOf i).toNat)
  case atStart => exact ⟨0, rfl, Nat.zero_le _, fun _ => rfl, Keeps.refl _ _⟩
  case round =>
    obtain ⟨k, rfl, hk, hk0, fr⟩ := hrel
    have HK := hid hk0
    clear hk0
    by_cases hlt : k < l.length
    · obtain ⟨x, hx⟩ : ∃ x, l[k]? = some x := ⟨l[k], by simp [hlt]⟩
      obtain ⟨g, rfl, hcells⟩ := rowCellsB (HL.out.fresh fr) (by omega)
      have hc := pcells_at V l k _ hx
      obtain ⟨gl, x0⟩ := hcells _ _ hc.1
      have x1 := (hcells _ _ hc.2.1).2
      have x2 := (hcells _ _ hc.2.2).2
      (try simp only at x0 x1 x2)
      have hki : (k : Int) < (l.length : Int) := by omega
      have hkz : (0 : Int) ≤ (k : Int) := by omega
      have hf := foldIs_any x y (V x) p wr (fr.at_ HP.out (fun h => h))
      by_cases he : x = y
      · have h1 : l = [y] := by
          rcases HR.out with h | h
          · exact h.1
          · exact absurd (he ▸ List.mem_of_getElem? hx) h.1
        have hk := HK.out h1
        subst hk
        have hr0 : r = 0 := by
          rcases HR.out with h | h
          · exact h.2
          · exact absurd (by rw [h1]; simp) h.1
        rw [decide_eq_true he] at hf
        have HF := hid hf
        clear hf hc hcells hx he h1 HR HK
        subst hr0
        go_wp2_with fail
        refine HF.out.mono ?_
        rintro e w1 ⟨rfl, f1⟩
        go_wp2_with fail
        go_ret
        exact ⟨rfl, fr.trans f1⟩
      · rw [decide_eq_false he] at hf
        have HF := hid hf
        have HX := hid hx
        have hlt' := hid hlt
        clear hf hc hcells hx hlt hk
        go_wp2_with fail
        refine HF.out.mono ?_
        rintro e w1 ⟨rfl, f1⟩
        go_wp2_with fail
        go_roundw
        case rel => exact ⟨k + 1, by simp, hlt'.out, fun h => by have := HK.out h; subst this; subst h; exact absurd (by simpa using HX.out.symm) he, fr.trans f1⟩
        case measure => have := hlt'.out; simp [intOf]; omega
    · have hke : Hid (k = l.length) := by unfold Hid; omega
      have hr0 : r = -1 := by
        rcases HR.out with h | h
        · have := HK.out h.1; have := hke.out; rw [h.1] at this; simp at this; omega
        · exact h.2
      subst hr0
      go_wp2_with fail
      go_ret
      exact ⟨rfl, fr⟩

def OkN (rb s t : Nat) : Prop := t ≤ rb → powB (t - s) = true
theorem OkN.left {rb s t : Nat} : OkN rb s (s + splitN (t - s)) := fun _ => by rw [show s + splitN (t - s) - s = splitN (t - s) by omega]; exact splitN_powB _

set_option maxRecDepth 100000 in
set_option maxHeartbeats 1000000 in
theorem fold_one (V : Nat × Nat → List UInt8) (s t : Nat) (v : Value) (w : World) (h6 : KnownAt V w v [(s, t)]) :
    Calls Tryd.prog 76 #[spanV (s, t), v] w fun e w' => e = .returned (.tuple #[.string (str (V (s, t))), .bool true]) ∧ Fresh w w' := by
  have f0 : Fresh w (w.alloc (spanC s t)) := (Keeps.refl _ _).alloc _
  have hb := heap_alloc_new w (spanC s t)
  have hix := hid (fun W (f : Fresh (w.alloc (spanC s t)) W) => knownIndex_any V v [(s, t)] (s, t) w.heap.size W (h6.fresh (f0.trans f)) (by simp) (f.at_ hb (fun h => h)) 0 (.inl ⟨rfl, rfl⟩))
  obtain ⟨ao, cap, rfl⟩ := ownsRow_slice h6
  have hn1 : [(s, t)].length = 1 := rfl
  rw [hn1] at hix ⊢
  have h7 : w.ownsRow 0 132 3 (.slice ao 1 cap) 1 (pcells V [(s, t)]) := h6
  have H7 := hid h7
  unfold spanC at *
  unfold spanV
  clear h6 hb h7 hn1
  go_enter Tryd.func76, Tryd.ntmps76
  go_wp2_with fail
  refine (hix.out _ (Keeps.refl _ _)).mono ?_
  rintro x w1 ⟨rfl, fa⟩
  have f1 := f0.trans fa
  obtain ⟨g, rfl, hcells⟩ := rowCellsB (ownsRow_keeps H7.out f1 (fun _ _ h => h)) (by omega)
  have x2 := (hcells _ _ (pcells_at V [(s, t)] 0 _ rfl).2.2).2
  have gl := (hcells _ _ (pcells_at V [(s, t)] 0 _ rfl).1).1
  (try simp only [Nat.zero_mul, Nat.zero_add] at x2)
  clear hcells hix
  go_wp2_with fail
  go_ret2
  exact ⟨rfl, f1⟩

set_option maxRecDepth 100000 in
set_option maxHeartbeats 8000000 in
theorem fold_any (V : Nat × Nat → List UInt8) (p rb : Nat) (hrb : rb < p) (h32 : ∀ x, (V x).length = 32)
    (hV : ∀ s t, s < t → 2 ≤ t - s → s < p → ¬ (t ≤ p ∧ powB (t - s) = true) → OkN rb s t → V (s, t) = nodeH (V (s, s + splitN (t - s))) (V (s + splitN (t - s), t))) :
    ∀ (f s t : Nat) (v : Value) (w : World), s < t → t - s ≤ 2 ^ f → t ≤ 2199023255552 → OkN rb s t → (dF f p s t).length ≤ 1000000 → KnownAt V w v (dF f p s t) → Dig w →
      Calls Tryd.prog 76 #[spanV (s, t), v] w fun e w' => e = .returned (.tuple #[.string (str (V (s, t))), .bool true]) ∧ Fresh w w' := by
  intro f
  induction f with
  | zero =>
    intro s t v w h1 h2 h3 h4 h5 h6 h7
    rcases dF_step 0 p s t h1 h2 with e | ⟨g, e0, -⟩
    · exact fold_one V s t v w (by rw [e] at h6; exact h6)
    · omega
  | succ f ih =>
    intro s t v w h1 h2 h3 h4 h5 h6 h7
    obtain ⟨i0, hi, hz0, hz1, hz2⟩ := info_parts Tryd.infoKnown
    have f0 : Fresh w (w.alloc (spanC s t)) := (Keeps.refl _ _).alloc _
    have hb := heap_alloc_new w (spanC s t)
    rcases dF_step (f + 1) p s t h1 h2 with e | ⟨g, e0, g1, g2, g3, g4, g5, e⟩
    · exact fold_one V s t v w (by rw [e] at h6; exact h6)
    · obtain rfl : f = g := by omega
      obtain ⟨m1, m2, m3⟩ := splitN_facts (n := t - s) g1
      have hval := hV s t h1 g1 g2 g3 h4
      have okL : OkN rb s (s + splitN (t - s)) := OkN.left
      have okR : OkN rb (s + splitN (t - s)) t := fun z => absurd ⟨by omega, h4 z⟩ g3
      have hhv := fun W => halves_any s t (by omega) h3 W
      obtain ⟨M, hM⟩ : ∃ M, s + splitN (t - s) = M := ⟨_, rfl⟩
      rw [hM] at hval okL okR hhv e g4 g5
      have q1 : s < M := by omega
      have q2 : M < t := by omega
      obtain ⟨L, hL⟩ : ∃ L, dF f p s M = L := ⟨_, rfl⟩
      obtain ⟨R, hR⟩ : ∃ R, dF f p M t = R := ⟨_, rfl⟩
      have hLm := dF_mem f p s M q1 g4
      have hRm := dF_mem f p M t q2 g5
      have hLs := dF_some f p s M q1 g4
      have ihL := fun vl W => ih s M vl W q1 g4 (by omega) okL
      have ihR := fun vr W => ih M t vr W q2 g5 h3 okR
      rw [e, hL, hR] at h5 h6
      rw [hL] at hLm hLs ihL
      rw [hR] at hRm ihR
      have hno : (s, t) ∉ L ++ R := fun hm => by
        rcases List.mem_append.1 hm with z | z
        · have := hLm _ z; omega
        · have := hRm _ z; omega
      have hix := fun W (f : Fresh (w.alloc (spanC s t)) W) => knownIndex_any V v (L ++ R) (s, t) w.heap.size W (h6.fresh (f0.trans f)) h5 (f.at_ hb (fun h => h)) (-1) (.inr ⟨hno, rfl⟩)
      obtain ⟨ao, cap, rfl⟩ := ownsRow_slice h6
      obtain ⟨LN, hLN⟩ : ∃ LN, (L ++ R).length = LN := ⟨_, rfl⟩
      rw [hLN] at h5 hix h6 ⊢
      have hln1 : 1 ≤ LN := by rw [← hLN, List.length_append]; omega
      have hln0 : (LN : Int) ≠ 0 := by omega
      have hln0' : ((LN : Int) == 0) = false := by simp; omega
      have hts : (1 : Int) < (t : Int) - (s : Int) := by omega
      have hts0 : ((t : Int) - (s : Int) == 1) = false := by simp; omega
      have hti : (t : Int) ≤ 2199023255552 := by omega
      have HLN := hid hLN
      have HIX := hid hix
      have HHV := hid hhv
      have HIL := hid ihL
      have HIR := hid ihR
      have HLM := hid hLm
      have HRM := hid hRm
      have HVAL := hid hval
      have HM := hid hM
      have H6 := hid h6
      have H7 := hid h7
      have hb0 := hb
      obtain ⟨pw, hpw⟩ : ∃ pw, w.heap.size = pw := ⟨_, rfl⟩
      rw [hpw] at hb0 hb HIX
      unfold spanC at f0 hb hb0 HIX
      have HB := hid hb0
      have HPW := hid hpw
      clear hix hhv ihL ihR hLm hRm hval hM h6 h7 hno e hL hR g3 g4 g5 okL okR hLs h2 h4 m1 m2 m3 g1 g2 hb hb0 hln1
      unfold spanV at *
      go_enter Tryd.func76, Tryd.ntmps76
      go_wp2_with fail
      refine (HIX.out _ (Keeps.refl _ _)).mono ?_
      rintro x w1 ⟨rfl, fa⟩
      have hb1 := fa.at_ HB.out (fun h => h)
      have y0 := cell_at hb1 0
      have y1 := cell_at hb1 1
      simp at y0 y1
      have f1 := f0.trans fa
      clear fa HIX
      go_wp2_with fail
      refine (HHV.out _).mono ?_
      rintro x w2 ⟨rfl, fa⟩
      have f2 := f1.trans fa
      clear fa HHV y0 y1 hb1 f1
      go_wp2_with fail
      have hb7 := ((Keeps.refl (fun _ => False) _).alloc (.cells #[.int .i64 (M : Int), .int .i64 (t : Int)] 24)).at_ (heap_alloc_new w2 (.cells #[.int .i64 (s : Int), .int .i64 (M : Int)] 24)) (fun h => h)
      have hb8 := heap_alloc_new (w2.alloc (.cells #[.int .i64 (s : Int), .int .i64 (M : Int)] 24)) (.cells #[.int .i64 (M : Int), .int .i64 (t : Int)] 24)
      rw [World.size_alloc] at hb8
      have f3 := (f2.alloc (.cells #[.int .i64 (s : Int), .int .i64 (M : Int)] 24)).alloc (.cells #[.int .i64 (M : Int), .int .i64 (t : Int)] 24)
      generalize (w2.alloc (.cells #[.int .i64 (s : Int), .int .i64 (M : Int)] 24)).alloc (.cells #[.int .i64 (M : Int), .int .i64 (t : Int)] 24) = W at hb7 hb8 f3 ⊢
      obtain ⟨p8, hp8⟩ : ∃ p8, w2.heap.size + 1 = p8 := ⟨_, rfl⟩
      obtain ⟨p7, hp7⟩ : ∃ p7, w2.heap.size = p7 := ⟨_, rfl⟩
      rw [hp8] at hb8 ⊢
      rw [hp7] at hb7 ⊢
      have HB7 := hid hb7
      have HB8 := hid hb8
      have HP := hid (show p7 < W.heap.size ∧ p8 < W.heap.size from ⟨lt_of_block hb7, lt_of_block hb8⟩)
      clear hb7 hb8 f2 hp7 hp8 hln0' hln0 hts hts0 f0 hpw
      go_loopw [9, 10, 48] (fun vl vr i wr => ∃ (k : Nat) (A B : List (Nat × Nat)), i = .int .i64 (k : Int) ∧ k ≤ LN ∧ A = L.take k ∧ B = R.take (k - L.length) ∧ KnownAt V wr vl A ∧ KnownAt V wr vr B ∧ (∀ g, vl.ownBlock = some g → W.heap.size ≤ g) ∧ (∀ g, vr.ownBlock = some g → W.heap.size ≤ g) ∧ (∀ g, vl.ownBlock = some g → vr.ownBlock ≠ some g) ∧ Fresh W wr) (fun _ _ i _ => LN - (intOf i).toNat)
      case atStart => exact ⟨0, [], [], rfl, Nat.zero_le _, rfl, by simp, ⟨rfl, .inl ⟨rfl, rfl⟩⟩, ⟨rfl, .inl ⟨rfl, rfl⟩⟩, (fun g hg => by simp [Value.ownBlock] at hg), (fun g hg => by simp [Value.ownBlock] at hg), (fun g hg => by simp [Value.ownBlock] at hg), Keeps.refl _ _⟩
      case round =>
        obtain ⟨k, A, B, rfl, hk, hA, hB, hl, hr, hol, hor, hne, f⟩ := hrel
        have f4 := f3.trans f
        have HL := hid hl
        have HR := hid hr
        have HOL := hid hol
        have HOR := hid hor
        have HNE := hid hne
        have HA' := hid hA
        have HB' := hid hB
        have hd7 := f.at_ HB7.out (fun h => h)
        have hd8 := f.at_ HB8.out (fun h => h)
        obtain ⟨aol, cpl, rfl⟩ := ownsRow_slice hl
        obtain ⟨aor, cpr, rfl⟩ := ownsRow_slice hr
        have HBD := hid (show (A.length + 1) * 32 ≤ 140737488355328 ∧ A.length + 1 ≤ 1000001 ∧ (B.length + 1) * 32 ≤ 140737488355328 ∧ B.length + 1 ≤ 1000001 by
          have e1 : A.length ≤ L.length := by rw [hA, List.length_take]; omega
          have e2 : B.length ≤ R.length := by rw [hB, List.length_take]; omega
          have e3 := HLN.out
          rw [List.length_append] at e3
          omega)
        by_cases hlt : k < LN
        · obtain ⟨y, hy⟩ : ∃ y, (L ++ R)[k]? = some y := ⟨(L ++ R)[k]'(by rw [HLN.out]; exact hlt), by simp⟩
          obtain ⟨y1, y2⟩ := y
          have hin := H6.out.fresh f4
          obtain ⟨g, rfl, hcells⟩ := rowCellsB (by have := hin; unfold KnownAt at this; rw [HLN.out] at this; exact this) (by omega)
          have hc := pcells_at V (L ++ R) k _ hy
          obtain ⟨gl, x0⟩ := hcells _ _ hc.1
          have x1 := (hcells _ _ hc.2.1).2
          have x2 := (hcells _ _ hc.2.2).2
          (try simp only at x0 x1 x2)
          have hki : (k : Int) < (LN : Int) := by omega
          have hk0 : (0 : Int) ≤ (k : Int) := by omega
          have fb := (Keeps.refl (fun _ => False) wr).alloc (.cells #[.int .i64 (y1 : Int), .int .i64 (y2 : Int), .string (str (V (y1, y2)))] 132)
          have hbx := heap_alloc_new wr (.cells #[.int .i64 (y1 : Int), .int .i64 (y2 : Int), .string (str (V (y1, y2)))] 132)
          obtain ⟨wb, hwb⟩ : ∃ wb, wr.alloc (.cells #[.int .i64 (y1 : Int), .int .i64 (y2 : Int), .string (str (V (y1, y2)))] 132) = wb := ⟨_, rfl⟩
          rw [hwb] at fb hbx
          have b0 := cell_at hbx 0
          have b1 := cell_at hbx 1
          have b2 := cell_at hbx 2
          have l0 := cell_at (fb.at_ hd7 (fun h => h)) 0
          have l1 := cell_at (fb.at_ hd7 (fun h => h)) 1
          have r0 := cell_at (fb.at_ hd8 (fun h => h)) 0
          have r1 := cell_at (fb.at_ hd8 (fun h => h)) 1
          simp at b0 b1 b2 l0 l1 r0 r1
          have hl2 := HL.out.fresh fb
          have hr2 := HR.out.fresh fb
          have HFB := hid fb
          have HK := hid hk
          have HLT := hid hlt
          by_cases hkl : k < L.length
          · have hyL : L[k]? = some (y1, y2) := by rw [List.getElem?_append_left hkl] at hy; exact hy
            have hm := HLM.out _ (List.mem_of_getElem? hyL)
            simp only at hm
            have n1 : s ≤ y1 := hm.1
            have n2 : y2 ≤ M := hm.2.2
            have HY := hid hyL
            have HKL := hid hkl
            clear hm hyL hkl hy hcells hc hl hr hol hor hne hA hB hk hlt hd7 hd8 fb hbx hin r0 r1
            go_wp2_with (at_builtin; refine wpList_pushN rfl (.tmp 67) (.tmp 69) 130 rfl 132 i0 (.agg #[.int .i64 0, .int .i64 0, .string ⟨#[]⟩]) 3 32 Tryd.underlying130 hi hz0 hz1 hz2 rfl (by decide) wb hl2 #[.int .i64 (y1 : Int), .int .i64 (y2 : Int), .string (str (V (y1, y2)))] rfl rfl (by rfl) (by simp [Value.oneCell']) (by have := HBD.out; omega) (by have := HBD.out; unfold maxLen; omega) ?_; intro v5 w5 ha; obtain ⟨ao5, cp5, rfl⟩ := ownsRow_slice ha.row; have HA := hid ha; clear ha)
            have hA5 := HA.out
            have hcl : pcells V A ++ #[Value.int .i64 (y1 : Int), .int .i64 (y2 : Int), .string (str (V (y1, y2)))].toList = pcells V (A ++ [(y1, y2)]) := by rw [pcells_append]; rfl
            have hT : A ++ [(y1, y2)] = L.take (k + 1) := by rw [HA'.out, List.take_add_one, HY.out]; rfl
            have hB0 : B = R.take (k + 1 - L.length) := by rw [HB'.out, show k + 1 - L.length = k - L.length by have := HKL.out; omega]
            have hrow5 := hA5.row
            rw [hcl] at hrow5
            have hKA : KnownAt V w5 (.slice ao5 (A.length + 1) cp5) (A ++ [(y1, y2)]) := by unfold KnownAt; rw [List.length_append]; exact hrow5
            have hsz := HFB.out.size
            have hwsz := f.size
            have hKB : KnownAt V w5 (.slice aor B.length cpr) B := ownsRow_keeps hr2 hA5.keeps (fun z hz e => HNE.out z e hz)
            have ho5 : ∀ z, (Value.slice ao5 (A.length + 1) cp5).ownBlock = some z → W.heap.size ≤ z := fun z hz => by
              rcases hA5.own z hz with q | q
              · exact HOL.out z q
              · have := q.1; omega
            have hn5 : ∀ z, (Value.slice ao5 (A.length + 1) cp5).ownBlock = some z → (Value.slice aor B.length cpr).ownBlock ≠ some z := fun z hz e => by
              rcases hA5.own z hz with q | q
              · exact HNE.out z q e
              · have := q.1; have := (hr2.lt z e).2; omega
            have f5 : Fresh W w5 := (f.trans HFB.out).trans' hA5.keeps (fun z hz e => by have := HOL.out z e; omega)
            have H1 := hid hKA
            have H2 := hid hKB
            have H3 := hid ho5
            have H4 := hid hn5
            have H5 := hid f5
            have HT := hid hT
            have HB0 := hid hB0
            clear hKA hKB ho5 hn5 f5 hT hB0 hrow5 hcl hA5 hsz hwsz HA
            go_wp2_with fail
            go_roundw
            case rel => exact ⟨k + 1, _, _, by go_num, HLT.out, HT.out, HB0.out, H1.out, H2.out, H3.out, HOR.out, H4.out, H5.out⟩
            case measure => have := HLT.out; simp [intOf]; omega
          · have hyR : R[k - L.length]? = some (y1, y2) := by rw [List.getElem?_append_right (by omega)] at hy; exact hy
            have hm := HRM.out _ (List.mem_of_getElem? hyR)
            simp only at hm
            have n1 : M ≤ y1 := hm.1
            have n0 : s ≤ y1 := by omega
            have n2 : y2 ≤ t := hm.2.2
            have n3 : ¬ y2 ≤ M := by omega
            have HY := hid hyR
            have HKL := hid hkl
            clear hm hyR hkl hy hcells hc hl hr hol hor hne hA hB hk hlt hd7 hd8 fb hbx hin
            go_wp2_with (at_builtin; refine wpList_pushN rfl (.tmp 86) (.tmp 88) 130 rfl 132 i0 (.agg #[.int .i64 0, .int .i64 0, .string ⟨#[]⟩]) 3 32 Tryd.underlying130 hi hz0 hz1 hz2 rfl (by decide) wb hr2 #[.int .i64 (y1 : Int), .int .i64 (y2 : Int), .string (str (V (y1, y2)))] rfl rfl (by rfl) (by simp [Value.oneCell']) (by have := HBD.out; omega) (by have := HBD.out; unfold maxLen; omega) ?_; intro v5 w5 ha; obtain ⟨ao5, cp5, rfl⟩ := ownsRow_slice ha.row; have HA := hid ha; clear ha)
            have hA5 := HA.out
            have hcl : pcells V B ++ #[Value.int .i64 (y1 : Int), .int .i64 (y2 : Int), .string (str (V (y1, y2)))].toList = pcells V (B ++ [(y1, y2)]) := by rw [pcells_append]; rfl
            have hT : B ++ [(y1, y2)] = R.take (k + 1 - L.length) := by rw [HB'.out, show k + 1 - L.length = (k - L.length) + 1 by have := HKL.out; omega, List.take_add_one, HY.out]; rfl
            have hA0 : A = L.take (k + 1) := by rw [HA'.out, List.take_of_length_le (by have := HKL.out; omega), List.take_of_length_le (by have := HKL.out; omega)]
            have hrow5 := hA5.row
            rw [hcl] at hrow5
            have hKB : KnownAt V w5 (.slice ao5 (B.length + 1) cp5) (B ++ [(y1, y2)]) := by unfold KnownAt; rw [List.length_append]; exact hrow5
            have hsz := HFB.out.size
            have hwsz := f.size
            have hKA : KnownAt V w5 (.slice aol A.length cpl) A := ownsRow_keeps hl2 hA5.keeps (fun z hz e => HNE.out z hz e)
            have ho5 : ∀ z, (Value.slice ao5 (B.length + 1) cp5).ownBlock = some z → W.heap.size ≤ z := fun z hz => by
              rcases hA5.own z hz with q | q
              · exact HOR.out z q
              · have := q.1; omega
            have hn5 : ∀ z, (Value.slice aol A.length cpl).ownBlock = some z → (Value.slice ao5 (B.length + 1) cp5).ownBlock ≠ some z := fun z hz e => by
              rcases hA5.own z e with q | q
              · exact HNE.out z hz q
              · have := q.1; have := (hl2.lt z hz).2; omega
            have f5 : Fresh W w5 := (f.trans HFB.out).trans' hA5.keeps (fun z hz e => by have := HOR.out z e; omega)
            have H1 := hid hKA
            have H2 := hid hKB
            have H3 := hid ho5
            have H4 := hid hn5
            have H5 := hid f5
            have HT := hid hT
            have HA0 := hid hA0
            clear hKA hKB ho5 hn5 f5 hT hA0 hrow5 hcl hA5 hsz hwsz HA
            go_wp2_with fail
            go_roundw
            case rel => exact ⟨k + 1, _, _, by go_num, HLT.out, HA0.out, HT.out, H1.out, H2.out, HOL.out, H3.out, H4.out, H5.out⟩
            case measure => have := HLT.out; simp [intOf]; omega
        · obtain rfl : k = LN := by omega
          have hle := HLN.out
          rw [List.length_append] at hle
          obtain rfl : A = L := by rw [hA, List.take_of_length_le (by omega)]
          obtain rfl : B = R := by rw [hB, List.take_of_length_le (by omega)]
          have hla := hid (fun w' (f' : Fresh wr w') => HIL.out (.slice aol A.length cpl) w' (by omega) (HL.out.fresh f') (H7.out.fresh (f4.trans f')))
          have hra := hid (fun w' (f' : Fresh wr w') => HIR.out (.slice aor B.length cpr) w' (by omega) (HR.out.fresh f') (H7.out.fresh (f4.trans f')))
          have l0 := cell_at hd7 0
          have l1 := cell_at hd7 1
          simp at l0 l1
          have p7l := lt_of_block hd7
          have HD8 := hid hd8
          have HVM := hid (fun W (h : Dig W) => node_any (V (s, M)) (V (M, t)) (h32 _) (h32 _) W h)
          clear hle hA hB hk hlt hl hr hol hor hne hd7 hd8 ih
          go_wp2_with fail
          refine (hla.out _ (Keeps.refl _ _)).mono ?_
          rintro e w5 ⟨rfl, f5⟩
          have hd8 := f5.at_ HD8.out (fun h => h)
          have r0 := cell_at hd8 0
          have r1 := cell_at hd8 1
          simp at r0 r1
          have p8l := lt_of_block hd8
          clear hd8 l0 l1 p7l hla
          go_wp2_with fail
          refine (hra.out _ f5).mono ?_
          rintro e w6 ⟨rfl, f6⟩
          clear r0 r1 p8l hra
          go_wp2_with fail
          refine (HVM.out _ (H7.out.fresh ((f4.trans f5).trans f6))).mono ?_
          rintro e w7 ⟨rfl, f7⟩
          go_wp2_with fail
          go_ret2
          exact ⟨by rw [HVAL.out]; rfl, ((f4.trans f5).trans f6).trans f7⟩
end Go.Proofs.YtgikabafaocemaaDoor
