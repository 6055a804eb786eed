/-
  Package frontier: Compact.
-/
import Derived.Test.YtgikabafaocemaaDoorRnRight
import Derived.Test.YtgikabafaocemaaDoorMSpA
import Derived.Deep.Slices
namespace Go.Proofs.YtgikabafaocemaaDoor
open Go.RowKit
attribute [local go_sem] run_store_func

set_option maxRecDepth 100000 in
set_option maxHeartbeats 1000000 in
theorem fchash_no (s : List UInt8) (w : World) (hs : s.length = 32) :
    Calls Tryd.prog 70 #[.string (str s)] w fun x w' => x = .returned (.bool false) ∧ w = w' := by
  have hz := str_size s
  rw [hs] at hz
  go_enter Tryd.func70, Tryd.ntmps70
  go_wp2_with fail
  go_ret
  exact ⟨by simp, rfl⟩
set_option maxRecDepth 100000 in
set_option maxHeartbeats 2000000 in
theorem fcindex_no (v : Value) (l : List (List UInt8)) (w : World) (hl : TextsAt w v l) (hn : l.length ≤ 9223372036854775807) (hs : ∀ s ∈ l, s.length = 32) :
    Calls Tryd.prog 105 #[v, .func (.func 70) #[] #[]] w fun x w' => x = .returned (.int .i64 (-1)) ∧ Fresh w w' := by
  obtain ⟨ao, cap, rfl, hc⟩ := hl
  have HC := hid hc
  clear hc
  go_enter Tryd.func105, Tryd.ntmps105
  go_wp2_with fail
  go_loopw [8] (fun i wr => ∃ k : Nat, i = .int .i64 (k : Int) ∧ k ≤ l.length ∧ Fresh w wr) (fun i _ => l.length - (intOf i).toNat)
  case atStart => exact ⟨0, rfl, Nat.zero_le _, Keeps.refl _ _⟩
  case round =>
    obtain ⟨k, rfl, hk, fr⟩ := hrel
    by_cases hlt : k < l.length
    · obtain ⟨s, hs1⟩ : ∃ s, l[k]? = some s := ⟨l[k], by simp [hlt]⟩
      obtain ⟨bb, off, rfl, hbb, hcw⟩ := HC.out k s hs1
      have hcell := (fr.cell (p := ⟨bb, off + k, none⟩) hbb (fun h => h)).trans hcw
      have HCL := hid (fchash_no s wr (hs s (List.mem_of_getElem? hs1)))
      clear hcw hs1
      go_wp2_with fail
      refine HCL.out.mono ?_
      rintro x w1 ⟨rfl, rfl⟩
      go_wp2_with fail
      go_roundw
      case rel => exact ⟨k + 1, by simp, by omega, fr⟩
      case measure => simp [intOf]; omega
    · have hke : k = l.length := by omega
      clear hke
      go_wp2_with fail
      go_ret
      exact ⟨rfl, fr⟩
set_option maxRecDepth 100000 in
set_option maxHeartbeats 1000000 in
theorem fccontains_no (v : Value) (l : List (List UInt8)) (w : World) (hl : TextsAt w v l) (hn : l.length ≤ 9223372036854775807) (hs : ∀ s ∈ l, s.length = 32) :
    Calls Tryd.prog 69 #[v, .func (.func 70) #[] #[]] w fun x w' => x = .returned (.bool false) ∧ Fresh w w' := by
  have HI := hid (fcindex_no v l w hl hn hs)
  obtain ⟨ao, cap, rfl, -⟩ := hl
  go_enter Tryd.func69, Tryd.ntmps69
  go_wp2_with fail
  refine HI.out.mono ?_
  rintro x w1 ⟨rfl, f1⟩
  go_wp2_with fail
  go_ret
  exact ⟨rfl, f1⟩

theorem TextsAt.get {w : World} {ao : Option Addr} {n cap k : Nat} {l : List (List UInt8)} {s : List UInt8} (h : TextsAt w (.slice ao n cap) l) (hs : l[k]? = some s) : ∃ bb off, ao = some ⟨bb, off, none⟩ ∧ bb < w.heap.size ∧ w.cell? ⟨bb, off + k, none⟩ = some (.string (str s)) := by
  obtain ⟨a', c', e', hk'⟩ := h
  simp only [Value.slice.injEq] at e'
  obtain ⟨rfl, -, -⟩ := e'
  exact hk' k s hs
set_option maxRecDepth 100000 in
set_option maxHeartbeats 1000000 in
theorem place_any (n : Nat) (w : World) (h : n ≤ 1099511627776) :
    Calls Tryd.prog 68 #[.int .i64 (n : Int)] w fun x w' => x = .returned (.bool true) ∧ w = w' := by
  have hn : (n : Int) ≤ 1099511627776 := by omega
  clear h
  go_enter Tryd.func68, Tryd.ntmps68
  go_wp2_with fail
  go_ret
  exact ⟨rfl, rfl⟩

/-- two halves make a whole, where the whole ends behind b, up to x -/
def Halves (V : Nat × Nat → List UInt8) (b x : Nat) : Prop := ∀ a j, a % 2 ^ (j + 1) = 0 → b < a + 2 ^ (j + 1) → a + 2 ^ (j + 1) ≤ x → V (a, j + 1) = nodeH (V (a, j)) (V (a + 2 ^ j, j))
def rangeC (b x : Int) (u : Value) : Obj := .cells #[.int .i64 b, .int .i64 x, u] 67

set_option maxRecDepth 100000 in
set_option maxHeartbeats 8000000 in
theorem compact_any (V : Nat × Nat → List UInt8) (b m : Nat) (L : List (List UInt8)) (vl : Value) (w : World) (hL : TextsAt w vl L) (hm : L.length = m) (hm2 : m ≤ 4096) (hx : b + m ≤ 1099511627776) (h32 : all32P L) (hV : ∀ i s, L[i]? = some s → V (b + i, 0) = s) (hH : Halves V b (b + m)) (hd : Dig w) :
    Calls Tryd.prog 28 #[.int .i64 (b : Int), vl] w fun e w' => ∃ u l, e = .returned (.tuple #[.agg #[.int .i64 (b : Int), .int .i64 ((b + m : Nat) : Int), u], .int .i64 0]) ∧ Cut b (b + m) l ∧ OwnTexts w.heap.size w' u (l.map V) ∧ (∀ y ∈ l, (V y).length = 32) ∧ Fresh w w' := by
  have f0 : Fresh w (w.alloc (.cells #[.int .i64 0, .int .i64 0, .slice none 0 0] 67)) := (Keeps.refl _ _).alloc _
  have hp0 := heap_alloc_new w (.cells #[.int .i64 0, .int .i64 0, .slice none 0 0] 67)
  have hpl := hid (fun W => place_any b W (by omega))
  have hco := hid (fun W (f : Fresh w W) => fccontains_no vl L W (hL.fresh f) (by omega) h32)
  have HL := hid hL
  obtain ⟨av, cv, ev, -⟩ := hL
  rw [hm] at ev
  subst ev
  have hmi : (m : Int) ≤ 4096 := by omega
  have hbi : (b : Int) + (m : Int) ≤ 1099511627776 := by omega
  have hbi2 : (b : Int) ≤ 1099511627776 := by omega
  have hgl := hd.room
  obtain ⟨p4, hp4⟩ : ∃ p4, w.heap.size = p4 := ⟨_, rfl⟩
  rw [hp4] at hp0
  have HP4 := hid hp4
  have HM := hid hm
  have HV := hid hV
  have HH := hid hH
  have HD := hid hd
  have HX := hid hx
  have HP0 := hid hp0
  have H32 := hid h32
  have HGL := hid hgl
  clear hm hV hH hd hx hp0 h32 hgl hm2
  go_enter Tryd.func28, Tryd.ntmps28
  go_wp2_with fail
  refine (hpl.out _).mono ?_
  rintro e w1 ⟨rfl, rfl⟩
  go_wp2_with fail
  refine (hco.out _ f0).mono ?_
  rintro e w1 ⟨rfl, f1⟩
  have f1' := f0.trans f1
  have hp1 := f1.at_ HP0.out (fun h => h)
  have hp1l := lt_of_block hp1
  (try rw [hp4])
  clear hp4
  go_wp2_with fail
  have f2 := (Keeps.refl (fun _ => False) w1).alloc (.cells #[.slice none 0 0] 123)
  have hr2 := heap_alloc_new w1 (.cells #[.slice none 0 0] 123)
  have hp2 := f2.at_ hp1 (fun h => h)
  have hs2 : (w1.alloc (.cells #[.slice none 0 0] 123)).heap.size = w1.heap.size + 1 := World.size_alloc _ _
  obtain ⟨rb, hrb⟩ : ∃ rb, w1.heap.size = rb := ⟨_, rfl⟩
  rw [hrb] at hr2 hs2
  have hrbs := f1'.size
  rw [hrb] at hrbs
  have hprb : p4 < rb := by rw [hrb] at hp1l; exact hp1l
  (try rw [hrb])
  generalize w1.alloc (.cells #[.slice none 0 0] 123) = W at f2 hr2 hp2 hs2 ⊢
  have hRW : RowBox V W rb [] (.slice none 0 0) := ⟨hr2, ⟨rfl, .inl ⟨rfl, rfl⟩⟩, by simp [Value.ownBlock]⟩
  have fW := f1'.trans f2
  have HRW := hid hRW
  have HP2 := hid hp2
  have HRBS := hid hrbs
  have HS2 := hid hs2
  clear hrb hRW hr2 hp1 hp2 hrbs hs2 hp1l
  go_loopw [32] (fun i wr => ∃ (k : Nat) (l : List (Nat × Nat)) (v : Value), i = .int .i64 (k : Int) ∧ k ≤ m ∧ Row b (b + k) l ∧ Red l ∧ RowBox V wr rb l v ∧ (∀ y ∈ l, (V y).length = 32) ∧ l.length ≤ k ∧ (∀ g, v.ownBlock = some g → rb < g) ∧ wr.heap[p4]? = some (rangeC 0 0 (.slice none 0 0)) ∧ Fresh w wr) (fun i _ => m - (intOf i).toNat)
  case atStart => exact ⟨0, [], _, rfl, Nat.zero_le _, .nil _, trivial, HRW.out, (fun y hy => by simp at hy), Nat.le_refl _, (fun g hg => by simp [Value.ownBlock] at hg), HP2.out, fW⟩
  case round =>
    obtain ⟨k, l, v, rfl, hk, hrow, hred, hbx, h32, hll, hown, hpw, f⟩ := hrel
    have HROW := hid hrow
    have HRED := hid hred
    have HBX := hid hbx
    have HA := hid h32
    have HLL := hid hll
    have HO := hid hown
    have HPW := hid hpw
    have HK := hid hk
    by_cases hlt : k < m
    · obtain ⟨s, hs⟩ : ∃ s, L[k]? = some s := ⟨L[k]'(by rw [HM.out]; exact hlt), by simp⟩
      obtain ⟨bb, off, rfl, hbb, hcell⟩ := (HL.out.fresh f).get hs
      have hVs := HV.out k s hs
      obtain ⟨q, hq⟩ : ∃ q, b + k = q := ⟨_, rfl⟩
      rw [hq] at hVs
      have hs32 := H32.out s (List.mem_of_getElem? hs)
      have hpush := push_any V b q 0 rb l v wr HBX.out (by rw [← hq]; exact HROW.out) HRED.out (by simp [Nat.mod_one]) (by have := HX.out; simp; omega) (by have := HLL.out; omega) HA.out (by rw [hVs]; exact hs32) (fun a j h1 h2 h3 => HH.out a j h2 (by have := pow_pos2 (j + 1); omega) (by rw [h3]; simp; omega)) (HD.out.fresh f) (by have := HGL.out; have := HRBS.out; have := HP4.out; omega) (fun g hg => by have := HO.out g hg; have := HGL.out; have := HRBS.out; omega)
      rw [hVs] at hpush
      have HPUSH := hid hpush
      have HQ := hid hq
      have hbq := hid (show (b : Int) + (k : Int) = (q : Int) by omega)
      have hki : (k : Int) < (m : Int) := by omega
      have hk0 : (0 : Int) ≤ (k : Int) := by omega
      have HLT := hid hlt
      clear hpush hrow hred hbx h32 hll hown hpw hk hs hVs hq hs32 hlt
      go_wp2_with fail
      (try rw [hbq.out])
      refine HPUSH.out.mono ?_
      rintro e w3 ⟨rfl, l', v', p1, p2, p3, p4', p5, p6, p7⟩
      have HP3 := hid p3
      have f3 : Fresh w w3 := f.trans' p7 (fun g hg e => by
        rcases e with e | e
        · have := HRBS.out; omega
        · have := HO.out g e; have := HRBS.out; omega)
      have hpw3 := p7.at_ HPW.out (fun e => by
        rcases e with e | e
        · omega
        · have := HO.out _ e; omega)
      have hrow3 : Row b (b + (k + 1)) l' := by rw [show b + (k + 1) = q + 2 ^ 0 by have := HQ.out; simp; omega]; exact p1
      have HROW3 := hid hrow3
      have hbrl := lt_of_block HBX.out.box
      have ho3 : ∀ g, v'.ownBlock = some g → rb < g := fun g hg => by
        rcases p6 g hg with z | z
        · exact HO.out g z
        · omega
      clear p1 p3 p7 hrow3
      go_wp2_with fail
      go_roundw
      case rel => exact ⟨k + 1, l', v', by go_num, HLT.out, HROW3.out, p2, HP3.out, p4', by have := HLL.out; omega, ho3, hpw3, f3⟩
      case measure => have := HLT.out; simp [intOf]; omega
    · obtain rfl : k = m := by omega
      have HT := hid (fun W (f2 : Fresh wr W) => ftold_any V rb l v (b : Int) ((b + k : Nat) : Int) W (hbx.fresh f2) (by omega))
      have hbq := hid (show (b : Int) + (k : Int) = ((b + k : Nat) : Int) by omega)
      have HC := hid (hrow.cut hred)
      clear hrow hred hbx h32 hll hown hpw hk
      go_wp2_with fail
      rw [hbq.out]
      refine (HT.out _ (Keeps.refl _ _)).mono ?_
      rintro e w4 ⟨u, rfl, hu, f4⟩
      have hp4 := f4.at_ HPW.out (fun h => h)
      have d0 := (cell_at hp4 0).trans (show _ = some (Value.int .i64 0) from rfl)
      have d1 := (cell_at hp4 1).trans (show _ = some (Value.int .i64 0) from rfl)
      have d2 := (cell_at hp4 2).trans (show _ = some (Value.slice none 0 0) from rfl)
      have y0 := free_at hp4 0
      have y1 := free_at hp4 1
      have y2 := free_at hp4 2
      have hpl4 := lt_of_block hp4
      have HP5 := hid hp4
      have HU := hid hu
      obtain ⟨au, cu, eu⟩ := ownsRow_slice hu.1
      rw [List.length_map] at eu
      subst eu
      clear hp4 hu
      go_wp2_with fail
      have kS := (((Keeps.refl (fun q => q = p4) w4).setCell (p := ⟨p4, 0, none⟩) (fun _ => rfl) (.int .i64 (b : Int))).setCell (p := ⟨p4, 1, none⟩) (fun _ => rfl) (.int .i64 ((b + k : Nat) : Int))).setCell (p := ⟨p4, 2, none⟩) (fun _ => rfl) (.slice au l.length cu)
      have r2 := heap_setCell_at (heap_setCell_at (heap_setCell_at HP5.out 0 (.int .i64 (b : Int))) 1 (.int .i64 ((b + k : Nat) : Int))) 2 (.slice au l.length cu)
      have hfs := f.size
      refine bodyPost_ret (results_row2 rfl _ _ p4 67 _ (0, 0) _ rfl (by exact r2) Tryd.underlying67 rfl (by kernel_rfl)) rfl ?_
      refine ⟨_, l, rfl, HC.out, ⟨ownsRow_keeps HU.out.1 kS (fun q hq e => by have := HU.out.2 q hq; have := lt_of_block HPW.out; omega), fun g hg => by have := HU.out.2 g hg; omega⟩, HA.out, (f.trans f4).trans' kS (fun q hq e => by have := HP4.out; omega)⟩
end Go.Proofs.YtgikabafaocemaaDoor
