/-
  The program's span: what told hashes and leaves come to.
  The program's span: hash of a subtree.
-/
import Derived.Test.YtgikabafaocemaaDoorMSpB
import Derived.Test.YtgikabafaocemaaDoorMSpA
import Derived.Test.YtgikabafaocemaaDoorRowT
namespace Go.Proofs.YtgikabafaocemaaDoor
open Go.RowKit

/-- a list of texts, to be read, not in block wb -/
def ListBut (wb : Nat) (w : World) (v : Value) (l : List (List UInt8)) : Prop :=
  ∃ ao cap, v = .slice ao l.length cap ∧ l.length ≤ cap ∧ ∀ (k : Nat) (s : List UInt8), l[k]? = some s → ∃ bb off, ao = some ⟨bb, off, none⟩ ∧ bb ≠ wb ∧ bb < w.heap.size ∧ w.cell? ⟨bb, off + k, none⟩ = some (.string (str s))
theorem ListBut.keeps {wb : Nat} {w w' : World} {v : Value} {l : List (List UInt8)} (h : ListBut wb w v l) (f : Keeps (fun q => q = wb) w w') : ListBut wb w' v l := by
  obtain ⟨ao, cap, rfl, hc, hk⟩ := h
  exact ⟨ao, cap, rfl, hc, fun k s hs => by
    obtain ⟨bb, off, e1, e2, e3, e4⟩ := hk k s hs
    exact ⟨bb, off, e1, e2, Nat.lt_of_lt_of_le e3 f.size, (f.cell (p := ⟨bb, off + k, none⟩) e3 e2).trans e4⟩⟩
/-- the first one is taken off -/
theorem ListBut.tail {wb : Nat} {w : World} {bb off n cap : Nat} {x : List UInt8} {l : List (List UInt8)} (h : ListBut wb w (.slice (some ⟨bb, off, none⟩) n cap) (x :: l)) : ListBut wb w (.slice (some ⟨bb, off + 1, none⟩) l.length (cap - 1)) l := by
  obtain ⟨ao, cap', e, hc, hk⟩ := h
  simp only [Value.slice.injEq] at e
  obtain ⟨rfl, rfl, rfl⟩ := e
  simp only [List.length_cons] at hc
  refine ⟨_, _, rfl, by omega, fun k s hs => ?_⟩
  obtain ⟨b2, o2, e1, e2, e3, e4⟩ := hk (k + 1) s (by simpa using hs)
  simp only [Option.some.injEq, Addr.mk.injEq, and_true] at e1
  obtain ⟨rfl, rfl⟩ := e1
  exact ⟨bb, off + 1, rfl, e2, e3, by rw [show off + 1 + k = off + (k + 1) by omega]; exact e4⟩
def walkC (rb re : Nat) (vh vl : Value) : Obj := .cells #[.int .i64 (rb : Int), .int .i64 (re : Int), vh, vl] 109
/-- the walker as it stands -/
structure WalkAt (w : World) (wb rb re : Nat) (H L : List (List UInt8)) : Prop where
  at_ : ∃ vh vl, w.heap[wb]? = some (walkC rb re vh vl) ∧ ListBut wb w vh H ∧ ListBut wb w vl L
  dig : Dig w
  room : 4 ≤ wb
theorem WalkAt.fresh {w w' : World} {wb rb re : Nat} {H L : List (List UInt8)} (h : WalkAt w wb rb re H L) (f : Fresh w w') : WalkAt w' wb rb re H L := by
  obtain ⟨vh, vl, h1, h2, h3⟩ := h.at_
  exact ⟨⟨vh, vl, f.at_ h1 (fun h => h), h2.keeps (f.mono (fun _ _ h => h.elim)), h3.keeps (f.mono (fun _ _ h => h.elim))⟩, h.dig.fresh f, h.room⟩

theorem ListBut.none {wb : Nat} {w : World} {ao : Option Addr} {cap : Nat} : ListBut wb w (.slice ao 0 cap) [] := ⟨ao, cap, rfl, Nat.zero_le _, fun k s hs => by simp at hs⟩
theorem walk_set2 {w W : World} {wb rb re : Nat} {vh vl v : Value} {H L : List (List UInt8)} (f0 : Fresh w W) (hd : Dig w) (hroom : 4 ≤ wb) (hwb : W.heap[wb]? = some (walkC rb re vh vl)) (hL : ListBut wb w vl L) (hH : ListBut wb w v H) :
    Keeps (fun q => q = wb) w (W.setCell ⟨wb, 2, .none⟩ v) ∧ WalkAt (W.setCell ⟨wb, 2, .none⟩ v) wb rb re H L := by
  have k : Keeps (fun q => q = wb) w (W.setCell ⟨wb, 2, .none⟩ v) := Keeps.setCell (S := fun q => q = wb) (f0.mono (fun _ _ h => h.elim)) (p := ⟨wb, 2, .none⟩) (fun _ => rfl) _
  have h2 := heap_setCell_at hwb 2 v
  exact ⟨k, ⟨v, vl, by simpa [walkC] using h2, hH.keeps k, hL.keeps k⟩, hd.keepsOut (B := wb) (h := wb) (k.mono (fun _ _ h => .inl h)) hroom hroom, hroom⟩
theorem walk_set3 {w W : World} {wb rb re : Nat} {vh vl v : Value} {H L : List (List UInt8)} (f0 : Fresh w W) (hd : Dig w) (hroom : 4 ≤ wb) (hwb : W.heap[wb]? = some (walkC rb re vh vl)) (hH : ListBut wb w vh H) (hL : ListBut wb w v L) :
    Keeps (fun q => q = wb) w (W.setCell ⟨wb, 3, .none⟩ v) ∧ WalkAt (W.setCell ⟨wb, 3, .none⟩ v) wb rb re H L := by
  have k : Keeps (fun q => q = wb) w (W.setCell ⟨wb, 3, .none⟩ v) := Keeps.setCell (S := fun q => q = wb) (f0.mono (fun _ _ h => h.elim)) (p := ⟨wb, 3, .none⟩) (fun _ => rfl) _
  have h2 := heap_setCell_at hwb 3 v
  exact ⟨k, ⟨vh, v, by simpa [walkC] using h2, hH.keeps k, hL.keeps k⟩, hd.keepsOut (B := wb) (h := wb) (k.mono (fun _ _ h => .inl h)) hroom hroom, hroom⟩
theorem WalkAt.drew {w : World} {wb rb re : Nat} {H L : List (List UInt8)} (h : WalkAt w wb rb re H L) : WalkAt w.drew wb rb re H L := h.fresh (Keeps.refl _ _).drew

set_option maxRecDepth 100000 in
set_option maxHeartbeats 2000000 in
theorem hash_out (rb re wb b e : Nat) (x : List UInt8) (H L : List (List UInt8)) (w : World) (hW : WalkAt w wb rb re (x :: H) L) (hout : e ≤ rb ∨ re ≤ b) (_hx : x.length = 32) :
    Calls Tryd.prog 61 #[.pointer (some ⟨wb, 0, none⟩), spanV (b, e)] w fun r w' => r = .returned (.string (str x)) ∧ Keeps (fun q => q = wb) w w' ∧ WalkAt w' wb rb re H L := by
  obtain ⟨⟨vh, vl, hwb, hH, hL⟩, hd, hroom⟩ := hW
  have f0 : Fresh w (w.alloc (spanC b e)) := (Keeps.refl _ _).alloc _
  have hb := heap_alloc_new w (spanC b e)
  have hwb1 := f0.at_ hwb (fun h => h)
  have hH0 := hH
  obtain ⟨ao, cap, rfl, hc, hk⟩ := hH
  obtain ⟨bb, off, rfl, hne, hbb, hcell⟩ := hk 0 x rfl
  have hcell := (f0.cell (p := ⟨bb, off + 0, none⟩) hbb (fun h => h)).trans hcell
  have hwl := lt_of_block hwb
  unfold spanC walkC at *
  unfold spanV
  have hs := f0.size
  generalize hW1 : w.alloc (.cells #[.int .i64 (b : Int), .int .i64 (e : Int)] 24) = W at f0 hb hwb1 hcell hs
  have c0 := cell_at hb 0
  have c1 := cell_at hb 1
  have d0 := cell_at hwb1 0
  have d1 := cell_at hwb1 1
  have d2 := cell_at hwb1 2
  have z2 := free_at hwb1 2
  simp at c0 c1 d0 d1 d2 hcell
  simp only [List.length_cons] at d2 hc hwb1 ⊢
  go_enter Tryd.func61, Tryd.ntmps61
  go_wp2_with fail
  have HT := hid hH0.tail
  clear hk hH0
  have HFIN := hid (fun v (hv : ListBut wb w v H) => walk_set2 (rb := rb) (re := re) (L := L) f0 hd hroom hwb1 hL hv)
  by_cases h1 : e ≤ rb
  · clear hout
    go_region
    go_wp2_with fail
    · rename_i hcap
      have hH0 : H = [] := List.eq_nil_of_length_eq_zero (by omega)
      subst hH0
      go_ret
      obtain ⟨k, q⟩ := HFIN.out _ ListBut.none
      exact ⟨rfl, k.drew, q.drew⟩
    · go_ret
      obtain ⟨k, q⟩ := HFIN.out _ HT.out
      exact ⟨rfl, k.drew, q.drew⟩
  · have h2 : re ≤ b := by omega
    clear hout
    go_region
    go_wp2_with fail
    · rename_i hcap
      have hH0 : H = [] := List.eq_nil_of_length_eq_zero (by omega)
      subst hH0
      go_ret
      obtain ⟨k, q⟩ := HFIN.out _ ListBut.none
      exact ⟨rfl, k.drew, q.drew⟩
    · go_ret
      obtain ⟨k, q⟩ := HFIN.out _ HT.out
      exact ⟨rfl, k.drew, q.drew⟩

set_option maxRecDepth 100000 in
set_option maxHeartbeats 2000000 in
theorem hash_leaf (rb re wb b e : Nat) (x : List UInt8) (H L : List (List UInt8)) (w : World) (hW : WalkAt w wb rb re H (x :: L)) (hb1 : rb ≤ b) (hb2 : b < re) (_hb3 : b ≤ 2199023255552) (he1 : e ≤ b + 1) (he2 : b < e) (_hx : x.length = 32) :
    Calls Tryd.prog 61 #[.pointer (some ⟨wb, 0, none⟩), spanV (b, e)] w fun r w' => r = .returned (.string (str x)) ∧ Keeps (fun q => q = wb) w w' ∧ WalkAt w' wb rb re H L := by
  obtain ⟨⟨vh, vl, hwb, hH, hL⟩, hd, hroom⟩ := hW
  have f0 : Fresh w (w.alloc (spanC b (e : Int))) := (Keeps.refl _ _).alloc _
  have hb := heap_alloc_new w (spanC b (e : Int))
  have hwb1 := f0.at_ hwb (fun h => h)
  have hL0 := hL
  obtain ⟨ao, cap, rfl, hc, hk⟩ := hL
  obtain ⟨bb, off, rfl, hne, hbb, hcell⟩ := hk 0 x rfl
  have hcell := (f0.cell (p := ⟨bb, off + 0, none⟩) hbb (fun h => h)).trans hcell
  have hwl := lt_of_block hwb
  unfold spanC walkC at *
  unfold spanV
  have hs := f0.size
  generalize hW1 : w.alloc (.cells #[.int .i64 (b : Int), .int .i64 (e : Int)] 24) = W at f0 hb hwb1 hcell hs
  have c0 := cell_at hb 0
  have c1 := cell_at hb 1
  have d0 := cell_at hwb1 0
  have d1 := cell_at hwb1 1
  have d3 := cell_at hwb1 3
  have z3 := free_at hwb1 3
  simp at c0 c1 d0 d1 d3 hcell
  simp only [List.length_cons] at d3 hc hwb1 ⊢
  have HT := hid hL0.tail
  clear hk hL0
  have HFIN := hid (fun v (hv : ListBut wb w v L) => walk_set3 (rb := rb) (re := re) (H := H) f0 hd hroom hwb1 hH hv)
  go_enter Tryd.func61, Tryd.ntmps61
  have n1 : ¬ e ≤ rb := by omega
  have n2 : ¬ re ≤ b := by omega
  go_wp2_with fail
  go_region
  go_wp2_with fail
  · rename_i hcap
    have hH0 : L = [] := List.eq_nil_of_length_eq_zero (by omega)
    subst hH0
    go_ret
    obtain ⟨k, q⟩ := HFIN.out _ ListBut.none
    exact ⟨rfl, k.drew, q.drew⟩
  · go_ret
    obtain ⟨k, q⟩ := HFIN.out _ HT.out
    exact ⟨rfl, k.drew, q.drew⟩
end Go.Proofs.YtgikabafaocemaaDoor

namespace Go.Proofs.YtgikabafaocemaaDoor
open Go.RowKit

theorem toldF_two {f rb re b e : Nat} (hc : ¬ (re ≤ b ∨ e ≤ rb)) (h6 : 2 ≤ e - b) : toldF (f + 1) rb re b e = toldF f rb re b (b + splitN (e - b)) ++ toldF f rb re (b + splitN (e - b)) e := by
  obtain ⟨g1, g2, g3⟩ := splitN_facts (n := e - b) h6
  rw [toldF, if_neg hc]
  split
  · rename_i hw
    rw [toldF_in f rb re b _ hw.1 (by omega) (by omega), toldF_in f rb re _ e (by omega) hw.2 (by omega)]
    rfl
  · rfl

set_option maxRecDepth 100000 in
set_option maxHeartbeats 4000000 in
theorem hash_fork (f rb re wb b e : Nat) (H L : List (List UInt8)) (w : World) (hW : WalkAt w wb rb re H L) (n1 : ¬ e ≤ rb) (n2 : ¬ re ≤ b) (hbe : b + 2 ≤ e) (he : e ≤ 2199023255552)
    (ih : ∀ (b' e' : Nat) (H L : List (List UInt8)) (w : World), b' < e' → (b' = b ∧ e' = b + splitN (e - b) ∨ b' = b + splitN (e - b) ∧ e' = e) → WalkAt w wb rb re H L → (toldF f rb re b' e').length ≤ H.length → inRun rb re b' e' ≤ L.length → (∀ x ∈ H, x.length = 32) → (∀ x ∈ L, x.length = 32) →
      Calls Tryd.prog 61 #[.pointer (some ⟨wb, 0, none⟩), spanV (b', e')] w fun r w' => r = .returned (.string (str (walkF f rb re b' e' H L).1)) ∧ Keeps (fun q => q = wb) w w' ∧ WalkAt w' wb rb re (walkF f rb re b' e' H L).2.1 (walkF f rb re b' e' H L).2.2)
    (hf : e - b ≤ 2 ^ (f + 1)) (hr : rb < re) (hT : (toldF (f + 1) rb re b e).length ≤ H.length) (hI : inRun rb re b e ≤ L.length) (hH : ∀ x ∈ H, x.length = 32) (hL : ∀ x ∈ L, x.length = 32) :
    Calls Tryd.prog 61 #[.pointer (some ⟨wb, 0, none⟩), spanV (b, e)] w fun r w' => r = .returned (.string (str (walkF (f + 1) rb re b e H L).1)) ∧ Keeps (fun q => q = wb) w w' ∧ WalkAt w' wb rb re (walkF (f + 1) rb re b e H L).2.1 (walkF (f + 1) rb re b e H L).2.2 := by
  obtain ⟨g1, g2, g3⟩ := splitN_facts (n := e - b) (by omega)
  have g4 := splitN_le (n := e - b) (f := f) (by omega) hf
  rw [toldF_two (by omega) (by omega), List.length_append] at hT
  have hin := inRun_split (rb := rb) (re := re) (b := b) (k := b + splitN (e - b)) (e := e) (by omega) (by omega)
  obtain ⟨p1, p2⟩ := walkF_left f rb re b (b + splitN (e - b)) H L (by omega) (by omega) hr (by omega) (by omega)
  have hx := walkF_all f rb re b (b + splitN (e - b)) H L (by omega) (by omega) hr (by omega) (by omega) hH hL
  have hH2 : ∀ x ∈ (walkF f rb re b (b + splitN (e - b)) H L).2.1, x.length = 32 := fun x hx => hH x (by rw [p1] at hx; exact List.mem_of_mem_drop hx)
  have hL2 : ∀ x ∈ (walkF f rb re b (b + splitN (e - b)) H L).2.2, x.length = 32 := fun x hx => hL x (by rw [p2] at hx; exact List.mem_of_mem_drop hx)
  have hT2 : (toldF f rb re (b + splitN (e - b)) e).length ≤ (walkF f rb re b (b + splitN (e - b)) H L).2.1.length := by rw [p1, List.length_drop]; omega
  have hI2 : inRun rb re (b + splitN (e - b)) e ≤ (walkF f rb re b (b + splitN (e - b)) H L).2.2.length := by rw [p2, List.length_drop]; omega
  have hy := walkF_all f rb re (b + splitN (e - b)) e (walkF f rb re b (b + splitN (e - b)) H L).2.1 (walkF f rb re b (b + splitN (e - b)) H L).2.2 (by omega) (by omega) hr hT2 hI2 hH2 hL2
  have c1 := fun w hw => ih b (b + splitN (e - b)) H L w (by omega) (.inl ⟨rfl, rfl⟩) hw (by omega) (by omega) hH hL
  have c2 := fun w hw => ih (b + splitN (e - b)) e (walkF f rb re b (b + splitN (e - b)) H L).2.1 (walkF f rb re b (b + splitN (e - b)) H L).2.2 w (by omega) (.inr ⟨rfl, rfl⟩) hw hT2 hI2 hH2 hL2
  have hWF : walkF (f + 1) rb re b e H L = (nodeH (walkF f rb re b (b + splitN (e - b)) H L).1 (walkF f rb re (b + splitN (e - b)) e (walkF f rb re b (b + splitN (e - b)) H L).2.1 (walkF f rb re b (b + splitN (e - b)) H L).2.2).1, (walkF f rb re (b + splitN (e - b)) e (walkF f rb re b (b + splitN (e - b)) H L).2.1 (walkF f rb re b (b + splitN (e - b)) H L).2.2).2) := by
    rw [walkF, if_neg (by omega), if_neg (by omega)]
  rw [hWF]
  have hU := fun j => splitN_unique (n := e - b) (j := j)
  have HU := hid hU
  generalize splitN (e - b) = K0 at *
  obtain ⟨M, hM⟩ : ∃ M, b + K0 = M := ⟨_, rfl⟩
  rw [hM] at hx hy c1 c2 hWF hH2 hL2 hI2 hT2 hT hin p1 p2 ⊢
  generalize walkF f rb re b M H L = X at *
  generalize walkF f rb re M e X.2.1 X.2.2 = Y at *
  have C1 := hid c1
  have C2 := hid c2
  clear hU hWF c1 c2 ih hH hL hH2 hL2 p1 p2 hT hT2 hI hI2 hin hf
  obtain ⟨⟨vh, vl, hwb, hH, hL⟩, hd, hroom⟩ := hW
  have f0 : Fresh w (w.alloc (spanC b e)) := (Keeps.refl _ _).alloc _
  have hb := heap_alloc_new w (spanC b e)
  have hwb1 := f0.at_ hwb (fun h => h)
  have hwl := lt_of_block hwb
  have hW1 : WalkAt (w.alloc (spanC b e)) wb rb re H L := WalkAt.fresh ⟨⟨vh, vl, hwb, hH, hL⟩, hd, hroom⟩ f0
  unfold spanC walkC at *
  unfold spanV at *
  go_enter Tryd.func61, Tryd.ntmps61
  go_wp2_with fail
  obtain ⟨p, hp⟩ : ∃ p, w.heap.size = p := ⟨_, rfl⟩
  rw [hp] at hb hwl ⊢
  generalize w.alloc (.cells #[.int .i64 (b : Int), .int .i64 (e : Int)] 24) = W at f0 hb hwb1 hW1 ⊢
  have c0 := cell_at hb 0
  have c1 := cell_at hb 1
  have d0 := cell_at hwb1 0
  have d1 := cell_at hwb1 1
  simp at c0 c1 d0 d1
  have hbl := lt_of_block hb
  go_region
  go_wp2_with fail
  have hMi : (b : Int) + (K0 : Int) = (M : Int) := by omega
  have HM := hid hMi
  clear hMi d0 d1
  go_loopw [7] (fun k wr => ∃ K : Nat, k = .int .i64 (K : Int) ∧ Hid (∃ j, K = 2 ^ j) ∧ 0 < K ∧ K < e - b ∧ Fresh W wr) (fun k _ => e - b - (intOf k).toNat)
  case atStart => exact ⟨1, rfl, ⟨0, rfl⟩, by omega, by omega, (Keeps.refl _ _).drew⟩
  case round =>
    obtain ⟨K, rfl, hK, hK0, hKn, fr⟩ := hrel
    have hb2 := fr.at_ hb (fun h => h)
    have c0 := cell_at hb2 0
    have c1 := cell_at hb2 1
    simp at c0 c1
    by_cases hlt : 2 * K < e - b
    · go_wp2_with fail
      go_roundw
      case rel => exact ⟨K * 2, by simp, by obtain ⟨j, rfl⟩ := hK.out; exact ⟨j + 1, rfl⟩, by omega, by omega, fr⟩
      case measure => simp [intOf]; omega
    · have hsp : K = K0 := by
        obtain ⟨j, rfl⟩ := hK.out
        exact HU.out j (by omega) (by omega)
      subst hsp
      have hMi := HM.out
      have hW2 := hW1.fresh fr
      go_wp2_with fail
      refine (C1.out wr hW2).mono ?_
      rintro r w3 ⟨rfl, k3, hW3⟩
      have hb3 := k3.at_ hb2 (by omega)
      clear c0 c1
      have c0 := cell_at hb3 0
      have c1 := cell_at hb3 1
      simp at c0 c1
      go_wp2_with fail
      refine (C2.out w3 hW3).mono ?_
      rintro r w4 ⟨rfl, k4, hW4⟩
      go_wp2_with fail
      refine (node_any X.1 Y.1 hx hy w4 hW4.dig).mono ?_
      rintro r w5 ⟨rfl, f5⟩
      go_wp2_with fail
      go_ret
      exact ⟨rfl, (((f0.trans fr).mono (fun _ _ h => h.elim)).trans (k3.trans k4)).trans (f5.mono (fun _ _ h => h.elim)), hW4.fresh f5⟩

theorem phash_any (rb re wb : Nat) (hr : rb < re) : ∀ (f b e : Nat) (H L : List (List UInt8)) (w : World), b < e → e - b ≤ 2 ^ f → e ≤ 2199023255552 → WalkAt w wb rb re H L → (toldF f rb re b e).length ≤ H.length → inRun rb re b e ≤ L.length → (∀ x ∈ H, x.length = 32) → (∀ x ∈ L, x.length = 32) →
      Calls Tryd.prog 61 #[.pointer (some ⟨wb, 0, none⟩), spanV (b, e)] w fun r w' => r = .returned (.string (str (walkF f rb re b e H L).1)) ∧ Keeps (fun q => q = wb) w w' ∧ WalkAt w' wb rb re (walkF f rb re b e H L).2.1 (walkF f rb re b e H L).2.2 := by
  have out : ∀ (f b e : Nat) (H L : List (List UInt8)) (w : World), (re ≤ b ∨ e ≤ rb) → WalkAt w wb rb re H L → (toldF f rb re b e).length ≤ H.length → (∀ x ∈ H, x.length = 32) →
      Calls Tryd.prog 61 #[.pointer (some ⟨wb, 0, none⟩), spanV (b, e)] w fun r w' => r = .returned (.string (str (walkF f rb re b e H L).1)) ∧ Keeps (fun q => q = wb) w w' ∧ WalkAt w' wb rb re (walkF f rb re b e H L).2.1 (walkF f rb re b e H L).2.2 := by
    intro f b e H L w hout hW hT hH
    have h1 : walkF f rb re b e H L = (H.headD [], H.tail, L) := by cases f <;> rw [walkF, if_pos hout]
    have h2 : toldF f rb re b e = [(b, e)] := by cases f <;> rw [toldF, if_pos hout]
    rw [h1]
    rw [h2] at hT
    cases H with
    | nil => simp at hT
    | cons x H => exact hash_out rb re wb b e x H L w hW (by omega) (hH x (by simp))
  have leaf : ∀ (f b e : Nat) (H L : List (List UInt8)) (w : World), ¬ (re ≤ b ∨ e ≤ rb) → e = b + 1 → e ≤ 2199023255552 → WalkAt w wb rb re H L → inRun rb re b e ≤ L.length → (∀ x ∈ L, x.length = 32) →
      Calls Tryd.prog 61 #[.pointer (some ⟨wb, 0, none⟩), spanV (b, e)] w fun r w' => r = .returned (.string (str (walkF f rb re b e H L).1)) ∧ Keeps (fun q => q = wb) w w' ∧ WalkAt w' wb rb re (walkF f rb re b e H L).2.1 (walkF f rb re b e H L).2.2 := by
    intro f b e H L w hout he1 he hW hI hL
    have h1 : walkF f rb re b e H L = (L.headD [], H, L.tail) := by
      cases f
      · rw [walkF, if_neg hout]
      · rw [walkF, if_neg hout, if_pos (by omega)]
    rw [h1]
    cases L with
    | nil => simp [inRun] at hI; omega
    | cons x L => exact hash_leaf rb re wb b e x H L w hW (by omega) (by omega) (by omega) (by omega) (by omega) (hL x (by simp))
  intro f
  induction f with
  | zero =>
    intro b e H L w hbe hf he hW hT hI hH hL
    by_cases hc : re ≤ b ∨ e ≤ rb
    · exact out 0 b e H L w hc hW hT hH
    · exact leaf 0 b e H L w hc (by simp at hf; omega) he hW hI hL
  | succ f ih =>
    intro b e H L w hbe hf he hW hT hI hH hL
    by_cases hc : re ≤ b ∨ e ≤ rb
    · exact out (f + 1) b e H L w hc hW hT hH
    by_cases h6 : e = b + 1
    · exact leaf (f + 1) b e H L w hc h6 he hW hI hL
    · obtain ⟨g1, g2, g3⟩ := splitN_facts (n := e - b) (by omega)
      have g4 := splitN_le (n := e - b) (f := f) (by omega) hf
      refine hash_fork f rb re wb b e H L w hW (by omega) (by omega) (by omega) he ?_ hf hr hT hI hH hL
      intro b' e' H' L' w' h1 h2 h3 h4 h5 h6' h7
      refine ih b' e' H' L' w' h1 ?_ ?_ h3 h4 h5 h6' h7
      · rcases h2 with ⟨rfl, rfl⟩ | ⟨rfl, rfl⟩ <;> omega
      · rcases h2 with ⟨rfl, rfl⟩ | ⟨rfl, rfl⟩ <;> omega
end Go.Proofs.YtgikabafaocemaaDoor
