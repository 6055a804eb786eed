/-
  The device: Pending.
-/
import Derived.Test.YtbhienlalpbflaaDvRead
import Derived.Test.YtbhienlalpbflaaDvRise
namespace Go.Proofs.Ytbhienlalpbflaa
open Go.RowKit Go.Maps

theorem wpList_push2 {P : Program} {ops : Array Oper} {rest : List Oper} {o : Oper} {a : Act} {Q : Exit → Act → World → Prop} (hgd : o.guard = none) (s x : Operand) (t : TypeId)
    (ho : o.op = .call { callee := .builtin .append, args := #[s, x], argTypes := #[t, t] })
    (e : TypeId) (i : TypeInfo) (z : Value) (bytes : Nat) (ht : P.underlying t = some (.slice e)) (hi : P.info? e = some i) (hz : i.zero = some z) (hsize : i.size = 2) (hby : i.bytes = bytes) (hzs : z.cells.size = 2)
    {v : Value} {n : Nat} {xs : List Value} (w0 : World) (hown : w0.ownsRow 0 e 2 v n xs) (u0 u1 : Value) (hs : a.eval s = v) (hx : a.eval x = .slice (some ⟨w0.heap.size, 0, none⟩) 1 1) (hu0 : u0.oneCell' = true) (hu1 : u1.oneCell' = true)
    (hb : (n + 1) * bytes ≤ 140737488355328) (hn : n + 1 ≤ maxLen)
    (h : ∀ v' w', Appended e 2 w0 w' v v' (n + 1) (xs ++ [u0, u1]) → wpList P ops Q rest (a.put o.dst v') w') : wpList P ops Q (o :: rest) a (w0.alloc (.cells #[u0, u1] e)) := by
  refine wpList_plain hgd fun K hK => ?_
  have hsrc : Src P 2 t (.slice (some ⟨w0.heap.size, 0, none⟩) 1 1) 1 [u0, u1] (w0.alloc (.cells #[u0, u1] e)) := Src.ofSlice _ ht _ 1 1 [u0, u1] rfl (fun j y hj => by
    match j, hj with
    | 0, hj => simp at hj; subst hj; simp [Addr.add]
    | 1, hj => simp at hj; subst hj; simp [Addr.add]
    | (j + 2), hj => simp at hj) (fun y hy => by
      simp at hy
      rcases hy with rfl | rfl
      · exact hu0
      · exact hu1)
  obtain ⟨v', w', hr, ⟨h1, h2, h3⟩, h4⟩ := run_append_row (P := P) (w0.alloc (.cells #[u0, u1] e)) t t o.type e i z 2 bytes ht hi hz hsize hby hzs (by decide) v n xs (hown.alloc _) _ 1 [u0, u1] hsrc hn hb
  unfold Oper.wp
  simp [execOp, ho, resolve, invoke, builtin, hs, hx, hr, Result.andThen]
  refine hK _ _ (h v' w' ⟨h1, ((Keeps.refl _ w0).alloc _).trans h2, fun g hg => ?_⟩)
  rcases h3 g hg with h | h
  · exact .inl h
  · have := h.1; simp at this; exact .inr ⟨by omega, h.2⟩

theorem Try.infoWrite : (Try.prog.info? 69).map (fun i => (i.zero, i.size, i.bytes)) = some (some (.agg #[.int .i64 0, .string ⟨#[]⟩]), 2, 24) := by kernel_rfl
def writeCells (ws : List (Int × List UInt8)) : List Value := ws.flatMap fun x => [.int .i64 x.1, .string (str x.2)]
theorem writeCells_snoc (ws : List (Int × List UInt8)) (x : Int × List UInt8) : writeCells (ws ++ [x]) = writeCells ws ++ [.int .i64 x.1, .string (str x.2)] := by simp [writeCells]
theorem writeCells_at : ∀ (ws : List (Int × List UInt8)) (k : Nat) (x : Int × List UInt8), ws[k]? = some x → (writeCells ws)[2 * k]? = some (.int .i64 x.1) ∧ (writeCells ws)[2 * k + 1]? = some (.string (str x.2))
  | [], k, x, h => by simp at h
  | y :: r, 0, x, h => by
    simp at h
    subst h
    exact ⟨rfl, rfl⟩
  | y :: r, k + 1, x, h => by
    have ih := writeCells_at r k x (by simpa using h)
    have e : writeCells (y :: r) = .int .i64 y.1 :: .string (str y.2) :: writeCells r := rfl
    rw [e, show 2 * (k + 1) = 2 * k + 1 + 1 by omega, show 2 * k + 1 + 1 + 1 = (2 * k + 1) + 1 + 1 by omega]
    simpa using ih
/-- a list of writes -/
def WritesAt (w : World) (v : Value) (ws : List (Int × List UInt8)) : Prop :=
  ∃ ao cap, v = .slice ao ws.length cap ∧ ∀ (k : Nat) (x : Int × List UInt8), ws[k]? = some x → ∃ bb, ao = some ⟨bb, 0, none⟩ ∧ bb < w.heap.size ∧ w.cell? ⟨bb, 2 * k, none⟩ = some (.int .i64 x.1) ∧ w.cell? ⟨bb, 2 * k + 1, none⟩ = some (.string (str x.2))
theorem WritesAt.fresh {w w' : World} {v : Value} {ws : List (Int × List UInt8)} (h : WritesAt w v ws) (f : Fresh w w') : WritesAt w' v ws := by
  obtain ⟨ao, cap, rfl, hc⟩ := h
  exact ⟨ao, cap, rfl, fun k x hx => by
    obtain ⟨bb, e1, e2, e3, e4⟩ := hc k x hx
    exact ⟨bb, e1, Nat.lt_of_lt_of_le e2 f.size, (f.cell (p := ⟨bb, 2 * k, none⟩) e2 (fun h => h)).trans e3, (f.cell (p := ⟨bb, 2 * k + 1, none⟩) e2 (fun h => h)).trans e4⟩⟩

def pendList (D : DD) (f : Int → Option (List UInt8)) : List (Int × List UInt8) := ((intKeys D).mergeSort fun x y => decide (x ≤ y)).map fun p => (p, (f p).getD [])

set_option maxRecDepth 100000 in
theorem clipw_any (ao : Option Addr) (n cap : Nat) (w : World) (h : n ≤ cap) (h0 : ao = none → n = 0) :
    Calls Try.prog 34 #[.slice ao n cap] w fun e w' => e = .returned (.slice ao n n) ∧ Fresh w w' := by
  go_enter Try.func34, Try.ntmps34
  cases ao with
  | none =>
    have := h0 rfl
    subst this
    go_wp2_with fail
    go_ret
    exact ⟨by simp, Keeps.refl _ _⟩
  | some a =>
    go_wp2_with fail
    go_ret
    exact ⟨by simp, Keeps.refl _ _⟩

set_option maxRecDepth 100000 in
set_option maxHeartbeats 2000000 in
theorem pending_any (B : Nat → Prop) (d : Nat) (l : List (List UInt8)) (D : DD) (n : Nat) (dead : Bool) (armed : Int) (f : Int → Option (List UInt8)) (w : World) (h : Dev B w d l D n dead armed) (hP : Pends D f) (hn : Maps.size D ≤ 4096) (hw : ∀ p ∈ intKeys D, 0 ≤ p ∧ p < 4096) :
    Calls Try.prog 17 #[.pointer (some ⟨d, 0, none⟩)] w fun e w' => ∃ v, e = .returned v ∧ WritesAt w' v (pendList D f) ∧ Fresh w w' := by
  obtain ⟨i0, hi, hz0, hz1, hz2⟩ := info_parts Try.infoWrite
  obtain ⟨pv, mb, h1, h2, h3, -⟩ := h.ex
  have c1 := cell_at h1 1
  simp at c1
  have hrise := rising_any d mb n D w c1 h3 (by omega)
  have H3 := hid h3
  have H1 := hid h1
  have HR := hid hrise
  have HW := hid hw
  have HPP := hid hP
  clear h1 h2 h3 h hrise c1 hw hP
  go_enter Try.func17, Try.ntmps17
  go_wp2_with fail
  refine HR.out.mono ?_
  rintro e w1 ⟨v1, ss, rfl, hperm, hrow, -, hbel⟩
  have f1 : Fresh w w1 := (Keeps.of_below hbel).mono fun k hk hk2 => absurd hk (by omega)
  have hsorted : ss.mergeSort (fun x y => decide (x ≤ y)) = (intKeys D).mergeSort (fun x y => decide (x ≤ y)) :=
    List.Perm.eq_of_pairwise (le := fun a b => decide (a ≤ b) = true) (fun a b _ _ p q => by simp only [decide_eq_true_eq] at p q; omega) (List.pairwise_mergeSort (fun a b c p q => by simp only [decide_eq_true_eq] at p q ⊢; omega) (fun a b => by simp; omega) ss) (List.pairwise_mergeSort (fun a b c p q => by simp only [decide_eq_true_eq] at p q ⊢; omega) (fun a b => by simp; omega) _) (((List.mergeSort_perm ss _).trans hperm).trans (List.mergeSort_perm _ _).symm)
  obtain ⟨L, hL⟩ : ∃ L, (intKeys D).mergeSort (fun x y => decide (x ≤ y)) = L := ⟨_, rfl⟩
  have hlen : ss.length = L.length := by rw [← hL, List.length_mergeSort, hperm.length_eq]
  have hmem : ∀ p ∈ L, 0 ≤ p ∧ p < 4096 := fun p hp => HW.out p (by rw [← hL] at hp; exact (List.mergeSort_perm _ _).mem_iff.1 hp)
  have hLn : L.length ≤ 4096 := by
    rw [← hL, List.length_mergeSort]
    obtain ⟨es, clock, hb, F, hs, rfl⟩ := H3.out
    simpa [Maps.size, intKeys] using hn
  rw [hsorted, hL, hlen] at hrow
  have hpl : pendList D f = L.map fun p => (p, (f p).getD []) := by rw [pendList, hL]
  obtain ⟨WL, hWL⟩ : ∃ WL, (L.map fun p => (p, (f p).getD [])) = WL := ⟨_, rfl⟩
  have hWn : WL.length = L.length := by rw [← hWL, List.length_map]
  have hWat : ∀ k p, L[k]? = some p → WL[k]? = some (p, (f p).getD []) := fun k p h => by rw [← hWL, List.getElem?_map, h]; rfl
  rw [hWL] at hpl
  have HPL := hid hpl
  have HWN := hid hWn
  have HWAT := hid hWat
  obtain ⟨ao1, cp1, rfl, hcells⟩ := ownsRow_at hrow
  have HC := hid hcells
  have HM := hid hmem
  clear hcells hrow hsorted hperm hlen hmem hL hbel HR HW hpl hWL hWn hWat
  go_wp2_with fail
  go_loopw [3, 9] (fun s i wr => ∃ m : Nat, i = .int .i64 (m : Int) ∧ m ≤ L.length ∧ wr.ownsRow 0 69 2 s m (writeCells (WL.take m)) ∧ (∀ g, s.ownBlock = some g → w1.heap.size ≤ g) ∧ Fresh w1 wr) (fun _ i _ => L.length - (intOf i).toNat)
  case atStart => exact ⟨0, rfl, by omega, World.ownsRow_nil _ _ _ _, (fun _ h => nomatch h), Keeps.refl _ _⟩
  case round =>
    obtain ⟨m, rfl, hm, hrow, hnew, fr⟩ := hrel
    by_cases hlt : m < L.length
    · obtain ⟨p, hp⟩ : ∃ p, L[m]? = some p := ⟨L[m], by simp⟩
      obtain ⟨hp0, hp1⟩ := HM.out p (List.mem_of_getElem? hp)
      obtain ⟨bb, rfl, hbb, hcell⟩ := HC.out m (.int .i64 p) (by rw [List.getElem?_map, hp]; rfl)
      have hcell := (fr.cell (p := ⟨bb, m, none⟩) hbb (fun h => h)).trans hcell
      have fw := f1.trans fr
      have D1 := cell_at (fw.at_ H1.out (fun h => h)) 1
      simp at D1
      have hlook := look_text (map_keeps H3.out fw (fun h => h)) HPP.out p (WalkArith.wf_i64 (by omega))
      obtain ⟨so, scap, rfl⟩ := ownsRow_slice hrow
      have htk : WL.take (m + 1) = WL.take m ++ [(p, (f p).getD [])] := by
        rw [List.take_add_one, HWAT.out m p hp]; rfl
      have HTK := hid htk
      clear htk hp
      go_wp2_with (at_builtin; refine wpList_push2 rfl (.tmp 13) (.tmp 22) 38 rfl 69 i0 (.agg #[.int .i64 0, .string ⟨#[]⟩]) 24 Try.underlying38 hi hz0 hz1 hz2 rfl wr hrow _ _ (by rfl) (by rfl) rfl rfl (by omega) (by unfold maxLen; omega) ?_)
      intro v4 w4 ha
      obtain ⟨ao4, cp4, rfl⟩ := ownsRow_slice ha.row
      have f4 : Fresh w1 w4 := fr.trans' ha.keeps fun i hi h => by have := hnew i h; omega
      have hrow4 := ha.row
      have hown4 : ∀ g, (Value.slice ao4 (m + 1) cp4).ownBlock = some g → w1.heap.size ≤ g := fun g hg => by
        rcases ha.own g hg with h | h
        · exact hnew g h
        · have := fr.size; omega
      have hrow5 : w4.ownsRow 0 69 2 (.slice ao4 (m + 1) cp4) (m + 1) (writeCells (WL.take (m + 1))) := by
        rw [HTK.out, writeCells_snoc]; exact hrow4
      clear ha hrow4 hrow hnew hlook D1 hcell
      go_wp2
      go_roundw
      case rel => exact ⟨m + 1, by go_num, by omega, hrow5, hown4, f4⟩
      case measure => simp [intOf]; omega
    · obtain rfl : m = L.length := by omega
      rw [← HWN.out, List.take_length, HWN.out] at hrow
      obtain ⟨so, scap, rfl⟩ := ownsRow_slice hrow
      have hcap : L.length ≤ scap ∧ (so = none → L.length = 0) := by
        rcases hrow.2 with ⟨he, h0⟩ | ⟨g, cap, cur, he, _, _, h2, h3, _, _⟩
        · simp only [Value.slice.injEq] at he
          exact ⟨by omega, fun _ => h0⟩
        · simp only [Value.slice.injEq] at he
          refine ⟨by omega, fun e => ?_⟩
          rw [e] at he
          cases he.1
      obtain ⟨k1, k3⟩ := hcap
      have hclip := clipw_any so L.length scap wr k1 k3
      have HCL := hid hclip
      clear hclip
      go_wp2_with fail
      refine HCL.out.mono ?_
      rintro e w2 ⟨rfl, f2⟩
      go_wp2_with fail
      go_ret
      refine ⟨_, rfl, ?_, (f1.trans fr).trans f2⟩
      rw [HPL.out]
      refine WritesAt.fresh (w := wr) ⟨so, L.length, by rw [HWN.out]; rfl, fun k x hx => ?_⟩ f2
      obtain ⟨q1, q2⟩ := writeCells_at _ k x hx
      have hk : k < L.length := by have := (List.getElem?_eq_some_iff.1 hx).1; have := HWN.out; omega
      rcases hrow.2 with ⟨_, h0⟩ | ⟨g, cap, cur, he, _, hb, h2, h3, h4, h5⟩
      · omega
      · simp only [Value.slice.injEq] at he
        obtain ⟨rfl, -, rfl⟩ := he
        rw [← h5] at q1 q2
        rw [List.getElem?_take] at q1 q2
        refine ⟨g, rfl, lt_of_block hb, ?_, ?_⟩
        · rw [cell_at hb]
          split at q1
          · simpa using q1
          · cases q1
        · rw [cell_at hb]
          split at q2
          · simpa using q2
          · cases q2
end Go.Proofs.Ytbhienlalpbflaa
