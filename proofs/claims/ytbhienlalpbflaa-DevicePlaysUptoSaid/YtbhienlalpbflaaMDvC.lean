/-
  Contracts of Go's library, laid at this program (the numbers by name).
  The device: the pages of which something is pending, rising.
  The device: Pending.
  The device: Arm; what act does, of a device that is armed or not.
  The device: what Flush does to the pages and to what is pending.
-/
import Derived.Shelf.SlIterI.Nil
import Derived.Shelf.SortM.Plain
import Derived.Shelf.SortM.SortNone
import Derived.Test.YtbhienlalpbflaaProg
import Derived.Test.YtbhienlalpbflaaMDvA
import Derived.Test.YtbhienlalpbflaaMDvB
namespace Go.Proofs.Ytbhienlalpbflaa
open Go.Shelf Go.RowKit
def Try.keysA_ren : Go.Shelf.Ren := ⟨fun | 7 => 59 | 10 => 71 | n => n, fun | 23 => 80 | 26 => 3 | 3 => 9 | 28 => 112 | 0 => 0 | 27 => 111 | 33 => 122 | 4 => 4 | n => n, fun | n => n⟩
theorem Try.keysA : Go.Proofs.SlLaysZI.n7 Try.prog Try.keysA_ren := {
  mixed := by kernel_rfl
  f7 := ⟨Try.f59.name, by decide, Try.func59.trans (congrArg some (by kernel_rfl))⟩
  f10 := ⟨Try.f71.name, by decide, Try.func71.trans (congrArg some (by kernel_rfl))⟩
  t0 := Try.underlying0
  a0 := Try.isAgg0
  z0 := Try.sizeOf0
  v0 := Try.zeroValue0
  t4 := Try.underlying4
  a4 := Try.isAgg4
  z4 := Try.sizeOf4
  v4 := Try.zeroValue4
  t23 := Try.underlying80
  a23 := Try.isAgg80
  z23 := Try.sizeOf80
  v23 := Try.zeroValue80
  t26 := Try.underlying3
  a26 := Try.isAgg3
  z26 := Try.sizeOf3
  v26 := Try.zeroValue3
  t27 := Try.underlying111
  a27 := Try.isAgg111
  z27 := Try.sizeOf111
  v27 := Try.zeroValue111
  t28 := Try.underlying112
  a28 := Try.isAgg112
  z28 := Try.sizeOf112
  v28 := Try.zeroValue112
  t33 := Try.underlying122
  a33 := Try.isAgg122
  z33 := Try.sizeOf122
  v33 := Try.zeroValue122 }
def Try.sortedA_ren : Go.Shelf.Ren := ⟨fun | 6 => 58 | 8 => 69 | 9 => 70 | 11 => 74 | 13 => 76 | 12 => 75 | 23 => 86 | 24 => 87 | 14 => 77 | 15 => 78 | 16 => 79 | 17 => 80 | 18 => 81 | 19 => 82 | 20 => 83 | 21 => 84 | 22 => 85 | 25 => 88 | 26 => 89 | 27 => 90 | 28 => 91 | 29 => 92 | 30 => 93 | 31 => 94 | n => n, fun | 26 => 3 | 28 => 112 | 24 => 60 | 0 => 0 | 3 => 3 | 37 => 96 | 48 => 114 | 50 => 117 | 4 => 4 | 40 => 131 | 39 => 130 | 45 => 94 | 5 => 5 | 9 => 9 | 51 => 139 | 55 => 143 | 57 => 145 | 58 => 146 | 33 => 122 | n => n, fun | n => n⟩
theorem Try.sortedA : Go.Proofs.SlLaysZI.n6 Try.prog Try.sortedA_ren := {
  mixed := by kernel_rfl
  f6 := ⟨Try.f58.name, by decide, Try.func58.trans (congrArg some (by kernel_rfl))⟩
  f8 := ⟨Try.f69.name, by decide, Try.func69.trans (congrArg some (by kernel_rfl))⟩
  f11 := ⟨Try.f74.name, by decide, Try.func74.trans (congrArg some (by kernel_rfl))⟩
  t0 := Try.underlying0
  a0 := Try.isAgg0
  z0 := Try.sizeOf0
  v0 := Try.zeroValue0
  t24 := Try.underlying60
  a24 := Try.isAgg60
  z24 := Try.sizeOf60
  v24 := Try.zeroValue60
  t26 := Try.underlying3
  a26 := Try.isAgg3
  z26 := Try.sizeOf3
  v26 := Try.zeroValue3
  t28 := Try.underlying112
  a28 := Try.isAgg112
  z28 := Try.sizeOf112
  v28 := Try.zeroValue112
  i26 := by kernel_rfl }
def Try.sortA_ren : Go.Shelf.Ren := ⟨fun | 5 => 70 | 8 => 76 | 7 => 75 | 19 => 86 | 20 => 87 | 10 => 77 | 11 => 78 | 12 => 79 | 13 => 80 | 14 => 81 | 15 => 82 | 16 => 83 | 17 => 84 | 18 => 85 | 30 => 88 | 31 => 89 | 32 => 90 | 33 => 91 | 34 => 92 | 35 => 93 | 40 => 94 | n => n, fun | 23 => 60 | 25 => 3 | 3 => 3 | 32 => 96 | 22 => 60 | 0 => 0 | 44 => 114 | 46 => 117 | 4 => 4 | 36 => 131 | 35 => 130 | 41 => 94 | 5 => 5 | 9 => 9 | 53 => 139 | 57 => 143 | 63 => 145 | 64 => 146 | n => n, fun | n => n⟩
theorem Try.sortA : Go.Proofs.SlLaysM.n5 Try.prog Try.sortA_ren := {
  mixed := by kernel_rfl
  f5 := ⟨Try.f70.name, by decide, Try.func70.trans (congrArg some (by kernel_rfl))⟩
  f7 := ⟨Try.f75.name, by decide, Try.func75.trans (congrArg some (by kernel_rfl))⟩
  f8 := Try.func76.trans (congrArg some (by kernel_rfl))
  f10 := ⟨Try.f77.name, by decide, Try.func77.trans (congrArg some (by kernel_rfl))⟩
  f11 := ⟨Try.f78.name, by decide, Try.func78.trans (congrArg some (by kernel_rfl))⟩
  f12 := ⟨Try.f79.name, by decide, Try.func79.trans (congrArg some (by kernel_rfl))⟩
  f13 := ⟨Try.f80.name, by decide, Try.func80.trans (congrArg some (by kernel_rfl))⟩
  f14 := ⟨Try.f81.name, by decide, Try.func81.trans (congrArg some (by kernel_rfl))⟩
  f15 := ⟨Try.f82.name, by decide, Try.func82.trans (congrArg some (by kernel_rfl))⟩
  f16 := ⟨Try.f83.name, by decide, Try.func83.trans (congrArg some (by kernel_rfl))⟩
  f17 := ⟨Try.f84.name, by decide, Try.func84.trans (congrArg some (by kernel_rfl))⟩
  f18 := ⟨Try.f85.name, by decide, Try.func85.trans (congrArg some (by kernel_rfl))⟩
  f19 := Try.func86.trans (congrArg some (by kernel_rfl))
  f20 := Try.func87.trans (congrArg some (by kernel_rfl))
  f30 := ⟨Try.f88.name, by decide, Try.func88.trans (congrArg some (by kernel_rfl))⟩
  f31 := Try.func89.trans (congrArg some (by kernel_rfl))
  f32 := Try.func90.trans (congrArg some (by kernel_rfl))
  f33 := ⟨Try.f91.name, by decide, Try.func91.trans (congrArg some (by kernel_rfl))⟩
  f34 := ⟨Try.f92.name, by decide, Try.func92.trans (congrArg some (by kernel_rfl))⟩
  f35 := ⟨Try.f93.name, by decide, Try.func93.trans (congrArg some (by kernel_rfl))⟩
  f40 := ⟨Try.f94.name, by decide, Try.func94.trans (congrArg some (by kernel_rfl))⟩
  t0 := Try.underlying0
  a0 := Try.isAgg0
  z0 := Try.sizeOf0
  v0 := Try.zeroValue0
  t3 := Try.underlying3
  a3 := Try.isAgg3
  z3 := Try.sizeOf3
  v3 := Try.zeroValue3
  t4 := Try.underlying4
  a4 := Try.isAgg4
  z4 := Try.sizeOf4
  v4 := Try.zeroValue4
  t5 := Try.underlying5
  a5 := Try.isAgg5
  z5 := Try.sizeOf5
  v5 := Try.zeroValue5
  t9 := Try.underlying9
  a9 := Try.isAgg9
  z9 := Try.sizeOf9
  v9 := Try.zeroValue9
  t22 := Try.underlying60
  a22 := Try.isAgg60
  z22 := Try.sizeOf60
  v22 := Try.zeroValue60
  t23 := Try.underlying60
  a23 := Try.isAgg60
  z23 := Try.sizeOf60
  v23 := Try.zeroValue60
  t25 := Try.underlying3
  a25 := Try.isAgg3
  z25 := Try.sizeOf3
  v25 := Try.zeroValue3
  t32 := Try.underlying96
  a32 := Try.isAgg96
  z32 := Try.sizeOf96
  v32 := Try.zeroValue96
  t35 := Try.underlying130
  a35 := Try.isAgg130
  z35 := Try.sizeOf130
  v35 := Try.zeroValue130
  t36 := Try.underlying131
  a36 := Try.isAgg131
  z36 := Try.sizeOf131
  v36 := Try.zeroValue131
  t41 := Try.underlying94
  a41 := Try.isAgg94
  z41 := Try.sizeOf94
  v41 := Try.zeroValue94
  t44 := Try.underlying114
  a44 := Try.isAgg114
  z44 := Try.sizeOf114
  v44 := Try.zeroValue114
  t46 := Try.underlying117
  a46 := Try.isAgg117
  z46 := Try.sizeOf117
  v46 := Try.zeroValue117
  t53 := Try.underlying139
  a53 := Try.isAgg139
  z53 := Try.sizeOf139
  v53 := Try.zeroValue139
  t57 := Try.underlying143
  a57 := Try.isAgg143
  z57 := Try.sizeOf143
  v57 := Try.zeroValue143
  t63 := Try.underlying145
  a63 := Try.isAgg145
  z63 := Try.sizeOf145
  v63 := Try.zeroValue145
  t64 := Try.underlying146
  a64 := Try.isAgg146
  z64 := Try.sizeOf146
  v64 := Try.zeroValue146 }
end Go.Proofs.Ytbhienlalpbflaa

namespace Go.Proofs.Ytbhienlalpbflaa
open Go.RowKit Go.Maps Go.Sort Go.Shelf

theorem Try.sortsA (m : Nat) : AnyZI.SortsIn Try.prog Try.sortedA_ren Fence.wide m :=
  ⟨fun blk off cap ss W hH hblk hsz => callsIn_wide.2 (AnyM.slices_Sort_int Try.sortA blk off cap ss W hH hblk hsz),
   fun p cap W => callsIn_wide.2 (AnyM.slices_Sort_int_none Try.sortA p cap W)⟩

set_option maxRecDepth 100000 in
set_option maxHeartbeats 1000000 in
theorem rising_any (d mb n : Nat) (D : DD) (w : World) (hc : w.cell? ⟨d, 1, none⟩ = some (.map (some mb))) (hown : w.ownsMap Try.prog 3 (plainElem Try.prog 9) mb n D) (hn : Maps.size D ≤ 100000) :
    Calls Try.prog 33 #[.pointer (some ⟨d, 0, none⟩)] w fun e w' => ∃ (v : Value) (ss : List Int), e = .returned v ∧ ss.Perm (intKeys D) ∧
      w'.ownsRow w.heap.size 3 1 v ss.length ((ss.mergeSort (fun x y => decide (x ≤ y))).map encZ) ∧ (v = .slice none 0 0 ↔ ss = []) ∧ Below w.heap.size w w' := by
  refine (callsIn_wide (n := 6)).1 ?_
  have hbl := hown.lt
  have hseq : SeqGives Fence.wide 2 Try.prog 71 #[.pointer (some ⟨w.heap.size, 0, none⟩)] encZ (fun ss => ss.Perm (intKeys D)) (Maps.size D) (w.alloc (.cells #[.map (some mb)] 80)) :=
    AnyZI.keys_gives (ρ := Try.keysA_ren) { Try.keysA with } Fence.wide _ trivial rfl (by omega) w.heap.size mb n D _ (by simp) (by simp) (by
      obtain ⟨es, clock, hb, Ft, hs, hD⟩ := hown
      exact ⟨es, clock, (Below.heap_alloc _ _ mb hbl).trans hb, Ft, hs, hD⟩)
  have cK : ∀ mb W, CallsIn Fence.wide 5 Try.prog 59 #[.map mb] W fun e w' => e = .returned (.func (.func 71) #[] #[.pointer (some ⟨W.heap.size, 0, none⟩)]) ∧ w' = W.alloc (.cells #[.map mb] 80) := fun mb W => AnyZI.keys_in Try.keysA Fence.wide 5 trivial rfl mb W
  have cS := AnyZI.sorted_in Try.sortedA Fence.wide 5 trivial trivial trivial trivial rfl (by omega) (Try.sortsA _) (enters_of Try.func70 (by kernel_rfl) rfl) 71 #[.pointer (some ⟨w.heap.size, 0, none⟩)] trivial (enters_of Try.func71 (by kernel_rfl) rfl) _ _ (by unfold maxLen; omega) (by omega) _ hseq
  change CallsIn _ _ Try.prog 58 _ _ _ at cS
  have hfK : Fence.wide.fn 59 := trivial
  have hfS : Fence.wide.fn 58 := trivial
  refine callsIn_of_wp Try.func33 rfl trivial ?_ rfl
  simp only [Try.ntmps33, List.size_toArray, List.length_cons, List.length_nil, Nat.reduceAdd, Nat.reduceSub, Array.replicate_succ, Array.replicate_zero, List.push_toArray, List.append_toArray, List.nil_append, List.cons_append]
  gi_wp2_with (first
    | (gi_at_call 59; refine (cK _ _).mono ?_; rintro e w' ⟨rfl, rfl⟩)
    | (gi_at_call 58; refine cS.mono ?_; rintro e w' ⟨v, ss, rfl, hS, hrow, hnil, hb⟩))
  go_ret
  exact ⟨v, ss, rfl, hS, ownsRow_base_a hrow (by simp), hnil, ((Below.refl _ w).alloc (Nat.le_refl _) _).trans (hb.mono (by simp))⟩
end Go.Proofs.Ytbhienlalpbflaa

namespace Go.Proofs.Ytbhienlalpbflaa
open Go.RowKit Go.Maps

theorem wpList_push2 {P : Program} {ops : Array Oper} {rest : List Oper} {o : Oper} {a : Act} {Q : Exit → Act → World → Prop} (hgd : o.guard = none) (s x : Operand) (t : TypeId)
    (ho : o.op = .call { callee := .builtin .append, args := #[s, x], argTypes := #[t, t] })
    (e : TypeId) (i : TypeInfo) (z : Value) (bytes : Nat) (ht : P.underlying t = some (.slice e)) (hi : P.info? e = some i) (hz : i.zero = some z) (hsize : i.size = 2) (hby : i.bytes = bytes) (hzs : z.cells.size = 2)
    {v : Value} {n : Nat} {xs : List Value} (w0 : World) (hown : w0.ownsRow 0 e 2 v n xs) (u0 u1 : Value) (hs : a.eval s = v) (hx : a.eval x = .slice (some ⟨w0.heap.size, 0, none⟩) 1 1) (hu0 : u0.oneCell' = true) (hu1 : u1.oneCell' = true)
    (hb : (n + 1) * bytes ≤ 140737488355328) (hn : n + 1 ≤ maxLen)
    (h : ∀ v' w', Appended e 2 w0 w' v v' (n + 1) (xs ++ [u0, u1]) → wpList P ops Q rest (a.put o.dst v') w') : wpList P ops Q (o :: rest) a (w0.alloc (.cells #[u0, u1] e)) := by
  refine wpList_plain hgd fun K hK => ?_
  have hsrc : Src P 2 t (.slice (some ⟨w0.heap.size, 0, none⟩) 1 1) 1 [u0, u1] (w0.alloc (.cells #[u0, u1] e)) := Src.ofSlice _ ht _ 1 1 [u0, u1] rfl (fun j y hj => by
    match j, hj with
    | 0, hj => simp at hj; subst hj; simp [Addr.add]
    | 1, hj => simp at hj; subst hj; simp [Addr.add]
    | (j + 2), hj => simp at hj) (fun y hy => by
      simp at hy
      rcases hy with rfl | rfl
      · exact hu0
      · exact hu1)
  obtain ⟨v', w', hr, ⟨h1, h2, h3⟩, h4⟩ := run_append_row (P := P) (w0.alloc (.cells #[u0, u1] e)) t t o.type e i z 2 bytes ht hi hz hsize hby hzs (by decide) v n xs (hown.alloc _) _ 1 [u0, u1] hsrc hn hb
  unfold Oper.wp
  simp [execOp, ho, resolve, invoke, builtin, hs, hx, hr, Result.andThen]
  refine hK _ _ (h v' w' ⟨h1, ((Keeps.refl _ w0).alloc _).trans h2, fun g hg => ?_⟩)
  rcases h3 g hg with h | h
  · exact .inl h
  · have := h.1; simp at this; exact .inr ⟨by omega, h.2⟩

theorem Try.infoWrite : (Try.prog.info? 69).map (fun i => (i.zero, i.size, i.bytes)) = some (some (.agg #[.int .i64 0, .string ⟨#[]⟩]), 2, 24) := by kernel_rfl
def writeCells (ws : List (Int × List UInt8)) : List Value := ws.flatMap fun x => [.int .i64 x.1, .string (str x.2)]
theorem writeCells_snoc (ws : List (Int × List UInt8)) (x : Int × List UInt8) : writeCells (ws ++ [x]) = writeCells ws ++ [.int .i64 x.1, .string (str x.2)] := by simp [writeCells]
theorem writeCells_at : ∀ (ws : List (Int × List UInt8)) (k : Nat) (x : Int × List UInt8), ws[k]? = some x → (writeCells ws)[2 * k]? = some (.int .i64 x.1) ∧ (writeCells ws)[2 * k + 1]? = some (.string (str x.2))
  | [], k, x, h => by simp at h
  | y :: r, 0, x, h => by
    simp at h
    subst h
    exact ⟨rfl, rfl⟩
  | y :: r, k + 1, x, h => by
    have ih := writeCells_at r k x (by simpa using h)
    have e : writeCells (y :: r) = .int .i64 y.1 :: .string (str y.2) :: writeCells r := rfl
    rw [e, show 2 * (k + 1) = 2 * k + 1 + 1 by omega, show 2 * k + 1 + 1 + 1 = (2 * k + 1) + 1 + 1 by omega]
    simpa using ih
/-- a list of writes -/
def WritesAt (w : World) (v : Value) (ws : List (Int × List UInt8)) : Prop :=
  ∃ ao cap, v = .slice ao ws.length cap ∧ ∀ (k : Nat) (x : Int × List UInt8), ws[k]? = some x → ∃ bb, ao = some ⟨bb, 0, none⟩ ∧ bb < w.heap.size ∧ w.cell? ⟨bb, 2 * k, none⟩ = some (.int .i64 x.1) ∧ w.cell? ⟨bb, 2 * k + 1, none⟩ = some (.string (str x.2))
theorem WritesAt.fresh {w w' : World} {v : Value} {ws : List (Int × List UInt8)} (h : WritesAt w v ws) (f : Fresh w w') : WritesAt w' v ws := by
  obtain ⟨ao, cap, rfl, hc⟩ := h
  exact ⟨ao, cap, rfl, fun k x hx => by
    obtain ⟨bb, e1, e2, e3, e4⟩ := hc k x hx
    exact ⟨bb, e1, Nat.lt_of_lt_of_le e2 f.size, (f.cell (p := ⟨bb, 2 * k, none⟩) e2 (fun h => h)).trans e3, (f.cell (p := ⟨bb, 2 * k + 1, none⟩) e2 (fun h => h)).trans e4⟩⟩

def pendList (D : DD) (f : Int → Option (List UInt8)) : List (Int × List UInt8) := ((intKeys D).mergeSort fun x y => decide (x ≤ y)).map fun p => (p, (f p).getD [])

set_option maxRecDepth 100000 in
theorem clipw_any (ao : Option Addr) (n cap : Nat) (w : World) (h : n ≤ cap) (h0 : ao = none → n = 0) :
    Calls Try.prog 34 #[.slice ao n cap] w fun e w' => e = .returned (.slice ao n n) ∧ Fresh w w' := by
  go_enter Try.func34, Try.ntmps34
  cases ao with
  | none =>
    have := h0 rfl
    subst this
    go_wp2_with fail
    go_ret
    exact ⟨by simp, Keeps.refl _ _⟩
  | some a =>
    go_wp2_with fail
    go_ret
    exact ⟨by simp, Keeps.refl _ _⟩

set_option maxRecDepth 100000 in
set_option maxHeartbeats 2000000 in
theorem pending_any (B : Nat → Prop) (d : Nat) (l : List (List UInt8)) (D : DD) (n : Nat) (dead : Bool) (armed : Int) (f : Int → Option (List UInt8)) (w : World) (h : Dev B w d l D n dead armed) (hP : Pends D f) (hn : Maps.size D ≤ 4096) (hw : ∀ p ∈ intKeys D, 0 ≤ p ∧ p < 4096) :
    Calls Try.prog 17 #[.pointer (some ⟨d, 0, none⟩)] w fun e w' => ∃ v, e = .returned v ∧ WritesAt w' v (pendList D f) ∧ Fresh w w' := by
  obtain ⟨i0, hi, hz0, hz1, hz2⟩ := info_parts Try.infoWrite
  obtain ⟨pv, mb, h1, h2, h3, -⟩ := h.ex
  have c1 := cell_at h1 1
  simp at c1
  have hrise := rising_any d mb n D w c1 h3 (by omega)
  have H3 := hid h3
  have H1 := hid h1
  have HR := hid hrise
  have HW := hid hw
  have HPP := hid hP
  clear h1 h2 h3 h hrise c1 hw hP
  go_enter Try.func17, Try.ntmps17
  go_wp2_with fail
  refine HR.out.mono ?_
  rintro e w1 ⟨v1, ss, rfl, hperm, hrow, -, hbel⟩
  have f1 : Fresh w w1 := (Keeps.of_below hbel).mono fun k hk hk2 => absurd hk (by omega)
  have hsorted : ss.mergeSort (fun x y => decide (x ≤ y)) = (intKeys D).mergeSort (fun x y => decide (x ≤ y)) :=
    List.Perm.eq_of_pairwise (le := fun a b => decide (a ≤ b) = true) (fun a b _ _ p q => by simp only [decide_eq_true_eq] at p q; omega) (List.pairwise_mergeSort (fun a b c p q => by simp only [decide_eq_true_eq] at p q ⊢; omega) (fun a b => by simp; omega) ss) (List.pairwise_mergeSort (fun a b c p q => by simp only [decide_eq_true_eq] at p q ⊢; omega) (fun a b => by simp; omega) _) (((List.mergeSort_perm ss _).trans hperm).trans (List.mergeSort_perm _ _).symm)
  obtain ⟨L, hL⟩ : ∃ L, (intKeys D).mergeSort (fun x y => decide (x ≤ y)) = L := ⟨_, rfl⟩
  have hlen : ss.length = L.length := by rw [← hL, List.length_mergeSort, hperm.length_eq]
  have hmem : ∀ p ∈ L, 0 ≤ p ∧ p < 4096 := fun p hp => HW.out p (by rw [← hL] at hp; exact (List.mergeSort_perm _ _).mem_iff.1 hp)
  have hLn : L.length ≤ 4096 := by
    rw [← hL, List.length_mergeSort]
    obtain ⟨es, clock, hb, F, hs, rfl⟩ := H3.out
    simpa [Maps.size, intKeys] using hn
  rw [hsorted, hL, hlen] at hrow
  have hpl : pendList D f = L.map fun p => (p, (f p).getD []) := by rw [pendList, hL]
  obtain ⟨WL, hWL⟩ : ∃ WL, (L.map fun p => (p, (f p).getD [])) = WL := ⟨_, rfl⟩
  have hWn : WL.length = L.length := by rw [← hWL, List.length_map]
  have hWat : ∀ k p, L[k]? = some p → WL[k]? = some (p, (f p).getD []) := fun k p h => by rw [← hWL, List.getElem?_map, h]; rfl
  rw [hWL] at hpl
  have HPL := hid hpl
  have HWN := hid hWn
  have HWAT := hid hWat
  obtain ⟨ao1, cp1, rfl, hcells⟩ := ownsRow_at hrow
  have HC := hid hcells
  have HM := hid hmem
  clear hcells hrow hsorted hperm hlen hmem hL hbel HR HW hpl hWL hWn hWat
  go_wp2_with fail
  go_loopw [3, 9] (fun s i wr => ∃ m : Nat, i = .int .i64 (m : Int) ∧ m ≤ L.length ∧ wr.ownsRow 0 69 2 s m (writeCells (WL.take m)) ∧ (∀ g, s.ownBlock = some g → w1.heap.size ≤ g) ∧ Fresh w1 wr) (fun _ i _ => L.length - (intOf i).toNat)
  case atStart => exact ⟨0, rfl, by omega, World.ownsRow_nil _ _ _ _, (fun _ h => nomatch h), Keeps.refl _ _⟩
  case round =>
    obtain ⟨m, rfl, hm, hrow, hnew, fr⟩ := hrel
    by_cases hlt : m < L.length
    · obtain ⟨p, hp⟩ : ∃ p, L[m]? = some p := ⟨L[m], by simp⟩
      obtain ⟨hp0, hp1⟩ := HM.out p (List.mem_of_getElem? hp)
      obtain ⟨bb, rfl, hbb, hcell⟩ := HC.out m (.int .i64 p) (by rw [List.getElem?_map, hp]; rfl)
      have hcell := (fr.cell (p := ⟨bb, m, none⟩) hbb (fun h => h)).trans hcell
      have fw := f1.trans fr
      have D1 := cell_at (fw.at_ H1.out (fun h => h)) 1
      simp at D1
      have hlook := look_text (map_keeps H3.out fw (fun h => h)) HPP.out p (WalkArith.wf_i64 (by omega))
      obtain ⟨so, scap, rfl⟩ := ownsRow_slice hrow
      have htk : WL.take (m + 1) = WL.take m ++ [(p, (f p).getD [])] := by
        rw [List.take_add_one, HWAT.out m p hp]; rfl
      have HTK := hid htk
      clear htk hp
      go_wp2_with (at_builtin; refine wpList_push2 rfl (.tmp 13) (.tmp 22) 38 rfl 69 i0 (.agg #[.int .i64 0, .string ⟨#[]⟩]) 24 Try.underlying38 hi hz0 hz1 hz2 rfl wr hrow _ _ (by rfl) (by rfl) rfl rfl (by omega) (by unfold maxLen; omega) ?_)
      intro v4 w4 ha
      obtain ⟨ao4, cp4, rfl⟩ := ownsRow_slice ha.row
      have f4 : Fresh w1 w4 := fr.trans' ha.keeps fun i hi h => by have := hnew i h; omega
      have hrow4 := ha.row
      have hown4 : ∀ g, (Value.slice ao4 (m + 1) cp4).ownBlock = some g → w1.heap.size ≤ g := fun g hg => by
        rcases ha.own g hg with h | h
        · exact hnew g h
        · have := fr.size; omega
      have hrow5 : w4.ownsRow 0 69 2 (.slice ao4 (m + 1) cp4) (m + 1) (writeCells (WL.take (m + 1))) := by
        rw [HTK.out, writeCells_snoc]; exact hrow4
      clear ha hrow4 hrow hnew hlook D1 hcell
      go_wp2
      go_roundw
      case rel => exact ⟨m + 1, by go_num, by omega, hrow5, hown4, f4⟩
      case measure => simp [intOf]; omega
    · obtain rfl : m = L.length := by omega
      rw [← HWN.out, List.take_length, HWN.out] at hrow
      obtain ⟨so, scap, rfl⟩ := ownsRow_slice hrow
      have hcap : L.length ≤ scap ∧ (so = none → L.length = 0) := by
        rcases hrow.2 with ⟨he, h0⟩ | ⟨g, cap, cur, he, _, _, h2, h3, _, _⟩
        · simp only [Value.slice.injEq] at he
          exact ⟨by omega, fun _ => h0⟩
        · simp only [Value.slice.injEq] at he
          refine ⟨by omega, fun e => ?_⟩
          rw [e] at he
          cases he.1
      obtain ⟨k1, k3⟩ := hcap
      have hclip := clipw_any so L.length scap wr k1 k3
      have HCL := hid hclip
      clear hclip
      go_wp2_with fail
      refine HCL.out.mono ?_
      rintro e w2 ⟨rfl, f2⟩
      go_wp2_with fail
      go_ret
      refine ⟨_, rfl, ?_, (f1.trans fr).trans f2⟩
      rw [HPL.out]
      refine WritesAt.fresh (w := wr) ⟨so, L.length, by rw [HWN.out]; rfl, fun k x hx => ?_⟩ f2
      obtain ⟨q1, q2⟩ := writeCells_at _ k x hx
      have hk : k < L.length := by have := (List.getElem?_eq_some_iff.1 hx).1; have := HWN.out; omega
      rcases hrow.2 with ⟨_, h0⟩ | ⟨g, cap, cur, he, _, hb, h2, h3, h4, h5⟩
      · omega
      · simp only [Value.slice.injEq] at he
        obtain ⟨rfl, -, rfl⟩ := he
        rw [← h5] at q1 q2
        rw [List.getElem?_take] at q1 q2
        refine ⟨g, rfl, lt_of_block hb, ?_, ?_⟩
        · rw [cell_at hb]
          split at q1
          · simpa using q1
          · cases q1
        · rw [cell_at hb]
          split at q2
          · simpa using q2
          · cases q2
end Go.Proofs.Ytbhienlalpbflaa

namespace Go.Proofs.Ytbhienlalpbflaa
open Go.RowKit Go.Maps

set_option maxRecDepth 100000 in
set_option maxHeartbeats 1000000 in
theorem arm_any (B : Nat → Prop) (d : Nat) (l : List (List UInt8)) (D : DD) (n : Nat) (armed k : Int) (w : World) (h : Dev B w d l D n false armed) (hk : 0 ≤ k) :
    Calls Try.prog 23 #[.pointer (some ⟨d, 0, none⟩), .int .i64 k] w fun e w' => e = .returned (.int .i64 0) ∧ Dev B w' d l D n false k ∧ Keeps B w w' := by
  obtain ⟨pv, mb, h1, h2, h3, h4, h5⟩ := h.ex
  have c2 := cell_at h1 2
  have c3 := cell_at h1 3
  have z3 := free_at h1 3
  simp at c2 c3
  have hk' : ¬ k < 0 := by omega
  have hmd : mb ≠ d := fun e => by
    obtain ⟨es, clock, hb, _⟩ := h3
    rw [e, h1] at hb
    cases hb
  have hpv : pv.ownBlock ≠ some d := fun hg => by
    rcases h2.1.2 with ⟨rfl, _⟩ | ⟨g', cap, cur, rfl, _, hb2, _, _, _, _⟩
    · cases hg
    · simp only [Value.ownBlock, Option.some.injEq] at hg
      rw [hg, h1] at hb2
      injection hb2 with hb2
      injection hb2 with _ hb2
      revert hb2
      decide
  have H1 := hid h1
  have H2 := hid h2
  have H3 := hid h3
  clear h1 h2 h3 h
  go_enter Try.func23, Try.ntmps23
  go_wp2
  go_ret
  have k1 : Keeps (fun q => q = d) w (w.setCell ⟨d, 3, none⟩ (.int .i64 k)) := Keeps.setCell (S := fun q => q = d) (p := ⟨d, 3, none⟩) (Keeps.refl _ w) (fun _ => rfl) _
  refine ⟨rfl, ⟨⟨pv, mb, ?_, ⟨ownsRow_keeps H2.out.1 k1 (fun g hg e => hpv (by rw [hg, e])), H2.out.2⟩, map_keeps H3.out k1 hmd, h4, h5⟩⟩, k1.mono (fun q _ e => by rw [show q = d from e]; exact h5)⟩
  exact heap_setCell_at H1.out 3 _

set_option maxRecDepth 100000 in
theorem act1_armed (bx d : Nat) (k : Nat) (w : World) (hx : w.cell? ⟨bx, 0, none⟩ = some (.pointer (some ⟨d, 0, none⟩))) (h3 : w.cell? ⟨d, 3, none⟩ = some (.int .i64 ((k + 1 : Nat) : Int))) (z3 : w.frozen? ⟨d, 3, none⟩ = false) (hk : k < 9223372036854775807) :
    CallsD Try.prog 63 #[.pointer (some ⟨bx, 0, none⟩)] .returning w fun e u' w' => u' = .returning ∧ (e = .returned (.tuple #[]) ∧ w' = w.setCell ⟨d, 3, none⟩ (.int .i64 (k : Int))) := by
  have hk0 : (0 : Int) < ((k + 1 : Nat) : Int) := by omega
  have hw : IntKind.i64.wrap (((k + 1 : Nat) : Int) - 1) = (k : Int) := by rw [IntKind.wrap_i64]; omega
  go_enter_d Try.func63, Try.ntmps63
  go_wp2
  go_end0
  exact ⟨rfl, rfl⟩

set_option maxRecDepth 100000 in
set_option maxHeartbeats 1000000 in
theorem act_dies (d : Nat) (cap : Array Value) (fn : Fn) (pv mv : Value) (w : World) (h1 : w.heap[d]? = some (.cells #[pv, mv, .bool false, .int .i64 1] 82 (0, 0))) :
    Calls Try.prog 47 #[.pointer (some ⟨d, 0, none⟩), .func fn #[] cap] w fun e w' => e = .returned (.int .i64 2) ∧ w' = (w.alloc (.cells #[.pointer (some ⟨d, 0, none⟩)] 23)).setCell ⟨d, 2, none⟩ (.bool true) := by
  have f0 : Fresh w (w.alloc (.cells #[.pointer (some ⟨d, 0, none⟩)] 23)) := (Keeps.refl _ _).alloc _
  have hbox := heap_alloc_new w (.cells #[.pointer (some ⟨d, 0, none⟩)] 23)
  have cb : (w.alloc (.cells #[.pointer (some ⟨d, 0, none⟩)] 23)).cell? ⟨w.heap.size, 0, none⟩ = some (.pointer (some ⟨d, 0, none⟩)) := (cell_at hbox 0).trans rfl
  have h2 := f0.at_ h1 (fun h => h)
  have c2 := cell_at h2 2
  have c3 := cell_at h2 3
  have z2 := free_at h2 2
  simp at c2 c3
  have H1 := hid hbox
  clear h1 h2 hbox
  go_enter_defers Try.func47, Try.ntmps47
  go_wp2
  exact ⟨_, results_tmp rfl _ _ _, rfl, rfl⟩

set_option maxRecDepth 100000 in
set_option maxHeartbeats 1000000 in
theorem act_write (d k : Nat) (cap : Array Value) (pv mv : Value) (S : Nat → Prop) (R : World → Prop) (w : World) (h1 : w.heap[d]? = some (.cells #[pv, mv, .bool false, .int .i64 ((k + 1 : Nat) : Int)] 82 (0, 0))) (hk : 1 ≤ k) (hk2 : k < 9223372036854775807)
    (hw : Calls Try.prog 50 cap (w.alloc (.cells #[.pointer (some ⟨d, 0, none⟩)] 23)) fun e w2 => e = .returned (.tuple #[]) ∧ R w2 ∧ Keeps S (w.alloc (.cells #[.pointer (some ⟨d, 0, none⟩)] 23)) w2) (hS : ¬ S d) (hS2 : ¬ S w.heap.size) :
    Calls Try.prog 47 #[.pointer (some ⟨d, 0, none⟩), .func (.func 50) #[] cap] w fun e w' => e = .returned (.int .i64 0) ∧ ∃ w2, R w2 ∧ Keeps S w w2 ∧ w' = w2.setCell ⟨d, 3, none⟩ (.int .i64 (k : Int)) := by
  have hmf : ∀ (fn : Fn) (first cap : Array Value) (w : World), (Instr.makeFunc fn first cap).run Try.prog w = .ok (.func fn first cap) w := fun _ _ _ _ => rfl
  have f0 : Fresh w (w.alloc (.cells #[.pointer (some ⟨d, 0, none⟩)] 23)) := (Keeps.refl _ _).alloc _
  have hbox := heap_alloc_new w (.cells #[.pointer (some ⟨d, 0, none⟩)] 23)
  have cb : (w.alloc (.cells #[.pointer (some ⟨d, 0, none⟩)] 23)).cell? ⟨w.heap.size, 0, none⟩ = some (.pointer (some ⟨d, 0, none⟩)) := (cell_at hbox 0).trans rfl
  have hd2 := f0.at_ h1 (fun h => h)
  have c3 := cell_at hd2 3
  simp at c3
  have c3 : (w.alloc (.cells #[.pointer (some ⟨d, 0, none⟩)] 23)).cell? ⟨d, 3, none⟩ = some (.int .i64 ((k + 1 : Nat) : Int)) := by rw [cell_at hd2 3]; rfl
  have hk1 : ¬ ((k + 1 : Nat) : Int) = 1 := by omega
  obtain ⟨K, hK⟩ : ∃ K : Int, ((k + 1 : Nat) : Int) = K := ⟨_, rfl⟩
  have HB := hid (lt_of_block hbox)
  have HD := hid hd2
  have HW := hid hw
  clear hw h1 hbox hd2
  have hk3 : ¬ K = 1 := by omega
  rw [hK] at c3
  clear hk1
  have HK := hid hK
  clear hK
  go_enter_defers Try.func47, Try.ntmps47
  go_wp2_with (go_at_call 50; refine HW.out.mono ?_; rintro e w2 ⟨rfl, hR, k2⟩)
  have cb2 := (k2.cell (p := ⟨w.heap.size, 0, none⟩) HB.out hS2).trans cb
  have hd3 := k2.at_ HD.out hS
  have c32 := cell_at hd3 3
  have z32 := free_at hd3 3
  refine leaves_cons (f := 63) (args := #[.pointer (some ⟨w.heap.size, 0, none⟩)]) (by simp) (by simp [go_sem]) ?_
  refine (act1_armed w.heap.size d k w2 cb2 (by rw [c32]; rfl) z32 hk2).mono ?_
  rintro e u' w'' ⟨rfl, rfl, rfl⟩
  exact ⟨_, results_tmp rfl _ _ _, rfl, w2, hR, (f0.mono (fun _ _ h => h.elim)).trans k2, rfl⟩

set_option maxRecDepth 100000 in
set_option maxHeartbeats 1000000 in
theorem act_flush (d k : Nat) (cap : Array Value) (pv mv : Value) (S : Nat → Prop) (R : World → Prop) (w : World) (h1 : w.heap[d]? = some (.cells #[pv, mv, .bool false, .int .i64 ((k + 1 : Nat) : Int)] 82 (0, 0))) (hk : 1 ≤ k) (hk2 : k < 9223372036854775807)
    (hw : Calls Try.prog 48 cap (w.alloc (.cells #[.pointer (some ⟨d, 0, none⟩)] 23)) fun e w2 => e = .returned (.tuple #[]) ∧ R w2 ∧ Keeps S (w.alloc (.cells #[.pointer (some ⟨d, 0, none⟩)] 23)) w2) (hS : ¬ S d) (hS2 : ¬ S w.heap.size) :
    Calls Try.prog 47 #[.pointer (some ⟨d, 0, none⟩), .func (.func 48) #[] cap] w fun e w' => e = .returned (.int .i64 0) ∧ ∃ w2, R w2 ∧ Keeps S w w2 ∧ w' = w2.setCell ⟨d, 3, none⟩ (.int .i64 (k : Int)) := by
  have hmf : ∀ (fn : Fn) (first cap : Array Value) (w : World), (Instr.makeFunc fn first cap).run Try.prog w = .ok (.func fn first cap) w := fun _ _ _ _ => rfl
  have f0 : Fresh w (w.alloc (.cells #[.pointer (some ⟨d, 0, none⟩)] 23)) := (Keeps.refl _ _).alloc _
  have hbox := heap_alloc_new w (.cells #[.pointer (some ⟨d, 0, none⟩)] 23)
  have cb : (w.alloc (.cells #[.pointer (some ⟨d, 0, none⟩)] 23)).cell? ⟨w.heap.size, 0, none⟩ = some (.pointer (some ⟨d, 0, none⟩)) := (cell_at hbox 0).trans rfl
  have hd2 := f0.at_ h1 (fun h => h)
  have c3 := cell_at hd2 3
  simp at c3
  have c3 : (w.alloc (.cells #[.pointer (some ⟨d, 0, none⟩)] 23)).cell? ⟨d, 3, none⟩ = some (.int .i64 ((k + 1 : Nat) : Int)) := by rw [cell_at hd2 3]; rfl
  have hk1 : ¬ ((k + 1 : Nat) : Int) = 1 := by omega
  obtain ⟨K, hK⟩ : ∃ K : Int, ((k + 1 : Nat) : Int) = K := ⟨_, rfl⟩
  have HB := hid (lt_of_block hbox)
  have HD := hid hd2
  have HW := hid hw
  clear hw h1 hbox hd2
  have hk3 : ¬ K = 1 := by omega
  rw [hK] at c3
  clear hk1
  have HK := hid hK
  clear hK
  go_enter_defers Try.func47, Try.ntmps47
  go_wp2_with (go_at_call 48; refine HW.out.mono ?_; rintro e w2 ⟨rfl, hR, k2⟩)
  have cb2 := (k2.cell (p := ⟨w.heap.size, 0, none⟩) HB.out hS2).trans cb
  have hd3 := k2.at_ HD.out hS
  have c32 := cell_at hd3 3
  have z32 := free_at hd3 3
  refine leaves_cons (f := 63) (args := #[.pointer (some ⟨w.heap.size, 0, none⟩)]) (by simp) (by simp [go_sem]) ?_
  refine (act1_armed w.heap.size d k w2 cb2 (by rw [c32]; rfl) z32 hk2).mono ?_
  rintro e u' w'' ⟨rfl, rfl, rfl⟩
  exact ⟨_, results_tmp rfl _ _ _, rfl, w2, hR, (f0.mono (fun _ _ h => h.elim)).trans k2, rfl⟩
end Go.Proofs.Ytbhienlalpbflaa

namespace Go.Proofs.Ytbhienlalpbflaa
open Go.RowKit Go.Maps

theorem cells_ne_map {w : World} {a mb n : Nat} {c : Array Value} {t : TypeId} {z : Nat × Nat} {P : Program} {k : TypeId} {R : Value → Option (DD × List MemPlace)} {D : DD} (h : w.heap[a]? = some (.cells c t z)) (hm : w.ownsMap P k R mb n D) : a ≠ mb := fun e => by
  obtain ⟨es, clock, hb, _⟩ := hm
  rw [← e, h] at hb
  cases hb
theorem cells_ne_row {w : World} {a B size n : Nat} {c : Array Value} {t e : TypeId} {z : Nat × Nat} {v : Value} {xs : List Value} (h : w.heap[a]? = some (.cells c t z)) (hr : w.ownsRow B e size v n xs) (ht : t ≠ e) : v.ownBlock ≠ some a := fun hg => by
  rcases hr.2 with ⟨rfl, _⟩ | ⟨g', cap, cur, rfl, _, hb2, _⟩
  · cases hg
  · simp only [Value.ownBlock, Option.some.injEq] at hg
    rw [hg, h] at hb2
    injection hb2 with hb2
    injection hb2 with _ hb2
    exact ht hb2
theorem row_ne_map {w : World} {B size n mb m : Nat} {e : TypeId} {v : Value} {xs : List Value} {P : Program} {k : TypeId} {R : Value → Option (DD × List MemPlace)} {D : DD} (hr : w.ownsRow B e size v n xs) (hm : w.ownsMap P k R mb m D) : v.ownBlock ≠ some mb := fun hg => by
  obtain ⟨es, clock, hb, _⟩ := hm
  rcases hr.2 with ⟨rfl, _⟩ | ⟨g', cap, cur, rfl, _, hb2, _⟩
  · cases hg
  · simp only [Value.ownBlock, Option.some.injEq] at hg
    rw [hg, hb] at hb2
    cases hb2
theorem ownsRow_set1 {w : World} {base g n cap : Nat} {e : TypeId} {xs : List Value} (h : w.ownsRow base e 1 (.slice (some ⟨g, 0, none⟩) n cap) n xs) (i : Nat) (u : Value) :
    (w.setCell ⟨g, i, none⟩ u).ownsRow base e 1 (.slice (some ⟨g, 0, none⟩) n cap) n (xs.set i u) := by
  have hl := h.1
  rcases h.2 with ⟨h0, _⟩ | ⟨g', cap', cur, h0, hb, hg, hn, hc, hs, ht⟩
  · cases h0
  · injection h0 with h1 h2 h3
    injection h1 with h1
    injection h1 with h1
    subst h1; subst h3
    refine ⟨by simpa using hl, .inr ⟨g, cap, _, rfl, hb, heap_setCell_at hg i u, hn, hc, by simpa using hs, ?_⟩⟩
    simp only [Nat.mul_one] at ht ⊢
    rw [← ht]
    simp [List.take_set]
theorem texts_put (l : List (List UInt8)) (r : Nat) (s : List UInt8) : texts (l.set r s) = (texts l).set r (.string (str s)) := by simp [texts, List.map_set]
/-- a row of texts that is not empty: its block, a cell of it -/
theorem row_here {w : World} {B n : Nat} {v : Value} {l : List (List UInt8)} {p : Nat} (h : w.ownsRow B 9 1 v n (texts l)) (hp : p < l.length) (_hn : n = l.length) :
    ∃ g cap, v = .slice (some ⟨g, 0, none⟩) n cap ∧ g < w.heap.size ∧ w.cell? ⟨g, p, none⟩ = some (.string (str l[p])) ∧ w.frozen? ⟨g, p, none⟩ = false := by
  have hat := ownsRow_at h
  obtain ⟨ao, cap, rfl, hc⟩ := hat
  obtain ⟨g, rfl, h1, h2⟩ := hc p (.string (str l[p])) (by simp [texts, hp])
  refine ⟨g, cap, rfl, h1, h2, ?_⟩
  rcases h.2 with ⟨h0, _⟩ | ⟨g', cap', cur, h0, hb, hg, _⟩
  · cases h0
  · injection h0 with h1 h2 h3
    injection h1 with h1
    injection h1 with h1
    subst h1
    exact free_at hg p

set_option maxRecDepth 100000 in
set_option maxHeartbeats 2000000 in
theorem flush1_any (bx d mb n : Nat) (pv : Value) (l : List (List UInt8)) (D : DD) (dead : Bool) (armed : Int) (f : Int → Option (List UInt8)) (w : World)
    (hx : w.heap[bx]? = some (.cells #[.pointer (some ⟨d, 0, none⟩)] 23 (0, 0))) (h1 : w.heap[d]? = some (.cells #[pv, .map (some mb), .bool dead, .int .i64 armed] 82 (0, 0)))
    (h2 : w.ownsRow 0 9 1 pv l.length (texts l)) (h3 : w.ownsMap Try.prog 3 (plainElem Try.prog 9) mb n D) (hP : Pends D f) (hr : ∀ p, (f p).isSome = true → 0 ≤ p ∧ p < l.length) (hll : l.length ≤ 4096) (hn : n ≤ 100000) :
    Calls Try.prog 48 #[.pointer (some ⟨bx, 0, none⟩)] w fun e w' => e = .returned (.tuple #[]) ∧ (w'.ownsRow 0 9 1 pv l.length (texts (flushed l f)) ∧ ∃ D', w'.ownsMap Try.prog 3 (plainElem Try.prog 9) mb n D' ∧ Pends D' (fun _ => none)) ∧ Keeps (fun q => q = mb ∨ pv.ownBlock = some q) w w' := by
  have hsz := h3.size_le
  have c1 := cell_at h1 1
  have cx := cell_at hx 0
  simp at c1 cx
  have hrise := rising_any d mb n D w c1 h3 (by omega)
  have hL := rise_told h3 Try.intKeyed Try.underlying3 hP hr
  have nx := cells_ne_map hx h3
  have nd := cells_ne_map h1 h3
  have nxp := cells_ne_row hx h2 (by decide)
  have ndp := cells_ne_row h1 h2 (by decide)
  have nmp := row_ne_map h2 h3
  have HX := hid hx
  have H1 := hid h1
  have H2 := hid h2
  have H3 := hid h3
  have HR := hid hrise
  have HPP := hid hP
  have HRR := hid hr
  clear hx h1 h2 h3 hrise c1 hP hr
  go_enter Try.func48, Try.ntmps48
  go_wp2_with fail
  refine HR.out.mono ?_
  rintro e w1 ⟨v1, ss, rfl, hperm, hrow, -, hbel⟩
  have f1 : Fresh w w1 := (Keeps.of_below hbel).mono fun k hk hk2 => absurd hk (by omega)
  have hsorted : ss.mergeSort (fun x y => decide (x ≤ y)) = told f l.length := (mergeSort_of_perm_i hperm).trans hL
  have hlen : ss.length = (told f l.length).length := by rw [← hsorted, List.length_mergeSort]
  have hmem : ∀ p, p ∈ told f l.length ↔ (f p).isSome = true := fun p => by rw [told_mem]; exact ⟨fun h => h.2.2, fun h => ⟨(HRR.out p h).1, (HRR.out p h).2, h⟩⟩
  have hsrt := told_sorted f l.length
  have hLn : (told f l.length).length ≤ 4096 := by
    unfold told
    exact Nat.le_trans (List.length_filter_le _ _) (by simp; exact hll)
  rw [hsorted, hlen] at hrow
  obtain ⟨L, hLL⟩ : ∃ L, told f l.length = L := ⟨_, rfl⟩
  rw [hLL] at hrow hmem hsrt hLn
  have hge := fun g hg => (hrow.lt g hg).1
  obtain ⟨ao1, cp1, rfl, hcells⟩ := ownsRow_at hrow
  have HGE := hid hge
  have HC := hid hcells
  have HM := hid hmem
  have HS := hid hsrt
  have hpl := fun g hg => (H2.out.lt g hg).2
  have hml := H3.out.lt
  have HPL := hid hpl
  clear hcells hrow hsorted hperm hlen hmem hL hbel HR hLL hsrt hge hpl
  go_wp2_with fail
  go_loopw [6] (fun i wr => ∃ (m : Nat) (Dm : DD), i = .int .i64 (m : Int) ∧ m ≤ L.length ∧ wr.ownsRow 0 9 1 pv l.length (texts (lasts l f (L.take m))) ∧ wr.ownsMap Try.prog 3 (plainElem Try.prog 9) mb n Dm ∧ Pends Dm (less f (L.take m)) ∧ Keeps (fun q => q = mb ∨ pv.ownBlock = some q) w1 wr) (fun i _ => L.length - (intOf i).toNat)
  case atStart =>
    refine ⟨0, D, rfl, by omega, ?_, map_keeps H3.out f1 (fun h => h), ?_, Keeps.refl _ _⟩
    · rw [List.take_zero, lasts_nil]; exact ownsRow_keeps H2.out f1 (fun _ _ h => h)
    · rw [List.take_zero, less_nil]; exact HPP.out
  case round =>
    obtain ⟨m, Dm, rfl, hm, hrow, hown, hPm, fr⟩ := hrel
    have fr0 : Keeps (fun q => q = mb ∨ pv.ownBlock = some q) w wr := (f1.mono (fun _ _ h => h.elim)).trans fr
    have X0 := cell_at (fr0.at_ HX.out (fun h => h.elim nx nxp)) 0
    have Q := fr0.at_ H1.out (fun h => h.elim nd ndp)
    simp at X0
    by_cases hlt : m < L.length
    · obtain ⟨p0, hp⟩ : ∃ p, L[m]? = some p := ⟨L[m], by simp⟩
      have hpm : (f p0).isSome = true := (HM.out p0).1 (List.mem_of_getElem? hp)
      obtain ⟨hp0, hp1⟩ := HRR.out p0 hpm
      obtain ⟨p, rfl⟩ : ∃ p : Nat, p0 = (p : Int) := ⟨p0.toNat, by omega⟩
      have hp2 : p < l.length := by omega
      obtain ⟨s, hs⟩ := Option.isSome_iff_exists.1 hpm
      obtain ⟨bb, rfl, hbb, hcell⟩ := HC.out m (.int .i64 (p : Int)) (by rw [List.getElem?_map, hp]; rfl)
      have hbw := HGE.out bb rfl
      have hcell := (fr.cell (p := ⟨bb, m, none⟩) hbb (fun h => h.elim (fun h => by simp only at h; omega) (fun h => by have := HPL.out _ h; simp only at this; omega))).trans hcell
      have D0 := cell_at Q 0
      have D1 := cell_at Q 1
      simp at D0 D1
      obtain ⟨g, cap, rfl, hg, hgc, hgz⟩ := row_here hrow (p := p) (by rw [lasts_len]; exact hp2) (by rw [lasts_len])
      have hless : less f (L.take m) (p : Int) = some s := by unfold less; rw [if_neg (take_not_mem HS.out hp)]; exact hs
      have hwf : (Lit.int .i64 (p : Int)).wf = true := WalkArith.wf_i64 (by omega)
      have hlook := look_text (map_keeps hown ((Keeps.refl (fun _ => False) wr).drew) (fun h => h)) hPm (p : Int) hwf
      rw [hless, Option.getD_some] at hlook
      have hkey : keyOf Try.prog 3 (.int .i64 (p : Int)) = some (pkey p) := keyOf_int_mk Try.underlying3 hwf
      have htk : L.take (m + 1) = L.take m ++ [(p : Int)] := by rw [List.take_add_one, hp]; rfl
      have hPm2 := hPm.del (p : Int)
      rw [← less_snoc, ← htk] at hPm2
      have k2 : Keeps (fun q => q = g) wr (wr.setCell ⟨g, p, none⟩ (.string (str s))).drew := (Keeps.setCell (S := fun q => q = g) (p := ⟨g, p, none⟩) (Keeps.refl _ wr) (fun _ => rfl) _).drew
      have hgmb : mb ≠ g := fun e => nmp (by rw [e]; rfl)
      have hown2 := map_keeps hown k2 hgmb
      have hrow2 := ownsRow_keeps (ownsRow_set1 hrow p (.string (str s))) ((Keeps.refl (fun _ => False) _).drew) (fun _ _ h => h)
      rw [← texts_put, ← lasts_snoc l f (L.take m) p s hs, ← htk] at hrow2
      have X2 := (cell_at (k2.at_ (fr0.at_ HX.out (fun h => h.elim nx nxp)) (fun h => nxp (by rw [h]; rfl))) 0)
      have D2 := cell_at (k2.at_ Q (fun h => ndp (by rw [h]; rfl))) 1
      simp at X2 D2
      have X0' : wr.drew.cell? ⟨bx, 0, none⟩ = _ := X0
      have D0' : wr.drew.cell? ⟨d, 0, none⟩ = _ := D0
      have D1' : wr.drew.cell? ⟨d, 1, none⟩ = _ := D1
      have G0' : wr.drew.cell? ⟨g, p, none⟩ = _ := hgc
      have G1' : wr.drew.frozen? ⟨g, p, none⟩ = _ := hgz
      have hp0 : (0 : Int) ≤ (p : Int) := by omega
      have hpll : (p : Int) < (l.length : Int) := by omega
      have hfr2 := fr.trans (k2.mono (fun q _ h => Or.inr (by rw [h]; rfl)))
      have HO := hid hown2
      have HRW := hid hrow2
      have HPM := hid hPm2
      have HF := hid hfr2
      clear hown hrow hPm hPm2 hrow2 hown2 hfr2 htk hless hs hp Q hpm
      go_wp2_with fail
      go_region
      all_goals
        go_wp2_with (at_delete; refine wpList_delete_own _ rfl (.tmp 25) (.tmp 26) 80 3 rfl 9 Try.intKeyed Try.underlying80 (plainElem Try.prog 9) mb n Dm (by rfl) HO.out _ _ (by rfl) hkey ?_)
        intro w4 hown4 hturn4
        have k4 : Keeps (fun q => q = mb) (wr.setCell ⟨g, p, none⟩ (.string (str s))).drew w4 := (Keeps.refl _ _).grown hturn4.grown (fun k h _ => by cases h; rfl)
        have hrow4 := ownsRow_keeps HRW.out k4 (fun q hq e => hgmb (by cases hq; exact e.symm))
        have hfr4 := HF.out.trans (k4.mono (fun q _ h => Or.inl h))
        go_wp2
        go_roundw
        case rel => exact ⟨m + 1, _, by go_num, by omega, hrow4, hown4, HPM.out, hfr4⟩
        case measure => simp [intOf]; omega
    · obtain rfl : m = L.length := by omega
      rw [List.take_length] at hrow hPm
      rw [lasts_all l f L HM.out] at hrow
      rw [less_all f L HM.out] at hPm
      go_wp2
      go_end0
      exact ⟨rfl, ⟨hrow, Dm, hown, hPm⟩, fr0⟩
end Go.Proofs.Ytbhienlalpbflaa
