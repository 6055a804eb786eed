/-
  The program's trie: remove.
  The program's trie: remove, at a fork.
-/
import Derived.Test.YtmflbchiapdhbaaGreatDoorTrFork
import Derived.Test.YtmflbchiapdhbaaGreatDoorMTrD
namespace Go.Proofs.YtmflbchiapdhbaaGreatDoor
open Go.RowKit

theorem none_as_none (w : World) : (Instr.typeAssert (.iface 50 (.agg #[])) 52 50 true).run Tryz.prog w = .ok (.tuple #[.agg #[], .bool true]) w := by kernel_rfl
theorem leaf_as_none (x : Value) (w : World) : (Instr.typeAssert (.iface 75 x) 52 50 true).run Tryz.prog w = .ok (.tuple #[.agg #[], .bool false]) w := by kernel_rfl
theorem fork_as_none (x : Value) (w : World) : (Instr.typeAssert (.iface 100 x) 52 50 true).run Tryz.prog w = .ok (.tuple #[.agg #[], .bool false]) w := by kernel_rfl
def Tr.isLeaf : Tr → Bool
  | .leaf _ _ _ _ => true
  | _ => false
def Tr.isNone : Tr → Bool
  | .none => true
  | _ => false
theorem as_leaf_any (t : Tr) : ∃ a b c e : ByteArray, ∀ w, (Instr.typeAssert t.val 52 75 true).run Tryz.prog w = .ok (.tuple #[.agg #[.string a, .string b, .string c, .string e], .bool t.isLeaf]) w := by
  cases t with
  | none => exact ⟨_, _, _, _, none_as_leaf⟩
  | leaf a b c e => exact ⟨_, _, _, _, as_leaf _ _ _ _⟩
  | fork l r s => exact ⟨_, _, _, _, fork_as_leaf _⟩
theorem as_none_any (t : Tr) (w : World) : (Instr.typeAssert t.val 52 50 true).run Tryz.prog w = .ok (.tuple #[.agg #[], .bool t.isNone]) w := by
  cases t with
  | none => exact none_as_none w
  | leaf a b c e => exact leaf_as_none _ w
  | fork l r s => exact fork_as_none _ w
theorem join_val (l r : Tr) : (Tr.join l r).val = if (l.isLeaf && r.isNone) = true then l.val else if (r.isLeaf && l.isNone) = true then r.val else (Tr.mk l r).val := by
  cases l <;> cases r <;> rfl

set_option maxRecDepth 100000 in
theorem remove_none (k : List UInt8) (d : Int) (w : World) :
    Calls Tryz.prog 46 #[Tr.none.val, .string (str k), .int .i64 d] w fun e w' => e = .returned (.tuple #[Tr.none.val, .bool false]) ∧ Fresh w w' := by
  have hta := none_as_leaf
  have htb := none_as_fork
  simp only [Tr.val]
  go_enter Tryz.func46, Tryz.ntmps46
  go_wp2_with fail
  go_ret2
  exact ⟨rfl, Keeps.refl _ _⟩
set_option maxRecDepth 100000 in
theorem remove_leaf (a s key val k : List UInt8) (d : Int) (w : World) :
    Calls Tryz.prog 46 #[(Tr.leaf a s key val).val, .string (str k), .int .i64 d] w fun e w' => e = .returned (.tuple #[(if a = k then Tr.none else Tr.leaf a s key val).val, .bool (decide (a = k))]) ∧ Fresh w w' := by
  have hta := as_leaf
  have htb := leaf_as_fork
  by_cases h : a = k
  · have hq : ((str a).toList == (str k).toList) = true := by rw [h]; simp
    rw [if_pos h, decide_eq_true h]
    simp only [Tr.val, leafCells]
    clear h
    go_enter Tryz.func46, Tryz.ntmps46
    go_wp2_with fail
    go_ret2
    exact ⟨rfl, (Keeps.refl _ _).alloc _⟩
  · have hq : ((str a).toList == (str k).toList) = false := by rw [str_toList, str_toList]; simp [h]
    rw [if_neg h, decide_eq_false h]
    simp only [Tr.val, leafCells]
    clear h
    go_enter Tryz.func46, Tryz.ntmps46
    go_wp2_with fail
    go_ret2
    exact ⟨rfl, (Keeps.refl _ _).alloc _⟩

set_option maxRecDepth 100000 in
set_option maxHeartbeats 2000000 in
theorem remove_not0 (l r l2 : Tr) (sum k : List UInt8) (d : Nat) (w : World) (hd : Dig w) (hk : k.length = 32) (hdd : d < 256) (hbit : bitAt k d = 0)
    (hrec : ∀ W, Dig W → Calls Tryz.prog 46 #[l.val, .string (str k), .int .i64 ((d : Int) + 1)] W fun e w' => e = .returned (.tuple #[l2.val, .bool false]) ∧ Fresh W w') :
    Calls Tryz.prog 46 #[(Tr.fork l r sum).val, .string (str k), .int .i64 (d : Int)] w fun e w' => e = .returned (.tuple #[(Tr.fork l r sum).val, .bool false]) ∧ Fresh w w' := by
  have hta := as_fork
  obtain ⟨ty, dat, fn, hty, -, -, -⟩ := hash_any l
  obtain ⟨ty2, dat2, fn2, hty2, -, -, -⟩ := hash_any r
  obtain ⟨ty3, dat3, fn3, hty3, -, -, -⟩ := hash_any l2
  have hval : (Tr.fork l r sum).val = .iface 100 (.agg #[.iface ty dat, .iface ty2 dat2, .string (str sum)]) := by rw [Tr.val, hty, hty2]
  rw [hval]
  rw [hty, hty3] at hrec
  have hbitc := bit_any k d
  rw [hbit] at hbitc
  have HREC := hid hrec
  have HBIT := hid hbitc
  clear hrec hbitc hbit hval hty hty2 hty3
  go_enter Tryz.func46, Tryz.ntmps46
  go_wp2_with fail
  refine (HBIT.out _ (by omega) (by omega)).mono ?_
  rintro e w1 ⟨rfl, rfl⟩
  go_wp2_with fail
  refine (HREC.out _ (hd.alloc _)).mono ?_
  rintro e w2 ⟨rfl, fa⟩
  go_wp2_with fail
  go_ret2
  exact ⟨rfl, ((Keeps.refl _ _).alloc _).trans fa⟩

set_option maxRecDepth 100000 in
set_option maxHeartbeats 2000000 in
theorem remove_not1 (l r l2 : Tr) (sum k : List UInt8) (d : Nat) (w : World) (hd : Dig w) (hk : k.length = 32) (hdd : d < 256) (hbit : bitAt k d = 1)
    (hrec : ∀ W, Dig W → Calls Tryz.prog 46 #[r.val, .string (str k), .int .i64 ((d : Int) + 1)] W fun e w' => e = .returned (.tuple #[l2.val, .bool false]) ∧ Fresh W w') :
    Calls Tryz.prog 46 #[(Tr.fork l r sum).val, .string (str k), .int .i64 (d : Int)] w fun e w' => e = .returned (.tuple #[(Tr.fork l r sum).val, .bool false]) ∧ Fresh w w' := by
  have hta := as_fork
  obtain ⟨ty, dat, fn, hty, -, -, -⟩ := hash_any l
  obtain ⟨ty2, dat2, fn2, hty2, -, -, -⟩ := hash_any r
  obtain ⟨ty3, dat3, fn3, hty3, -, -, -⟩ := hash_any l2
  have hval : (Tr.fork l r sum).val = .iface 100 (.agg #[.iface ty dat, .iface ty2 dat2, .string (str sum)]) := by rw [Tr.val, hty, hty2]
  rw [hval]
  rw [hty2, hty3] at hrec
  have hbitc := bit_any k d
  rw [hbit] at hbitc
  have HREC := hid hrec
  have HBIT := hid hbitc
  clear hrec hbitc hbit hval hty hty2 hty3
  go_enter Tryz.func46, Tryz.ntmps46
  go_wp2_with fail
  refine (HBIT.out _ (by omega) (by omega)).mono ?_
  rintro e w1 ⟨rfl, rfl⟩
  go_wp2_with fail
  refine (HREC.out _ (hd.alloc _)).mono ?_
  rintro e w2 ⟨rfl, fa⟩
  go_wp2_with fail
  go_ret2
  exact ⟨rfl, ((Keeps.refl _ _).alloc _).trans fa⟩

end Go.Proofs.YtmflbchiapdhbaaGreatDoor

namespace Go.Proofs.YtmflbchiapdhbaaGreatDoor
open Go.RowKit

set_option maxRecDepth 100000 in
set_option maxHeartbeats 4000000 in
theorem remove_was0 (l r l2 : Tr) (sum k : List UInt8) (d : Nat) (w : World) (hd : Dig w) (hk : k.length = 32) (hdd : d < 256) (hbit : bitAt k d = 0) (h1 : r.hash.length ≤ 1000000) (h2 : l2.hash.length ≤ 1000000)
    (hrec : ∀ W, Dig W → Calls Tryz.prog 46 #[l.val, .string (str k), .int .i64 ((d : Int) + 1)] W fun e w' => e = .returned (.tuple #[l2.val, .bool true]) ∧ Fresh W w') :
    Calls Tryz.prog 46 #[(Tr.fork l r sum).val, .string (str k), .int .i64 (d : Int)] w fun e w' => e = .returned (.tuple #[(Tr.join l2 r).val, .bool true]) ∧ Fresh w w' := by
  have hta := as_fork
  obtain ⟨ty, dat, fn, hty, -, -, -⟩ := hash_any l
  obtain ⟨ty2, dat2, fn2, hty2, -, -, -⟩ := hash_any r
  obtain ⟨ty3, dat3, fn3, hty3, -, -, -⟩ := hash_any l2
  have hval : (Tr.fork l r sum).val = .iface 100 (.agg #[.iface ty dat, .iface ty2 dat2, .string (str sum)]) := by rw [Tr.val, hty, hty2]
  rw [hval]
  rw [hty, hty3] at hrec
  have hbitc := bit_any k d
  rw [hbit] at hbitc
  have hfork := fun W (hW : Dig W) => forked_any (l2) (r) W hW h2 h1
  have hjv := join_val (l2) (r)
  obtain ⟨a0, a1, a2, a3, hla⟩ := as_leaf_any (l2)
  obtain ⟨b0, b1, b2, b3, hlb⟩ := as_leaf_any (r)
  have hna := as_none_any (l2)
  have hnb := as_none_any (r)
  have hmk : (Tr.mk (l2) (r)).val = (Tr.fork (l2) (r) (sha (3 :: ((l2).hash ++ (r).hash)))).val := rfl
  rw [← hmk] at hfork
  rw [hjv]
  generalize (l2).isLeaf = la at hla ⊢
  generalize (r).isLeaf = lb at hlb ⊢
  generalize (l2).isNone = na at hna ⊢
  generalize (r).isNone = nb at hnb ⊢
  generalize (Tr.mk (l2) (r)).val = res at hfork ⊢
  rw [hty3] at hla hna ⊢
  rw [hty2] at hlb hnb ⊢
  rw [hty3, hty2] at hfork
  obtain ⟨rv, hrv⟩ : ∃ rv, (if (la && nb) = true then .iface ty3 dat3 else if (lb && na) = true then .iface ty2 dat2 else res) = rv := ⟨_, rfl⟩
  rw [hrv]
  have HRV := hid hrv
  have HREC := hid hrec
  have HBIT := hid hbitc
  have HFORK := hid hfork
  clear hrec hbitc hbit hval h1 h2 hjv hmk hfork hty hty2 hty3 hrv
  go_enter Tryz.func46, Tryz.ntmps46
  go_wp2_with fail
  refine (HBIT.out _ (by omega) (by omega)).mono ?_
  rintro e w1 ⟨rfl, rfl⟩
  go_wp2_with fail
  refine (HREC.out _ (hd.alloc _)).mono ?_
  rintro e w2 ⟨rfl, fa⟩
  have hbf := fa.at_ (heap_alloc_new w (.cells #[.iface ty dat, .iface ty2 dat2, .string (str sum)] 100)) (fun h => h)
  have f2 : Fresh w w2 := ((Keeps.refl _ _).alloc _).trans fa
  have c0 := cell_at hbf 0
  have c1 := cell_at hbf 1
  simp at c0 c1
  clear fa HREC HBIT
  go_wp2_with fail
  have hab := heap_alloc_new w2 (.cells #[.iface ty3 dat3, .iface ty2 dat2] 98)
  have f3 : Fresh w (w2.alloc (.cells #[.iface ty3 dat3, .iface ty2 dat2] 98)) := f2.alloc _
  clear c0 c1 hbf f2
  obtain ⟨ab, habe⟩ : ∃ ab, w2.heap.size = ab := ⟨_, rfl⟩
  rw [habe] at hab ⊢
  generalize w2.alloc (.cells #[.iface ty3 dat3, .iface ty2 dat2] 98) = W3 at hab f3 ⊢
  have q0 := cell_at hab 0
  have q1 := cell_at hab 1
  simp at q0 q1
  go_wp2_with fail
  clear q0 q1
  have i0 : ∀ w, (Instr.index 98 (.agg #[.iface ty3 dat3, .iface ty2 dat2]) (.int .i64 0)).run Tryz.prog w = .ok (.iface ty3 dat3) w := fun _ => by kernel_rfl
  have i1 : ∀ w, (Instr.index 98 (.agg #[.iface ty3 dat3, .iface ty2 dat2]) (.int .i64 1)).run Tryz.prog w = .ok (.iface ty2 dat2) w := fun _ => by kernel_rfl
  go_loopw [47] (fun i wr => ((i = .int .i64 0) ∨ (i = .int .i64 1 ∧ (la && nb) = false) ∨ (i = .int .i64 2 ∧ (la && nb) = false ∧ (lb && na) = false)) ∧ wr.heap[ab]? = some (.cells #[.iface ty3 dat3, .iface ty2 dat2] 98 (0, 0)) ∧ Fresh w wr) (fun i _ => 2 - (intOf i).toNat)
  case atStart => exact ⟨.inl rfl, hab, f3⟩
  case round =>
    obtain ⟨hi, hb, hf⟩ := hrel
    have q0 := cell_at hb 0
    have q1 := cell_at hb 1
    simp at q0 q1
    rcases hi with rfl | ⟨rfl, hc⟩ | ⟨rfl, hc, hc2⟩
    · have e1 := (cell_at (((Keeps.refl (fun _ => False) wr).alloc (.cells #[.string a0, .string a1, .string a2, .string a3] 75)).at_ hb (fun h => h)) 1).trans rfl
      simp at e1
      cases la with
      | true =>
        cases nb with
        | true =>
          go_wp2_with fail
          go_ret2
          exact ⟨by rw [← HRV.out]; rfl, (hf.alloc _).alloc _⟩
        | false =>
          go_wp2_with fail
          go_roundw
          case rel => exact ⟨.inr (.inl ⟨rfl, rfl⟩), ((Keeps.refl (fun _ => False) _).alloc _).at_ (((Keeps.refl (fun _ => False) _).alloc _).at_ hb (fun h => h)) (fun h => h), (hf.alloc _).alloc _⟩
          case measure => simp [intOf]
      | false =>
        go_wp2_with fail
        go_roundw
        case rel => exact ⟨.inr (.inl ⟨rfl, rfl⟩), ((Keeps.refl (fun _ => False) _).alloc _).at_ (((Keeps.refl (fun _ => False) _).alloc _).at_ hb (fun h => h)) (fun h => h), (hf.alloc _).alloc _⟩
        case measure => simp [intOf]
    · have HC := hid hc
      clear hc
      have e0 := (cell_at (((Keeps.refl (fun _ => False) wr).alloc (.cells #[.string b0, .string b1, .string b2, .string b3] 75)).at_ hb (fun h => h)) 0).trans rfl
      simp at e0
      cases lb with
      | true =>
        cases na with
        | true =>
          go_wp2_with fail
          go_ret2
          exact ⟨by rw [← HRV.out, HC.out]; rfl, (hf.alloc _).alloc _⟩
        | false =>
          go_wp2_with fail
          go_roundw
          case rel => exact ⟨.inr (.inr ⟨rfl, HC.out, rfl⟩), ((Keeps.refl (fun _ => False) _).alloc _).at_ (((Keeps.refl (fun _ => False) _).alloc _).at_ hb (fun h => h)) (fun h => h), (hf.alloc _).alloc _⟩
          case measure => simp [intOf]
      | false =>
        go_wp2_with fail
        go_roundw
        case rel => exact ⟨.inr (.inr ⟨rfl, HC.out, rfl⟩), ((Keeps.refl (fun _ => False) _).alloc _).at_ (((Keeps.refl (fun _ => False) _).alloc _).at_ hb (fun h => h)) (fun h => h), (hf.alloc _).alloc _⟩
        case measure => simp [intOf]
    · have HC := hid hc
      have HC2 := hid hc2
      clear hc hc2
      go_wp2_with fail
      refine (HFORK.out _ (hd.fresh hf)).mono ?_
      rintro e w4 ⟨rfl, fa⟩
      go_wp2_with fail
      go_ret2
      exact ⟨by rw [← HRV.out, HC.out, HC2.out]; rfl, hf.trans fa⟩

set_option maxRecDepth 100000 in
set_option maxHeartbeats 4000000 in
theorem remove_was1 (l r l2 : Tr) (sum k : List UInt8) (d : Nat) (w : World) (hd : Dig w) (hk : k.length = 32) (hdd : d < 256) (hbit : bitAt k d = 1) (h1 : l.hash.length ≤ 1000000) (h2 : l2.hash.length ≤ 1000000)
    (hrec : ∀ W, Dig W → Calls Tryz.prog 46 #[r.val, .string (str k), .int .i64 ((d : Int) + 1)] W fun e w' => e = .returned (.tuple #[l2.val, .bool true]) ∧ Fresh W w') :
    Calls Tryz.prog 46 #[(Tr.fork l r sum).val, .string (str k), .int .i64 (d : Int)] w fun e w' => e = .returned (.tuple #[(Tr.join l l2).val, .bool true]) ∧ Fresh w w' := by
  have hta := as_fork
  obtain ⟨ty, dat, fn, hty, -, -, -⟩ := hash_any l
  obtain ⟨ty2, dat2, fn2, hty2, -, -, -⟩ := hash_any r
  obtain ⟨ty3, dat3, fn3, hty3, -, -, -⟩ := hash_any l2
  have hval : (Tr.fork l r sum).val = .iface 100 (.agg #[.iface ty dat, .iface ty2 dat2, .string (str sum)]) := by rw [Tr.val, hty, hty2]
  rw [hval]
  rw [hty2, hty3] at hrec
  have hbitc := bit_any k d
  rw [hbit] at hbitc
  have hfork := fun W (hW : Dig W) => forked_any (l) (l2) W hW h1 h2
  have hjv := join_val (l) (l2)
  obtain ⟨a0, a1, a2, a3, hla⟩ := as_leaf_any (l)
  obtain ⟨b0, b1, b2, b3, hlb⟩ := as_leaf_any (l2)
  have hna := as_none_any (l)
  have hnb := as_none_any (l2)
  have hmk : (Tr.mk (l) (l2)).val = (Tr.fork (l) (l2) (sha (3 :: ((l).hash ++ (l2).hash)))).val := rfl
  rw [← hmk] at hfork
  rw [hjv]
  generalize (l).isLeaf = la at hla ⊢
  generalize (l2).isLeaf = lb at hlb ⊢
  generalize (l).isNone = na at hna ⊢
  generalize (l2).isNone = nb at hnb ⊢
  generalize (Tr.mk (l) (l2)).val = res at hfork ⊢
  rw [hty] at hla hna ⊢
  rw [hty3] at hlb hnb ⊢
  rw [hty, hty3] at hfork
  obtain ⟨rv, hrv⟩ : ∃ rv, (if (la && nb) = true then .iface ty dat else if (lb && na) = true then .iface ty3 dat3 else res) = rv := ⟨_, rfl⟩
  rw [hrv]
  have HRV := hid hrv
  have HREC := hid hrec
  have HBIT := hid hbitc
  have HFORK := hid hfork
  clear hrec hbitc hbit hval h1 h2 hjv hmk hfork hty hty2 hty3 hrv
  go_enter Tryz.func46, Tryz.ntmps46
  go_wp2_with fail
  refine (HBIT.out _ (by omega) (by omega)).mono ?_
  rintro e w1 ⟨rfl, rfl⟩
  go_wp2_with fail
  refine (HREC.out _ (hd.alloc _)).mono ?_
  rintro e w2 ⟨rfl, fa⟩
  have hbf := fa.at_ (heap_alloc_new w (.cells #[.iface ty dat, .iface ty2 dat2, .string (str sum)] 100)) (fun h => h)
  have f2 : Fresh w w2 := ((Keeps.refl _ _).alloc _).trans fa
  have c0 := cell_at hbf 0
  have c1 := cell_at hbf 1
  simp at c0 c1
  clear fa HREC HBIT
  go_wp2_with fail
  have hab := heap_alloc_new w2 (.cells #[.iface ty dat, .iface ty3 dat3] 98)
  have f3 : Fresh w (w2.alloc (.cells #[.iface ty dat, .iface ty3 dat3] 98)) := f2.alloc _
  clear c0 c1 hbf f2
  obtain ⟨ab, habe⟩ : ∃ ab, w2.heap.size = ab := ⟨_, rfl⟩
  rw [habe] at hab ⊢
  generalize w2.alloc (.cells #[.iface ty dat, .iface ty3 dat3] 98) = W3 at hab f3 ⊢
  have q0 := cell_at hab 0
  have q1 := cell_at hab 1
  simp at q0 q1
  go_wp2_with fail
  clear q0 q1
  have i0 : ∀ w, (Instr.index 98 (.agg #[.iface ty dat, .iface ty3 dat3]) (.int .i64 0)).run Tryz.prog w = .ok (.iface ty dat) w := fun _ => by kernel_rfl
  have i1 : ∀ w, (Instr.index 98 (.agg #[.iface ty dat, .iface ty3 dat3]) (.int .i64 1)).run Tryz.prog w = .ok (.iface ty3 dat3) w := fun _ => by kernel_rfl
  go_loopw [47] (fun i wr => ((i = .int .i64 0) ∨ (i = .int .i64 1 ∧ (la && nb) = false) ∨ (i = .int .i64 2 ∧ (la && nb) = false ∧ (lb && na) = false)) ∧ wr.heap[ab]? = some (.cells #[.iface ty dat, .iface ty3 dat3] 98 (0, 0)) ∧ Fresh w wr) (fun i _ => 2 - (intOf i).toNat)
  case atStart => exact ⟨.inl rfl, hab, f3⟩
  case round =>
    obtain ⟨hi, hb, hf⟩ := hrel
    have q0 := cell_at hb 0
    have q1 := cell_at hb 1
    simp at q0 q1
    rcases hi with rfl | ⟨rfl, hc⟩ | ⟨rfl, hc, hc2⟩
    · have e1 := (cell_at (((Keeps.refl (fun _ => False) wr).alloc (.cells #[.string a0, .string a1, .string a2, .string a3] 75)).at_ hb (fun h => h)) 1).trans rfl
      simp at e1
      cases la with
      | true =>
        cases nb with
        | true =>
          go_wp2_with fail
          go_ret2
          exact ⟨by rw [← HRV.out]; rfl, (hf.alloc _).alloc _⟩
        | false =>
          go_wp2_with fail
          go_roundw
          case rel => exact ⟨.inr (.inl ⟨rfl, rfl⟩), ((Keeps.refl (fun _ => False) _).alloc _).at_ (((Keeps.refl (fun _ => False) _).alloc _).at_ hb (fun h => h)) (fun h => h), (hf.alloc _).alloc _⟩
          case measure => simp [intOf]
      | false =>
        go_wp2_with fail
        go_roundw
        case rel => exact ⟨.inr (.inl ⟨rfl, rfl⟩), ((Keeps.refl (fun _ => False) _).alloc _).at_ (((Keeps.refl (fun _ => False) _).alloc _).at_ hb (fun h => h)) (fun h => h), (hf.alloc _).alloc _⟩
        case measure => simp [intOf]
    · have HC := hid hc
      clear hc
      have e0 := (cell_at (((Keeps.refl (fun _ => False) wr).alloc (.cells #[.string b0, .string b1, .string b2, .string b3] 75)).at_ hb (fun h => h)) 0).trans rfl
      simp at e0
      cases lb with
      | true =>
        cases na with
        | true =>
          go_wp2_with fail
          go_ret2
          exact ⟨by rw [← HRV.out, HC.out]; rfl, (hf.alloc _).alloc _⟩
        | false =>
          go_wp2_with fail
          go_roundw
          case rel => exact ⟨.inr (.inr ⟨rfl, HC.out, rfl⟩), ((Keeps.refl (fun _ => False) _).alloc _).at_ (((Keeps.refl (fun _ => False) _).alloc _).at_ hb (fun h => h)) (fun h => h), (hf.alloc _).alloc _⟩
          case measure => simp [intOf]
      | false =>
        go_wp2_with fail
        go_roundw
        case rel => exact ⟨.inr (.inr ⟨rfl, HC.out, rfl⟩), ((Keeps.refl (fun _ => False) _).alloc _).at_ (((Keeps.refl (fun _ => False) _).alloc _).at_ hb (fun h => h)) (fun h => h), (hf.alloc _).alloc _⟩
        case measure => simp [intOf]
    · have HC := hid hc
      have HC2 := hid hc2
      clear hc hc2
      go_wp2_with fail
      refine (HFORK.out _ (hd.fresh hf)).mono ?_
      rintro e w4 ⟨rfl, fa⟩
      go_wp2_with fail
      go_ret2
      exact ⟨by rw [← HRV.out, HC.out, HC2.out]; rfl, hf.trans fa⟩

end Go.Proofs.YtmflbchiapdhbaaGreatDoor
