/-
  'copy' of a text into an array in a block: as much as fits.
-/
import Derived.Test.YtmflbchiapdhbaaDoorShaPBits
import Derived.Lib.BufferWrite
namespace Go.Proofs.YtmflbchiapdhbaaDoor
open Go.RowKit

theorem copy_part {P : Program} (w : World) (dT sT ty elem : TypeId) (g o dLen dCap : Nat) (s : List UInt8) (cur : Array Value) (t : TypeId) (m : Nat) (hm : Nat.min s.length dLen = m)
    (hu : P.underlying dT = some (.slice elem)) (hs : (P.info? elem).map (·.size) = some 1) (hg : w.heap[g]? = some (.cells cur t (0, 0))) (hfit : o + m ≤ cur.size) :
    (Builtin.copy_ #[dT, sT] ty #[.slice (some ⟨g, o, none⟩) dLen dCap, .string (str s)]).run P w =
      .ok (goInt m) (w.setRow g (cur.toList.take o ++ u8s (s.take m) ++ cur.toList.drop (o + m)).toArray) := by
  have hml : m ≤ s.length := by rw [← hm]; exact Nat.min_le_left _ _
  have hlen : (u8s (s.take m)).length = m := by simp [u8s]; omega
  have hst := run_storeCells_at P g o t (u8s (s.take m)) 0 cur w hg (by rw [hlen]; simpa using hfit) (fun v hv => by obtain ⟨b, _, rfl⟩ := List.mem_map.1 hv; rfl)
  have hsz := str_size s
  rw [hlen] at hst
  simp only [Nat.add_zero] at hst
  cases hq : P.info? elem with
  | none => simp [hq] at hs
  | some i =>
    simp [Builtin.copy_, run_underlying hu, Builtin.lenOf, Builtin.firstCells, sizeOf, typeInfo, hq, hm, hsz]
    rw [show List.take m (List.map (fun b : UInt8 => Value.int IntKind.u8 (b.toNat : Int)) (str s).data.toList) = u8s (s.take m) by rw [str_data, u8s, List.map_take], hst]
    simp [Result.andThen]
/-- what a Hasher's block is behind a copy into what is kept -/
theorem hcells_copy {v : Eight} {rest p : List UInt8} {n : Int} {a : Nat} (hr : rest.length = 64) (ha : a + p.length ≤ 64) :
    ((hcells v rest n).toList.take (8 + a) ++ u8s p ++ (hcells v rest n).toList.drop (8 + a + p.length)).toArray = hcells v (keptOf rest a p) n := by
  have hl : (v.list.map (fun (x : Nat) => Value.int .u32 (x : Int))).length = 8 := rfl
  simp only [hcells, keptOf]
  congr 1
  generalize v.list.map (fun (x : Nat) => Value.int .u32 (x : Int)) = L at hl
  have h1 : (L ++ (u8s rest ++ [Value.int .i64 n])).take (8 + a) = L ++ (u8s rest).take a := by
    rw [List.take_append, hl, show 8 + a - 8 = a by omega, List.take_of_length_le (by omega), List.take_append_of_le_length (by simp [u8s]; omega)]
  have h2 : (L ++ (u8s rest ++ [Value.int .i64 n])).drop (8 + a + p.length) = (u8s rest).drop (a + p.length) ++ [Value.int .i64 n] := by
    rw [List.drop_append, hl, show 8 + a + p.length - 8 = a + p.length by omega, List.drop_of_length_le (by omega), List.nil_append, List.drop_append_of_le_length (by simp [u8s]; omega)]
  rw [h1, h2]
  simp [u8s, List.map_take, List.map_drop]
theorem hcells_setn {v : Eight} {rest : List UInt8} {n k : Int} (hr : rest.length = 64) : (hcells v rest n).setIfInBounds 72 (.int .i64 k) = hcells v rest k := by
  have hl : (v.list.map (fun (x : Nat) => Value.int .u32 (x : Int))).length = 8 := rfl
  simp only [hcells, List.setIfInBounds_toArray]
  generalize v.list.map (fun (x : Nat) => Value.int .u32 (x : Int)) = L at hl
  have hu : (u8s rest).length = 64 := by simp [u8s, hr]
  rw [List.set_append_right _ _ (by omega), hl, List.set_append_right _ _ (by omega), hu]
  rfl
theorem wpList_copy_to {P : Program} (w : World) {ops : Array Oper} {rest : List Oper} {o : Oper} {a : Act} {Q : Exit → Act → World → Prop} (hgd : o.guard = none) (d s : Operand) (t t' : TypeId)
    (ho : o.op = .call { callee := .builtin .copy, args := #[d, s], argTypes := #[t, t'] }) (v u : Value) (hd : a.eval d = v) (hs : a.eval s = u) {v' : Value} {w' : World}
    (hr : (Builtin.copy_ #[t, t'] o.type #[v, u]).run P w = .ok v' w') (h : wpList P ops Q rest (a.put o.dst v') w') : wpList P ops Q (o :: rest) a w :=
  wpList_plain hgd fun _ hK => by
    unfold Oper.wp execOp
    simp only [ho, resolve, invoke, builtin, Sem.run_bind, Sem.run_pure, Result.andThen_ok, List.map_toArray, List.map_cons, List.map_nil, hd, hs, hr]
    exact hK _ _ h
theorem slice_rest (w : World) (g a : Nat) (ha : a < 64) : (Instr.sliceAt 100 (.pointer (some ⟨g, 8, none⟩)) (some (.int .i64 (a : Int))) none none).run Tryd.prog w = .ok (.slice (some ⟨g, 8 + a, none⟩) (64 - a) (64 - a)) w := by
  have hu : Tryd.prog.underlying 100 = some (.array 64 5) := by kernel_rfl
  have hal : Tryd.prog.arrayLen 100 = 64 := by kernel_rfl
  have hel : Tryd.prog.elem 100 = 5 := by kernel_rfl
  have h := run_sliceAt_array_l (P := Tryd.prog) (w := w) 100 ⟨g, 8, none⟩ (by rw [hal, hel]; exact hu) .i64 (a : Int) (by omega) (by rw [hal]; omega)
  have hsz : (sizeOf 5).run Tryd.prog w = .ok 1 w := by kernel_rfl
  have hadd : (⟨g, 8, none⟩ : Addr).add a = ⟨g, 8 + a, none⟩ := by unfold Addr.add; split <;> simp_all
  rw [hal, hel, hsz] at h
  rw [h]
  have hne : ¬ 64 = a := by omega
  simp [Result.andThen, slicedAt, hne, hadd]
theorem Tryd.sizeByte : (Tryd.prog.info? 5).map (·.size) = some 1 := by kernel_rfl
end Go.Proofs.YtmflbchiapdhbaaDoor
