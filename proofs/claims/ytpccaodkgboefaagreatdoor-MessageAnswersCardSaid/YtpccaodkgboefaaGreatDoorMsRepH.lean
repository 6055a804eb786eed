/-
  Package message: which fields a reply to a kind has.
-/
import Derived.Test.YtpccaodkgboefaaGreatDoorMMsA
namespace Go.Proofs.YtpccaodkgboefaaGreatDoor
open Go.RowKit

/-- a field's method -/
def fid : Fld → Nat
  | .size => 94
  | .a => 95
  | .root => 96
  | .hashes => 97
  | .told => 98
  | .last => 99
  | .parts => 100
def fldV (f : Fld) : Value := .func (.func (fid f)) #[] #[]
def allocs (w : World) (os : List Obj) : World := os.foldl World.alloc w
theorem allocs_size : ∀ (os : List Obj) (w : World), (allocs w os).heap.size = w.heap.size + os.length
  | [], _ => rfl
  | o :: r, w => by
    have := allocs_size r (w.alloc o)
    simp only [World.size_alloc] at this
    show (allocs (w.alloc o) r).heap.size = _
    rw [this, List.length_cons]
    omega
theorem allocs_fresh : ∀ (os : List Obj) (w : World), Fresh w (allocs w os)
  | [], _ => Keeps.refl _ _
  | o :: r, w => Keeps.trans ((Keeps.refl _ _).alloc o) (allocs_fresh r (w.alloc o))
theorem allocs_at : ∀ (os : List Obj) (w : World) (j : Nat) (o : Obj), os[j]? = some o → (allocs w os).heap[w.heap.size + j]? = some o
  | [], _, _, _, h => by simp at h
  | p :: r, w, 0, o, h => by
    simp at h
    subst h
    exact (allocs_fresh r (w.alloc p)).at_ (heap_alloc_new w p) (fun h => h)
  | p :: r, w, j + 1, o, h => by
    have := allocs_at r (w.alloc p) j o (by simpa using h)
    simp only [World.size_alloc] at this
    rw [show w.heap.size + (j + 1) = w.heap.size + 1 + j by omega]
    exact this
/-- a row of methods in memory -/
def TableAt (n : Nat) (w : World) (l : List Fld) (v : Value) : Prop := ∃ ao cap, v = .slice ao l.length cap ∧ (l ≠ [] → ∃ bb, ao = some ⟨bb, 0, none⟩ ∧ n ≤ bb ∧ w.heap[bb]? = some (.cells (l.map fldV).toArray 90 (0, 0)))

set_option maxRecDepth 100000 in
set_option maxHeartbeats 2000000 in
theorem mtable_any (k : Int) (hk : 0 ≤ k ∧ k ≤ 12) (w : World) : Calls Tryz.prog 55 #[.int .i64 k] w fun e w' => ∃ v, e = .returned v ∧ Fresh w w' ∧ TableAt w.heap.size w' (tableOf k) v := by
  have h' : k = 0 ∨ k = 1 ∨ k = 2 ∨ k = 3 ∨ k = 4 ∨ k = 5 ∨ k = 6 ∨ k = 7 ∨ k = 8 ∨ k = 9 ∨ k = 10 ∨ k = 11 ∨ k = 12 := by omega
  clear hk
  rcases h' with rfl | rfl | rfl | rfl | rfl | rfl | rfl | rfl | rfl | rfl | rfl | rfl | rfl
  · have hi : ∀ (x0 x1 x2 x3 x4 x5 x6 x7 x8 x9 x10 x11 x12 : Value) (w : World), (Instr.index 124 (.agg #[x0, x1, x2, x3, x4, x5, x6, x7, x8, x9, x10, x11, x12]) (.int .i64 0)).run Tryz.prog w = .ok x0 w := fun _ _ _ _ _ _ _ _ _ _ _ _ _ w => by kernel_rfl
    go_enter Tryz.func55, Tryz.ntmps55
    go_wp2_with fail
    go_ret
    refine ⟨_, rfl, allocs_fresh [.cells #[.func (.func 94) #[] #[], .func (.func 95) #[] #[], .func (.func 96) #[] #[]] 90, .cells #[.func (.func 94) #[] #[], .func (.func 96) #[] #[]] 90, .cells #[.func (.func 96) #[] #[]] 90, .cells #[.func (.func 97) #[] #[]] 90, .cells #[.func (.func 97) #[] #[]] 90, .cells #[.func (.func 97) #[] #[]] 90, .cells #[.func (.func 97) #[] #[]] 90, .cells #[.func (.func 98) #[] #[], .func (.func 97) #[] #[]] 90, .cells #[.func (.func 95) #[] #[]] 90, .cells #[.func (.func 95) #[] #[], .func (.func 99) #[] #[], .func (.func 98) #[] #[], .func (.func 97) #[] #[]] 90, .cells #[] 90, .cells #[.func (.func 100) #[] #[]] 90] w, none, 0, rfl, fun h => absurd rfl h⟩
  · have hi : ∀ (x0 x1 x2 x3 x4 x5 x6 x7 x8 x9 x10 x11 x12 : Value) (w : World), (Instr.index 124 (.agg #[x0, x1, x2, x3, x4, x5, x6, x7, x8, x9, x10, x11, x12]) (.int .i64 1)).run Tryz.prog w = .ok x1 w := fun _ _ _ _ _ _ _ _ _ _ _ _ _ w => by kernel_rfl
    go_enter Tryz.func55, Tryz.ntmps55
    go_wp2_with fail
    go_ret
    exact ⟨_, rfl, allocs_fresh [.cells #[.func (.func 94) #[] #[], .func (.func 95) #[] #[], .func (.func 96) #[] #[]] 90, .cells #[.func (.func 94) #[] #[], .func (.func 96) #[] #[]] 90, .cells #[.func (.func 96) #[] #[]] 90, .cells #[.func (.func 97) #[] #[]] 90, .cells #[.func (.func 97) #[] #[]] 90, .cells #[.func (.func 97) #[] #[]] 90, .cells #[.func (.func 97) #[] #[]] 90, .cells #[.func (.func 98) #[] #[], .func (.func 97) #[] #[]] 90, .cells #[.func (.func 95) #[] #[]] 90, .cells #[.func (.func 95) #[] #[], .func (.func 99) #[] #[], .func (.func 98) #[] #[], .func (.func 97) #[] #[]] 90, .cells #[] 90, .cells #[.func (.func 100) #[] #[]] 90] w, _, _, rfl, fun _ => ⟨w.heap.size + 0, rfl, by omega, allocs_at [.cells #[.func (.func 94) #[] #[], .func (.func 95) #[] #[], .func (.func 96) #[] #[]] 90, .cells #[.func (.func 94) #[] #[], .func (.func 96) #[] #[]] 90, .cells #[.func (.func 96) #[] #[]] 90, .cells #[.func (.func 97) #[] #[]] 90, .cells #[.func (.func 97) #[] #[]] 90, .cells #[.func (.func 97) #[] #[]] 90, .cells #[.func (.func 97) #[] #[]] 90, .cells #[.func (.func 98) #[] #[], .func (.func 97) #[] #[]] 90, .cells #[.func (.func 95) #[] #[]] 90, .cells #[.func (.func 95) #[] #[], .func (.func 99) #[] #[], .func (.func 98) #[] #[], .func (.func 97) #[] #[]] 90, .cells #[] 90, .cells #[.func (.func 100) #[] #[]] 90] w 0 _ rfl⟩⟩
  · have hi : ∀ (x0 x1 x2 x3 x4 x5 x6 x7 x8 x9 x10 x11 x12 : Value) (w : World), (Instr.index 124 (.agg #[x0, x1, x2, x3, x4, x5, x6, x7, x8, x9, x10, x11, x12]) (.int .i64 2)).run Tryz.prog w = .ok x2 w := fun _ _ _ _ _ _ _ _ _ _ _ _ _ w => by kernel_rfl
    go_enter Tryz.func55, Tryz.ntmps55
    go_wp2_with fail
    go_ret
    exact ⟨_, rfl, allocs_fresh [.cells #[.func (.func 94) #[] #[], .func (.func 95) #[] #[], .func (.func 96) #[] #[]] 90, .cells #[.func (.func 94) #[] #[], .func (.func 96) #[] #[]] 90, .cells #[.func (.func 96) #[] #[]] 90, .cells #[.func (.func 97) #[] #[]] 90, .cells #[.func (.func 97) #[] #[]] 90, .cells #[.func (.func 97) #[] #[]] 90, .cells #[.func (.func 97) #[] #[]] 90, .cells #[.func (.func 98) #[] #[], .func (.func 97) #[] #[]] 90, .cells #[.func (.func 95) #[] #[]] 90, .cells #[.func (.func 95) #[] #[], .func (.func 99) #[] #[], .func (.func 98) #[] #[], .func (.func 97) #[] #[]] 90, .cells #[] 90, .cells #[.func (.func 100) #[] #[]] 90] w, _, _, rfl, fun _ => ⟨w.heap.size + 1, rfl, by omega, allocs_at [.cells #[.func (.func 94) #[] #[], .func (.func 95) #[] #[], .func (.func 96) #[] #[]] 90, .cells #[.func (.func 94) #[] #[], .func (.func 96) #[] #[]] 90, .cells #[.func (.func 96) #[] #[]] 90, .cells #[.func (.func 97) #[] #[]] 90, .cells #[.func (.func 97) #[] #[]] 90, .cells #[.func (.func 97) #[] #[]] 90, .cells #[.func (.func 97) #[] #[]] 90, .cells #[.func (.func 98) #[] #[], .func (.func 97) #[] #[]] 90, .cells #[.func (.func 95) #[] #[]] 90, .cells #[.func (.func 95) #[] #[], .func (.func 99) #[] #[], .func (.func 98) #[] #[], .func (.func 97) #[] #[]] 90, .cells #[] 90, .cells #[.func (.func 100) #[] #[]] 90] w 1 _ rfl⟩⟩
  · have hi : ∀ (x0 x1 x2 x3 x4 x5 x6 x7 x8 x9 x10 x11 x12 : Value) (w : World), (Instr.index 124 (.agg #[x0, x1, x2, x3, x4, x5, x6, x7, x8, x9, x10, x11, x12]) (.int .i64 3)).run Tryz.prog w = .ok x3 w := fun _ _ _ _ _ _ _ _ _ _ _ _ _ w => by kernel_rfl
    go_enter Tryz.func55, Tryz.ntmps55
    go_wp2_with fail
    go_ret
    exact ⟨_, rfl, allocs_fresh [.cells #[.func (.func 94) #[] #[], .func (.func 95) #[] #[], .func (.func 96) #[] #[]] 90, .cells #[.func (.func 94) #[] #[], .func (.func 96) #[] #[]] 90, .cells #[.func (.func 96) #[] #[]] 90, .cells #[.func (.func 97) #[] #[]] 90, .cells #[.func (.func 97) #[] #[]] 90, .cells #[.func (.func 97) #[] #[]] 90, .cells #[.func (.func 97) #[] #[]] 90, .cells #[.func (.func 98) #[] #[], .func (.func 97) #[] #[]] 90, .cells #[.func (.func 95) #[] #[]] 90, .cells #[.func (.func 95) #[] #[], .func (.func 99) #[] #[], .func (.func 98) #[] #[], .func (.func 97) #[] #[]] 90, .cells #[] 90, .cells #[.func (.func 100) #[] #[]] 90] w, _, _, rfl, fun _ => ⟨w.heap.size + 2, rfl, by omega, allocs_at [.cells #[.func (.func 94) #[] #[], .func (.func 95) #[] #[], .func (.func 96) #[] #[]] 90, .cells #[.func (.func 94) #[] #[], .func (.func 96) #[] #[]] 90, .cells #[.func (.func 96) #[] #[]] 90, .cells #[.func (.func 97) #[] #[]] 90, .cells #[.func (.func 97) #[] #[]] 90, .cells #[.func (.func 97) #[] #[]] 90, .cells #[.func (.func 97) #[] #[]] 90, .cells #[.func (.func 98) #[] #[], .func (.func 97) #[] #[]] 90, .cells #[.func (.func 95) #[] #[]] 90, .cells #[.func (.func 95) #[] #[], .func (.func 99) #[] #[], .func (.func 98) #[] #[], .func (.func 97) #[] #[]] 90, .cells #[] 90, .cells #[.func (.func 100) #[] #[]] 90] w 2 _ rfl⟩⟩
  · have hi : ∀ (x0 x1 x2 x3 x4 x5 x6 x7 x8 x9 x10 x11 x12 : Value) (w : World), (Instr.index 124 (.agg #[x0, x1, x2, x3, x4, x5, x6, x7, x8, x9, x10, x11, x12]) (.int .i64 4)).run Tryz.prog w = .ok x4 w := fun _ _ _ _ _ _ _ _ _ _ _ _ _ w => by kernel_rfl
    go_enter Tryz.func55, Tryz.ntmps55
    go_wp2_with fail
    go_ret
    exact ⟨_, rfl, allocs_fresh [.cells #[.func (.func 94) #[] #[], .func (.func 95) #[] #[], .func (.func 96) #[] #[]] 90, .cells #[.func (.func 94) #[] #[], .func (.func 96) #[] #[]] 90, .cells #[.func (.func 96) #[] #[]] 90, .cells #[.func (.func 97) #[] #[]] 90, .cells #[.func (.func 97) #[] #[]] 90, .cells #[.func (.func 97) #[] #[]] 90, .cells #[.func (.func 97) #[] #[]] 90, .cells #[.func (.func 98) #[] #[], .func (.func 97) #[] #[]] 90, .cells #[.func (.func 95) #[] #[]] 90, .cells #[.func (.func 95) #[] #[], .func (.func 99) #[] #[], .func (.func 98) #[] #[], .func (.func 97) #[] #[]] 90, .cells #[] 90, .cells #[.func (.func 100) #[] #[]] 90] w, _, _, rfl, fun _ => ⟨w.heap.size + 3, rfl, by omega, allocs_at [.cells #[.func (.func 94) #[] #[], .func (.func 95) #[] #[], .func (.func 96) #[] #[]] 90, .cells #[.func (.func 94) #[] #[], .func (.func 96) #[] #[]] 90, .cells #[.func (.func 96) #[] #[]] 90, .cells #[.func (.func 97) #[] #[]] 90, .cells #[.func (.func 97) #[] #[]] 90, .cells #[.func (.func 97) #[] #[]] 90, .cells #[.func (.func 97) #[] #[]] 90, .cells #[.func (.func 98) #[] #[], .func (.func 97) #[] #[]] 90, .cells #[.func (.func 95) #[] #[]] 90, .cells #[.func (.func 95) #[] #[], .func (.func 99) #[] #[], .func (.func 98) #[] #[], .func (.func 97) #[] #[]] 90, .cells #[] 90, .cells #[.func (.func 100) #[] #[]] 90] w 3 _ rfl⟩⟩
  · have hi : ∀ (x0 x1 x2 x3 x4 x5 x6 x7 x8 x9 x10 x11 x12 : Value) (w : World), (Instr.index 124 (.agg #[x0, x1, x2, x3, x4, x5, x6, x7, x8, x9, x10, x11, x12]) (.int .i64 5)).run Tryz.prog w = .ok x5 w := fun _ _ _ _ _ _ _ _ _ _ _ _ _ w => by kernel_rfl
    go_enter Tryz.func55, Tryz.ntmps55
    go_wp2_with fail
    go_ret
    exact ⟨_, rfl, allocs_fresh [.cells #[.func (.func 94) #[] #[], .func (.func 95) #[] #[], .func (.func 96) #[] #[]] 90, .cells #[.func (.func 94) #[] #[], .func (.func 96) #[] #[]] 90, .cells #[.func (.func 96) #[] #[]] 90, .cells #[.func (.func 97) #[] #[]] 90, .cells #[.func (.func 97) #[] #[]] 90, .cells #[.func (.func 97) #[] #[]] 90, .cells #[.func (.func 97) #[] #[]] 90, .cells #[.func (.func 98) #[] #[], .func (.func 97) #[] #[]] 90, .cells #[.func (.func 95) #[] #[]] 90, .cells #[.func (.func 95) #[] #[], .func (.func 99) #[] #[], .func (.func 98) #[] #[], .func (.func 97) #[] #[]] 90, .cells #[] 90, .cells #[.func (.func 100) #[] #[]] 90] w, _, _, rfl, fun _ => ⟨w.heap.size + 4, rfl, by omega, allocs_at [.cells #[.func (.func 94) #[] #[], .func (.func 95) #[] #[], .func (.func 96) #[] #[]] 90, .cells #[.func (.func 94) #[] #[], .func (.func 96) #[] #[]] 90, .cells #[.func (.func 96) #[] #[]] 90, .cells #[.func (.func 97) #[] #[]] 90, .cells #[.func (.func 97) #[] #[]] 90, .cells #[.func (.func 97) #[] #[]] 90, .cells #[.func (.func 97) #[] #[]] 90, .cells #[.func (.func 98) #[] #[], .func (.func 97) #[] #[]] 90, .cells #[.func (.func 95) #[] #[]] 90, .cells #[.func (.func 95) #[] #[], .func (.func 99) #[] #[], .func (.func 98) #[] #[], .func (.func 97) #[] #[]] 90, .cells #[] 90, .cells #[.func (.func 100) #[] #[]] 90] w 4 _ rfl⟩⟩
  · have hi : ∀ (x0 x1 x2 x3 x4 x5 x6 x7 x8 x9 x10 x11 x12 : Value) (w : World), (Instr.index 124 (.agg #[x0, x1, x2, x3, x4, x5, x6, x7, x8, x9, x10, x11, x12]) (.int .i64 6)).run Tryz.prog w = .ok x6 w := fun _ _ _ _ _ _ _ _ _ _ _ _ _ w => by kernel_rfl
    go_enter Tryz.func55, Tryz.ntmps55
    go_wp2_with fail
    go_ret
    exact ⟨_, rfl, allocs_fresh [.cells #[.func (.func 94) #[] #[], .func (.func 95) #[] #[], .func (.func 96) #[] #[]] 90, .cells #[.func (.func 94) #[] #[], .func (.func 96) #[] #[]] 90, .cells #[.func (.func 96) #[] #[]] 90, .cells #[.func (.func 97) #[] #[]] 90, .cells #[.func (.func 97) #[] #[]] 90, .cells #[.func (.func 97) #[] #[]] 90, .cells #[.func (.func 97) #[] #[]] 90, .cells #[.func (.func 98) #[] #[], .func (.func 97) #[] #[]] 90, .cells #[.func (.func 95) #[] #[]] 90, .cells #[.func (.func 95) #[] #[], .func (.func 99) #[] #[], .func (.func 98) #[] #[], .func (.func 97) #[] #[]] 90, .cells #[] 90, .cells #[.func (.func 100) #[] #[]] 90] w, _, _, rfl, fun _ => ⟨w.heap.size + 5, rfl, by omega, allocs_at [.cells #[.func (.func 94) #[] #[], .func (.func 95) #[] #[], .func (.func 96) #[] #[]] 90, .cells #[.func (.func 94) #[] #[], .func (.func 96) #[] #[]] 90, .cells #[.func (.func 96) #[] #[]] 90, .cells #[.func (.func 97) #[] #[]] 90, .cells #[.func (.func 97) #[] #[]] 90, .cells #[.func (.func 97) #[] #[]] 90, .cells #[.func (.func 97) #[] #[]] 90, .cells #[.func (.func 98) #[] #[], .func (.func 97) #[] #[]] 90, .cells #[.func (.func 95) #[] #[]] 90, .cells #[.func (.func 95) #[] #[], .func (.func 99) #[] #[], .func (.func 98) #[] #[], .func (.func 97) #[] #[]] 90, .cells #[] 90, .cells #[.func (.func 100) #[] #[]] 90] w 5 _ rfl⟩⟩
  · have hi : ∀ (x0 x1 x2 x3 x4 x5 x6 x7 x8 x9 x10 x11 x12 : Value) (w : World), (Instr.index 124 (.agg #[x0, x1, x2, x3, x4, x5, x6, x7, x8, x9, x10, x11, x12]) (.int .i64 7)).run Tryz.prog w = .ok x7 w := fun _ _ _ _ _ _ _ _ _ _ _ _ _ w => by kernel_rfl
    go_enter Tryz.func55, Tryz.ntmps55
    go_wp2_with fail
    go_ret
    exact ⟨_, rfl, allocs_fresh [.cells #[.func (.func 94) #[] #[], .func (.func 95) #[] #[], .func (.func 96) #[] #[]] 90, .cells #[.func (.func 94) #[] #[], .func (.func 96) #[] #[]] 90, .cells #[.func (.func 96) #[] #[]] 90, .cells #[.func (.func 97) #[] #[]] 90, .cells #[.func (.func 97) #[] #[]] 90, .cells #[.func (.func 97) #[] #[]] 90, .cells #[.func (.func 97) #[] #[]] 90, .cells #[.func (.func 98) #[] #[], .func (.func 97) #[] #[]] 90, .cells #[.func (.func 95) #[] #[]] 90, .cells #[.func (.func 95) #[] #[], .func (.func 99) #[] #[], .func (.func 98) #[] #[], .func (.func 97) #[] #[]] 90, .cells #[] 90, .cells #[.func (.func 100) #[] #[]] 90] w, _, _, rfl, fun _ => ⟨w.heap.size + 6, rfl, by omega, allocs_at [.cells #[.func (.func 94) #[] #[], .func (.func 95) #[] #[], .func (.func 96) #[] #[]] 90, .cells #[.func (.func 94) #[] #[], .func (.func 96) #[] #[]] 90, .cells #[.func (.func 96) #[] #[]] 90, .cells #[.func (.func 97) #[] #[]] 90, .cells #[.func (.func 97) #[] #[]] 90, .cells #[.func (.func 97) #[] #[]] 90, .cells #[.func (.func 97) #[] #[]] 90, .cells #[.func (.func 98) #[] #[], .func (.func 97) #[] #[]] 90, .cells #[.func (.func 95) #[] #[]] 90, .cells #[.func (.func 95) #[] #[], .func (.func 99) #[] #[], .func (.func 98) #[] #[], .func (.func 97) #[] #[]] 90, .cells #[] 90, .cells #[.func (.func 100) #[] #[]] 90] w 6 _ rfl⟩⟩
  · have hi : ∀ (x0 x1 x2 x3 x4 x5 x6 x7 x8 x9 x10 x11 x12 : Value) (w : World), (Instr.index 124 (.agg #[x0, x1, x2, x3, x4, x5, x6, x7, x8, x9, x10, x11, x12]) (.int .i64 8)).run Tryz.prog w = .ok x8 w := fun _ _ _ _ _ _ _ _ _ _ _ _ _ w => by kernel_rfl
    go_enter Tryz.func55, Tryz.ntmps55
    go_wp2_with fail
    go_ret
    exact ⟨_, rfl, allocs_fresh [.cells #[.func (.func 94) #[] #[], .func (.func 95) #[] #[], .func (.func 96) #[] #[]] 90, .cells #[.func (.func 94) #[] #[], .func (.func 96) #[] #[]] 90, .cells #[.func (.func 96) #[] #[]] 90, .cells #[.func (.func 97) #[] #[]] 90, .cells #[.func (.func 97) #[] #[]] 90, .cells #[.func (.func 97) #[] #[]] 90, .cells #[.func (.func 97) #[] #[]] 90, .cells #[.func (.func 98) #[] #[], .func (.func 97) #[] #[]] 90, .cells #[.func (.func 95) #[] #[]] 90, .cells #[.func (.func 95) #[] #[], .func (.func 99) #[] #[], .func (.func 98) #[] #[], .func (.func 97) #[] #[]] 90, .cells #[] 90, .cells #[.func (.func 100) #[] #[]] 90] w, _, _, rfl, fun _ => ⟨w.heap.size + 7, rfl, by omega, allocs_at [.cells #[.func (.func 94) #[] #[], .func (.func 95) #[] #[], .func (.func 96) #[] #[]] 90, .cells #[.func (.func 94) #[] #[], .func (.func 96) #[] #[]] 90, .cells #[.func (.func 96) #[] #[]] 90, .cells #[.func (.func 97) #[] #[]] 90, .cells #[.func (.func 97) #[] #[]] 90, .cells #[.func (.func 97) #[] #[]] 90, .cells #[.func (.func 97) #[] #[]] 90, .cells #[.func (.func 98) #[] #[], .func (.func 97) #[] #[]] 90, .cells #[.func (.func 95) #[] #[]] 90, .cells #[.func (.func 95) #[] #[], .func (.func 99) #[] #[], .func (.func 98) #[] #[], .func (.func 97) #[] #[]] 90, .cells #[] 90, .cells #[.func (.func 100) #[] #[]] 90] w 7 _ rfl⟩⟩
  · have hi : ∀ (x0 x1 x2 x3 x4 x5 x6 x7 x8 x9 x10 x11 x12 : Value) (w : World), (Instr.index 124 (.agg #[x0, x1, x2, x3, x4, x5, x6, x7, x8, x9, x10, x11, x12]) (.int .i64 9)).run Tryz.prog w = .ok x9 w := fun _ _ _ _ _ _ _ _ _ _ _ _ _ w => by kernel_rfl
    go_enter Tryz.func55, Tryz.ntmps55
    go_wp2_with fail
    go_ret
    exact ⟨_, rfl, allocs_fresh [.cells #[.func (.func 94) #[] #[], .func (.func 95) #[] #[], .func (.func 96) #[] #[]] 90, .cells #[.func (.func 94) #[] #[], .func (.func 96) #[] #[]] 90, .cells #[.func (.func 96) #[] #[]] 90, .cells #[.func (.func 97) #[] #[]] 90, .cells #[.func (.func 97) #[] #[]] 90, .cells #[.func (.func 97) #[] #[]] 90, .cells #[.func (.func 97) #[] #[]] 90, .cells #[.func (.func 98) #[] #[], .func (.func 97) #[] #[]] 90, .cells #[.func (.func 95) #[] #[]] 90, .cells #[.func (.func 95) #[] #[], .func (.func 99) #[] #[], .func (.func 98) #[] #[], .func (.func 97) #[] #[]] 90, .cells #[] 90, .cells #[.func (.func 100) #[] #[]] 90] w, _, _, rfl, fun _ => ⟨w.heap.size + 8, rfl, by omega, allocs_at [.cells #[.func (.func 94) #[] #[], .func (.func 95) #[] #[], .func (.func 96) #[] #[]] 90, .cells #[.func (.func 94) #[] #[], .func (.func 96) #[] #[]] 90, .cells #[.func (.func 96) #[] #[]] 90, .cells #[.func (.func 97) #[] #[]] 90, .cells #[.func (.func 97) #[] #[]] 90, .cells #[.func (.func 97) #[] #[]] 90, .cells #[.func (.func 97) #[] #[]] 90, .cells #[.func (.func 98) #[] #[], .func (.func 97) #[] #[]] 90, .cells #[.func (.func 95) #[] #[]] 90, .cells #[.func (.func 95) #[] #[], .func (.func 99) #[] #[], .func (.func 98) #[] #[], .func (.func 97) #[] #[]] 90, .cells #[] 90, .cells #[.func (.func 100) #[] #[]] 90] w 8 _ rfl⟩⟩
  · have hi : ∀ (x0 x1 x2 x3 x4 x5 x6 x7 x8 x9 x10 x11 x12 : Value) (w : World), (Instr.index 124 (.agg #[x0, x1, x2, x3, x4, x5, x6, x7, x8, x9, x10, x11, x12]) (.int .i64 10)).run Tryz.prog w = .ok x10 w := fun _ _ _ _ _ _ _ _ _ _ _ _ _ w => by kernel_rfl
    go_enter Tryz.func55, Tryz.ntmps55
    go_wp2_with fail
    go_ret
    exact ⟨_, rfl, allocs_fresh [.cells #[.func (.func 94) #[] #[], .func (.func 95) #[] #[], .func (.func 96) #[] #[]] 90, .cells #[.func (.func 94) #[] #[], .func (.func 96) #[] #[]] 90, .cells #[.func (.func 96) #[] #[]] 90, .cells #[.func (.func 97) #[] #[]] 90, .cells #[.func (.func 97) #[] #[]] 90, .cells #[.func (.func 97) #[] #[]] 90, .cells #[.func (.func 97) #[] #[]] 90, .cells #[.func (.func 98) #[] #[], .func (.func 97) #[] #[]] 90, .cells #[.func (.func 95) #[] #[]] 90, .cells #[.func (.func 95) #[] #[], .func (.func 99) #[] #[], .func (.func 98) #[] #[], .func (.func 97) #[] #[]] 90, .cells #[] 90, .cells #[.func (.func 100) #[] #[]] 90] w, _, _, rfl, fun _ => ⟨w.heap.size + 9, rfl, by omega, allocs_at [.cells #[.func (.func 94) #[] #[], .func (.func 95) #[] #[], .func (.func 96) #[] #[]] 90, .cells #[.func (.func 94) #[] #[], .func (.func 96) #[] #[]] 90, .cells #[.func (.func 96) #[] #[]] 90, .cells #[.func (.func 97) #[] #[]] 90, .cells #[.func (.func 97) #[] #[]] 90, .cells #[.func (.func 97) #[] #[]] 90, .cells #[.func (.func 97) #[] #[]] 90, .cells #[.func (.func 98) #[] #[], .func (.func 97) #[] #[]] 90, .cells #[.func (.func 95) #[] #[]] 90, .cells #[.func (.func 95) #[] #[], .func (.func 99) #[] #[], .func (.func 98) #[] #[], .func (.func 97) #[] #[]] 90, .cells #[] 90, .cells #[.func (.func 100) #[] #[]] 90] w 9 _ rfl⟩⟩
  · have hi : ∀ (x0 x1 x2 x3 x4 x5 x6 x7 x8 x9 x10 x11 x12 : Value) (w : World), (Instr.index 124 (.agg #[x0, x1, x2, x3, x4, x5, x6, x7, x8, x9, x10, x11, x12]) (.int .i64 11)).run Tryz.prog w = .ok x11 w := fun _ _ _ _ _ _ _ _ _ _ _ _ _ w => by kernel_rfl
    go_enter Tryz.func55, Tryz.ntmps55
    go_wp2_with fail
    go_ret
    refine ⟨_, rfl, allocs_fresh [.cells #[.func (.func 94) #[] #[], .func (.func 95) #[] #[], .func (.func 96) #[] #[]] 90, .cells #[.func (.func 94) #[] #[], .func (.func 96) #[] #[]] 90, .cells #[.func (.func 96) #[] #[]] 90, .cells #[.func (.func 97) #[] #[]] 90, .cells #[.func (.func 97) #[] #[]] 90, .cells #[.func (.func 97) #[] #[]] 90, .cells #[.func (.func 97) #[] #[]] 90, .cells #[.func (.func 98) #[] #[], .func (.func 97) #[] #[]] 90, .cells #[.func (.func 95) #[] #[]] 90, .cells #[.func (.func 95) #[] #[], .func (.func 99) #[] #[], .func (.func 98) #[] #[], .func (.func 97) #[] #[]] 90, .cells #[] 90, .cells #[.func (.func 100) #[] #[]] 90] w, _, _, rfl, fun h => absurd rfl h⟩
  · have hi : ∀ (x0 x1 x2 x3 x4 x5 x6 x7 x8 x9 x10 x11 x12 : Value) (w : World), (Instr.index 124 (.agg #[x0, x1, x2, x3, x4, x5, x6, x7, x8, x9, x10, x11, x12]) (.int .i64 12)).run Tryz.prog w = .ok x12 w := fun _ _ _ _ _ _ _ _ _ _ _ _ _ w => by kernel_rfl
    go_enter Tryz.func55, Tryz.ntmps55
    go_wp2_with fail
    go_ret
    exact ⟨_, rfl, allocs_fresh [.cells #[.func (.func 94) #[] #[], .func (.func 95) #[] #[], .func (.func 96) #[] #[]] 90, .cells #[.func (.func 94) #[] #[], .func (.func 96) #[] #[]] 90, .cells #[.func (.func 96) #[] #[]] 90, .cells #[.func (.func 97) #[] #[]] 90, .cells #[.func (.func 97) #[] #[]] 90, .cells #[.func (.func 97) #[] #[]] 90, .cells #[.func (.func 97) #[] #[]] 90, .cells #[.func (.func 98) #[] #[], .func (.func 97) #[] #[]] 90, .cells #[.func (.func 95) #[] #[]] 90, .cells #[.func (.func 95) #[] #[], .func (.func 99) #[] #[], .func (.func 98) #[] #[], .func (.func 97) #[] #[]] 90, .cells #[] 90, .cells #[.func (.func 100) #[] #[]] 90] w, _, _, rfl, fun _ => ⟨w.heap.size + 11, rfl, by omega, allocs_at [.cells #[.func (.func 94) #[] #[], .func (.func 95) #[] #[], .func (.func 96) #[] #[]] 90, .cells #[.func (.func 94) #[] #[], .func (.func 96) #[] #[]] 90, .cells #[.func (.func 96) #[] #[]] 90, .cells #[.func (.func 97) #[] #[]] 90, .cells #[.func (.func 97) #[] #[]] 90, .cells #[.func (.func 97) #[] #[]] 90, .cells #[.func (.func 97) #[] #[]] 90, .cells #[.func (.func 98) #[] #[], .func (.func 97) #[] #[]] 90, .cells #[.func (.func 95) #[] #[]] 90, .cells #[.func (.func 95) #[] #[], .func (.func 99) #[] #[], .func (.func 98) #[] #[], .func (.func 97) #[] #[]] 90, .cells #[] 90, .cells #[.func (.func 100) #[] #[]] 90] w 11 _ rfl⟩⟩
end Go.Proofs.YtpccaodkgboefaaGreatDoor
