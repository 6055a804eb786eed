/-
  The program's trie: what is too long is refused, and changes nothing; Prove of where nothing is.
-/
import Derived.Test.YtmflbchiapdhbaaGreatDoorTrProve
namespace Go.Proofs.YtmflbchiapdhbaaGreatDoor
open Go.RowKit

set_option maxRecDepth 100000 in
theorem setmap_long (b : Nat) (key value : List UInt8) (w : World) (h : 200 < key.length ∨ 1000 < value.length) (hk : key.length ≤ 9223372036854775807) (hv : value.length ≤ 9223372036854775807) :
    Calls Tryz.prog 12 #[.pointer (some ⟨b, 0, none⟩), .string (str key), .string (str value)] w fun e w' => e = .returned (.int .i64 242) ∧ Fresh w w' := by
  have hsz := str_size key
  have hsv := str_size value
  by_cases h1 : 200 < key.length
  · clear h
    go_enter Tryz.func12, Tryz.ntmps12
    go_wp2_with fail
    go_ret
    exact ⟨rfl, Keeps.refl _ _⟩
  · have h2 : 1000 < value.length := h.resolve_left h1
    clear h
    go_enter Tryz.func12, Tryz.ntmps12
    go_wp2_with fail
    go_ret
    exact ⟨rfl, Keeps.refl _ _⟩

set_option maxRecDepth 100000 in
theorem removemap_long (b : Nat) (key : List UInt8) (w : World) (h : 200 < key.length) (hk : key.length ≤ 9223372036854775807) :
    Calls Tryz.prog 17 #[.pointer (some ⟨b, 0, none⟩), .string (str key)] w fun e w' => e = .returned (.tuple #[.bool false, .int .i64 242]) ∧ Fresh w w' := by
  have hsz := str_size key
  go_enter Tryz.func17, Tryz.ntmps17
  go_wp2_with fail
  go_ret2
  exact ⟨rfl, Keeps.refl _ _⟩

set_option maxRecDepth 100000 in
theorem get_long (b : Nat) (key : List UInt8) (w : World) (h : 200 < key.length) (hk : key.length ≤ 9223372036854775807) :
    Calls Tryz.prog 19 #[.pointer (some ⟨b, 0, none⟩), .string (str key)] w fun e w' => e = .returned (.tuple #[.string (str []), .bool false]) ∧ Fresh w w' := by
  have hsz := str_size key
  go_enter Tryz.func19, Tryz.ntmps19
  go_wp2_with fail
  go_ret2
  exact ⟨rfl, Keeps.refl _ _⟩

set_option maxRecDepth 100000 in
set_option maxHeartbeats 1000000 in
theorem prove_long (b : Nat) (key : List UInt8) (w : World) (h : 200 < key.length) (hk : key.length ≤ 9223372036854775807) :
    Calls Tryz.prog 13 #[.pointer (some ⟨b, 0, none⟩), .string (str key)] w fun e w' => e = .returned (.tuple #[lookupVal (.slice none 0 0) (false, [], []), .int .i64 242]) ∧ Fresh w w' := by
  have hsz := str_size key
  have f0 : Fresh w (w.alloc (.cells #[.slice none 0 0, .bool false, .string ⟨#[]⟩, .string ⟨#[]⟩] 43)) := (Keeps.refl _ _).alloc _
  have hb4 := heap_alloc_new w (.cells #[.slice none 0 0, .bool false, .string ⟨#[]⟩, .string ⟨#[]⟩] 43)
  go_enter Tryz.func13, Tryz.ntmps13
  go_wp2_with fail
  generalize w.alloc (.cells #[.slice none 0 0, .bool false, .string ⟨#[]⟩, .string ⟨#[]⟩] 43) = W at hb4 f0 ⊢
  have d0 := cell_at hb4 0
  have d1 := cell_at hb4 1
  have d2 := cell_at hb4 2
  have d3 := cell_at hb4 3
  simp at d0 d1 d2 d3
  refine bodyPost_ret (v := .tuple #[.agg #[.slice none 0 0, .bool false, .string ⟨#[]⟩, .string ⟨#[]⟩], .int .i64 242]) (by simp [results, Tryz.results13, go_sem, d0, d1, d2, d3, Result.andThen]) rfl ⟨rfl, f0⟩
end Go.Proofs.YtmflbchiapdhbaaGreatDoor
