/-
  The program's trie: the leaf of a key (at), Get.
-/
import Derived.Test.YtmflbchiapdhbaaGreatDoorMTrA
import Derived.BigQuiet
import Derived.Deep.RegionLaw
namespace Go.Proofs.YtmflbchiapdhbaaGreatDoor
open Go.RowKit

theorem set4_at {w : World} {b : Nat} {a0 a1 a2 a3 : Value} {e : TypeId} (h : w.heap[b]? = some (.cells #[a0, a1, a2, a3] e (0, 0))) (u0 u1 u2 u3 : Value) :
    ((((w.setCell ⟨b, 0, none⟩ u0).setCell ⟨b, 1, none⟩ u1).setCell ⟨b, 2, none⟩ u2).setCell ⟨b, 3, none⟩ u3).heap[b]? = some (.cells #[u0, u1, u2, u3] e (0, 0)) :=
  heap_setCell_at (heap_setCell_at (heap_setCell_at (heap_setCell_at h 0 u0) 1 u1) 2 u2) 3 u3
theorem set4_keeps (w : World) (b : Nat) (u0 u1 u2 u3 : Value) : Keeps (fun q => q = b) w ((((w.setCell ⟨b, 0, none⟩ u0).setCell ⟨b, 1, none⟩ u1).setCell ⟨b, 2, none⟩ u2).setCell ⟨b, 3, none⟩ u3) :=
  ((((Keeps.refl (fun q => q = b) w).setCell (p := ⟨b, 0, none⟩) (fun _ => rfl) u0).setCell (p := ⟨b, 1, none⟩) (fun _ => rfl) u1).setCell (p := ⟨b, 2, none⟩) (fun _ => rfl) u2).setCell (p := ⟨b, 3, none⟩) (fun _ => rfl) u3

/-- what a leaf's cells are, and whether it is this key's -/
def Tr.cellsAt (k : List UInt8) : Tr → Array Value × Bool
  | .leaf kk sum key val => (leafCells kk sum key val, decide (kk = k))
  | _ => (leafCells [] [] [] [], false)
def Tr.get (k : List UInt8) (t : Tr) : Option (List UInt8) := match (t.dig k 0).1 with
  | .leaf kk _ _ val => if kk = k then Option.some val else Option.none
  | _ => Option.none

set_option maxRecDepth 100000 in
set_option maxHeartbeats 2000000 in
theorem at_any (b : Nat) (t : Tr) (many : Int) (key : List UInt8) (w : World) (h : MapAt w b t many) (hd : Dig w) (hkey : key.length ≤ 1000000) (hdeep : (t.dig (sha key) 0).2.length ≤ 256) :
    Calls Tryz.prog 47 #[.pointer (some ⟨b, 0, none⟩), .string (str key)] w fun e w' => e = .returned (.tuple #[.agg ((t.dig (sha key) 0).1.cellsAt (sha key)).1, .bool ((t.dig (sha key) 0).1.cellsAt (sha key)).2]) ∧ Fresh w w' := by
  have hsk := sha_len key
  have c0 := cell_at h 0
  simp at c0
  have hbl := lt_of_block h
  have f1 : Fresh w ((w.alloc (.cells #[.string ⟨#[]⟩, .string ⟨#[]⟩, .string ⟨#[]⟩, .string ⟨#[]⟩] 75)).alloc (.cells #[.string (str key)] 9)) := ((Keeps.refl _ _).alloc _).alloc _
  have hb4 := ((Keeps.refl (fun _ => False) _).alloc (.cells #[.string (str key)] 9)).at_ (heap_alloc_new w (.cells #[.string ⟨#[]⟩, .string ⟨#[]⟩, .string ⟨#[]⟩, .string ⟨#[]⟩] 75)) (fun h => h)
  have hsum := psum_one (w.heap.size + 1) key _ (by have := heap_alloc_new (w.alloc (.cells #[.string ⟨#[]⟩, .string ⟨#[]⟩, .string ⟨#[]⟩, .string ⟨#[]⟩] 75)) (.cells #[.string (str key)] 9); rwa [World.size_alloc] at this) (hd.fresh f1) (by omega)
  obtain ⟨k, hk⟩ : ∃ k, sha key = k := ⟨_, rfl⟩
  rw [hk] at hsum hsk hdeep ⊢
  have hfind := fun w1 => find_any k t w1 hsk hdeep
  obtain ⟨node, hnode⟩ : ∃ node, (t.dig k 0).1 = node := ⟨_, rfl⟩
  rw [hnode] at hfind ⊢
  have HSUM := hid hsum
  have HFIND := hid hfind
  have H := hid h
  clear hsum hfind hk hnode hdeep hd h
  go_enter Tryz.func47, Tryz.ntmps47
  go_wp2_with fail
  refine HSUM.out.mono ?_
  rintro e w1 ⟨rfl, fa⟩
  have fr := f1.trans fa
  have hb4 := fa.at_ hb4 (fun h => h)
  have c0 := (fr.cell (p := ⟨b, 0, none⟩) hbl (fun h => h)).trans c0
  clear fa f1 HSUM
  go_wp2_with fail
  refine (HFIND.out w1).mono ?_
  rintro e w2 ⟨v, rfl, fa, hown⟩
  have frb := fr.trans fa
  have hb4 := fa.at_ hb4 (fun h => h)
  clear fa fr HFIND c0
  have hkl := str_toList k
  cases node with
  | none =>
    simp only [Tr.val]
    have hta := none_as_leaf
    have q0 := cell_at hb4 0
    have q1 := cell_at hb4 1
    have q2 := cell_at hb4 2
    have q3 := cell_at hb4 3
    have z0 := free_at hb4 0
    have z1 := free_at hb4 1
    have z2 := free_at hb4 2
    have z3 := free_at hb4 3
    simp at q0 q1 q2 q3
    have hlt4 := lt_of_block hb4
    go_wp2_with fail
    go_region
    all_goals go_wp2
    have hW := ((Keeps.refl (fun _ => False) _).alloc (.cells #[.string ⟨#[]⟩, .string ⟨#[]⟩, .string ⟨#[]⟩, .string ⟨#[]⟩] 75)).drew.at_ (set4_at hb4 (.string ⟨#[]⟩) (.string ⟨#[]⟩) (.string ⟨#[]⟩) (.string ⟨#[]⟩)) (fun h => h)
    have kW := (((set4_keeps w2 w.heap.size (.string ⟨#[]⟩) (.string ⟨#[]⟩) (.string ⟨#[]⟩) (.string ⟨#[]⟩)).alloc (.cells #[.string ⟨#[]⟩, .string ⟨#[]⟩, .string ⟨#[]⟩, .string ⟨#[]⟩] 75)).drew)
    have fin := (frb.trans' (S' := fun q => q = w.heap.size) kW (fun i hi h => by omega))
    clear kW hb4 q0 q1 q2 q3 z0 z1 z2 z3
    generalize (((((w2.setCell ⟨w.heap.size, 0, none⟩ _).setCell ⟨w.heap.size, 1, none⟩ _).setCell ⟨w.heap.size, 2, none⟩ _).setCell ⟨w.heap.size, 3, none⟩ _).alloc _).drew = W at hW fin ⊢
    have d0 := cell_at hW 0
    have d1 := cell_at hW 1
    have d2 := cell_at hW 2
    have d3 := cell_at hW 3
    simp at d0 d1 d2 d3
    refine bodyPost_ret (v := .tuple #[.agg #[.string ⟨#[]⟩, .string ⟨#[]⟩, .string ⟨#[]⟩, .string ⟨#[]⟩], .bool false]) (by simp [results, Tryz.results47, go_sem, d0, d1, d2, d3, Result.andThen]) rfl ⟨?_, fin⟩
    rfl
  | leaf kk sum kkey val =>
    simp only [Tr.val, leafCells]
    have hta := as_leaf
    have q0 := cell_at hb4 0
    have q1 := cell_at hb4 1
    have q2 := cell_at hb4 2
    have q3 := cell_at hb4 3
    have z0 := free_at hb4 0
    have z1 := free_at hb4 1
    have z2 := free_at hb4 2
    have z3 := free_at hb4 3
    simp at q0 q1 q2 q3
    have hlt4 := lt_of_block hb4
    go_wp2_with fail
    go_region
    all_goals go_wp2
    have hW := ((Keeps.refl (fun _ => False) _).alloc (.cells #[.string (str kk), .string (str sum), .string (str kkey), .string (str val)] 75)).drew.at_ (set4_at hb4 (.string (str kk)) (.string (str sum)) (.string (str kkey)) (.string (str val))) (fun h => h)
    have kW := (((set4_keeps w2 w.heap.size (.string (str kk)) (.string (str sum)) (.string (str kkey)) (.string (str val))).alloc (.cells #[.string (str kk), .string (str sum), .string (str kkey), .string (str val)] 75)).drew)
    have fin := (frb.trans' (S' := fun q => q = w.heap.size) kW (fun i hi h => by omega))
    clear kW hb4 q0 q1 q2 q3 z0 z1 z2 z3
    generalize (((((w2.setCell ⟨w.heap.size, 0, none⟩ _).setCell ⟨w.heap.size, 1, none⟩ _).setCell ⟨w.heap.size, 2, none⟩ _).setCell ⟨w.heap.size, 3, none⟩ _).alloc _).drew = W at hW fin ⊢
    have d0 := cell_at hW 0
    have d1 := cell_at hW 1
    have d2 := cell_at hW 2
    have d3 := cell_at hW 3
    simp at d0 d1 d2 d3
    refine bodyPost_ret (v := .tuple #[.agg #[.string (str kk), .string (str sum), .string (str kkey), .string (str val)], .bool ((str kk).toList == k)]) (by simp [results, Tryz.results47, go_sem, d0, d1, d2, d3, Result.andThen]) rfl ⟨?_, fin⟩
    rw [str_toList]; by_cases h : kk = k <;> simp [h, leafCells, Tr.cellsAt]
  | fork l r sum =>
    simp only [Tr.val]
    have hta := fork_as_leaf
    have q0 := cell_at hb4 0
    have q1 := cell_at hb4 1
    have q2 := cell_at hb4 2
    have q3 := cell_at hb4 3
    have z0 := free_at hb4 0
    have z1 := free_at hb4 1
    have z2 := free_at hb4 2
    have z3 := free_at hb4 3
    simp at q0 q1 q2 q3
    have hlt4 := lt_of_block hb4
    go_wp2_with fail
    go_region
    all_goals go_wp2
    have hW := ((Keeps.refl (fun _ => False) _).alloc (.cells #[.string ⟨#[]⟩, .string ⟨#[]⟩, .string ⟨#[]⟩, .string ⟨#[]⟩] 75)).drew.at_ (set4_at hb4 (.string ⟨#[]⟩) (.string ⟨#[]⟩) (.string ⟨#[]⟩) (.string ⟨#[]⟩)) (fun h => h)
    have kW := (((set4_keeps w2 w.heap.size (.string ⟨#[]⟩) (.string ⟨#[]⟩) (.string ⟨#[]⟩) (.string ⟨#[]⟩)).alloc (.cells #[.string ⟨#[]⟩, .string ⟨#[]⟩, .string ⟨#[]⟩, .string ⟨#[]⟩] 75)).drew)
    have fin := (frb.trans' (S' := fun q => q = w.heap.size) kW (fun i hi h => by omega))
    clear kW hb4 q0 q1 q2 q3 z0 z1 z2 z3
    generalize (((((w2.setCell ⟨w.heap.size, 0, none⟩ _).setCell ⟨w.heap.size, 1, none⟩ _).setCell ⟨w.heap.size, 2, none⟩ _).setCell ⟨w.heap.size, 3, none⟩ _).alloc _).drew = W at hW fin ⊢
    have d0 := cell_at hW 0
    have d1 := cell_at hW 1
    have d2 := cell_at hW 2
    have d3 := cell_at hW 3
    simp at d0 d1 d2 d3
    refine bodyPost_ret (v := .tuple #[.agg #[.string ⟨#[]⟩, .string ⟨#[]⟩, .string ⟨#[]⟩, .string ⟨#[]⟩], .bool false]) (by simp [results, Tryz.results47, go_sem, d0, d1, d2, d3, Result.andThen]) rfl ⟨?_, fin⟩
    rfl

def Tr.got (k : List UInt8) (t : Tr) : List UInt8 := (t.get k).getD []
def Tr.has (k : List UInt8) (t : Tr) : Bool := (t.get k).isSome

set_option maxRecDepth 100000 in
set_option maxHeartbeats 2000000 in
theorem get_any (b : Nat) (t : Tr) (many : Int) (key : List UInt8) (w : World) (h : MapAt w b t many) (hd : Dig w) (hkey : key.length ≤ 200) (hdeep : (t.dig (sha key) 0).2.length ≤ 256) :
    Calls Tryz.prog 19 #[.pointer (some ⟨b, 0, none⟩), .string (str key)] w fun e w' => e = .returned (.tuple #[.string (str (t.got (sha key))), .bool (t.has (sha key))]) ∧ Fresh w w' := by
  have hsz := str_size key
  have hat := at_any b t many key w h hd (by omega) hdeep
  obtain ⟨k, hk⟩ : ∃ k, sha key = k := ⟨_, rfl⟩
  rw [hk] at hat ⊢
  unfold Tr.got Tr.has Tr.get
  obtain ⟨node, hnode⟩ : ∃ node, (t.dig k 0).1 = node := ⟨_, rfl⟩
  rw [hnode] at hat ⊢
  have H := hid h
  clear h hk hnode hdeep hd
  cases node with
  | none =>
    simp only [Tr.cellsAt, leafCells] at hat
    have HAT := hid hat
    clear hat
    go_enter Tryz.func19, Tryz.ntmps19
    go_wp2_with fail
    refine HAT.out.mono ?_
    rintro e w1 ⟨rfl, fa⟩
    go_wp2_with fail
    go_ret2
    exact ⟨rfl, fa.alloc _⟩
  | fork l r sum =>
    simp only [Tr.cellsAt, leafCells] at hat
    have HAT := hid hat
    clear hat
    go_enter Tryz.func19, Tryz.ntmps19
    go_wp2_with fail
    refine HAT.out.mono ?_
    rintro e w1 ⟨rfl, fa⟩
    go_wp2_with fail
    go_ret2
    exact ⟨rfl, fa.alloc _⟩
  | leaf kk sum kkey val =>
    by_cases hkk : kk = k
    · simp only [Tr.cellsAt, leafCells, decide_eq_true hkk] at hat
      have HAT := hid hat
      simp only [if_pos hkk]
      clear hat hkk
      go_enter Tryz.func19, Tryz.ntmps19
      go_wp2_with fail
      refine HAT.out.mono ?_
      rintro e w1 ⟨rfl, fa⟩
      go_wp2_with fail
      go_ret2
      exact ⟨rfl, fa.alloc _⟩
    · simp only [Tr.cellsAt, leafCells, decide_eq_false hkk] at hat
      have HAT := hid hat
      simp only [if_neg hkk]
      clear hat hkk
      go_enter Tryz.func19, Tryz.ntmps19
      go_wp2_with fail
      refine HAT.out.mono ?_
      rintro e w1 ⟨rfl, fa⟩
      go_wp2_with fail
      go_ret2
      exact ⟨rfl, fa.alloc _⟩
end Go.Proofs.YtmflbchiapdhbaaGreatDoor
