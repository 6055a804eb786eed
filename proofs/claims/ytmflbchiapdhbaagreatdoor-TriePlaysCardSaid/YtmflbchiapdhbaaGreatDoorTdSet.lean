/-
  The document's trie map: Set, Remove.
-/
import Derived.Test.YtmflbchiapdhbaaGreatDoorMTdA
import Derived.Test.YtmflbchiapdhbaaGreatDoorMMg
import Derived.Test.YtmflbchiapdhbaaGreatDoorMMsF
import Derived.Test.YtmflbchiapdhbaaGreatDoorPack
import Derived.BigQuiet
namespace Go.Proofs.YtmflbchiapdhbaaGreatDoor
open Go.RowKit

theorem thingCells_set : ∀ (L : List Ent) (j : Nat) (x : Ent), j < L.length → thingCells (L.set j x) = (thingCells L).take (j * 4) ++ entCells x ++ (thingCells L).drop (j * 4 + 4)
  | [], j, x, h => by simp at h
  | y :: r, 0, x, h => by
    simp [thingCells, entCells]
  | y :: r, j + 1, x, h => by
    have ih := thingCells_set r j x (by simpa using h)
    simp only [thingCells, List.set_cons_succ, List.flatMap_cons] at ih ⊢
    rw [ih]
    have e1 : (j + 1) * 4 = (entCells y).length + j * 4 := by simp [entCells]; omega
    have e2 : (j + 1) * 4 + 4 = (entCells y).length + (j * 4 + 4) := by simp [entCells]; omega
    rw [e2, e1, List.take_length_add_append, List.drop_length_add_append]
    simp [List.append_assoc]
theorem OwnThings.set {w : World} {g cap : Nat} {L : List Ent} (h : OwnThings w (.slice (some ⟨g, 0, none⟩) L.length cap) L) {j : Nat} (hj : j < L.length) (x : Ent) :
    OwnThings ((((w.setCell ⟨g, j * 4, none⟩ (.string (str x.1))).setCell ⟨g, j * 4 + 1, none⟩ (.string (str x.2))).setCell ⟨g, j * 4 + 2, none⟩ (.string (str (sha x.1)))).setCell ⟨g, j * 4 + 3, none⟩ (.string (str (sha x.2)))) (.slice (some ⟨g, 0, none⟩) L.length cap) (L.set j x) := by
  have h1 := ownsRow_puts (entCells x) w (thingCells L) (j * 4) h (by rw [thingCells_len]; simp [entCells]; omega)
  unfold OwnThings
  rw [thingCells_set L j x hj, List.length_set]
  exact h1

theorem Appended.based {e : TypeId} {size : Nat} {w0 w w' : World} {v v' : Value} {n : Nat} {xs : List Value} (h : Appended e size w w' v v' n xs) (f : Fresh w0 w) : Appended e size w0 w' v v' n xs :=
  ⟨h.row, (f.mono fun _ _ h => h.elim).trans h.keeps, fun g hg => (h.own g hg).imp_right fun h => ⟨Nat.le_trans f.size h.1, h.2⟩⟩
theorem setL_some {x : Ent} {L : List Ent} {j : Nat} (h : spotL (dg x) L = some j) : setL x L = L.set j x := by rw [setL, h]
theorem setL_none {x : Ent} {L : List Ent} (h : spotL (dg x) L = none) : setL x L = L ++ [x] := by rw [setL, h]
theorem spotV_some {d : List UInt8} {L : List Ent} {j : Nat} (h : spotL d L = some j) : spotV d L = (j : Int) := by rw [spotV, h]
theorem spotV_none {d : List UInt8} {L : List Ent} (h : spotL d L = none) : spotV d L = -1 := by rw [spotV, h]

set_option maxRecDepth 100000 in
set_option maxHeartbeats 2000000 in
theorem dset_long (p : Value) (key value : List UInt8) (w : World) (hlong : 200 < key.length ∨ 1000 < value.length) (hk : key.length ≤ 9223372036854775807) (hv : value.length ≤ 9223372036854775807) :
    Calls Tryz.prog 16 #[p, .string (str key), .string (str value)] w fun e w' => e = .returned (.int .i64 242) ∧ Fresh w w' := by
  have hsz := str_size key
  have hsv := str_size value
  by_cases h1 : (200 : Int) < (key.length : Int)
  · clear hlong
    go_enter Tryz.func16, Tryz.ntmps16
    go_wp2_with fail
    go_ret
    exact ⟨rfl, Keeps.refl _ _⟩
  · have h2 : (1000 : Int) < (value.length : Int) := by omega
    clear hlong
    go_enter Tryz.func16, Tryz.ntmps16
    go_wp2_with fail
    go_ret
    exact ⟨rfl, Keeps.refl _ _⟩

/-- what Set and Remove leave: the box y, the row, new blocks -/
def DocTo (w w' : World) (y : Nat) (dv : Value) (L' : List Ent) : Prop := ∃ dv', DocAt w' y dv' L' ∧ Keeps (fun q => q = y ∨ dv.ownBlock = some q) w w' ∧ ∀ g, dv'.ownBlock = some g → dv.ownBlock = some g ∨ w.heap.size ≤ g

set_option maxRecDepth 100000 in
set_option maxHeartbeats 4000000 in
theorem dset_any (y : Nat) (dv : Value) (L : List Ent) (key value : List UInt8) (w : World) (h : DocAt w y dv L) (hl : L.length ≤ 1000000) (hk : key.length ≤ 200) (hv : value.length ≤ 1000) :
    Calls Tryz.prog 16 #[.pointer (some ⟨y, 0, none⟩), .string (str key), .string (str value)] w fun e w' => e = .returned (.int .i64 0) ∧ DocTo w w' y dv (setL (key, value) L) := by
  obtain ⟨i0, hi, hz0, hz1, hz2⟩ := info_parts Tryz.infoThing
  have hsz := str_size key
  have hsv := str_size value
  have h1 : ¬ (200 : Int) < (key.length : Int) := by omega
  have h2 : ¬ (1000 : Int) < (value.length : Int) := by omega
  have HFIND := hid fun W (f : Fresh w W) => dfind_any y dv L key W (h.fresh f) hl (by omega)
  have HS1 := hid fun W => refsum_any key W (by omega)
  have HS2 := hid fun W => refsum_any value W (by omega)
  have H := hid h
  obtain ⟨K1, hK1⟩ : ∃ K1, sha key = K1 := ⟨_, rfl⟩
  obtain ⟨V1, hV1⟩ : ∃ V1, sha value = V1 := ⟨_, rfl⟩
  have HK1 := hid hK1
  have HV1 := hid hV1
  rw [hK1] at HFIND HS1
  rw [hV1] at HS2
  obtain ⟨ao, cap, rfl, -⟩ := h.row.at_
  have HL := hid hl
  clear h hl hK1 hV1
  cases hs : spotL K1 L with
  | some j =>
    have HOUT : Hid (setL (key, value) L = L.set j (key, value)) := setL_some (by unfold dg; rw [HK1.out]; exact hs)
    have hj := spotL_lt hs
    rw [spotV_some hs] at HFIND
    clear hs
    have hn0 : (0 : Int) ≤ (j : Int) := by omega
    have hn1 : (j : Int) < (L.length : Int) := by omega
    go_enter Tryz.func16, Tryz.ntmps16
    go_wp2_with fail
    refine (HS1.out _).mono ?_
    rintro e w1 ⟨rfl, f1⟩
    go_wp2_with fail
    refine (HS2.out _).mono ?_
    rintro e w2 ⟨rfl, f2⟩
    go_wp2_with fail
    have f3 := (f1.trans f2).alloc (.cells #[.string (str key), .string (str value), .string (str K1), .string (str V1)] 89)
    have hb3 := heap_alloc_new w2 (.cells #[.string (str key), .string (str value), .string (str K1), .string (str V1)] 89)
    refine (HFIND.out _ f3).mono ?_
    rintro e w4 ⟨rfl, f4⟩
    have hb4 := f4.at_ hb3 (fun h => h)
    have hD := H.out.fresh (f3.trans f4)
    have fr := f3.trans f4
    obtain ⟨xb, hxb⟩ : ∃ xb, w2.heap.size = xb := ⟨_, rfl⟩
    rw [hxb] at hb4 ⊢
    have c0 := cell_at hD.box 0
    simp at c0
    have x0 := cell_at hb4 0
    have x1 := cell_at hb4 1
    have x2 := cell_at hb4 2
    have x3 := cell_at hb4 3
    simp at x0 x1 x2 x3
    obtain ⟨g, rfl, hgl⟩ : ∃ g, ao = some ⟨g, 0, none⟩ ∧ g < w4.heap.size := by
      obtain ⟨ao', cap', e1, hc⟩ := hD.row.at_
      simp only [Value.slice.injEq, true_and] at e1
      obtain ⟨rfl, rfl⟩ := e1
      obtain ⟨x, hx⟩ : ∃ x, L[j]? = some x := ⟨L[j], by simp⟩
      obtain ⟨bb, e, hb, -⟩ := hc j x hx
      exact ⟨bb, e, hb⟩
    have hfz : ∀ o, w4.drew.frozen? ⟨g, o, none⟩ = false := fun o => hD.row.frozenAt o
    have z0 := hfz (j * 4)
    have z1 := hfz (j * 4 + 1)
    have z2 := hfz (j * 4 + 2)
    have z3 := hfz (j * 4 + 3)
    have hget : ∀ i, i < 4 → ∃ u, w4.drew.cell? ⟨g, j * 4 + i, none⟩ = some u := fun i hi => by
      have hh : w4.ownsRow 0 89 4 (.slice (some ⟨g, 0, none⟩) L.length cap) L.length (thingCells L) := hD.row
      obtain ⟨g', e, -, hc⟩ := ownsRow_cells hh (by omega)
      simp only [Option.some.injEq, Addr.mk.injEq, and_true] at e
      subst e
      have hlen := thingCells_len L
      exact ⟨_, hc (j * 4 + i) _ (List.getElem?_eq_getElem (by omega))⟩
    obtain ⟨u0, y0⟩ := hget 0 (by omega)
    obtain ⟨u1, y1⟩ := hget 1 (by omega)
    obtain ⟨u2, y2⟩ := hget 2 (by omega)
    obtain ⟨u3, y3⟩ := hget 3 (by omega)
    rw [Nat.add_zero] at y0
    have v0 : w4.cell? ⟨g, j * 4, none⟩ = some u0 := y0
    have v1 : w4.cell? ⟨g, j * 4 + 1, none⟩ = some u1 := y1
    have v2 : w4.cell? ⟨g, j * 4 + 2, none⟩ = some u2 := y2
    have v3 : w4.cell? ⟨g, j * 4 + 3, none⟩ = some u3 := y3
    have r0 : w4.frozen? ⟨g, j * 4, none⟩ = false := z0
    have r1 : w4.frozen? ⟨g, j * 4 + 1, none⟩ = false := z1
    have r2 : w4.frozen? ⟨g, j * 4 + 2, none⟩ = false := z2
    have r3 : w4.frozen? ⟨g, j * 4 + 3, none⟩ = false := z3
    have hyg : ¬ y = g := fun e => hD.off (by rw [e]; rfl)
    have HD := hid hD
    have c0 : w4.drew.cell? ⟨y, 0, none⟩ = _ := c0
    have x0 : w4.drew.cell? ⟨xb, 0, none⟩ = _ := x0
    have x1 : w4.drew.cell? ⟨xb, 1, none⟩ = _ := x1
    have x2 : w4.drew.cell? ⟨xb, 2, none⟩ = _ := x2
    have x3 : w4.drew.cell? ⟨xb, 3, none⟩ = _ := x3
    clear f1 f2 f3 f4 hb3 hxb hfz hD hget
    go_wp2_with fail
    go_region
    all_goals
      go_wp2_with fail
      go_ret
      have ho := (show OwnThings w4 (.slice (some ⟨g, 0, none⟩) L.length cap) L from HD.out.row).set hj (key, value)
      simp only at ho
      rw [HK1.out, HV1.out] at ho
      have hk4 : Keeps (fun q => q = g) w4 ((((w4.setCell ⟨g, j * 4, none⟩ (.string (str key))).setCell ⟨g, j * 4 + 1, none⟩ (.string (str value))).setCell ⟨g, j * 4 + 2, none⟩ (.string (str K1))).setCell ⟨g, j * 4 + 3, none⟩ (.string (str V1))) :=
        ((((Keeps.refl (fun q => q = g) w4).setCell (p := ⟨g, j * 4, none⟩) (fun _ => rfl) _).setCell (p := ⟨g, j * 4 + 1, none⟩) (fun _ => rfl) _).setCell (p := ⟨g, j * 4 + 2, none⟩) (fun _ => rfl) _).setCell (p := ⟨g, j * 4 + 3, none⟩) (fun _ => rfl) _
      refine ⟨rfl, .slice (some ⟨g, 0, none⟩) L.length cap, ⟨hk4.drew.at_ HD.out.box hyg, ?_, HD.out.off⟩, (fr.mono fun _ _ h => h.elim).trans' hk4.drew (fun i _ e => .inr (by rw [e]; rfl)), fun q e => .inl e⟩
      rw [HOUT.out]
      exact ho
  | none =>
    have HOUT : Hid (setL (key, value) L = L ++ [(key, value)]) := setL_none (by unfold dg; rw [HK1.out]; exact hs)
    rw [spotV_none hs] at HFIND
    clear hs
    go_enter Tryz.func16, Tryz.ntmps16
    go_wp2_with fail
    refine (HS1.out _).mono ?_
    rintro e w1 ⟨rfl, f1⟩
    go_wp2_with fail
    refine (HS2.out _).mono ?_
    rintro e w2 ⟨rfl, f2⟩
    go_wp2_with fail
    have f3 := (f1.trans f2).alloc (.cells #[.string (str key), .string (str value), .string (str K1), .string (str V1)] 89)
    have hb3 := heap_alloc_new w2 (.cells #[.string (str key), .string (str value), .string (str K1), .string (str V1)] 89)
    refine (HFIND.out _ f3).mono ?_
    rintro e w4 ⟨rfl, f4⟩
    have hb4 := f4.at_ hb3 (fun h => h)
    have hD := H.out.fresh (f3.trans f4)
    have fr := f3.trans f4
    obtain ⟨xb, hxb⟩ : ∃ xb, w2.heap.size = xb := ⟨_, rfl⟩
    rw [hxb] at hb4 ⊢
    have c0 := cell_at hD.box 0
    simp at c0
    have x0 := cell_at hb4 0
    have x1 := cell_at hb4 1
    have x2 := cell_at hb4 2
    have x3 := cell_at hb4 3
    have z0 := free_at hD.box 0
    simp at x0 x1 x2 x3
    have c0 : w4.drew.cell? ⟨y, 0, none⟩ = _ := c0
    have x0 : w4.drew.cell? ⟨xb, 0, none⟩ = _ := x0
    have x1 : w4.drew.cell? ⟨xb, 1, none⟩ = _ := x1
    have x2 : w4.drew.cell? ⟨xb, 2, none⟩ = _ := x2
    have x3 : w4.drew.cell? ⟨xb, 3, none⟩ = _ := x3
    have z0 : w4.drew.frozen? ⟨y, 0, none⟩ = _ := z0
    have HD := hid hD
    have c0a : (w4.alloc (.cells #[.string (str key), .string (str value), .string (str K1), .string (str V1)] 89)).cell? ⟨y, 0, none⟩ = _ := (((Keeps.refl (fun _ => False) w4).alloc _).cell (p := ⟨y, 0, none⟩) (lt_of_block hD.box) (fun h => h)).trans c0
    clear f1 f2 f3 f4 hb3 hxb hD
    go_wp2_with fail
    go_region_law (first | (refine step_push_at rfl (.tmp 40) (.tmp 42) 55 rfl 89 i0 _ 4 64 Tryz.underlying55 hi hz0 hz1 hz2 rfl (by decide) _ (ownsRow_keeps HD.out.row (S := fun _ => False) (by first | exact ((Keeps.refl _ _).alloc _).drew | exact (Keeps.refl _ _).drew.alloc _ | exact (Keeps.refl _ _).alloc _) (fun _ _ h => h)) w4.heap.size [.string (str key), .string (str value), .string (str K1), .string (str V1)] rfl (by exact heap_alloc_new w4 _) (by simp [Value.oneCell']) (by rfl) (by rfl) (by have := HL.out; omega) (by have := HL.out; unfold maxLen; omega) ?_; intro v5 w5 ha0; have ha := ha0.based (w0 := w4) (by first | exact ((Keeps.refl _ _).alloc _).drew | exact (Keeps.refl _ _).drew.alloc _ | exact (Keeps.refl _ _).alloc _); clear ha0; obtain ⟨a5, c5, rfl⟩ := ownsRow_slice ha.row; have b5 := ha.keeps.at_ HD.out.box HD.out.off; have q0 := cell_at b5 0; have q1 := free_at b5 0; simp at q0))
    all_goals
      go_wp2_with fail
      go_ret
      have hy5 : (Value.slice a5 (L.length + 1) c5).ownBlock ≠ some y := fun e => by
        rcases ha.own y e with h | h
        · exact HD.out.off h
        · have := lt_of_block HD.out.box; omega
      have hrow : OwnThings (w5.setCell ⟨y, 0, none⟩ (.slice a5 (L.length + 1) c5)) (.slice a5 (L.length + 1) c5) (L ++ [(key, value)]) := by
        have := ownsRow_setCell_ne ha.row (a := ⟨y, 0, none⟩) hy5 (.slice a5 (L.length + 1) c5)
        unfold OwnThings
        rw [List.length_append, thingCells_append]
        simp only [thingCells, List.flatMap_cons, List.flatMap_nil, List.append_nil, entCells]
        rw [HK1.out, HV1.out]
        exact this
      have hkeep : Keeps (fun q => q = y ∨ (Value.slice ao L.length cap).ownBlock = some q) w (w5.setCell ⟨y, 0, none⟩ (.slice a5 (L.length + 1) c5)) := Keeps.setCell (S := fun q => q = y ∨ (Value.slice ao L.length cap).ownBlock = some q) ((fr.mono fun _ _ h => h.elim).trans' ha.keeps (fun i _ e => .inr e)) (p := ⟨y, 0, none⟩) (fun _ => .inl rfl) _
      have hown : ∀ g, (Value.slice a5 (L.length + 1) c5).ownBlock = some g → (Value.slice ao L.length cap).ownBlock = some g ∨ w.heap.size ≤ g := fun g hg => (ha.own g hg).imp (fun h => h) fun h => by have := fr.size; omega
      refine ⟨rfl, .slice a5 (L.length + 1) c5, ⟨heap_setCell_at b5 0 _, ?_, hy5⟩, (by first | exact hkeep | exact hkeep.drew), hown⟩
      rw [HOUT.out]
      exact hrow

set_option maxRecDepth 100000 in
set_option maxHeartbeats 2000000 in
theorem dremove_long (p : Value) (key : List UInt8) (w : World) (hlong : 200 < key.length) (hk : key.length ≤ 9223372036854775807) :
    Calls Tryz.prog 18 #[p, .string (str key)] w fun e w' => e = .returned (.tuple #[.bool false, .int .i64 242]) ∧ Fresh w w' := by
  have hsz := str_size key
  have h1 : (200 : Int) < (key.length : Int) := by omega
  go_enter Tryz.func18, Tryz.ntmps18
  go_wp2_with fail
  go_ret2
  exact ⟨rfl, Keeps.refl _ _⟩

set_option maxRecDepth 100000 in
set_option maxHeartbeats 4000000 in
theorem dremove_any (y : Nat) (dv : Value) (L : List Ent) (key : List UInt8) (w : World) (h : DocAt w y dv L) (hl : L.length ≤ 1000000) (hk : key.length ≤ 200) (hn : (L.map dg).Nodup) :
    Calls Tryz.prog 18 #[.pointer (some ⟨y, 0, none⟩), .string (str key)] w fun e w' => e = .returned (.tuple #[.bool (spotL (sha key) L).isSome, .int .i64 0]) ∧ DocTo w w' y dv (cutL (sha key) L) := by
  obtain ⟨i0, hi, hz0, hz1, hz2⟩ := info_parts Tryz.infoThing
  have hsz := str_size key
  have h1 : ¬ (200 : Int) < (key.length : Int) := by omega
  have HFIND := hid (dfind_any y dv L key w h hl (by omega))
  have HN : Hid (∀ i x, L[i]? = some x → (dg x ≠ sha key ↔ spotL (sha key) L ≠ some i)) := fun i x hx => cutL_spot hn hx
  obtain ⟨K1, hK1⟩ : ∃ K1, sha key = K1 := ⟨_, rfl⟩
  rw [hK1] at HFIND HN ⊢
  obtain ⟨ao, cap, rfl, -⟩ := h.row.at_
  have HL := hid hl
  have H := hid h
  obtain ⟨sp, hsp⟩ : ∃ sp, spotV K1 L = sp := ⟨_, rfl⟩
  have HIN : Hid (∀ (i : Nat) (x : Ent), L[i]? = some x → (dg x ≠ K1 ↔ (i : Int) ≠ sp)) := fun i x hx => by
    rw [HN.out i x hx, ← hsp, spotV]
    cases spotL K1 L with
    | none => exact ⟨fun _ => by simp only; omega, fun _ => by simp⟩
    | some j => simp only [ne_eq, Option.some.injEq]; omega
  have HGE : Hid (decide (0 ≤ sp) = (spotL K1 L).isSome) := by
    rw [Hid, ← hsp, spotV]
    cases spotL K1 L with
    | none => rfl
    | some j => simp
  rw [hsp] at HFIND
  clear h hl hK1 hn HN hsp
  go_enter Tryz.func18, Tryz.ntmps18
  go_wp2_with fail
  refine HFIND.out.mono ?_
  rintro e w1 ⟨rfl, f1⟩
  go_wp2_with fail
  go_loopw [7, 8] (fun ov i wr => ∃ n : Nat, i = .int .i64 (n : Int) ∧ n ≤ L.length ∧ OwnThings wr ov (cutL K1 (L.take n)) ∧ (∀ g, ov.ownBlock = some g → w.heap.size ≤ g) ∧ Fresh w wr) (fun _ i _ => L.length - (intOf i).toNat)
  case atStart => exact ⟨0, rfl, Nat.zero_le _, World.ownsRow_nil _ _ _ _, (fun _ h => nomatch h), f1⟩
  case round =>
    obtain ⟨n, rfl, hn, hrow, hnew, fr⟩ := hrel
    have HROW := hid hrow
    obtain ⟨so, scap, rfl⟩ := ownsRow_slice hrow
    have hD := H.out.fresh fr
    have c0 := cell_at hD.box 0
    have z0 := free_at hD.box 0
    simp at c0
    by_cases hlt : n < L.length
    · obtain ⟨x, hx⟩ : ∃ x, L[n]? = some x := ⟨L[n], by simp⟩
      obtain ⟨ao', cap', e1, hc⟩ := hD.row.at_
      simp only [Value.slice.injEq, true_and] at e1
      obtain ⟨rfl, rfl⟩ := e1
      obtain ⟨bb, rfl, hbb, x0, x1, x2, x3⟩ := hc n x hx
      have hn0 : (0 : Int) ≤ (n : Int) := by omega
      have hn1 : (n : Int) < (L.length : Int) := by omega
      have HT := hid (cutL_take (d := K1) hx)
      have hlen : (cutL K1 (L.take n)).length ≤ n := by
        unfold cutL
        refine Nat.le_trans (List.length_filter_le _ _) ?_
        rw [List.length_take]; omega
      have HLEN := hid hlen
      have hiff := HIN.out n x hx
      have hnb : n ≤ 1000000 := by have := HL.out; omega
      by_cases he : dg x ≠ K1
      · have hne : ((n : Int) != sp) = true := by rw [bne_iff_ne]; exact hiff.1 he
        have hne2 : ¬ (n : Int) = sp := hiff.1 he
        rw [if_pos he] at HT
        clear hc hx hrow he hlen hiff hD
        go_wp2_with (at_builtin; refine wpList_pushN rfl (.tmp 27) (.tmp 35) 55 rfl 89 i0 _ 4 64 Tryz.underlying55 hi hz0 hz1 hz2 rfl (by omega) wr HROW.out _ (by rfl) (by rfl) (by rfl) (by simp [Value.oneCell']) (by have := HLEN.out; have := HL.out; omega) (by have := HLEN.out; have := HL.out; unfold maxLen; omega) ?_)
        intro v4 w4 ha
        have hk4 := ha.keeps
        have hrow4 : OwnThings w4 v4 (cutL K1 (L.take (n + 1))) := by
          have := ha.row
          rw [HT.out]
          unfold OwnThings
          rw [List.length_append, thingCells_append]
          exact this
        have hown4 : ∀ g, v4.ownBlock = some g → w.heap.size ≤ g := fun g hg => by
          rcases ha.own g hg with h | h
          · exact hnew g h
          · have := fr.size; omega
        have fr4 : Fresh w w4 := fr.trans' hk4 fun i hi h => by have := hnew i h; omega
        clear ha hk4
        go_wp2_with fail
        go_roundw
        case rel => exact ⟨n + 1, by go_num, by omega, hrow4, hown4, fr4⟩
        case measure => simp [intOf]; omega
      · have hne2 : (n : Int) = sp := Classical.byContradiction fun q => he (hiff.2 q)
        subst hne2
        rw [if_neg he, List.append_nil] at HT
        have hrow4 : OwnThings wr (.slice so (cutL K1 (L.take n)).length scap) (cutL K1 (L.take (n + 1))) := by rw [HT.out]; exact hrow
        have HR4 := hid hrow4
        clear hc hx hrow he hlen hiff hD hrow4
        go_wp2_with fail
        go_roundw
        case rel => exact ⟨n + 1, by go_num, by omega, HR4.out, hnew, fr⟩
        case measure => simp [intOf]; omega
    · have hn1 : ¬ (n : Int) < (L.length : Int) := by omega
      have hrow4 : OwnThings wr (.slice so (cutL K1 (L.take n)).length scap) (cutL K1 L) := by
        rw [List.take_of_length_le (by omega)] at hrow ⊢; exact hrow
      have HR4 := hid hrow4
      have HD := hid hD
      have hyl := lt_of_block H.out.box
      clear hrow hrow4 hD
      go_wp2_with fail
      have HGE2 := HGE.out
      generalize (spotL K1 L).isSome = sb at HGE2 ⊢
      subst HGE2
      go_ret2
      have hy5 : (Value.slice so (cutL K1 (L.take n)).length scap).ownBlock ≠ some y := fun e => by have := hnew y e; omega
      have hrw := ownsRow_setCell_ne HR4.out (a := ⟨y, 0, none⟩) hy5 (.slice so (cutL K1 (L.take n)).length scap)
      have hkeep : Keeps (fun q => q = y ∨ (Value.slice ao L.length cap).ownBlock = some q) w (wr.setCell ⟨y, 0, none⟩ (.slice so (cutL K1 (L.take n)).length scap)) := Keeps.setCell (S := fun q => q = y ∨ (Value.slice ao L.length cap).ownBlock = some q) (fr.mono fun _ _ h => h.elim) (p := ⟨y, 0, none⟩) (fun _ => .inl rfl) _
      exact ⟨rfl, .slice so (cutL K1 (L.take n)).length scap, ⟨heap_setCell_at HD.out.box 0 _, hrw, hy5⟩, hkeep, fun g hg => .inr (hnew g hg)⟩
end Go.Proofs.YtmflbchiapdhbaaGreatDoor
