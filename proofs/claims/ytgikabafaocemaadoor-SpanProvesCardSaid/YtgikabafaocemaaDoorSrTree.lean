/-
  The document's tile: the tree, its calls.
-/
import Derived.Test.YtgikabafaocemaaDoorSrHash
import Derived.Test.YtgikabafaocemaaDoorSpRun
import Derived.Test.YtgikabafaocemaaDoorMSpB
namespace Go.Proofs.YtgikabafaocemaaDoor
open Go.RowKit

/-- the document's tree: its box, its leaves in a row of its own; all made since there were B blocks -/
def DocTree (B : Nat) (w : World) (xb : Nat) (h : Int) (L : List (List UInt8)) : Prop :=
  ∃ v, w.heap[xb]? = some (.cells #[.int .i64 h, v] 85 (0, 0)) ∧ OwnTexts B w v L ∧ B ≤ xb ∧ v.ownBlock ≠ some xb
theorem DocTree.fresh {B : Nat} {w w' : World} {xb : Nat} {h : Int} {L : List (List UInt8)} (t : DocTree B w xb h L) (f : Fresh w w') : DocTree B w' xb h L := by
  obtain ⟨v, h1, h2, h3, h4⟩ := t
  exact ⟨v, f.at_ h1 (fun h => h), h2.fresh f, h3, h4⟩
theorem DocTree.keeps {S : Nat → Prop} {B : Nat} {w w' : World} {xb : Nat} {h : Int} {L : List (List UInt8)} (t : DocTree B w xb h L) (f : Keeps S w w') (hS : ∀ q, B ≤ q → q < w.heap.size → ¬ S q) : DocTree B w' xb h L := by
  obtain ⟨v, h1, h2, h3, h4⟩ := t
  exact ⟨v, f.at_ h1 (hS _ h3 (lt_of_block h1)), ⟨ownsRow_keeps h2.1 f (fun g hg => hS g (h2.2 g hg) (ownsRow_lt h2.1 hg)), h2.2⟩, h3, h4⟩
theorem DocTree.lt {B : Nat} {w : World} {xb : Nat} {h : Int} {L : List (List UInt8)} (t : DocTree B w xb h L) : xb < w.heap.size := by
  obtain ⟨v, h1, -⟩ := t
  exact lt_of_block h1
/-- a list of texts as an object of its own has room -/
theorem ownTexts_room {B : Nat} {w : World} {v : Value} {l : List (List UInt8)} (h : OwnTexts B w v l) (hl : 1 ≤ l.length) : ∃ g cap, v = .slice (some ⟨g, 0, none⟩) l.length cap ∧ RoomIn w g v l := by
  have hat := OwnTexts_at h.1
  obtain ⟨hl1, ⟨-, h0⟩ | ⟨g, cap, cur, rfl, -, hb, hn, -⟩⟩ := h.1
  · omega
  · obtain ⟨ao', cap', e, hk⟩ := hat
    simp only [Value.slice.injEq] at e
    obtain ⟨rfl, -, rfl⟩ := e
    exact ⟨g, cap, rfl, 0, cap, rfl, hn, lt_of_block hb, fun k s hs => by
      obtain ⟨bb, off, e1, -, e3⟩ := hk k s hs
      simp only [Option.some.injEq, Addr.mk.injEq, and_true] at e1
      obtain ⟨rfl, rfl⟩ := e1
      exact e3⟩

set_option maxRecDepth 100000 in
set_option maxHeartbeats 1000000 in
theorem new7_any (h : Int) (h1 : 1 ≤ h) (h8 : h ≤ 8) (w : World) :
    Calls Tryd.prog 11 #[.int .i64 h] w fun x w' => ∃ xb, x = .returned (.tuple #[.pointer (some ⟨xb, 0, none⟩), .int .i64 0]) ∧ DocTree w.heap.size w' xb h [] ∧ Fresh w w' := by
  have a1 : ¬ h < 1 := by omega
  have a2 : ¬ 8 < h := by omega
  go_enter Tryd.func11, Tryd.ntmps11
  go_wp2_with fail
  go_ret2
  exact ⟨_, rfl, ⟨_, heap_alloc_new w _, ⟨World.ownsRow_nil _ _ _ _, fun g hg => by simp [Value.ownBlock] at hg⟩, Nat.le_refl _, by simp [Value.ownBlock]⟩, (Keeps.refl _ _).alloc _⟩

set_option maxRecDepth 100000 in
set_option maxHeartbeats 2000000 in
theorem add7_any (B xb : Nat) (h : Int) (L : List (List UInt8)) (s : List UInt8) (w : World) (ht : DocTree B w xb h L) (hs : s.length = 32) (hL : L.length < 1000000) :
    Calls Tryd.prog 13 #[.pointer (some ⟨xb, 0, none⟩), .string (str s)] w fun x w' => x = .returned (.int .i64 0) ∧ (B ≤ w.heap.size → DocTree B w' xb h (L ++ [s])) ∧ Keeps (fun q => B ≤ q) w w' := by
  obtain ⟨v, hb, hown, hB, hne⟩ := ht
  obtain ⟨i0, hi, hz0, hz1, hz2⟩ := info_parts Tryd.infoText
  have hsz := str_size s
  rw [hs] at hsz
  obtain ⟨ao, cap, rfl⟩ := ownsRow_slice hown.1
  have c1 := (cell_at hb 1).trans (show _ = some (Value.slice ao L.length cap) from rfl)
  have c2 := lt_of_block hb
  have c3 := free_at hb 1
  have hLi : decide ((1048576 : Int) ≤ (L.length : Int)) = false := by simp; omega
  have HL := hid hL
  have HB := hid hb
  have HOWN := hid hown
  have fal := (Keeps.refl (fun _ => False) w).alloc (.cells #[.string (str s)] 9)
  have hlb := heap_alloc_new w (.cells #[.string (str s)] 9)
  have hAt : TextsAt (w.alloc (.cells #[.string (str s)] 9)) (.slice (some ⟨w.heap.size, 0, none⟩) 1 1) [s] := ⟨_, 1, rfl, fun k x hx => by
    match k, hx with
    | 0, hx => simp at hx; subst hx; exact ⟨_, 0, rfl, lt_of_block hlb, cell_at hlb 0⟩
    | (k + 1), hx => simp at hx⟩
  have hsrc : Src Tryd.prog 1 26 (.slice (some ⟨w.heap.size, 0, none⟩) 1 1) 1 (texts [s]) (w.alloc (.cells #[.string (str s)] 9)) := Src.ofTexts (P := Tryd.prog) Tryd.underlying26 hAt
  have hrow := ownsRow_keeps hown.1 fal (fun _ _ h => h)
  clear hb hown hAt hlb hL hs
  go_enter Tryd.func13, Tryd.ntmps13
  go_wp2_with (at_builtin; refine wpList_append_src rfl (.tmp 20) (.tmp 22) 26 26 rfl 9 i0 (.string ⟨#[]⟩) 1 16 Tryd.underlying26 hi hz0 hz1 hz2 rfl (by decide) hrow _ 1 (texts [s]) (by rfl) (by rfl) hsrc (by have := HL.out; unfold maxLen; omega) (by have := HL.out; omega) ?_)
  intro v6 w6 ha
  replace ha : Appended 9 1 (w.alloc (.cells #[.string (str s)] 9)) w6 (.slice ao L.length cap) v6 (L.length + 1) (texts L ++ texts [s]) := ha
  have hb6 := ha.keeps.at_ (fal.at_ HB.out (fun h => h)) hne
  have d3 := free_at hb6 1
  have d1 := (cell_at hb6 1).trans (show _ = some (Value.slice ao L.length cap) from rfl)
  have d2 := lt_of_block hb6
  obtain ⟨ao6, cp6, rfl⟩ := ownsRow_slice ha.row
  have hn6 : (Value.slice ao6 (L.length + 1) cp6).ownBlock ≠ some xb := fun e => by
    rcases ha.own xb e with z | z
    · exact hne z
    · have := fal.size; omega
  have hB7 := heap_setCell_at hb6 1 (.slice ao6 (L.length + 1) cp6)
  have hrow7 : (w6.setCell ⟨xb, 1, none⟩ (.slice ao6 (L.length + 1) cp6)).ownsRow 0 9 1 (.slice ao6 (L.length + 1) cp6) (L ++ [s]).length (texts (L ++ [s])) := by
    rw [texts_snoc, List.length_append]
    exact ownsRow_setCell_ne ha.row hn6 _
  have K7 : Keeps (fun q => B ≤ q) w (w6.setCell ⟨xb, 1, none⟩ (.slice ao6 (L.length + 1) cp6)) := ((fal.mono (fun _ _ h => h.elim)).trans (ha.keeps.mono (fun q _ hq => HOWN.out.2 q hq))).setCell (p := ⟨xb, 1, none⟩) (fun _ => hB) _
  go_wp2_with fail
  go_ret
  refine ⟨rfl, fun hBw => ⟨_, hB7, ⟨hrow7, fun g hg => ?_⟩, hB, hn6⟩, K7⟩
  rcases ha.own g hg with z | z
  · exact HOWN.out.2 g z
  · have := fal.size; omega

set_option maxRecDepth 100000 in
set_option maxHeartbeats 1000000 in
theorem size7_any (B xb : Nat) (h : Int) (L : List (List UInt8)) (w : World) (ht : DocTree B w xb h L) :
    Calls Tryd.prog 43 #[.pointer (some ⟨xb, 0, none⟩)] w fun x w' => x = .returned (.int .i64 (L.length : Int)) ∧ w = w' := by
  obtain ⟨v, hb, hown, -, -⟩ := ht
  obtain ⟨ao, cap, rfl⟩ := ownsRow_slice hown.1
  have c1 := (cell_at hb 1).trans (show _ = some (Value.slice ao L.length cap) from rfl)
  have c2 := lt_of_block hb
  clear hb hown
  go_enter Tryd.func43, Tryd.ntmps43
  go_wp2_with fail
  go_ret
  exact ⟨rfl, rfl⟩
set_option maxRecDepth 100000 in
set_option maxHeartbeats 2000000 in
theorem inside7_any (B xb : Nat) (h : Int) (L : List (List UInt8)) (b e : Nat) (w : World) (ht : DocTree B w xb h L) (hbe : b ≤ e) (he : e ≤ L.length) :
    Calls Tryd.prog 89 #[.pointer (some ⟨xb, 0, none⟩), spanV (b, e)] w fun x w' => x = .returned (.bool true) ∧ Fresh w w' := by
  obtain ⟨v, hb, hown, -, -⟩ := ht
  obtain ⟨ao, cap, rfl⟩ := ownsRow_slice hown.1
  have f0 : Fresh w (w.alloc (spanC b e)) := (Keeps.refl _ _).alloc _
  have hb0 := f0.at_ hb (fun h => h)
  have c1 := (cell_at hb0 1).trans (show _ = some (Value.slice ao L.length cap) from rfl)
  have c2 := lt_of_block hb0
  have hs0 := heap_alloc_new w (spanC b e)
  unfold spanC at hs0 c1 c2 f0
  have s0 := (cell_at hs0 0).trans (show _ = some (Value.int .i64 (b : Int)) from rfl)
  have s1 := (cell_at hs0 1).trans (show _ = some (Value.int .i64 (e : Int)) from rfl)
  have s2 := lt_of_block hs0
  have q1 : decide (b ≤ e) = true := by simpa using hbe
  have q2 : decide (e ≤ L.length) = true := by simpa using he
  have q3 : (b : Int) ≤ (e : Int) := by omega
  have q4 : (e : Int) ≤ (L.length : Int) := by omega
  clear hb hb0 hown hs0 hbe he
  unfold spanV
  go_enter Tryd.func89, Tryd.ntmps89
  go_wp2_with fail
  go_quiet (fail)
  go_wp2_with fail
  go_ret
  exact ⟨rfl, f0.drewN _⟩

set_option maxRecDepth 100000 in
set_option maxHeartbeats 4000000 in
theorem part7_any (B xb : Nat) (h : Int) (L : List (List UInt8)) (b e : Nat) (w : World) (ht : DocTree B w xb h L) (h32 : all32P L) (hL : L.length ≤ 4096) (hbe : b < e) (he : e ≤ L.length) :
    Calls Tryd.prog 45 #[.pointer (some ⟨xb, 0, none⟩), spanV (b, e)] w fun x w' => x = .returned (.tuple #[.string (str (hashL (sl L b e))), .int .i64 0]) ∧ Fresh w w' := by
  have hin := hid (fun W (f : Fresh w W) => inside7_any B xb h L b e W (ht.fresh f) (by omega) he)
  obtain ⟨v, hb, hown, -, -⟩ := ht
  obtain ⟨g, cap, rfl, hroom⟩ := ownTexts_room hown (by omega)
  have f0 : Fresh w (w.alloc (spanC b e)) := (Keeps.refl _ _).alloc _
  have hsl := sl_len L (b := b) he
  have a32 : all32P (sl L b e) := fun z hz => h32 z (List.mem_of_mem_drop (List.mem_of_mem_take hz))
  have hr2 : RoomIn w g (.slice (some ⟨g, b, none⟩) (e - b) (cap - b)) (sl L b e) := by
    obtain ⟨off, cap', e1, hc, hg, hk⟩ := hroom
    simp only [Value.slice.injEq, Option.some.injEq, Addr.mk.injEq, and_true, true_and] at e1
    obtain ⟨rfl, rfl⟩ := e1
    refine ⟨b, cap - b, by rw [hsl], by omega, hg, fun k s hs => ?_⟩
    have hkl : k < e - b := by have := (List.getElem?_eq_some_iff.1 hs).1; omega
    rw [sl, List.getElem?_take, if_pos hkl, List.getElem?_drop] at hs
    have := hk (b + k) s hs
    rwa [Nat.zero_add] at this
  have hle : L.length ≤ cap := by
    obtain ⟨off, cap', e1, hc, -⟩ := hroom
    simp only [Value.slice.injEq] at e1
    obtain ⟨-, -, rfl⟩ := e1
    exact hc
  have hh := hid (fun W (f : Fresh w W) => hash7_any g (sl L b e).length (sl L b e) _ W (Nat.le_refl _) (by omega) (by omega) a32 (hr2.keeps f (fun h => h)))
  have HB := hid hb
  have hs0 := heap_alloc_new w (spanC b e)
  obtain ⟨R, hR⟩ : ∃ R, hashL (sl L b e) = R := ⟨_, rfl⟩
  rw [hR] at hh ⊢
  have F0 := hid f0
  unfold spanV at hin ⊢
  unfold spanC at hs0 f0
  have hb0 := f0.at_ hb (fun h => h)
  have s0 := (cell_at hs0 0).trans (show _ = some (Value.int .i64 (b : Int)) from rfl)
  have s1 := (cell_at hs0 1).trans (show _ = some (Value.int .i64 (e : Int)) from rfl)
  have HS0 := hid hs0
  have z2 : (b : Int) ≤ (e : Int) := by omega
  have z3 : (e : Int) ≤ (cap : Int) := by omega
  have z5 : ¬ cap = b := by omega
  clear hb hown hroom hsl a32 hr2 hR hbe he hle hb0 hs0
  go_enter Tryd.func45, Tryd.ntmps45
  go_wp2_with fail
  refine (hin.out _ f0).mono ?_
  rintro x w1 ⟨rfl, f1⟩
  have f1' := f0.trans f1
  have hb1 := f1'.at_ HB.out (fun h => h)
  have c1 := (cell_at hb1 1).trans (show _ = some (Value.slice (some ⟨g, 0, none⟩) L.length cap) from rfl)
  have c2 := lt_of_block hb1
  have hs1 := f1.at_ HS0.out (fun h => h)
  have t0 := (cell_at hs1 0).trans (show _ = some (Value.int .i64 (b : Int)) from rfl)
  have t1 := (cell_at hs1 1).trans (show _ = some (Value.int .i64 (e : Int)) from rfl)
  have t2 := lt_of_block hs1
  clear hb1 hs1 s0 s1
  go_wp2_with fail
  refine wp_region_keep 12 (fun w' => Fresh w1 w') (fun _ => True) (fun _ => true) (by kernel_rfl) (by kernel_rfl) ?_
  (try (change wpKeep _ _ _ _ _ _ _ _ _ _ (World.drew _)))
  refine wpKeep_takeT (i := 0) (oi := ⟨some 12, _, _, _, _, _⟩) (v := ?_) rfl (by kernel_rfl) (by kernel_rfl) (by kernel_rfl) (by kernel_rfl) (fun _ _ _ h => h) (Or.inl ⟨by rfl, ?_⟩) (Keeps.refl _ _).drew (fun _ => trivial) ?_
  rotate_left
  · intro w' hT
    have yC := (hT.cell (p := ⟨xb, 1, none⟩) c2 (fun h => h)).trans c1
    have y0 := (hT.cell (p := ⟨w.heap.size, 0, none⟩) t2 (fun h => h)).trans t0
    have y1 := (hT.cell (p := ⟨w.heap.size, 1, none⟩) t2 (fun h => h)).trans t1
    go_simp
    (try rw [if_pos (by omega)])
    (try with_reducible rfl)
  rotate_left
  (try simp only [Act.put, List.setIfInBounds_toArray, List.set_cons_zero, List.set_cons_succ])
  refine wpKeep_takeT (i := 1) (oi := ⟨some 13, _, _, _, _, _⟩) (v := ?_) rfl (by kernel_rfl) (by kernel_rfl) (by kernel_rfl) (by kernel_rfl) (fun _ _ _ h => h) (Or.inl ⟨by rfl, ?_⟩) (Keeps.refl _ _).drew (fun _ => trivial) ?_
  rotate_left
  · intro w' hT
    have yC := (hT.cell (p := ⟨xb, 1, none⟩) c2 (fun h => h)).trans c1
    have y0 := (hT.cell (p := ⟨w.heap.size, 0, none⟩) t2 (fun h => h)).trans t0
    have y1 := (hT.cell (p := ⟨w.heap.size, 1, none⟩) t2 (fun h => h)).trans t1
    go_simp
    (try rw [if_pos (by omega)])
    (try with_reducible rfl)
  rotate_left
  (try simp only [Act.put, List.setIfInBounds_toArray, List.set_cons_zero, List.set_cons_succ])
  refine wpKeep_takeT (i := 2) (oi := ⟨some 14, _, _, _, _, _⟩) (v := ?_) rfl (by kernel_rfl) (by kernel_rfl) (by kernel_rfl) (by kernel_rfl) (fun _ _ _ h => h) (Or.inl ⟨by rfl, ?_⟩) (Keeps.refl _ _).drew (fun _ => trivial) ?_
  rotate_left
  · intro w' hT
    have yC := (hT.cell (p := ⟨xb, 1, none⟩) c2 (fun h => h)).trans c1
    have y0 := (hT.cell (p := ⟨w.heap.size, 0, none⟩) t2 (fun h => h)).trans t0
    have y1 := (hT.cell (p := ⟨w.heap.size, 1, none⟩) t2 (fun h => h)).trans t1
    go_simp
    (try rw [if_pos (by omega)])
    (try with_reducible rfl)
  rotate_left
  (try simp only [Act.put, List.setIfInBounds_toArray, List.set_cons_zero, List.set_cons_succ])
  refine wpKeep_takeT (i := 3) (oi := ⟨some 15, _, _, _, _, _⟩) (v := ?_) rfl (by kernel_rfl) (by kernel_rfl) (by kernel_rfl) (by kernel_rfl) (fun _ _ _ h => h) (Or.inl ⟨by rfl, ?_⟩) (Keeps.refl _ _).drew (fun _ => trivial) ?_
  rotate_left
  · intro w' hT
    have yC := (hT.cell (p := ⟨xb, 1, none⟩) c2 (fun h => h)).trans c1
    have y0 := (hT.cell (p := ⟨w.heap.size, 0, none⟩) t2 (fun h => h)).trans t0
    have y1 := (hT.cell (p := ⟨w.heap.size, 1, none⟩) t2 (fun h => h)).trans t1
    go_simp
    (try rw [if_pos (by omega)])
    (try with_reducible rfl)
  rotate_left
  (try simp only [Act.put, List.setIfInBounds_toArray, List.set_cons_zero, List.set_cons_succ])
  refine wpKeep_takeT (i := 4) (oi := ⟨some 16, _, _, _, _, _⟩) (v := ?_) rfl (by kernel_rfl) (by kernel_rfl) (by kernel_rfl) (by kernel_rfl) (fun _ _ _ h => h) (Or.inl ⟨by rfl, ?_⟩) (Keeps.refl _ _).drew (fun _ => trivial) ?_
  rotate_left
  · intro w' hT
    have yC := (hT.cell (p := ⟨xb, 1, none⟩) c2 (fun h => h)).trans c1
    have y0 := (hT.cell (p := ⟨w.heap.size, 0, none⟩) t2 (fun h => h)).trans t0
    have y1 := (hT.cell (p := ⟨w.heap.size, 1, none⟩) t2 (fun h => h)).trans t1
    go_simp
    (try rw [if_pos (by omega)])
    (try with_reducible rfl)
  rotate_left
  (try simp only [Act.put, List.setIfInBounds_toArray, List.set_cons_zero, List.set_cons_succ])
  refine wpKeep_takeT (i := 5) (oi := ⟨some 17, _, _, _, _, _⟩) (v := ?_) rfl (by kernel_rfl) (by kernel_rfl) (by kernel_rfl) (by kernel_rfl) (fun _ _ _ h => h) (Or.inl ⟨by rfl, ?_⟩) (Keeps.refl _ _).drew (fun _ => trivial) ?_
  rotate_left
  · intro w' hT
    have yC := (hT.cell (p := ⟨xb, 1, none⟩) c2 (fun h => h)).trans c1
    have y0 := (hT.cell (p := ⟨w.heap.size, 0, none⟩) t2 (fun h => h)).trans t0
    have y1 := (hT.cell (p := ⟨w.heap.size, 1, none⟩) t2 (fun h => h)).trans t1
    go_simp
    (try rw [if_pos (by omega)])
    (try with_reducible rfl)
  rotate_left
  (try simp only [Act.put, List.setIfInBounds_toArray, List.set_cons_zero, List.set_cons_succ])
  refine wpKeep_takeT (i := 6) (oi := ⟨some 18, _, _, _, _, _⟩) (v := ?_) rfl (by kernel_rfl) (by kernel_rfl) (by kernel_rfl) (by kernel_rfl) (fun _ _ _ h => h) (Or.inl ⟨by rfl, ?_⟩) (Keeps.refl _ _).drew (fun _ => trivial) ?_
  rotate_left
  · intro w' hT
    have yC := (hT.cell (p := ⟨xb, 1, none⟩) c2 (fun h => h)).trans c1
    have y0 := (hT.cell (p := ⟨w.heap.size, 0, none⟩) t2 (fun h => h)).trans t0
    have y1 := (hT.cell (p := ⟨w.heap.size, 1, none⟩) t2 (fun h => h)).trans t1
    go_simp
    (try rw [if_pos (by omega)])
    (try with_reducible rfl)
  rotate_left
  (try simp only [Act.put, List.setIfInBounds_toArray, List.set_cons_zero, List.set_cons_succ])
  refine wpKeep_takeT (i := 7) (oi := ⟨some 19, _, _, _, _, _⟩) (v := ?_) rfl (by kernel_rfl) (by kernel_rfl) (by kernel_rfl) (by kernel_rfl) (fun _ _ _ h => h) (Or.inl ⟨by rfl, ?_⟩) (Keeps.refl _ _).drew (fun _ => trivial) ?_
  rotate_left
  · intro w' hT
    have yC := (hT.cell (p := ⟨xb, 1, none⟩) c2 (fun h => h)).trans c1
    have y0 := (hT.cell (p := ⟨w.heap.size, 0, none⟩) t2 (fun h => h)).trans t0
    have y1 := (hT.cell (p := ⟨w.heap.size, 1, none⟩) t2 (fun h => h)).trans t1
    go_simp
    (try rw [if_pos (by omega)])
    (try with_reducible rfl)
  rotate_left
  (try simp only [Act.put, List.setIfInBounds_toArray, List.set_cons_zero, List.set_cons_succ])
  refine wpKeep_takeT (i := 8) (oi := ⟨some 20, _, _, _, _, _⟩) (v := ?_) rfl (by kernel_rfl) (by kernel_rfl) (by kernel_rfl) (by kernel_rfl) (fun _ _ _ h => h) (Or.inl ⟨by rfl, ?_⟩) (Keeps.refl _ _).drew (fun _ => trivial) ?_
  rotate_left
  · intro w' hT
    have yC := (hT.cell (p := ⟨xb, 1, none⟩) c2 (fun h => h)).trans c1
    have y0 := (hT.cell (p := ⟨w.heap.size, 0, none⟩) t2 (fun h => h)).trans t0
    have y1 := (hT.cell (p := ⟨w.heap.size, 1, none⟩) t2 (fun h => h)).trans t1
    go_simp
    (try rw [if_pos (by omega)])
    (try with_reducible rfl)
  rotate_left
  (try simp only [Act.put, List.setIfInBounds_toArray, List.set_cons_zero, List.set_cons_succ])
  refine wpKeep_ready (rs := [9]) (by kernel_rfl) (by simp) ?_
  refine AllKeep.cons (o := ⟨some 21, _, _, _, _, _⟩) rfl (fun K hK => ?_) AllKeep.nil
  go_simp
  go_at_call 90
  with_reducible refine (hh.out _ (f1'.trans (Keeps.refl (fun _ => False) w1).drew)).mono ?_
  rintro x w2 ⟨rfl, f2⟩
  have f2 : Fresh w1 w2 := (Keeps.refl (fun _ => False) w1).drew.trans f2
  dsimp only
  refine hK.out _ _ f2 (fun _ => trivial) ?_
  clear hK K
  (try simp only [Act.put, List.setIfInBounds_toArray, List.set_cons_zero, List.set_cons_succ])
  refine wpKeep_takeT (i := 10) (oi := ⟨some 4, _, _, _, _, _⟩) (v := ?_) rfl (by kernel_rfl) (by kernel_rfl) (by kernel_rfl) (by kernel_rfl) (fun _ _ _ h => h) (Or.inl ⟨by rfl, ?_⟩) f2 (fun _ => trivial) ?_
  rotate_left
  · intro w' hT
    go_simp
    (try rw [if_pos (by omega)])
    (try with_reducible rfl)
  rotate_left
  (try simp only [Act.put, List.setIfInBounds_toArray, List.set_cons_zero, List.set_cons_succ])
  refine wpKeep_takeT (i := 11) (oi := ⟨some 5, _, _, _, _, _⟩) (v := ?_) rfl (by kernel_rfl) (by kernel_rfl) (by kernel_rfl) (by kernel_rfl) (fun _ _ _ h => h) (Or.inl ⟨by rfl, ?_⟩) f2 (fun _ => trivial) ?_
  rotate_left
  · intro w' hT
    go_simp
    (try rw [if_pos (by omega)])
    (try with_reducible rfl)
  rotate_left
  (try simp only [Act.put, List.setIfInBounds_toArray, List.set_cons_zero, List.set_cons_succ])
  refine wpKeep_done (by kernel_rfl) ?_ _
  go_wp2_with fail
  go_ret2
  exact ⟨rfl, f1'.trans f2⟩
end Go.Proofs.YtgikabafaocemaaDoor
