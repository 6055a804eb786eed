/-
  The law's Book: a mark, does a list read as its mark, a list is noted.
-/
import Derived.Test.YtgikabafaocemaaDoorSpHerd
import Derived.Test.YtgikabafaocemaaDoorMShaA
import Derived.Test.YtgikabafaocemaaDoorMSpD
import Derived.Test.YtgikabafaocemaaDoorMMsF
namespace Go.Proofs.YtgikabafaocemaaDoor
open Go.RowKit

def markL (n : Nat) : List UInt8 := [109, 97, 114, 107, UInt8.ofNat n, UInt8.ofNat (n / 256)]

set_option maxRecDepth 100000 in
set_option maxHeartbeats 2000000 in
theorem mark_any (n : Nat) (w : World) :
    Calls Tryd.prog 46 #[.int .i64 (n : Int)] w fun e w' => e = .returned (.string (str (markL n))) ∧ Fresh w w' := by
  have hconv : (convert 96 9 (.slice (some ⟨w.heap.size, 0, none⟩) 2 2)).run Tryd.prog (w.alloc (.cells #[.int .u8 ((n : Int) % 256), .int .u8 ((n : Int) / 256 % 256)] 5)) = .ok (.string (str [UInt8.ofNat n, UInt8.ofNat (n / 256)])) (w.alloc (.cells #[.int .u8 ((n : Int) % 256), .int .u8 ((n : Int) / 256 % 256)] 5)) := run_convert_bytes_back (P := Tryd.prog) (w.alloc (.cells #[.int .u8 ((n : Int) % 256), .int .u8 ((n : Int) / 256 % 256)] 5)) 96 9 5 ⟨w.heap.size, 0, none⟩ 2 [UInt8.ofNat n, UInt8.ofNat (n / 256)] Tryd.underlying96 Tryd.underlying5 Tryd.underlying9 (fun j hj => by
    rw [addr_add0, cell_at (heap_alloc_new w _)]
    match j, hj with
    | 0, _ => simp
    | 1, _ => simp
    | j + 2, hj => simp at hj; omega)
  go_enter Tryd.func46, Tryd.ntmps46
  go_wp2_with fail
  go_ret
  refine ⟨?_, (Keeps.refl _ _).alloc _⟩
  rfl

theorem reps_one (u : Value) : ∀ (k j : Nat), j < k → (reps k [u])[j]? = some u := fun k j h => by
  have := reps_get [u] k j 0 h (by simp)
  simpa using this

set_option maxRecDepth 100000 in
set_option maxHeartbeats 2000000 in
theorem reads_any (v : Value) (k : Nat) (s : List UInt8) (w : World) (h : ∃ y xs, Clip v y ∧ w.ownsRow 0 9 1 y k xs ∧ xs = reps k [.string (str s)]) (hk : k ≤ 2000000) :
    Calls Tryd.prog 47 #[v, .string (str s)] w fun e w' => e = .returned (.bool true) ∧ Fresh w w' := by
  obtain ⟨y, xs, ⟨ao, n, cap, cap', rfl, rfl, -⟩, hr, rfl⟩ := h
  obtain ⟨ao2, cap2, e2⟩ := ownsRow_slice hr
  simp only [Value.slice.injEq] at e2
  obtain ⟨-, rfl, -⟩ := e2
  have HR := hid hr
  have hq : ((str s).toList != (str s).toList) = false := by simp
  clear hr
  generalize str s = ms at HR hq ⊢
  go_enter Tryd.func47, Tryd.ntmps47
  go_wp2_with fail
  go_loopw [5] (fun i wr => ∃ j : Nat, i = .int .i64 (j : Int) ∧ j ≤ n ∧ Fresh w wr) (fun i _ => n - (intOf i).toNat)
  case atStart => exact ⟨0, rfl, Nat.zero_le _, Keeps.refl _ _⟩
  case round =>
    obtain ⟨j, rfl, hj, f⟩ := hrel
    by_cases hjn : j < n
    · obtain ⟨g, rfl, hc⟩ := rowCellsB HR.out (by omega)
      obtain ⟨hgl, hcell⟩ := hc j _ (reps_one _ n j hjn)
      have hcell' := (f.cell (p := ⟨g, j, none⟩) hgl (fun h => h)).trans hcell
      have hgl' : g < wr.heap.size := Nat.lt_of_lt_of_le hgl f.size
      have hji : (j : Int) < (n : Int) := by omega
      have hj0 : (0 : Int) ≤ (j : Int) := by omega
      have hjb : (j : Int) ≤ 2000000 := by omega
      clear hc hcell
      go_wp2_with fail
      go_roundw
      case rel => exact ⟨j + 1, by go_num, by omega, f⟩
      case measure => simp [intOf]; omega
    · obtain rfl : j = n := by omega
      go_wp2_with fail
      go_ret
      exact ⟨rfl, f⟩

theorem Tryd.infoListT : (Tryd.prog.info? 26).map (fun i => (i.zero, i.size, i.bytes)) = some (some (.slice none 0 0), 1, 24) := by kernel_rfl

theorem Appended.undrew {e : TypeId} {size n : Nat} {w w' : World} {v v' : Value} {xs : List Value} (h : Appended e size w.drew w' v v' n xs) : Appended e size w w' v v' n xs :=
  ⟨h.row, (Keeps.refl (fun k => v.ownBlock = some k) w).drew.trans h.keeps, h.own⟩
/-- the Book's box and what it has noted: lists that came out (F), copies of them (Wv), what both read as (C). Colours of the blocks: 0 another's, 1 the box, 2 the list of lists, 3 that of copies, 4 the copies, 5 and on the lists -/
structure Noted (B : Nat) (c : Nat → Nat) (w : World) (ob : Nat) (F : List Value) (C : List (List (List UInt8))) (fv wv : Value) (Wv : List Value) : Prop where
  box : w.heap[ob]? = some (.cells #[fv, wv, .slice none 0 0, .slice none 0 0, .slice none 0 0] 39 (0, 0))
  cbox : c ob = 1
  frow : w.ownsRow 0 26 1 fv F.length F
  cf : ∀ g, fv.ownBlock = some g → c g = 2
  wrow : w.ownsRow 0 26 1 wv Wv.length Wv
  cw : ∀ g, wv.ownBlock = some g → c g = 3
  lenC : C.length = F.length
  lenW : Wv.length = F.length
  lists : ∀ (j : Nat) (v : Value) (l : List (List UInt8)), F[j]? = some v → C[j]? = some l → ∃ y, Clip v y ∧ w.ownsRow 0 9 1 y l.length (texts l) ∧ ∀ g, y.ownBlock = some g → c g = 5 + j
  was : ∀ (j : Nat) (v : Value) (l : List (List UInt8)), Wv[j]? = some v → C[j]? = some l → w.ownsRow 0 9 1 v l.length (texts l) ∧ ∀ g, v.ownBlock = some g → c g = 4
  low : ∀ g, g < B → c g = 0
theorem Noted.made {B : Nat} {c : Nat → Nat} {w w' : World} {ob : Nat} {F : List Value} {C : List (List (List UInt8))} {fv wv : Value} {Wv : List Value} (h : Noted B c w ob F C fv wv Wv) (f : Fresh w w') (hB : B ≤ w.heap.size) (m : Nat) : Noted B (paint c w m) w' ob F C fv wv Wv :=
  ⟨f.at_ h.box (fun h => h), by rw [paint_old (lt_of_block h.box)]; exact h.cbox, ownsRow_keeps h.frow f (fun _ _ h => h), fun g hg => by rw [paint_old (h.frow.lt g hg).2]; exact h.cf g hg, ownsRow_keeps h.wrow f (fun _ _ h => h), fun g hg => by rw [paint_old (h.wrow.lt g hg).2]; exact h.cw g hg, h.lenC, h.lenW, fun j v l hv hl => by
    obtain ⟨y, h1, h2, h3⟩ := h.lists j v l hv hl
    exact ⟨y, h1, ownsRow_keeps h2 f (fun _ _ h => h), fun g hg => by rw [paint_old (h2.lt g hg).2]; exact h3 g hg⟩, fun j v l hv hl => by
    obtain ⟨h2, h3⟩ := h.was j v l hv hl
    exact ⟨ownsRow_keeps h2 f (fun _ _ h => h), fun g hg => by rw [paint_old (h2.lt g hg).2]; exact h3 g hg⟩, fun g hg => by rw [paint_old (by omega)]; exact h.low g hg⟩
/-- nothing but the box and the two lists turned, by one thing more in each -/
theorem Noted.more {B : Nat} {c : Nat → Nat} {w w1 w2 w3 : World} {ob : Nat} {F : List Value} {C : List (List (List UInt8))} {fv wv fv' wv' v wx : Value} {Wv : List Value} {l : List (List UInt8)} (h : Noted B c w ob F C fv wv Wv) (hB : B ≤ w.heap.size)
    (hv : ∃ y, Clip v y ∧ w.ownsRow 0 9 1 y l.length (texts l) ∧ ∀ g, y.ownBlock = some g → c g = 5 + F.length)
    (ha : Appended 26 1 w w1 fv fv' (F.length + 1) (F ++ [v]))
    (hm : Appended 9 1 (w1.setCell ⟨ob, 0, none⟩ fv') w2 (.slice none 0 0) wx l.length (texts l))
    (hb : Appended 26 1 w2 w3 wv wv' (Wv.length + 1) (Wv ++ [wx])) :
    ∃ c', Noted B c' (w3.setCell ⟨ob, 1, none⟩ wv') ob (F ++ [v]) (C ++ [l]) fv' wv' (Wv ++ [wx]) ∧ Keeps (fun q => B ≤ q) w (w3.setCell ⟨ob, 1, none⟩ wv') := by
  have hob := lt_of_block h.box
  have k1 : Keeps (fun q => q = ob ∨ fv.ownBlock = some q) w (w1.setCell ⟨ob, 0, none⟩ fv') := (ha.keeps.mono (fun q _ e => .inr e)).setCell (p := ⟨ob, 0, none⟩) (fun _ => .inl rfl) fv'
  have f2 : Fresh (w1.setCell ⟨ob, 0, none⟩ fv') w2 := hm.keeps.mono (fun q _ e => by simp [Value.ownBlock] at e)
  have k2 : Keeps (fun q => q = ob ∨ fv.ownBlock = some q) w w2 := k1.trans (f2.mono (fun _ _ h => h.elim))
  have k3 : Keeps (fun q => q = ob ∨ fv.ownBlock = some q ∨ wv.ownBlock = some q) w (w3.setCell ⟨ob, 1, none⟩ wv') := ((k2.mono (fun q _ e => e.elim .inl (fun e => .inr (.inl e)))).trans (hb.keeps.mono (fun q _ e => .inr (.inr e)))).setCell (p := ⟨ob, 1, none⟩) (fun _ => .inl rfl) wv'
  have s1 := k1.size
  have s2 := f2.size
  have s3 := hb.keeps.size
  have s12 := ha.keeps.size
  have z1 : (w1.setCell ⟨ob, 0, none⟩ fv').heap.size = w1.heap.size := by simp
  -- blocks: below w's size by c; then 2, then 4, then 3
  let c' : Nat → Nat := fun g => if g < w.heap.size then c g else if g < w1.heap.size then 2 else if g < w2.heap.size then 4 else 3
  have p0 : ∀ g, g < w.heap.size → c' g = c g := fun g hg => if_pos hg
  have p1 : ∀ g, w.heap.size ≤ g → g < w1.heap.size → c' g = 2 := fun g h1 h2 => by show (if g < w.heap.size then c g else if g < w1.heap.size then 2 else if g < w2.heap.size then 4 else 3) = 2; rw [if_neg (by omega), if_pos h2]
  have p2 : ∀ g, w1.heap.size ≤ g → g < w2.heap.size → c' g = 4 := fun g h1 h2 => by show (if g < w.heap.size then c g else if g < w1.heap.size then 2 else if g < w2.heap.size then 4 else 3) = 4; rw [if_neg (by omega), if_neg (by omega), if_pos h2]
  have p3 : ∀ g, w2.heap.size ≤ g → c' g = 3 := fun g h1 => by show (if g < w.heap.size then c g else if g < w1.heap.size then 2 else if g < w2.heap.size then 4 else 3) = 3; rw [if_neg (by omega), if_neg (by omega), if_neg (by omega)]
  have hf' : ∀ g, fv'.ownBlock = some g → c' g = 2 ∧ g < w1.heap.size := fun g hg => by
    rcases ha.own g hg with q | q
    · have := (h.frow.lt g q).2
      exact ⟨by rw [p0 g this]; exact h.cf g q, by omega⟩
    · exact ⟨p1 g q.1 q.2, q.2⟩
  have hx' : ∀ g, wx.ownBlock = some g → c' g = 4 ∧ g < w2.heap.size := fun g hg => by
    rcases hm.own g hg with q | q
    · simp [Value.ownBlock] at q
    · exact ⟨p2 g (by omega) q.2, q.2⟩
  have hw' : ∀ g, wv'.ownBlock = some g → c' g = 3 := fun g hg => by
    rcases hb.own g hg with q | q
    · have := (h.wrow.lt g q).2
      rw [p0 g this]; exact h.cw g q
    · exact p3 g q.1
  have cb : c' ob = 1 := by rw [p0 ob hob]; exact h.cbox
  -- those of w that are of another colour stay
  have off : ∀ g, g < w.heap.size → 4 ≤ c g → ¬ (g = ob ∨ fv.ownBlock = some g ∨ wv.ownBlock = some g) := fun g _ hc e => by
    rcases e with rfl | e | e
    · have := h.cbox; omega
    · have := h.cf g e; omega
    · have := h.cw g e; omega
  have b1 : w1.heap[ob]? = some (.cells #[fv, wv, .slice none 0 0, .slice none 0 0, .slice none 0 0] 39 (0, 0)) := ha.keeps.at_ h.box (fun e => by have := h.cf _ e; have := h.cbox; omega)
  have b2 : (w1.setCell ⟨ob, 0, none⟩ fv').heap[ob]? = some (.cells #[fv', wv, .slice none 0 0, .slice none 0 0, .slice none 0 0] 39 (0, 0)) := heap_setCell_at b1 0 fv'
  have b3 : w3.heap[ob]? = some (.cells #[fv', wv, .slice none 0 0, .slice none 0 0, .slice none 0 0] 39 (0, 0)) := hb.keeps.at_ (f2.at_ b2 (fun h => h)) (fun e => by have := h.cw _ e; have := h.cbox; omega)
  have hfr : (w3.setCell ⟨ob, 1, none⟩ wv').ownsRow 0 26 1 fv' (F.length + 1) (F ++ [v]) := by
    refine ownsRow_setCell_ne (ownsRow_keeps (ownsRow_keeps (ownsRow_setCell_ne ha.row (fun e => by have := (hf' _ e).1; have e2 : c' ob = 2 := this; omega) fv') f2 (fun _ _ h => h)) hb.keeps (fun g hg e => ?_)) (fun e => by have e2 : c' ob = 2 := (hf' _ e).1; omega) wv'
    have h1 := (hf' g hg).1
    have h2 := (h.wrow.lt g e).2
    rw [p0 g h2, h.cw g e] at h1
    omega
  have hwr : (w3.setCell ⟨ob, 1, none⟩ wv').ownsRow 0 26 1 wv' (Wv.length + 1) (Wv ++ [wx]) := ownsRow_setCell_ne hb.row (fun e => by have e2 : c' ob = 3 := hw' _ e; omega) wv'
  have hxr : (w3.setCell ⟨ob, 1, none⟩ wv').ownsRow 0 9 1 wx l.length (texts l) := by
    refine ownsRow_setCell_ne (ownsRow_keeps hm.row hb.keeps (fun g hg e => ?_)) (fun e => by have e2 : c' ob = 4 := (hx' _ e).1; omega) wv'
    have h1 := (hx' g hg).1
    have h2 := (h.wrow.lt g e).2
    rw [p0 g h2, h.cw g e] at h1
    omega
  refine ⟨c', ⟨heap_setCell_at b3 1 wv', cb, by rw [List.length_append]; exact hfr, fun g hg => (hf' g hg).1, by rw [List.length_append]; exact hwr, hw', by rw [List.length_append, List.length_append, h.lenC]; rfl, by rw [List.length_append, List.length_append, h.lenW]; rfl, fun j u m hu hm2 => ?_, fun j u m hu hm2 => ?_, fun g hg => by rw [p0 g (by omega)]; exact h.low g hg⟩, k3.mono (fun q hq e => ?_)⟩
  · by_cases hj : j < F.length
    · rw [List.getElem?_append_left hj] at hu
      rw [List.getElem?_append_left (by rw [h.lenC]; exact hj)] at hm2
      obtain ⟨y, h1, h2, h3⟩ := h.lists j u m hu hm2
      exact ⟨y, h1, ownsRow_keeps h2 k3 (fun g hg => off g (h2.lt g hg).2 (by rw [h3 g hg]; omega)), fun g hg => by rw [p0 g (h2.lt g hg).2]; exact h3 g hg⟩
    · have hj2 : j = F.length := by have := (List.getElem?_eq_some_iff.1 hu).1; simp at this; omega
      subst hj2
      simp at hu
      rw [← h.lenC] at hm2
      simp at hm2
      subst hu
      subst hm2
      obtain ⟨y, h1, h2, h3⟩ := hv
      exact ⟨y, h1, ownsRow_keeps h2 k3 (fun g hg => off g (h2.lt g hg).2 (by rw [h3 g hg]; omega)), fun g hg => by rw [p0 g (h2.lt g hg).2]; exact h3 g hg⟩
  · by_cases hj : j < F.length
    · rw [List.getElem?_append_left (by rw [h.lenW]; exact hj)] at hu
      rw [List.getElem?_append_left (by rw [h.lenC]; exact hj)] at hm2
      obtain ⟨h2, h3⟩ := h.was j u m hu hm2
      exact ⟨ownsRow_keeps h2 k3 (fun g hg => off g (h2.lt g hg).2 (by rw [h3 g hg]; omega)), fun g hg => by rw [p0 g (h2.lt g hg).2]; exact h3 g hg⟩
    · have hj2 : j = F.length := by have := (List.getElem?_eq_some_iff.1 hu).1; simp [h.lenW] at this; omega
      subst hj2
      rw [← h.lenW] at hu
      simp at hu
      rw [← h.lenC] at hm2
      simp at hm2
      subst hu
      subst hm2
      exact ⟨hxr, fun g hg => (hx' g hg).1⟩
  · apply Classical.byContradiction
    intro hn
    have hz := h.low q (by omega)
    rcases e with rfl | e | e
    · have := h.cbox; omega
    · have := h.cf q e; omega
    · have := h.cw q e; omega

set_option maxRecDepth 100000 in
set_option maxHeartbeats 4000000 in
theorem takes_any (B : Nat) (c : Nat → Nat) (ob : Nat) (F : List Value) (C : List (List (List UInt8))) (fv wv v : Value) (Wv : List Value) (l : List (List UInt8)) (w : World) (h : Noted B c w ob F C fv wv Wv) (hB : B ≤ w.heap.size)
    (hv : ∃ y, Clip v y ∧ w.ownsRow 0 9 1 y l.length (texts l) ∧ ∀ g, y.ownBlock = some g → c g = 5 + F.length) (hF : F.length ≤ 100000) (hl : l.length ≤ 100000) :
    Calls Tryd.prog 17 #[.pointer (some ⟨ob, 0, none⟩), v] w fun x w' => x = .returned (.tuple #[]) ∧ (∃ c' fv' wv' wx, Noted B c' w' ob (F ++ [v]) (C ++ [l]) fv' wv' (Wv ++ [wx])) ∧ Keeps (fun q => B ≤ q) w w' := by
  obtain ⟨i0, hi, hz0, hz1, hz2⟩ := info_parts Tryd.infoText
  obtain ⟨i1, hi', hz0', hz1', hz2'⟩ := info_parts Tryd.infoListT
  obtain ⟨aof, cpf, rfl⟩ := ownsRow_slice h.frow
  obtain ⟨aow, cpw, rfl⟩ := ownsRow_slice h.wrow
  have H := hid h
  have HV := hid hv
  have c0 := (cell_at h.box 0).trans (show _ = some (Value.slice aof F.length cpf) from rfl)
  have d0 := free_at h.box 0
  have bl := lt_of_block h.box
  obtain ⟨ao, n, cap, rfl⟩ : ∃ ao n cap, v = .slice ao n cap := by
    obtain ⟨y, ⟨ao, n, cap, cap', -, e, -⟩, -⟩ := hv
    exact ⟨ao, n, cap, e⟩
  have hFW : Wv.length ≤ 100000 := by rw [h.lenW]; exact hF
  have HF := hid hF
  have HW := hid hFW
  have HL := hid hl
  clear h hv hF hFW hl
  go_enter Tryd.func17, Tryd.ntmps17
  go_wp2_with (at_builtin; refine wpList_push rfl (.tmp 8) (.tmp 10) 37 rfl 26 i1 (.slice none 0 0) 24 Tryd.underlying37 hi' hz0' hz1' hz2' rfl w H.out.frow _ (by rfl) (by rfl) rfl (by have := HF.out; omega) (by have := HF.out; unfold maxLen; omega) ?_)
  intro v1 w1 ha
  have b1 : w1.heap[ob]? = some (.cells #[.slice aof F.length cpf, .slice aow Wv.length cpw, .slice none 0 0, .slice none 0 0, .slice none 0 0] 39 (0, 0)) := ha.keeps.at_ H.out.box (fun e => by have := H.out.cf _ e; have := H.out.cbox; omega)
  have c1 := (cell_at b1 0).trans (show _ = some (Value.slice aof F.length cpf) from rfl)
  have d1 := free_at b1 0
  have bl1 := lt_of_block b1
  obtain ⟨ao1, cp1, rfl⟩ := ownsRow_slice ha.row
  have b2 := heap_setCell_at b1 0 (.slice ao1 (F.length + 1) cp1)
  have HA := hid ha
  clear ha c0 d0
  go_wp2_with fail
  have k2 : Keeps (fun q => q = ob ∨ (Value.slice aof F.length cpf).ownBlock = some q) w (w1.setCell ⟨ob, 0, none⟩ (.slice ao1 (F.length + 1) cp1)) := (HA.out.keeps.mono (fun q _ e => .inr e)).setCell (p := ⟨ob, 0, none⟩) (fun _ => .inl rfl) _
  obtain ⟨W1, hW1⟩ : ∃ W1, w1.setCell ⟨ob, 0, none⟩ (.slice ao1 (F.length + 1) cp1) = W1 := ⟨_, rfl⟩
  rw [hW1] at b2 k2 ⊢
  have HW1 := hid hW1
  have c2 := (cell_at b2 1).trans (show _ = some (Value.slice aow Wv.length cpw) from rfl)
  have d2 := free_at b2 1
  have bl2 := lt_of_block b2
  -- the row of copies, the list itself, there
  have hwr : W1.ownsRow 0 26 1 (.slice aow Wv.length cpw) Wv.length Wv := ownsRow_keeps H.out.wrow k2 (fun g hg e => by
    have h1 := H.out.cw g hg
    rcases e with rfl | e
    · have := H.out.cbox; omega
    · have := H.out.cf g e; omega)
  have hsrc : ∀ W, Fresh W1 W → Src Tryd.prog 1 26 (.slice ao n cap) l.length (texts l) W := fun W f => by
    obtain ⟨y, ⟨ao', n', cap', cap2, rfl, e, hcc⟩, h2, h3⟩ := HV.out
    simp only [Value.slice.injEq] at e
    obtain ⟨rfl, rfl, rfl⟩ := e
    have h4 : W.ownsRow 0 9 1 (.slice ao n cap2) l.length (texts l) := ownsRow_keeps (ownsRow_keeps h2 k2 (fun g hg e => by
      have h1 := h3 g hg
      rcases e with rfl | e
      · have := H.out.cbox; omega
      · have := H.out.cf g e; omega)) f (fun _ _ h => h)
    obtain ⟨ao4, cap4, e4, hk4⟩ := OwnTexts_at h4
    simp only [Value.slice.injEq] at e4
    obtain ⟨rfl, rfl, rfl⟩ := e4
    exact Src.ofTexts (P := Tryd.prog) Tryd.underlying26 ⟨_, cap, rfl, hk4⟩
  have HS := hid hsrc
  have hne : (Value.slice aow Wv.length cpw).ownBlock ≠ some ob := fun e => by have := H.out.cw _ e; have := H.out.cbox; omega
  clear hW1 hsrc b1 c1 d1
  refine wp_region_keep 12 (fun w' => Keeps (fun q => q = ob ∨ (Value.slice aow Wv.length cpw).ownBlock = some q) W1 w') (fun w' => w'.cell? ⟨ob, 1, none⟩ = some (.slice aow Wv.length cpw) ∧ w'.frozen? ⟨ob, 1, none⟩ = false) (fun j => !(j == 11)) (by kernel_rfl) (by kernel_rfl) ?_
  (try (change wpKeep _ _ _ _ _ _ _ _ _ _ (World.drew _)))
  refine wpKeep_takeT (i := 0) (oi := ⟨some 14, _, _, _, _, _⟩) (v := ?_) rfl (by kernel_rfl) (by kernel_rfl) (by kernel_rfl) (by kernel_rfl) (fun _ _ _ h => h) (Or.inl ⟨by rfl, ?_⟩) (Keeps.refl _ _).drew (fun _ => ⟨c2, d2⟩) ?_
  rotate_left
  · intro w' hT
    go_simp
    (try rw [if_pos (by omega)])
    (try with_reducible rfl)
  rotate_left
  (try simp only [Act.put, List.setIfInBounds_toArray, List.set_cons_zero, List.set_cons_succ])
  refine wpKeep_takeT (i := 1) (oi := ⟨some 15, _, _, _, _, _⟩) (v := ?_) rfl (by kernel_rfl) (by kernel_rfl) (by kernel_rfl) (by kernel_rfl) (fun _ _ _ h => h) (Or.inl ⟨by rfl, ?_⟩) (Keeps.refl _ _).drew (fun _ => ⟨c2, d2⟩) ?_
  rotate_left
  · intro w' hT
    go_simp
    (try rw [if_pos (by omega)])
    (try with_reducible rfl)
  rotate_left
  (try simp only [Act.put, List.setIfInBounds_toArray, List.set_cons_zero, List.set_cons_succ])
  refine wpKeep_takeT (i := 2) (oi := ⟨some 16, _, _, _, _, _⟩) (v := ?_) rfl (by kernel_rfl) (by kernel_rfl) (by kernel_rfl) (by kernel_rfl) (fun _ _ _ h => h) (Or.inl ⟨by rfl, ?_⟩) (Keeps.refl _ _).drew (fun _ => ⟨c2, d2⟩) ?_
  rotate_left
  · intro w' hT
    go_simp
    (try rw [if_pos (by omega)])
    (try with_reducible rfl)
  rotate_left
  (try simp only [Act.put, List.setIfInBounds_toArray, List.set_cons_zero, List.set_cons_succ])
  refine wpKeep_takeT (i := 3) (oi := ⟨some 17, _, _, _, _, _⟩) (v := ?_) rfl (by kernel_rfl) (by kernel_rfl) (by kernel_rfl) (by kernel_rfl) (fun _ _ _ h => h) (Or.inl ⟨by rfl, ?_⟩) (Keeps.refl _ _).drew (fun _ => ⟨c2, d2⟩) ?_
  rotate_left
  · intro w' hT
    go_simp
    (try rw [if_pos (by omega)])
    (try with_reducible rfl)
  rotate_left
  (try simp only [Act.put, List.setIfInBounds_toArray, List.set_cons_zero, List.set_cons_succ])
  refine wpKeep_take (i := 4) (oi := ⟨some 18, _, _, _, _, _⟩) (v := ?_) rfl (by kernel_rfl) (by kernel_rfl) (by kernel_rfl) (by kernel_rfl) (fun _ _ _ h => h) (Or.inl ⟨by rfl, ?_⟩) ⟨(Keeps.refl _ _).drew, ⟨c2, d2⟩⟩ ?_
  rotate_left
  · intro w' hT
    have hS0 := hT.2
    replace hT := hT.1
    go_simp
    (try rw [if_pos (by omega)])
    (try with_reducible rfl)
  rotate_left
  (try simp only [Act.put, List.setIfInBounds_toArray, List.set_cons_zero, List.set_cons_succ])
  refine wpKeep_takeT (i := 5) (oi := ⟨some 19, _, _, _, _, _⟩) (v := ?_) rfl (by kernel_rfl) (by kernel_rfl) (by kernel_rfl) (by kernel_rfl) (fun _ _ _ h => h) (Or.inl ⟨by rfl, ?_⟩) (Keeps.refl _ _).drew (fun _ => ⟨c2, d2⟩) ?_
  rotate_left
  · intro w' hT
    go_simp
    (try rw [if_pos (by omega)])
    (try with_reducible rfl)
  rotate_left
  (try simp only [Act.put, List.setIfInBounds_toArray, List.set_cons_zero, List.set_cons_succ])
  refine wpKeep_ready (rs := [6]) (by kernel_rfl) (by simp) ?_
  refine AllKeep.cons (o := ⟨some 20, _, _, _, _, _⟩) rfl (fun K hK => ?_) AllKeep.nil
  refine step_append rfl (.const (.slice none 0 0)) (.tmp 19) 26 rfl 9 i0 (.string ⟨#[]⟩) 16 Tryd.underlying26 hi hz0 hz1 hz2 rfl (World.ownsRow_nil _ _ _ _) (.slice ao n cap) l.length (texts l) (by rfl) (by rfl) (HS.out _ (Keeps.refl (fun _ => False) W1).drew) (by have := HL.out; unfold maxLen; omega) (by have := HL.out; omega) ?_
  intro vx w2 hm
  replace hm : Appended 9 1 W1 w2 (.slice none 0 0) vx l.length (texts l) := by
    have := hm.undrew
    rwa [Nat.zero_add, List.nil_append] at this
  have f2 : Fresh W1 w2 := hm.keeps.mono (fun q _ e => by simp [Value.ownBlock] at e)
  have s20 := (f2.cell (p := ⟨ob, 1, none⟩) bl2 (fun h => h)).trans c2
  have s21 := (f2.frozen (p := ⟨ob, 1, none⟩) bl2 (fun h => h)).trans d2
  have T2 : Keeps (fun q => q = ob ∨ (Value.slice aow Wv.length cpw).ownBlock = some q) W1 w2 := f2.mono (fun _ _ h => h.elim)
  have hw2 := ownsRow_keeps hwr f2 (fun _ _ h => h)
  obtain ⟨aox, cpx, rfl⟩ := ownsRow_slice hm.row
  refine hK.out _ _ T2 (fun _ => ⟨s20, s21⟩) ?_
  clear hK K
  (try simp only [Act.put, List.setIfInBounds_toArray, List.set_cons_zero, List.set_cons_succ])
  refine wpKeep_ready (rs := [7]) (by kernel_rfl) (by simp) ?_
  refine AllKeep.cons (o := ⟨some 21, _, _, _, _, _⟩) rfl (fun K hK => ?_) AllKeep.nil
  go_simp
  have fal := (Keeps.refl (fun _ => False) w2).alloc (.cells #[.slice aox l.length cpx] 26)
  have n22 : ob < w2.heap.size := Nat.lt_of_lt_of_le bl2 f2.size
  refine hK.out _ _ (T2.alloc _) (fun _ => ⟨(fal.cell (p := ⟨ob, 1, none⟩) n22 (fun h => h)).trans s20, (fal.frozen (p := ⟨ob, 1, none⟩) n22 (fun h => h)).trans s21⟩) ?_
  clear hK K
  (try simp only [Act.put, List.setIfInBounds_toArray, List.set_cons_zero, List.set_cons_succ])
  refine wpKeep_ready (rs := [8]) (by kernel_rfl) (by simp) ?_
  refine AllKeep.cons (o := ⟨some 22, _, _, _, _, _⟩) rfl (fun K hK => ?_) AllKeep.nil
  refine step_push rfl (.tmp 18) (.tmp 21) 37 rfl 26 i1 (.slice none 0 0) 24 Tryd.underlying37 hi' hz0' hz1' hz2' rfl w2 hw2 (.slice aox l.length cpx) (by rfl) (by rfl) rfl (by have := HW.out; omega) (by have := HW.out; unfold maxLen; omega) ?_
  intro v3 w3 hb
  have s30 := (hb.keeps.cell (p := ⟨ob, 1, none⟩) n22 hne).trans s20
  have s31 := (hb.keeps.frozen (p := ⟨ob, 1, none⟩) n22 hne).trans s21
  have T3 : Keeps (fun q => q = ob ∨ (Value.slice aow Wv.length cpw).ownBlock = some q) W1 w3 := T2.trans (hb.keeps.mono (fun _ _ h => .inr h))
  refine hK.out _ _ T3 (fun _ => ⟨s30, s31⟩) ?_
  clear hK K
  (try simp only [Act.put, List.setIfInBounds_toArray, List.set_cons_zero, List.set_cons_succ])
  refine wpKeep_takeT (i := 9) (oi := ⟨some 23, _, _, _, _, _⟩) (v := ?_) rfl (by kernel_rfl) (by kernel_rfl) (by kernel_rfl) (by kernel_rfl) (fun _ _ _ h => h) (Or.inl ⟨by rfl, ?_⟩) T3 (fun _ => ⟨s30, s31⟩) ?_
  rotate_left
  · intro w' hT
    go_simp
    (try rw [if_pos (by omega)])
    (try with_reducible rfl)
  rotate_left
  (try simp only [Act.put, List.setIfInBounds_toArray, List.set_cons_zero, List.set_cons_succ])
  refine wpKeep_takeT (i := 10) (oi := ⟨some 24, _, _, _, _, _⟩) (v := ?_) rfl (by kernel_rfl) (by kernel_rfl) (by kernel_rfl) (by kernel_rfl) (fun _ _ _ h => h) (Or.inl ⟨by rfl, ?_⟩) T3 (fun _ => ⟨s30, s31⟩) ?_
  rotate_left
  · intro w' hT
    go_simp
    (try rw [if_pos (by omega)])
    (try with_reducible rfl)
  rotate_left
  (try simp only [Act.put, List.setIfInBounds_toArray, List.set_cons_zero, List.set_cons_succ])
  refine wpKeep_ready (rs := [11]) (by kernel_rfl) (by simp) ?_
  refine AllKeep.cons (o := ⟨none, _, _, _, _, _⟩) rfl (fun K hK => ?_) AllKeep.nil
  obtain ⟨ao3, cp3, e3⟩ := ownsRow_slice hb.row
  subst e3
  have n33 : ob < w3.heap.size := Nat.lt_of_lt_of_le n22 hb.keeps.size
  go_simp
  refine hK.out _ _ (T3.setCell (p := ⟨ob, 1, none⟩) (fun _ => .inl rfl) _) (not_early (by kernel_rfl)) ?_
  clear hK K
  (try simp only [Act.put, List.setIfInBounds_toArray, List.set_cons_zero, List.set_cons_succ])
  refine wpKeep_done (by kernel_rfl) ?_ _
  obtain ⟨c', hN', hK'⟩ := H.out.more hB HV.out HA.out (by rw [HW1.out]; exact hm) hb
  go_wp2_with fail
  first | go_end0 | refine bodyPost_ret (results_none rfl _ _ _) rfl ?_
  have hN2 : ∃ c' fv' wv' wx, Noted B c' (w3.setCell ⟨ob, 1, none⟩ (.slice ao3 (Wv.length + 1) cp3)) ob (F ++ [.slice ao n cap]) (C ++ [l]) fv' wv' (Wv ++ [wx]) := ⟨c', _, _, _, hN'⟩
  exact ⟨rfl, hN2, hK'⟩
end Go.Proofs.YtgikabafaocemaaDoor
