/-
  The program's digest, of one text or three, laid in a block of their own.
  The hash of two: the program's, the document's.
  Trees of leaves: the hash of a list, its complete subtrees; what tiles hold. Plain.
  What a run's told hashes and its leaves come to: the hash of all leaves. Plain.
-/
import Derived.Test.YtgikabafaocemaaDoorMShaC
import Derived.Test.YtgikabafaocemaaDoorMShaB
import Derived.Test.YtgikabafaocemaaDoorMSpA
namespace Go.Proofs.YtgikabafaocemaaDoor
open Go.RowKit

/-- what digest.Sum asks of the world -/
structure Dig (w : World) : Prop where
  tab : TabLaid w
  first : FirstLaid w
  room : 4 ≤ w.heap.size
theorem Dig.fresh {w w' : World} (h : Dig w) (f : Fresh w w') : Dig w' := ⟨h.tab.keeps f (fun h => h), h.first.keeps f (fun h => h), Nat.le_trans h.room f.size⟩
theorem Dig.drew {w : World} (h : Dig w) : Dig w.drew := h.fresh (Keeps.refl _ _).drew
theorem Dig.alloc {w : World} (h : Dig w) (o : Obj) : Dig (w.alloc o) := h.fresh ((Keeps.refl _ _).alloc o)

theorem Dig.keepsOut {B h : Nat} {w w' : World} (d : Dig w) (k : Keeps (fun q => q = h ∨ B ≤ q) w w') (h1 : 4 ≤ h) (h2 : 4 ≤ B) : Dig w' :=
  ⟨d.tab.keeps k (fun e => by omega), d.first.keeps k (fun e => by omega), Nat.le_trans d.room k.size⟩

theorem psum_one (bb : Nat) (s : List UInt8) (w : World) (hb : w.heap[bb]? = some (.cells #[.string (str s)] 9 (0, 0))) (hd : Dig w) (hs : s.length ≤ 70368744170000) :
    Calls Tryd.prog 112 #[.slice (some ⟨bb, 0, none⟩) 1 1] w fun e w' => e = .returned (.string (str (sha s))) ∧ Fresh w w' := by
  have hp := psum_any (.slice (some ⟨bb, 0, none⟩) 1 1) [s] w ⟨_, _, rfl, fun j x hx => ⟨bb, 0, rfl, lt_of_block hb, by
      rw [cell_at hb]
      match j, hx with
      | 0, hx => simp at hx; subst hx; rfl
      | (j + 1), hx => simp at hx⟩⟩ hd.tab hd.first hd.room (by simp) (by simp; omega)
  simpa using hp
theorem psum_three (bb : Nat) (a b c : List UInt8) (w : World) (hb : w.heap[bb]? = some (.cells #[.string (str a), .string (str b), .string (str c)] 9 (0, 0))) (hd : Dig w) (hs : a.length + b.length + c.length ≤ 70368744170000) :
    Calls Tryd.prog 112 #[.slice (some ⟨bb, 0, none⟩) 3 3] w fun e w' => e = .returned (.string (str (sha (a ++ (b ++ c))))) ∧ Fresh w w' := by
  have hp := psum_any (.slice (some ⟨bb, 0, none⟩) 3 3) [a, b, c] w ⟨_, _, rfl, fun j x hx => ⟨bb, 0, rfl, lt_of_block hb, by
      rw [cell_at hb]
      match j, hx with
      | 0, hx => simp at hx; subst hx; rfl
      | 1, hx => simp at hx; subst hx; rfl
      | 2, hx => simp at hx; subst hx; rfl
      | (j + 3), hx => simp at hx⟩⟩ hd.tab hd.first hd.room (by simp) (by simp; omega)
  simpa using hp
end Go.Proofs.YtgikabafaocemaaDoor

namespace Go.Proofs.YtgikabafaocemaaDoor
open Go.RowKit

set_option maxRecDepth 100000 in
set_option maxHeartbeats 1000000 in
theorem node_any (a b : List UInt8) (ha : a.length = 32) (hb : b.length = 32) (w : World) (hd : Dig w) :
    Calls Tryd.prog 97 #[.string (str a), .string (str b)] w fun e w' => e = .returned (.tuple #[.string (str (nodeH a b)), .int .i64 0]) ∧ Fresh w w' := by
  have sa := str_size a
  have sb := str_size b
  rw [ha] at sa
  rw [hb] at sb
  have f0 : Fresh w (w.alloc (.cells #[.string (str [1]), .string (str a), .string (str b)] 9)) := (Keeps.refl _ _).alloc _
  have hP := hid (psum_three w.heap.size [1] a b _ (heap_alloc_new w (.cells #[.string (str [1]), .string (str a), .string (str b)] 9)) (hd.fresh f0) (by simp; omega))
  go_enter Tryd.func97, Tryd.ntmps97
  go_wp2_with fail
  refine hP.out.mono ?_
  rintro e w1 ⟨rfl, f1⟩
  go_wp2_with fail
  go_ret2
  exact ⟨rfl, f0.trans f1⟩

set_option maxRecDepth 100000 in
set_option maxHeartbeats 1000000 in
theorem refnode_any (a b : List UInt8) (ha : a.length = 32) (hb : b.length = 32) (w : World) :
    Calls Tryd.prog 121 #[.string (str a), .string (str b)] w fun e w' => e = .returned (.tuple #[.string (str (nodeH a b)), .int .i64 0]) ∧ Fresh w w' := by
  have sa := str_size a
  have sb := str_size b
  rw [ha] at sa
  rw [hb] at sb
  have hP := hid (refsum_any (1 :: (a ++ b)) w (by simp; omega))
  have hc1 : str ([1] : List UInt8) ++ str a = str (1 :: a) := by
    apply ByteArray.ext
    simp [str, ByteArray.data_append]
  have hc2 : str (1 :: a) ++ str b = str (1 :: (a ++ b)) := by
    apply ByteArray.ext
    simp [str, ByteArray.data_append]
  have s1 := str_size (1 :: a)
  simp only [List.length_cons, ha] at s1
  go_enter Tryd.func121, Tryd.ntmps121
  go_wp2_with fail
  refine hP.out.mono ?_
  rintro e w1 ⟨rfl, f1⟩
  go_wp2_with fail
  go_ret2
  exact ⟨rfl, f1⟩
end Go.Proofs.YtgikabafaocemaaDoor

namespace Go.Proofs.YtgikabafaocemaaDoor
open Go.RowKit

/-- the hash of a list of leaves -/
def hashL (l : List (List UInt8)) : List UInt8 :=
  if _h : l.length < 2 then (if l.length = 0 then sha [] else l.headD [])
  else nodeH (hashL (l.take (splitN l.length))) (hashL (l.drop (splitN l.length)))
termination_by l.length
decreasing_by
  · obtain ⟨-, h2, -⟩ := splitN_facts (n := l.length) (by omega)
    simp only [List.length_take]
    omega
  · obtain ⟨h1, h2, -⟩ := splitN_facts (n := l.length) (by omega)
    simp only [List.length_drop]
    omega
theorem hashL_nil : hashL [] = sha [] := by
  rw [hashL]
  simp
theorem hashL_one (x : List UInt8) : hashL [x] = x := by
  rw [hashL]
  simp
theorem hashL_split {l : List (List UInt8)} (h : 2 ≤ l.length) : hashL l = nodeH (hashL (l.take (splitN l.length))) (hashL (l.drop (splitN l.length))) := by
  rw [hashL, dif_neg (by omega)]
theorem hashL_len {l : List (List UInt8)} (h : ∀ x ∈ l, x.length = 32) : (hashL l).length = 32 := by
  rw [hashL]
  split
  · rename_i h1
    split
    · exact sha_len _
    · match l, h1 with
      | [x], _ => exact h x (by simp)
      | [], _ => contradiction
  · exact nodeH_len _ _
theorem splitN_pow (k : Nat) : splitN (2 ^ (k + 1)) = 2 ^ k := by
  have h0 : 0 < 2 ^ k := Nat.pow_pos (by omega)
  exact (splitN_unique (n := 2 ^ (k + 1)) (j := k) (by rw [Nat.pow_succ]; omega) (by rw [Nat.pow_succ]; omega)).symm

/-- the hash of a complete subtree -/
def nodeOf (L : List (List UInt8)) (k i : Nat) : List UInt8 := hashL ((L.drop (i * 2 ^ k)).take (2 ^ k))
theorem nodeOf_zero {L : List (List UInt8)} {i : Nat} {x : List UInt8} (h : L[i]? = some x) : nodeOf L 0 i = x := by
  obtain ⟨hi, rfl⟩ := List.getElem?_eq_some_iff.1 h
  unfold nodeOf
  rw [Nat.pow_zero, Nat.mul_one, List.drop_eq_getElem_cons hi]
  exact hashL_one _
theorem nodeOf_up {L : List (List UInt8)} {k i : Nat} (h : (i + 1) * 2 ^ (k + 1) ≤ L.length) : nodeOf L (k + 1) i = nodeH (nodeOf L k (2 * i)) (nodeOf L k (2 * i + 1)) := by
  have h0 : 0 < 2 ^ k := Nat.pow_pos (by omega)
  have e1 : 2 ^ (k + 1) = 2 ^ k + 2 ^ k := by rw [Nat.pow_succ]; omega
  have e2 : i * 2 ^ (k + 1) = 2 * i * 2 ^ k := by rw [e1]; grind
  have e3 : (2 * i + 1) * 2 ^ k = 2 * i * 2 ^ k + 2 ^ k := by rw [Nat.add_mul, Nat.one_mul]
  have e4 : (i + 1) * 2 ^ (k + 1) = 2 * i * 2 ^ k + (2 ^ k + 2 ^ k) := by rw [Nat.add_mul, Nat.one_mul, e2, e1]
  have hl : ((L.drop (i * 2 ^ (k + 1))).take (2 ^ (k + 1))).length = 2 ^ (k + 1) := by
    rw [List.length_take, List.length_drop]
    omega
  unfold nodeOf
  rw [hashL_split (by rw [hl]; omega), hl, splitN_pow]
  congr 2
  · rw [List.take_take, e2]
    congr 1
    omega
  · rw [List.drop_take, List.drop_drop, e2, e3]
    congr 1
    omega
theorem nodeOf_more {L M : List (List UInt8)} {k i : Nat} (h : (i + 1) * 2 ^ k ≤ L.length) : nodeOf (L ++ M) k i = nodeOf L k i := by
  rw [Nat.add_mul, Nat.one_mul] at h
  unfold nodeOf
  generalize 2 ^ k = P at *
  rw [List.drop_append_of_le_length (by omega), List.take_append_of_le_length (by rw [List.length_drop]; omega)]

/-- what a tile holds on one of its levels: of so many nodes on each level of the tree (c), whose hashes are H -/
def rowOf (c : Nat → Nat) (H : Nat → Nat → List UInt8) (h lv ix j : Nat) : List (List UInt8) :=
  (List.range (min (2 ^ (h - j)) (c (lv * h + j) - ix * 2 ^ (h - j)))).map fun q => H (lv * h + j) (ix * 2 ^ (h - j) + q)
theorem rowOf_len (c : Nat → Nat) (H : Nat → Nat → List UInt8) (h lv ix j : Nat) : (rowOf c H h lv ix j).length = min (2 ^ (h - j)) (c (lv * h + j) - ix * 2 ^ (h - j)) := by simp [rowOf]
/-- where a node is: found there -/
theorem rowOf_get {c : Nat → Nat} {H : Nat → Nat → List UInt8} {h l i : Nat} (hi : i < c l) :
    (rowOf c H h (l / h) (i / 2 ^ (h - l % h)) (l % h))[i % 2 ^ (h - l % h)]? = some (H l i) := by
  have h0 : 0 < 2 ^ (h - l % h) := Nat.pow_pos (by omega)
  have h1 : l / h * h + l % h = l := by rw [Nat.mul_comm]; exact Nat.div_add_mod l h
  have h2 : i / 2 ^ (h - l % h) * 2 ^ (h - l % h) + i % 2 ^ (h - l % h) = i := by rw [Nat.mul_comm]; exact Nat.div_add_mod i _
  have h3 := Nat.mod_lt i h0
  unfold rowOf
  rw [List.getElem?_map, List.getElem?_range (by rw [h1]; omega)]
  simp only [Option.map_some]
  rw [h1, h2]
/-- one more node on level l -/
def oneMore (c : Nat → Nat) (l : Nat) : Nat → Nat := fun k => if k = l then c k + 1 else c k
theorem rowOf_more {c : Nat → Nat} {H : Nat → Nat → List UInt8} {h l : Nat} :
    rowOf (oneMore c l) H h (l / h) (c l / 2 ^ (h - l % h)) (l % h) = rowOf c H h (l / h) (c l / 2 ^ (h - l % h)) (l % h) ++ [H l (c l)] := by
  have h0 : 0 < 2 ^ (h - l % h) := Nat.pow_pos (by omega)
  have h1 : l / h * h + l % h = l := by rw [Nat.mul_comm]; exact Nat.div_add_mod l h
  have h2 : c l / 2 ^ (h - l % h) * 2 ^ (h - l % h) + c l % 2 ^ (h - l % h) = c l := by rw [Nat.mul_comm]; exact Nat.div_add_mod (c l) _
  have h3 := Nat.mod_lt (c l) h0
  have e1 : min (2 ^ (h - l % h)) (c l - c l / 2 ^ (h - l % h) * 2 ^ (h - l % h)) = c l % 2 ^ (h - l % h) := by omega
  have e2 : min (2 ^ (h - l % h)) (c l + 1 - c l / 2 ^ (h - l % h) * 2 ^ (h - l % h)) = c l % 2 ^ (h - l % h) + 1 := by omega
  unfold rowOf oneMore
  rw [h1, if_pos rfl, e1, e2, List.range_succ, List.map_append]
  simp only [List.map_cons, List.map_nil]
  rw [h2]
theorem rowOf_other {c : Nat → Nat} {H : Nat → Nat → List UInt8} {h l lv ix j : Nat} (hj : j < h) (hne : ¬ (lv = l / h ∧ ix = c l / 2 ^ (h - l % h) ∧ j = l % h)) :
    rowOf (oneMore c l) H h lv ix j = rowOf c H h lv ix j := by
  by_cases hl : lv * h + j = l
  · have a1 : l / h = lv := by rw [← hl, Nat.add_comm, Nat.add_mul_div_right _ _ (by omega), Nat.div_eq_of_lt hj]; omega
    have a2 : l % h = j := by rw [← hl, Nat.add_comm, Nat.add_mul_mod_self_right, Nat.mod_eq_of_lt hj]
    rw [a1, a2] at hne
    have h0 : 0 < 2 ^ (h - j) := Nat.pow_pos (by omega)
    have h2 : c l / 2 ^ (h - j) * 2 ^ (h - j) + c l % 2 ^ (h - j) = c l := by rw [Nat.mul_comm]; exact Nat.div_add_mod (c l) _
    have h3 := Nat.mod_lt (c l) h0
    have hx : ix ≠ c l / 2 ^ (h - j) := fun e => hne ⟨rfl, e, rfl⟩
    have e : min (2 ^ (h - j)) (c l + 1 - ix * 2 ^ (h - j)) = min (2 ^ (h - j)) (c l - ix * 2 ^ (h - j)) := by
      rcases Nat.lt_or_gt_of_ne hx with hx | hx
      · have := Nat.mul_le_mul_right (2 ^ (h - j)) (show ix + 1 ≤ c l / 2 ^ (h - j) from hx)
        rw [Nat.add_mul, Nat.one_mul] at this
        omega
      · have := Nat.mul_le_mul_right (2 ^ (h - j)) (show c l / 2 ^ (h - j) + 1 ≤ ix from hx)
        rw [Nat.add_mul, Nat.one_mul] at this
        omega
    unfold rowOf oneMore
    rw [hl, if_pos rfl, e]
  · unfold rowOf oneMore
    rw [if_neg hl]
theorem rowOf_congr {c : Nat → Nat} {H H' : Nat → Nat → List UInt8} {h lv ix j : Nat} (hH : ∀ l i, i < c l → H l i = H' l i) : rowOf c H h lv ix j = rowOf c H' h lv ix j := by
  unfold rowOf
  apply List.map_congr_left
  intro q hq
  rw [List.mem_range] at hq
  exact hH _ _ (by omega)
end Go.Proofs.YtgikabafaocemaaDoor

namespace Go.Proofs.YtgikabafaocemaaDoor
open Go.RowKit

/-- a list's part -/
def sl {α : Type} (L : List α) (b e : Nat) : List α := (L.drop b).take (e - b)
theorem sl_split {α : Type} (L : List α) {b k e : Nat} (h1 : b ≤ k) (h2 : k ≤ e) : sl L b e = sl L b k ++ sl L k e := by
  unfold sl
  rw [show e - b = (k - b) + (e - k) by omega, List.take_add, List.drop_drop, show b + (k - b) = k by omega]
theorem sl_none {α : Type} (L : List α) {b e : Nat} (h : e ≤ b) : sl L b e = [] := by
  unfold sl
  rw [show e - b = 0 by omega, List.take_zero]
theorem sl_len {α : Type} (L : List α) {b e : Nat} (h : e ≤ L.length) : (sl L b e).length = e - b := by
  unfold sl
  rw [List.length_take, List.length_drop]
  omega
theorem sl_one {α : Type} (L : List α) {b : Nat} (h : b < L.length) : sl L b (b + 1) = [L[b]] := by
  unfold sl
  rw [show b + 1 - b = 1 by omega, List.drop_eq_getElem_cons h]
  rfl
theorem sl_take {α : Type} (L : List α) {b k e : Nat} (h1 : b ≤ k) (h2 : k ≤ e) : (sl L b e).take (k - b) = sl L b k := by
  unfold sl
  rw [List.take_take, Nat.min_eq_left (by omega)]
theorem sl_drop {α : Type} (L : List α) {b k e : Nat} (h1 : b ≤ k) (h2 : k ≤ e) : (sl L b e).drop (k - b) = sl L k e := by
  unfold sl
  rw [List.drop_take, List.drop_drop, show b + (k - b) = k by omega, show e - b - (k - b) = e - k by omega]
theorem hashL_sl {L : List (List UInt8)} {b e : Nat} (h1 : b + 2 ≤ e) (h2 : e ≤ L.length) : hashL (sl L b e) = nodeH (hashL (sl L b (b + splitN (e - b)))) (hashL (sl L (b + splitN (e - b)) e)) := by
  obtain ⟨g1, g2, g3⟩ := splitN_facts (n := e - b) (by omega)
  have hl := sl_len L (b := b) h2
  rw [hashL_split (by omega), hl]
  have a1 := sl_take L (b := b) (k := b + splitN (e - b)) (e := e) (by omega) (by omega)
  have a2 := sl_drop L (b := b) (k := b + splitN (e - b)) (e := e) (by omega) (by omega)
  rw [show b + splitN (e - b) - b = splitN (e - b) by omega] at a1 a2
  rw [a1, a2]

/-- the told hashes of a run, out of the leaves -/
def toldH (L : List (List UInt8)) (l : List (Nat × Nat)) : List (List UInt8) := l.map fun s => hashL (sl L s.1 s.2)
theorem walkF_hash : ∀ (f rb re b e : Nat) (L H M : List (List UInt8)), b < e → e - b ≤ 2 ^ f → e ≤ L.length → rb < re →
    walkF f rb re b e (toldH L (toldF f rb re b e) ++ H) (sl L (max rb b) (min re e) ++ M) = (hashL (sl L b e), H, M)
  | 0, rb, re, b, e, L, H, M, h1, h2, h3, h4 => by
    have : e = b + 1 := by simp at h2; omega
    subst this
    unfold walkF toldF
    by_cases hc : re ≤ b ∨ b + 1 ≤ rb
    · rw [if_pos hc, if_pos hc, sl_none L (b := max rb b) (by omega)]
      rfl
    · rw [if_neg hc, if_neg hc, show max rb b = b by omega, show min re (b + 1) = b + 1 by omega, sl_one L (by omega), hashL_one]
      rfl
  | f + 1, rb, re, b, e, L, H, M, h1, h2, h3, h4 => by
    by_cases hc : re ≤ b ∨ e ≤ rb
    · rw [walkF, if_pos hc, toldF, if_pos hc, sl_none L (b := max rb b) (by omega)]
      rfl
    · rw [walkF, if_neg hc]
      by_cases h6 : e - b = 1
      · have : e = b + 1 := by omega
        subst this
        rw [if_pos h6, toldF, if_neg hc, if_pos (by omega), show max rb b = b by omega, show min re (b + 1) = b + 1 by omega, sl_one L (by omega), hashL_one]
        rfl
      · rw [if_neg h6]
        obtain ⟨g1, g2, g3⟩ := splitN_facts (n := e - b) (by omega)
        have g4 := splitN_le (n := e - b) (f := f) (by omega) h2
        have hto : toldF (f + 1) rb re b e = toldF f rb re b (b + splitN (e - b)) ++ toldF f rb re (b + splitN (e - b)) e := by
          rw [toldF, if_neg hc]
          split
          · rename_i hw
            rw [toldF_in f rb re b _ hw.1 (by omega) (by omega), toldF_in f rb re _ e (by omega) hw.2 (by omega)]
            rfl
          · rfl
        have hsl : sl L (max rb b) (min re e) = sl L (max rb b) (min re (b + splitN (e - b))) ++ sl L (max rb (b + splitN (e - b))) (min re e) := by
          by_cases q1 : re ≤ b + splitN (e - b)
          · rw [sl_none L (b := max rb (b + splitN (e - b))) (by omega), List.append_nil, show min re e = min re (b + splitN (e - b)) by omega]
          · by_cases q2 : b + splitN (e - b) ≤ rb
            · rw [sl_none L (b := max rb b) (e := min re (b + splitN (e - b))) (by omega), List.nil_append, show max rb b = max rb (b + splitN (e - b)) by omega]
            · rw [show min re (b + splitN (e - b)) = b + splitN (e - b) by omega, show max rb (b + splitN (e - b)) = b + splitN (e - b) by omega]
              exact sl_split L (by omega) (by omega)
        rw [hto, hsl]
        unfold toldH
        rw [List.map_append, List.append_assoc, List.append_assoc]
        have a1 := walkF_hash f rb re b (b + splitN (e - b)) L (toldH L (toldF f rb re (b + splitN (e - b)) e) ++ H) (sl L (max rb (b + splitN (e - b))) (min re e) ++ M) (by omega) (by omega) (by omega) h4
        have a2 := walkF_hash f rb re (b + splitN (e - b)) e L H M (by omega) (by omega) h3 h4
        unfold toldH at a1 a2
        simp only [a1, a2]
        rw [← hashL_sl (by omega) h3]
end Go.Proofs.YtgikabafaocemaaDoor
