/-
  The tree of tiles: Part of a span, Root of a size.
-/
import Derived.Test.YtgikabafaocemaaDoorTlPart
namespace Go.Proofs.YtgikabafaocemaaDoor
open Go.RowKit Go.Maps

theorem part_any (S : Nat → Prop) (tb h : Nat) (L : List (List UInt8)) : ∀ (f b e : Nat) (w : World), e - b ≤ f → b < e → e ≤ L.length → TileTree S w tb h L → Dig w →
    Calls Tryd.prog 87 #[.pointer (some ⟨tb, 0, none⟩), spanV (b, e)] w fun x w' => x = .returned (.string (str (hashL (sl L b e)))) ∧ Fresh w w'
  | 0, b, e, w, h0, h1, _, _, _ => by omega
  | f + 1, b, e, w, h0, h1, h2, ht, hd => part_step S tb h L b e w ht hd h1 h2 fun b' e' W q1 q2 q3 q4 q5 => part_any S tb h L f b' e' W (by omega) q1 q3 q4 q5

set_option maxRecDepth 100000 in
set_option maxHeartbeats 1000000 in
theorem tlpart_any (S : Nat → Prop) (tb h : Nat) (L : List (List UInt8)) (b e : Nat) (w : World) (hbe : b < e) (he : e ≤ L.length) (ht : TileTree S w tb h L) (hd : Dig w) :
    Calls Tryd.prog 40 #[.pointer (some ⟨tb, 0, none⟩), spanV (b, e)] w fun x w' => x = .returned (.tuple #[.string (str (hashL (sl L b e))), .int .i64 0]) ∧ Fresh w w' := by
  have f0 : Fresh w (w.alloc (spanC b e)) := (Keeps.refl _ _).alloc _
  have hb := heap_alloc_new w (spanC b e)
  have hth := there_any S tb h L b e _ (ht.fresh f0) (by omega) he
  have hpt := fun W q1 q2 => part_any S tb h L (e - b) b e W (Nat.le_refl _) hbe he q1 q2
  obtain ⟨R, hR⟩ : ∃ R, hashL (sl L b e) = R := ⟨_, rfl⟩
  rw [hR] at hpt ⊢
  have HTH := hid hth
  have HPT := hid hpt
  clear hth hpt hR hbe he
  unfold spanC spanV at *
  go_enter Tryd.func40, Tryd.ntmps40
  go_wp2_with fail
  refine HTH.out.mono ?_
  rintro x w1 ⟨rfl, f1⟩
  have hb1 := f1.at_ hb (fun h => h)
  have c0 := (cell_at hb1 0).trans (show _ = some (Value.int .i64 (b : Int)) from rfl)
  have c1 := (cell_at hb1 1).trans (show _ = some (Value.int .i64 (e : Int)) from rfl)
  clear hb hb1
  go_wp2_with fail
  refine (HPT.out w1 (ht.fresh (f0.trans f1)) (hd.fresh (f0.trans f1))).mono ?_
  rintro x w2 ⟨rfl, f2⟩
  go_wp2_with fail
  go_ret2
  exact ⟨rfl, (f0.trans f1).trans f2⟩

/-- what a root comes to, of so many bits of the size -/
def rootUpto (L : List (List UInt8)) (n lv : Nat) : List UInt8 := if n % 2 ^ lv = 0 then [] else hashL (sl L (n - n % 2 ^ lv) n)
theorem rootUpto_zero (L : List (List UInt8)) (n : Nat) : rootUpto L n 0 = [] := by
  unfold rootUpto
  rw [Nat.pow_zero, Nat.mod_one, if_pos rfl]
theorem rootUpto_all (L : List (List UInt8)) (n : Nat) (h : 1 ≤ n) : rootUpto L n (lenN n) = hashL (sl L 0 n) := by
  have h1 : n % 2 ^ lenN n = n := by
    rw [lenN_pos h]
    exact Nat.mod_eq_of_lt Nat.lt_log2_self
  unfold rootUpto
  rw [h1, if_neg (by omega), Nat.sub_self]
theorem bit_mod (n lv : Nat) : n % 2 ^ (lv + 1) = n / 2 ^ lv % 2 * 2 ^ lv + n % 2 ^ lv := by
  have h0 : 0 < 2 ^ lv := Nat.pow_pos (by omega)
  have h1 := Nat.div_add_mod n (2 ^ lv)
  have h2 := Nat.div_add_mod (n / 2 ^ lv) 2
  have h3 := Nat.mod_lt n h0
  have h4 := Nat.mod_lt (n / 2 ^ lv) (show 2 > 0 by omega)
  rw [Nat.pow_succ]
  generalize n % 2 ^ lv = r at *
  generalize n / 2 ^ lv % 2 = d at *
  have hn : n = 2 ^ lv * 2 * (n / 2 ^ lv / 2) + (d * 2 ^ lv + r) := by
    have e1 : 2 ^ lv * (n / 2 ^ lv) = 2 ^ lv * (2 * (n / 2 ^ lv / 2) + d) := by rw [h2]
    rw [Nat.mul_add, ← Nat.mul_assoc, Nat.mul_comm (2 ^ lv) d] at e1
    omega
  have hlt : d * 2 ^ lv + r < 2 ^ lv * 2 := by
    have : d = 0 ∨ d = 1 := by omega
    rcases this with rfl | rfl <;> omega
  generalize n / 2 ^ lv / 2 = q at hn
  rw [hn, Nat.mul_add_mod, Nat.mod_eq_of_lt hlt]
theorem rootUpto_even {L : List (List UInt8)} {n lv : Nat} (h : n / 2 ^ lv % 2 = 0) : rootUpto L n (lv + 1) = rootUpto L n lv := by
  unfold rootUpto
  rw [bit_mod, h, Nat.zero_mul, Nat.zero_add]
/-- the complete subtree of an odd bit -/
theorem root_node {L : List (List UInt8)} {n lv : Nat} (h : n / 2 ^ lv % 2 = 1) : nodeOf L lv (n / 2 ^ lv - 1) = hashL (sl L (n - n % 2 ^ (lv + 1)) (n - n % 2 ^ lv)) := by
  have h0 : 0 < 2 ^ lv := Nat.pow_pos (by omega)
  have h1 := Nat.div_add_mod n (2 ^ lv)
  have h3 := bit_mod n lv
  rw [h, Nat.one_mul] at h3
  have h4 : (n / 2 ^ lv - 1) * 2 ^ lv + 2 ^ lv = 2 ^ lv * (n / 2 ^ lv) := by
    generalize n / 2 ^ lv = Q at h
    have : Q = (Q - 1) + 1 := by omega
    rw [Nat.mul_comm (2 ^ lv)]
    conv => rhs; rw [this, Nat.add_mul, Nat.one_mul]
  have hle := Nat.mod_le n (2 ^ (lv + 1))
  exact nodeOf_sl L lv _ _ _ (by omega) (by omega)
theorem rootUpto_odd {L : List (List UInt8)} {n lv : Nat} (hn : n ≤ L.length) (h : n / 2 ^ lv % 2 = 1) :
    rootUpto L n (lv + 1) = if n % 2 ^ lv = 0 then nodeOf L lv (n / 2 ^ lv - 1) else nodeH (nodeOf L lv (n / 2 ^ lv - 1)) (rootUpto L n lv) := by
  have h0 : 0 < 2 ^ lv := Nat.pow_pos (by omega)
  have h3 := bit_mod n lv
  have hr := Nat.mod_lt n h0
  have hle := Nat.mod_le n (2 ^ (lv + 1))
  rw [h, Nat.one_mul] at h3
  rw [root_node h]
  unfold rootUpto
  rw [if_neg (by omega)]
  split
  · rename_i hz
    rw [hz, Nat.sub_zero]
  · rename_i hz
    rw [hashL_sl (by omega) hn]
    have hs : splitN (n - (n - n % 2 ^ (lv + 1))) = 2 ^ lv := by
      rw [show n - (n - n % 2 ^ (lv + 1)) = n % 2 ^ (lv + 1) by omega]
      exact (splitN_unique (by omega) (by omega)).symm
    rw [hs, show n - n % 2 ^ (lv + 1) + 2 ^ lv = n - n % 2 ^ lv by omega]

set_option maxRecDepth 100000 in
set_option maxHeartbeats 4000000 in
theorem tlroot_any (S : Nat → Prop) (tb h : Nat) (L : List (List UInt8)) (n : Nat) (w : World) (hn : 1 ≤ n) (he : n ≤ L.length) (ht : TileTree S w tb h L) (hd : Dig w) :
    Calls Tryd.prog 32 #[.pointer (some ⟨tb, 0, none⟩), .int .i64 (n : Int)] w fun x w' => x = .returned (.tuple #[.string (str (hashL (sl L 0 n))), .int .i64 0]) ∧ Fresh w w' := by
  obtain ⟨mb, hc⟩ := ht.at_.cell
  have hlen := ht.len
  have c1 := (cell_at hc 1).trans (show _ = some (Value.int .i64 (L.length : Int)) from rfl)
  have hl := fun W => len_any n W (by omega)
  have hlb : lenN n ≤ 21 := by
    rw [lenN_pos hn]
    have : Nat.log2 n < 21 := (Nat.log2_lt (by omega)).2 (by omega)
    omega
  have hend := rootUpto_all L n hn
  obtain ⟨R, hR⟩ : ∃ R, hashL (sl L 0 n) = R := ⟨_, rfl⟩
  obtain ⟨B, hB⟩ : ∃ B, lenN n = B := ⟨_, rfl⟩
  rw [hR] at hend ⊢
  rw [hB] at hend hl hlb
  have HL := hid hl
  have HEND := hid hend
  have HN := hid hn
  have HE := hid he
  have HLEN := hid hlen
  have HLB := hid hlb
  have q1 : ¬ (n : Int) < 0 := by omega
  have q2 : ¬ (L.length : Int) < (n : Int) := by omega
  have q3 : ((n : Int) == 0) = false := by simpa using (by omega : n ≠ 0)
  have q4 : (n : Int) ≤ 1048576 := by omega
  clear hl hend hn he hlen hlb hR hB hc
  go_enter Tryd.func32, Tryd.ntmps32
  go_wp2_with fail
  refine (HL.out w).mono ?_
  rintro x w1 ⟨rfl, f1⟩
  go_wp2_with fail
  have HTT := hid ht
  have HDD := hid hd
  clear ht hd c1
  go_loopw [6, 27] (fun o i wr => ∃ j : Nat, i = .int .i64 (j : Int) ∧ j ≤ B ∧ o = .string (str (rootUpto L n j)) ∧ Fresh w wr) (fun _ i _ => B - (intOf i).toNat)
  case atStart => exact ⟨0, rfl, Nat.zero_le _, by rw [rootUpto_zero]; rfl, f1⟩
  case round =>
    obtain ⟨j, rfl, hj, rfl, fr⟩ := hrel
    by_cases hlt : j < B
    · have hlti : (j : Int) < (B : Int) := by omega
      have hj64 : (j : Int) ≤ 64 := by have := HLB.out; omega
      have hQle := Nat.div_le_self n (2 ^ j)
      have hQmono := Nat.div_le_div_right (c := 2 ^ j) HE.out
      have hQi : (n : Int) / 2 ^ j = ((n / 2 ^ j : Nat) : Int) := by simp
      have hand := and_nat (a := n / 2 ^ j) (b := 1) (by have := HE.out; have := HLEN.out; omega) (by omega)
      rw [Nat.and_one_is_mod, show ((1 : Nat) : Int) = 1 from rfl] at hand
      have hev := rootUpto_even (L := L) (n := n) (lv := j)
      have hod := rootUpto_odd (L := L) (n := n) (lv := j) HE.out
      have hnode := fun W (q : TileTree S W tb h L) (q0 : n / 2 ^ j - 1 < L.length / 2 ^ j) => tlnode_any S tb h j (n / 2 ^ j - 1) _ _ _ _ W q.at_ (by have := HLB.out; omega) (by have := HE.out; have := HLEN.out; omega) q0
      obtain ⟨Q, hQ⟩ : ∃ Q, n / 2 ^ j = Q := ⟨_, rfl⟩
      rw [hQ] at hQi hand hev hod hnode hQle hQmono
      have hQb : (Q : Int) ≤ 1048576 := by have := HE.out; have := HLEN.out; omega
      have HLT := hid hlt
      by_cases hb : Q % 2 = 0
      · have hr := hev hb
        rw [hb, show ((0 : Nat) : Int) = 0 from rfl] at hand
        have HR := hid hr
        clear hev hod hnode hQ hr hb hlt hj hQle hQmono
        go_wp2_with fail
        go_roundw
        case rel => exact ⟨j + 1, by simp, HLT.out, by rw [HR.out], fr⟩
        case measure => have := HLT.out; simp [intOf]; omega
      · have hb1 : Q % 2 = 1 := by omega
        have hr := hod hb1
        rw [hb1, show ((1 : Nat) : Int) = 1 from rfl] at hand
        have hnode := fun W q => hnode W q (by omega)
        rw [show ((Q - 1 : Nat) : Int) = (Q : Int) - 1 from by omega] at hnode
        have hl32 : (nodeOf L j (Q - 1)).length = 32 := nodeOf_len HTT.out.all _ _
        obtain ⟨NV, hNV⟩ : ∃ NV, nodeOf L j (Q - 1) = NV := ⟨_, rfl⟩
        rw [hNV] at hnode hr hl32
        have HNODE := hid hnode
        have H32 := hid hl32
        have hQ1 : (1 : Int) ≤ (Q : Int) := by omega
        by_cases hz : n % 2 ^ j = 0
        · rw [if_pos hz] at hr
          have ho : rootUpto L n j = [] := by unfold rootUpto; rw [if_pos hz]
          rw [ho]
          have he0 : (str ([] : List UInt8)).toList.isEmpty = true := by rw [str_toList]; rfl
          have HR := hid hr
          clear hev hod hnode hQ hr hb hb1 hlt hj hQle hQmono hNV hl32 hz ho
          go_wp2_with fail
          refine (HNODE.out wr (HTT.out.fresh fr)).mono ?_
          rintro x w2 ⟨rfl, f2⟩
          go_wp2_with fail
          go_roundw
          case rel => exact ⟨j + 1, by simp, HLT.out, by rw [HR.out], fr.trans f2⟩
          case measure => have := HLT.out; simp [intOf]; omega
        · rw [if_neg hz] at hr
          have ho32 : (rootUpto L n j).length = 32 := by
            unfold rootUpto
            rw [if_neg hz]
            exact hashL_len (fun x hx => HTT.out.all x (List.mem_of_mem_drop (List.mem_of_mem_take hx)))
          obtain ⟨O, hO⟩ : ∃ O, rootUpto L n j = O := ⟨_, rfl⟩
          rw [hO] at hr ho32 ⊢
          have hne : (str O).toList.isEmpty = false := by
            rw [str_toList]
            cases O with
            | nil => simp at ho32
            | cons _ _ => rfl
          have HR := hid hr
          have HO := hid ho32
          clear hev hod hnode hQ hr hb hb1 hlt hj hQle hQmono hNV hl32 hz hO ho32
          go_wp2_with fail
          refine (HNODE.out wr (HTT.out.fresh fr)).mono ?_
          rintro x w2 ⟨rfl, f2⟩
          go_wp2_with fail
          refine (pair_any NV O H32.out HO.out w2 ((HDD.out.fresh fr).fresh f2)).mono ?_
          rintro x w3 ⟨rfl, f3⟩
          go_wp2_with fail
          go_roundw
          case rel => exact ⟨j + 1, by simp, HLT.out, by rw [HR.out], (fr.trans f2).trans f3⟩
          case measure => have := HLT.out; simp [intOf]; omega
    · have hje : j = B := by omega
      have hnl : ¬ (j : Int) < (B : Int) := by omega
      have HR := HEND.out
      rw [← hje] at HR
      rw [HR]
      clear HR hje hlt hj
      go_wp2_with fail
      go_ret2
      exact ⟨rfl, fr⟩
end Go.Proofs.YtgikabafaocemaaDoor
