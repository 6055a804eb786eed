/-
  The document's device: Crash.
-/
import Derived.Test.YtbhienlalpbflaaMDvD
import Derived.Test.YtbhienlalpbflaaDvCrash
namespace Go.Proofs.Ytbhienlalpbflaa
open Go.RowKit Go.Maps

theorem wrow_at {w : World} {v : Value} {ws : List (Int × List UInt8)} {n : Nat} (h : w.ownsRow 0 69 2 v n (writeCells ws)) (hn : n = ws.length) : ∃ ao cap, v = .slice ao ws.length cap ∧ ∀ (k : Nat) (x : Int × List UInt8), ws[k]? = some x → ∃ bb, ao = some ⟨bb, 0, none⟩ ∧ v.ownBlock = some bb ∧ bb < w.heap.size ∧ w.cell? ⟨bb, k * 2, none⟩ = some (.int .i64 x.1) ∧ w.cell? ⟨bb, k * 2 + 1, none⟩ = some (.string (str x.2)) := by
  subst hn
  obtain ⟨so, scap, rfl⟩ := ownsRow_slice h
  refine ⟨so, scap, rfl, fun k x hx => ?_⟩
  obtain ⟨q1, q2⟩ := writeCells_at _ k x hx
  have hk : k < ws.length := (List.getElem?_eq_some_iff.1 hx).1
  rcases h.2 with ⟨_, h0⟩ | ⟨g, cap, cur, he, _, hb, h2, h3, h4, h5⟩
  · omega
  · simp only [Value.slice.injEq] at he
    obtain ⟨rfl, -, rfl⟩ := he
    rw [← h5, List.getElem?_take] at q1 q2
    refine ⟨g, rfl, rfl, lt_of_block hb, ?_, ?_⟩
    · rw [cell_at hb, Nat.mul_comm]
      split at q1
      · simpa using q1
      · cases q1
    · rw [cell_at hb, Nat.mul_comm]
      split at q2
      · simpa using q2
      · cases q2
theorem stayOf_isSome : ∀ (m : Nat) (ks : List (Int × Int)), ks.length = m → ∀ q, (stayOf ks q).isSome = true ↔ ∃ k ∈ ks, k.1 = q
  | 0, ks, h, q => by
    rw [List.length_eq_zero_iff.1 h]
    simp [stayOf]
  | m + 1, ks, h, q => by
    obtain ⟨r, k, rfl⟩ : ∃ r k, ks = r ++ [k] := ⟨ks.dropLast, ks.getLast (by intro e; rw [e] at h; cases h), (List.dropLast_concat_getLast _).symm⟩
    have ih := stayOf_isSome m r (by simpa using h) q
    rw [stayOf_snoc]
    simp only [List.mem_append, List.mem_singleton]
    by_cases e : q = k.1
    · rw [if_pos e]
      exact ⟨fun _ => ⟨k, .inr rfl, e.symm⟩, fun _ => rfl⟩
    · rw [if_neg e, ih]
      exact ⟨fun ⟨y, h1, h2⟩ => ⟨y, .inl h1, h2⟩, fun ⟨y, h1, h2⟩ => h1.elim (fun h1 => ⟨y, h1, h2⟩) fun h1 => absurd (by rw [← h2, h1]) e⟩
theorem keepsOk_snoc {np m : Nat} {ks : List (Int × Int)} {k : Int × Int} (hk : ks[m]? = some k) (h1 : KeepsOk np (ks.take m)) (h2 : ¬ BadKeep (stayOf (ks.take m)) np k) : KeepsOk np (ks.take (m + 1)) := fun i x hx => by
  have hml : m < ks.length := (List.getElem?_eq_some_iff.1 hk).1
  have htk : ks.take (m + 1) = ks.take m ++ [k] := by rw [List.take_add_one, hk]; rfl
  rw [htk] at hx ⊢
  have hl1 : (ks.take m).length = m := by rw [List.length_take]; omega
  by_cases hi : i < m
  · rw [List.getElem?_append_left (by omega)] at hx
    rw [List.take_append_of_le_length (by omega)]
    exact h1 i x hx
  · have hi2 : i = m := by
      have := (List.getElem?_eq_some_iff.1 hx).1
      simp at this
      omega
    subst hi2
    rw [List.getElem?_append_right (by omega), hl1] at hx
    simp at hx
    rw [List.take_append_of_le_length (by omega), List.take_of_length_le (by omega), ← hx]
    exact h2
/-- what lasts, when so many of the keeps have been dealt with -/
def rmix (W : List (Int × List UInt8)) (ks : List (Int × Int)) (l : List (List UInt8)) : Nat → List (List UInt8)
  | 0 => l
  | m + 1 => match ks[m]? with
    | some k => match W[k.1.toNat]? with
      | some x => (rmix W ks l m).set x.1.toNat (x.2.take k.2.toNat ++ (((rmix W ks l m)[x.1.toNat]?).getD []).drop k.2.toNat)
      | none => rmix W ks l m
    | none => rmix W ks l m
theorem rmix_len (W : List (Int × List UInt8)) (ks : List (Int × Int)) (l : List (List UInt8)) : ∀ m, (rmix W ks l m).length = l.length
  | 0 => rfl
  | m + 1 => by
    unfold rmix
    split
    · split
      · rw [List.length_set, rmix_len W ks l m]
      · exact rmix_len W ks l m
    · exact rmix_len W ks l m
theorem rmix_succ {W : List (Int × List UInt8)} {ks : List (Int × Int)} {l : List (List UInt8)} {m j b p : Nat} {s t : List UInt8} (hk : ks[m]? = some ((j : Int), (b : Int))) (hw : W[j]? = some ((p : Int), s)) (ht : (rmix W ks l m)[p]? = some t) :
    rmix W ks l (m + 1) = (rmix W ks l m).set p (s.take b ++ t.drop b) := by
  simp only [rmix, hk, Int.toNat_natCast, hw, ht, Option.getD_some]
theorem rmix_all {W : List (Int × List UInt8)} {ks : List (Int × Int)} {l : List (List UInt8)} {P : Nat → List UInt8 → Prop} (h0 : ∀ (p : Nat) (t : List UInt8), l[p]? = some t → P p t)
    (h1 : ∀ (m j b p : Nat) (s t : List UInt8), ks[m]? = some ((j : Int), (b : Int)) → W[j]? = some ((p : Int), s) → P p t → P p (s.take b ++ t.drop b)) (hn : ∀ (m : Nat) (k : Int × Int), ks[m]? = some k → 0 ≤ k.1 ∧ 0 ≤ k.2) (hW : ∀ (j : Nat) (x : Int × List UInt8), W[j]? = some x → 0 ≤ x.1 ∧ x.1 < l.length) : ∀ (m p : Nat) (t : List UInt8), (rmix W ks l m)[p]? = some t → P p t
  | 0, p, t, h => h0 p t h
  | m + 1, p, t, h => by
    have ih := rmix_all h0 h1 hn hW m
    cases hk : ks[m]? with
    | none =>
      simp only [rmix, hk] at h
      exact ih p t h
    | some k =>
      obtain ⟨k1, k2⟩ := k
      have := hn m _ hk
      simp only at this
      obtain ⟨j, rfl⟩ : ∃ j : Nat, k1 = (j : Int) := ⟨k1.toNat, by omega⟩
      obtain ⟨b, rfl⟩ : ∃ b : Nat, k2 = (b : Int) := ⟨k2.toNat, by omega⟩
      cases hw : W[j]? with
      | none =>
        simp only [rmix, hk, Int.toNat_natCast, hw] at h
        exact ih p t h
      | some x =>
        obtain ⟨x1, s⟩ := x
        have hx := hW j _ hw
        simp only at hx
        obtain ⟨q, rfl⟩ : ∃ q : Nat, x1 = (q : Int) := ⟨x1.toNat, by omega⟩
        obtain ⟨u, hu⟩ : ∃ u, (rmix W ks l m)[q]? = some u := ⟨_, List.getElem?_eq_getElem (by rw [rmix_len]; omega)⟩
        rw [rmix_succ hk hw hu] at h
        by_cases e : q = p
        · subst e
          rw [List.getElem?_set_self (by rw [rmix_len]; omega)] at h
          cases h
          exact h1 m j b q s u hk hw (ih q u hu)
        · rw [List.getElem?_set_ne e] at h
          exact ih p t h
def clrIs (is : List Bool) (n : Nat) : List Bool := List.replicate n false ++ is.drop n
theorem clrIs_len {is : List Bool} {n : Nat} (h : n ≤ is.length) : (clrIs is n).length = is.length := by simp [clrIs]; omega
theorem clrIs_succ {is : List Bool} {n : Nat} (h : n < is.length) : clrIs is (n + 1) = (clrIs is n).set n false := by
  have e1 : is.drop n = is[n] :: is.drop (n + 1) := List.drop_eq_getElem_cons h
  unfold clrIs
  rw [List.set_append_right _ _ (by simp), e1]
  simp only [List.length_replicate, Nat.sub_self, List.replicate_succ', List.append_assoc]
  rfl
theorem clrIs_all {is : List Bool} {n : Nat} (h : n = is.length) : clrIs is n = List.replicate n false := by simp [clrIs, h]

set_option maxRecDepth 100000 in
set_option maxHeartbeats 8000000 in
theorem rcrash_any (B : Nat → Prop) (x : Nat) (l : List (List UInt8)) (is : List Bool) (ps : List (List UInt8)) (left : Int) (dead : Bool) (v : Value) (ks : List (Int × Int)) (w : World) (h : RDev B w x l is ps left dead) (hl0 : 0 < l.length) (hll : l.length ≤ 4096)
    (hl256 : ∀ s ∈ l, s.length = 256) (hp256 : ∀ (p : Nat) (s : List UInt8), is[p]? = some true → ps[p]? = some s → s.length = 256) (hv : KeepsAt w v ks) (hvb : 0 < ks.length → ∀ a n c, v = .slice (some a) n c → ¬ B a.block) (hkl : ks.length ≤ 1000000000) :
    Calls Try.prog 62 #[.pointer (some ⟨x, 0, none⟩), v] w fun e w' => (¬ KeepsOk (rpend is ps l.length).length ks ∧ e = .returned (.int .i64 92) ∧ Fresh w w') ∨
      (KeepsOk (rpend is ps l.length).length ks ∧ e = .returned (.int .i64 0) ∧ RDev B w' x (rmix (rpend is ps l.length) ks l ks.length) (List.replicate is.length false) ps 0 false ∧ Keeps B w w') := by
  have HPC := hid (rpending_any B x l is ps left dead w h hll)
  have hWp : ∀ (j : Nat) (y : Int × List UInt8), (rpend is ps l.length)[j]? = some y → ∃ p : Nat, y.1 = (p : Int) ∧ p < l.length ∧ y.2.length = 256 := fun j y hy => by
    obtain ⟨p, h1, h2, h3, h4⟩ := rpend_mem is ps _ y (List.mem_of_getElem? hy)
    have hlp : p < ps.length := by obtain ⟨_, _, _, _, _, _, _, _, _, q7, _⟩ := h.ex; omega
    refine ⟨p, h1, h2, ?_⟩
    rw [h4, List.getElem?_eq_getElem hlp]
    exact hp256 p _ h3 (List.getElem?_eq_getElem hlp)
  have hWl := rpend_len is ps l.length
  obtain ⟨W, hW⟩ : ∃ W, rpend is ps l.length = W := ⟨_, rfl⟩
  rw [hW] at HPC hWp hWl
  rw [hW]
  have hisl : is.length = l.length := by obtain ⟨_, _, _, _, _, _, _, _, q6, _, _⟩ := h.ex; exact q6
  have HWP := hid hWp
  have HH := hid h
  have HL256 := hid hl256
  obtain ⟨aok, capk, rfl, hkc⟩ := hv
  have hnB : 0 < ks.length → ∀ a, aok = some a → ¬ B a.block := fun h0 a ha => hvb h0 a ks.length capk (by rw [ha])
  have HKC := hid hkc
  have HNB := hid hnB
  clear hW hWp h hl256 hp256 hkc hnB hvb
  go_enter Try.func62, Try.ntmps62
  go_wp2_with fail
  refine HPC.out.mono ?_
  rintro e w1 ⟨v1, rfl, hrow, hnew, f1⟩
  obtain ⟨aow, capw, rfl, hcw⟩ := wrow_at hrow rfl
  have HCW := hid hcw
  have HNW := hid hnew
  have HF1 := hid f1
  clear HPC hcw hnew hrow f1
  go_wp2_with fail
  go_loopw [6] (fun i wr => ∃ m : Nat, i = .int .i64 (m : Int) ∧ m ≤ ks.length ∧ Hid (KeepsOk W.length (ks.take m)) ∧ Fresh w1 wr) (fun i _ => ks.length - (intOf i).toNat)
  case atStart => exact ⟨0, rfl, by omega, (fun m k h => by (rw [List.take_zero] at h; cases h)), Keeps.refl _ _⟩
  case round =>
    obtain ⟨m, rfl, hm, HOK, fr⟩ := hrel
    by_cases hlt : m < ks.length
    · obtain ⟨⟨N, b⟩, hk⟩ : ∃ k, ks[m]? = some k := ⟨ks[m], by simp⟩
      obtain ⟨bk, offk, rfl, hbk, hk1, hk2⟩ := HKC.out m (N, b) hk
      simp only at hk1 hk2
      have hk1o := hk1
      have hk1 := ((HF1.out.trans fr).cell (p := ⟨bk, offk + m * 2, none⟩) hbk (fun h => h)).trans hk1
      have hk2 := ((HF1.out.trans fr).cell (p := ⟨bk, offk + m * 2 + 1, none⟩) hbk (fun h => h)).trans hk2
      have hbad : BadKeep (stayOf (ks.take m)) W.length (N, b) → ¬ KeepsOk W.length ks := fun h1 h2 => h2 m (N, b) hk h1
      have hsn := fun h2 => keepsOk_snoc hk HOK.out h2
      have htw := stayOf_isSome _ (ks.take m) rfl N
      unfold BadKeep at hbad hsn
      simp only at hbad hsn
      have HB := hid hbad
      have HSN := hid hsn
      have HTW := hid htw
      have HK := hid hk
      clear hbad hsn htw hk
      by_cases b1 : N < 0
      · go_wp2_with fail
        go_ret
        exact .inl ⟨HB.out (.inr (.inl b1)), rfl, HF1.out.trans fr⟩
      · by_cases b2 : (W.length : Int) ≤ N
        · go_wp2_with fail
          go_ret
          exact .inl ⟨HB.out (.inr (.inr (.inl b2))), rfl, HF1.out.trans fr⟩
        · by_cases b3 : b < 0
          · go_wp2_with fail
            go_ret
            exact .inl ⟨HB.out (.inr (.inr (.inr (.inl b3)))), rfl, HF1.out.trans fr⟩
          · by_cases b4 : 256 < b
            · go_wp2_with fail
              go_ret
              exact .inl ⟨HB.out (.inr (.inr (.inr (.inr b4)))), rfl, HF1.out.trans fr⟩
            · go_wp2_with fail
              go_loopw [7] (fun i wr => ∃ k : Nat, i = .int .i64 (k : Int) ∧ k ≤ m ∧ Hid (∀ j, j < k → ∀ y, ks[j]? = some y → y.1 ≠ N) ∧ Fresh w1 wr) (fun i _ => m - (intOf i).toNat)
              case atStart => exact ⟨0, rfl, by omega, (fun j h => absurd h (by omega)), fr⟩
              case round =>
                obtain ⟨k, rfl, hkm, HNO, fr2⟩ := hrel
                by_cases hlt2 : k < m
                · obtain ⟨⟨N', b'⟩, hk'⟩ : ∃ k', ks[k]? = some k' := ⟨ks[k], by simp⟩
                  obtain ⟨bk', offk', hbb, hbk', hk1', hk2'⟩ := HKC.out k (N', b') hk'
                  cases hbb
                  have kk1 := ((HF1.out.trans fr2).cell (p := ⟨bk, offk + m * 2, none⟩) hbk (fun h => h)).trans hk1o
                  have hk1' := ((HF1.out.trans fr2).cell (p := ⟨bk, offk + k * 2, none⟩) hbk (fun h => h)).trans hk1'
                  have hk2' := ((HF1.out.trans fr2).cell (p := ⟨bk, offk + k * 2 + 1, none⟩) hbk (fun h => h)).trans hk2'
                  simp only at hk1' hk2'
                  have HK' := hid hk'
                  clear hk'
                  by_cases hNN : N' = N
                  · go_wp2_with fail
                    go_region
                    all_goals
                      go_wp2
                      go_ret
                      refine .inl ⟨HB.out (.inl (HTW.out.2 ⟨(N', b'), ?_, hNN⟩)), rfl, (HF1.out.trans fr2).drew⟩
                      exact List.mem_of_getElem? (i := k) (by rw [List.getElem?_take, if_pos hlt2]; exact HK'.out)
                  · have HNO2 : Hid (∀ j, j < k + 1 → ∀ y, ks[j]? = some y → y.1 ≠ N) := fun j hj y hy => by
                      by_cases e : j = k
                      · subst e
                        rw [HK'.out] at hy
                        cases hy
                        exact hNN
                      · exact HNO.out j (by omega) y hy
                    clear HNO
                    go_wp2_with fail
                    go_region
                    all_goals
                      go_wp2
                      go_roundw
                      case rel => exact ⟨k + 1, by go_num, by omega, HNO2, fr2.drew⟩
                      case measure => simp [intOf]; omega
                · obtain rfl : k = m := by omega
                  have HOK2 : Hid (KeepsOk W.length (ks.take (k + 1))) := HSN.out (fun h => by
                    rcases h with h | h | h | h | h
                    · obtain ⟨y, hy, e⟩ := HTW.out.1 h
                      obtain ⟨j, hj⟩ := List.getElem?_of_mem hy
                      have hj2 : j < k := by have := (List.getElem?_eq_some_iff.1 hj).1; simp at this; omega
                      rw [List.getElem?_take, if_pos hj2] at hj
                      exact HNO.out j hj2 y hj e
                    all_goals omega)
                  clear HNO
                  go_wp2_with fail
                  go_roundw
                  case rel => exact ⟨k + 1, by go_num, by omega, HOK2, fr2⟩
                  case measure => simp [intOf]; omega
    · obtain rfl : m = ks.length := by omega
      have HOKK : Hid (KeepsOk W.length ks) := by
        have := HOK.out
        rw [List.take_length] at this
        exact this
      obtain ⟨g1, c1, g2, c2, g3, c3, e1', r1, -, -⟩ := HH.out.page (p := 0) (List.getElem?_eq_getElem (by omega)) (List.getElem?_eq_getElem (by omega)) (List.getElem?_eq_getElem (by obtain ⟨_, _, _, _, _, _, _, _, _, q7, _⟩ := HH.out.ex; omega))
      have hgx : x ≠ g1 := fun e => HH.out.neL e1' e
      have hBg : B g1 := (HH.out.setL e1' 0 []).2
      have hg1 := World.block_lt_of_cell? w _ r1
      have hg1 : g1 < w.heap.size := hg1
      have HE1 := hid e1'
      have HFZ := hid (HF1.out.trans fr)
      have HFR := hid fr
      clear r1 e1' fr HOK
      go_wp2_with fail
      go_loopw [8] (fun i wx => ∃ m : Nat, i = .int .i64 (m : Int) ∧ m ≤ ks.length ∧ RDev B wx x (rmix W ks l m) is ps left dead ∧ Keeps (fun q => q = g1) wr wx) (fun i _ => ks.length - (intOf i).toNat)
      case atStart => exact ⟨0, rfl, by omega, HH.out.fresh HFZ.out, Keeps.refl _ _⟩
      case round =>
        obtain ⟨m, rfl, hm, hD, kr⟩ := hrel
        have kw : Keeps (fun q => q = g1) w wr := (HFZ.out.mono (fun _ _ h => h.elim)).trans kr
        have kw1 : Keeps (fun q => q = g1) w1 wr := (HFR.out.mono (fun _ _ h => h.elim)).trans kr
        have e1' := kw.at_ HE1.out hgx
        by_cases hlt : m < ks.length
        · obtain ⟨⟨N, b⟩, hk⟩ : ∃ k, ks[m]? = some k := ⟨ks[m], by simp⟩
          obtain ⟨bk, offk, rfl, hbk, hk1, hk2⟩ := HKC.out m (N, b) hk
          have hbg : bk ≠ g1 := fun e => HNB.out (by omega) _ rfl (by show B bk; rw [e]; exact hBg)
          have hk1 := (kw.cell (p := ⟨bk, offk + m * 2, none⟩) hbk hbg).trans hk1
          have hk2 := (kw.cell (p := ⟨bk, offk + m * 2 + 1, none⟩) hbk hbg).trans hk2
          have hgood := HOKK.out m (N, b) hk
          have hgood1 : 0 ≤ N ∧ N < W.length ∧ 0 ≤ b ∧ b ≤ 256 := by
            unfold BadKeep at hgood
            simp only at hgood
            omega
          obtain ⟨q1, q2, q3, q4⟩ := hgood1
          obtain ⟨j, rfl⟩ : ∃ j : Nat, N = (j : Int) := ⟨N.toNat, by omega⟩
          obtain ⟨c, rfl⟩ : ∃ c : Nat, b = (c : Int) := ⟨b.toNat, by omega⟩
          have hj : j < W.length := by omega
          obtain ⟨⟨pg, s⟩, hws⟩ : ∃ y, W[j]? = some y := ⟨_, List.getElem?_eq_getElem hj⟩
          obtain ⟨bb, rfl, hob, hbb, hw1, hw2⟩ := HCW.out j (pg, s) hws
          have hbw := HNW.out bb hob
          have hbbg : bb ≠ g1 := by omega
          have hw1 := (kw1.cell (p := ⟨bb, j * 2, none⟩) hbb hbbg).trans hw1
          have hw2 := (kw1.cell (p := ⟨bb, j * 2 + 1, none⟩) hbb hbbg).trans hw2
          obtain ⟨p, hpe, hpl, hs256⟩ := HWP.out j (pg, s) hws
          simp only at hpe hs256 hw1 hw2 hk1 hk2
          subst hpe
          obtain ⟨t, ht⟩ : ∃ t, (rmix W ks l m)[p]? = some t := ⟨_, List.getElem?_eq_getElem (by rw [rmix_len]; exact hpl)⟩
          have ht256 : t.length = 256 := rmix_all (P := fun _ t => t.length = 256) (fun p t h => HL256.out t (List.mem_of_getElem? h)) (fun m j b p s t _ h1 h2 => by
              obtain ⟨_, _, _, h3⟩ := HWP.out j _ h1
              simp only at h3
              simp only [List.length_append, List.length_take, List.length_drop]
              omega) (fun m k h => by
              have := HOKK.out m k h
              unfold BadKeep at this
              omega) (fun j x h => by
              obtain ⟨p, h1, h2, _⟩ := HWP.out j x h
              omega) m p t ht
          have hmix := rmix_succ hk hws ht
          obtain ⟨g1', c1', g2', c2', g3', c3', e2', r1', -, -⟩ := hD.page (p := p) ht (List.getElem?_eq_getElem (by omega)) (List.getElem?_eq_getElem (by obtain ⟨_, _, _, _, _, _, _, _, _, q7, _⟩ := hD.ex; rw [rmix_len] at q7; omega))
          rw [e1'] at e2'
          simp only [Option.some.injEq, Obj.cells.injEq, and_true, Array.mk.injEq, List.cons.injEq, Value.slice.injEq, Addr.mk.injEq] at e2'
          obtain rfl := e2'.1.1
          clear e2'
          have hsz1 : (str s).size = 256 := by rw [str_size]; exact hs256
          have hsz2 : (str t).size = 256 := by rw [str_size]; exact ht256
          have hval : (str s).extract 0 c ++ (str t).extract c 256 = str (s.take c ++ t.drop c) := by
            have e1 := str_from t c
            rw [ht256] at e1
            rw [str_to, e1, str_join]
          have fa : Fresh wr (wr.alloc (.cells #[.int .i64 (p : Int), .string (str s)] 69)) := (Keeps.refl _ wr).alloc _
          have hbox := heap_at_alloc (w := wr) (c := #[.int .i64 (p : Int), .string (str s)]) (e := 69) rfl
          have e3 := fa.at_ e1' (fun h => h)
          have hDa := hD.fresh fa
          have hk2a := (fa.cell (p := ⟨bk, offk + m * 2 + 1, none⟩) (World.block_lt_of_cell? wr _ hk2) (fun h => h)).trans hk2
          have r1a := (fa.cell (p := ⟨g1, p, none⟩) (World.block_lt_of_cell? wr _ r1') (fun h => h)).trans r1'
          have d0a := cell_at e3 0
          have b0a : (wr.alloc (.cells #[.int .i64 (p : Int), .string (str s)] 69)).cell? ⟨wr.heap.size, 0, none⟩ = some (.int .i64 (p : Int)) := by rw [cell_at hbox 0]; rfl
          have b1a : (wr.alloc (.cells #[.int .i64 (p : Int), .string (str s)] 69)).cell? ⟨wr.heap.size, 1, none⟩ = some (.string (str s)) := by rw [cell_at hbox 1]; rfl
          simp at d0a
          have z1a := hDa.freeL e3 p
          obtain ⟨m1, -⟩ := hDa.setL e3 p (s.take c ++ t.drop c)
          rw [← hmix] at m1
          have k1 : Keeps (fun q => q = g1) _ ((wr.alloc (.cells #[.int .i64 (p : Int), .string (str s)] 69)).setCell ⟨g1, p, none⟩ (.string (str (s.take c ++ t.drop c)))) := Keeps.setCell (S := fun q => q = g1) (p := ⟨g1, p, none⟩) (kr.trans (fa.mono (fun _ _ h => h.elim))) (fun _ => rfl) _
          have HVAL := hid hval
          have HM1 := hid m1
          have HK1 := hid k1
          have d0' : (wr.alloc (.cells #[.int .i64 (p : Int), .string (str s)] 69)).drew.cell? ⟨x, 0, none⟩ = _ := d0a
          have b0' : (wr.alloc (.cells #[.int .i64 (p : Int), .string (str s)] 69)).drew.cell? ⟨wr.heap.size, 0, none⟩ = _ := b0a
          have b1' : (wr.alloc (.cells #[.int .i64 (p : Int), .string (str s)] 69)).drew.cell? ⟨wr.heap.size, 1, none⟩ = _ := b1a
          have r1'' : (wr.alloc (.cells #[.int .i64 (p : Int), .string (str s)] 69)).drew.cell? ⟨g1, p, none⟩ = _ := r1a
          have z1' : (wr.alloc (.cells #[.int .i64 (p : Int), .string (str s)] 69)).drew.frozen? ⟨g1, p, none⟩ = _ := z1a
          have hp0 : (0 : Int) ≤ (p : Int) := by omega
          have hpll : (p : Int) < (l.length : Int) := by omega
          clear hval hD kr hmix hgood kw kw1 hws hk ht hs256 ht256 m1 k1 fa hbox hDa e3 e1' r1' HKC HCW HNW HWP
          go_wp2_with fail
          go_region
          all_goals
            rw [HVAL.out]
            go_wp2
            go_roundw
            case rel => exact ⟨m + 1, by go_num, by omega, HM1.out.fresh (Keeps.refl _ _).drew, HK1.out.drew⟩
            case measure => simp [intOf]; omega
        · obtain rfl : m = ks.length := by omega
          have kB : Keeps B w wr := kw.mono fun q _ h => by rw [show q = g1 from h]; exact hBg
          have HKB := hid kB
          have HD := hid hD
          clear kB kw kw1 kr e1' hD
          go_wp2_with fail
          go_loopw [11] (fun i wx => ∃ n : Nat, i = .int .i64 (n : Int) ∧ n ≤ l.length ∧ RDev B wx x (rmix W ks l ks.length) (clrIs is n) ps left dead ∧ Keeps B w wx) (fun i _ => l.length - (intOf i).toNat)
          case atStart => exact ⟨0, rfl, by omega, by simpa [clrIs] using HD.out, HKB.out⟩
          case round =>
            obtain ⟨n, rfl, hn, hD, kr⟩ := hrel
            by_cases hlt : n < l.length
            · obtain ⟨g1', c1', g2', c2', g3', c3', e2', -, r2', -⟩ := hD.page (p := n) (List.getElem?_eq_getElem (by rw [rmix_len]; exact hlt)) (List.getElem?_eq_getElem (by rw [clrIs_len (by omega)]; omega)) (List.getElem?_eq_getElem (by obtain ⟨_, _, _, _, _, _, _, _, _, q7, _⟩ := hD.ex; rw [rmix_len] at q7; omega))
              rw [rmix_len] at e2'
              have d0 := cell_at e2' 0
              have d1 := cell_at e2' 1
              simp at d0 d1
              have z2 := hD.freeIs e2' n
              obtain ⟨m1, b1⟩ := hD.setIs e2' n false
              rw [← clrIs_succ (by omega)] at m1
              have HM1 := hid m1
              have HK1 := hid (Keeps.setCell (p := ⟨g2', n, none⟩) kr (fun _ => b1) (.bool false))
              clear e2' m1 b1 hD kr
              go_wp2_with fail
              go_roundw
              case rel => exact ⟨n + 1, by go_num, by omega, HM1.out, HK1.out⟩
              case measure => simp [intOf]; omega
            · obtain rfl : n = l.length := by omega
              rw [clrIs_all hisl.symm, ← hisl] at hD
              obtain ⟨lv', iv', pv', e4, -, -, -, -, -, -, hBx⟩ := hD.ex
              obtain ⟨ao4, cp4, hlv⟩ : ∃ ao4 cp4, lv' = .slice ao4 l.length cp4 := by
                obtain ⟨_, _, _, e5, e6, _⟩ := hD.ex
                rw [e4] at e5
                simp only [Option.some.injEq, Obj.cells.injEq, and_true, Array.mk.injEq, List.cons.injEq] at e5
                obtain ⟨rfl, -⟩ := e5
                obtain ⟨a, c, h⟩ := ownsRow_slice e6.1
                rw [rmix_len] at h
                exact ⟨a, c, h⟩
              subst hlv
              have d0 := cell_at e4 0
              have d3 := cell_at e4 3
              have d4 := cell_at e4 4
              have z3 := free_at e4 3
              have z4 := free_at e4 4
              simp at d0 d3 d4
              have k1 : Keeps (fun q => q = x) wr ((wr.setCell ⟨x, 3, none⟩ (.int .i64 0)).setCell ⟨x, 4, none⟩ (.bool false)) := Keeps.setCell (S := fun q => q = x) (p := ⟨x, 4, none⟩) (Keeps.setCell (S := fun q => q = x) (p := ⟨x, 3, none⟩) (Keeps.refl _ wr) (fun _ => rfl) _) (fun _ => rfl) _
              have HM1 := hid (hD.put (left' := 0) (dead' := false) k1 fun _ _ _ h => heap_setCell_at (heap_setCell_at h 3 _) 4 _)
              have HK1 := hid (kr.trans (k1.mono fun q _ e => by rw [show q = x from e]; exact hBx))
              clear e4 hD kr k1
              go_wp2_with fail
              go_ret
              exact .inr ⟨HOKK.out, rfl, HM1.out, HK1.out⟩
end Go.Proofs.Ytbhienlalpbflaa
