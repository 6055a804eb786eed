/-
  The law: DeviceLoads. The walk.
-/
import Derived.Test.YtbhienlalpbflaaDvKnown
import Derived.Test.YtbhienlalpbflaaMDvB
import Derived.Test.YtbhienlalpbflaaDvSame
namespace Go.Proofs.Ytbhienlalpbflaa
open Go.RowKit Go.Maps

def pagesTo (n : Nat) : List (List UInt8) := (List.range n).map fun (i : Nat) => pageOf (i : Int)
theorem pagesTo_len (n : Nat) : (pagesTo n).length = n := by simp [pagesTo]
theorem pagesTo_succ (n : Nat) : pagesTo (n + 1) = pagesTo n ++ [pageOf (n : Int)] := by simp [pagesTo, List.range_succ]
theorem pagesTo_mem {n : Nat} {s : List UInt8} (h : s ∈ pagesTo n) : s.length = 256 := by
  simp only [pagesTo, List.mem_map] at h
  obtain ⟨i, _, rfl⟩ := h
  exact pageOf_len _
theorem texts_set (l : List (List UInt8)) (r : Nat) (s : List UInt8) : texts (l.set r s) = (texts l).set r (.string (str s)) := by simp [texts, List.map_set]
theorem ownsRow_set {w : World} {base g n cap : Nat} {e : TypeId} {xs : List Value} (h : w.ownsRow base e 1 (.slice (some ⟨g, 0, none⟩) n cap) n xs) (i : Nat) (u : Value) :
    (w.setCell ⟨g, i, none⟩ u).ownsRow base e 1 (.slice (some ⟨g, 0, none⟩) n cap) n (xs.set i u) := by
  have hl := h.1
  rcases h.2 with ⟨h0, _⟩ | ⟨g', cap', cur, h0, hb, hg, hn, hc, hs, ht⟩
  · cases h0
  · injection h0 with h1 h2 h3
    injection h1 with h1
    injection h1 with h1
    subst h1; subst h3
    refine ⟨by simpa using hl, .inr ⟨g, cap, _, rfl, hb, heap_setCell_at hg i u, hn, hc, by simpa using hs, ?_⟩⟩
    simp only [Nat.mul_one] at ht ⊢
    rw [← ht]
    simp [List.take_set]
theorem Loaded.fresh {w w' w'' : World} {l : List (List UInt8)} {ev : Int} {p : Option Addr} (h : Loaded w w' l ev p) (f : Fresh w' w'') : Loaded w w'' l ev p := by
  rcases h with h | ⟨h0, d, h1, h2, h3⟩
  · exact .inl h
  · exact .inr ⟨h0, d, h1, h2, (h3.fresh f).mono (fun q h => by have := f.size; omega)⟩
theorem loadErr_small {l : List (List UInt8)} (h : loadErr l = 0) : l.length ≤ 4096 := by
  unfold loadErr at h
  split at h
  · omega
  · omega
theorem newErr_size {p : Int} (h : newErr p = 0) : ((List.replicate p.toNat nought256).length : Int) = p := by
  unfold newErr at h
  split at h
  · omega
  · rw [List.length_replicate]; omega

theorem There.none_ {ev : Int} {p : Option Addr} (h : There ev p) (he : ev ≠ 0) : p = none := by
  cases p with
  | none => rfl
  | some a => exact absurd (h.2 (by simp)) he
theorem There.some_ {ev : Int} {p : Option Addr} (h : There ev p) (he : ev = 0) : ∃ a, p = some a := by
  cases p with
  | none => exact absurd rfl (h.1 he)
  | some a => exact ⟨a, rfl⟩
theorem noPend : pendList (.map [] : DD) (fun _ => none) = [] := by simp [pendList, show intKeys (.map [] : DD) = [] from rfl]

set_option maxRecDepth 100000 in
set_option maxHeartbeats 4000000 in
theorem loads_any (p n at_ : Int) (s : List UInt8) (w : World) (hn : -9223372036854775808 ≤ n) (hn2 : n ≤ 9223372036854775807) (ha : -9223372036854775808 ≤ at_) (ha2 : at_ ≤ 9223372036854775807) (hs : s.length ≤ 9223372036854775807) :
    Calls Try.prog 3 #[.int .i64 p, .int .i64 n, .int .i64 at_, .string (str s)] w fun e w' => e = .returned (.bool true) ∧ Fresh w w' := by
  obtain ⟨N, hN, hN2⟩ := picked n 4098 (by omega)
  have hpick : ∀ W, Calls Try.prog 9 #[.int .i64 n, .int .i64 4098] W fun e w' => e = .returned (.int .i64 (N : Int)) ∧ W = w' := fun W => by
    have := pick_any n 4098 W (by omega) (by omega) hn hn2
    rw [hN] at this
    exact this
  have HPICK := hid hpick
  clear hpick hN
  obtain ⟨i0, hi, hz0, hz1, hz2⟩ := info_parts Try.infoText
  have hnew := fun W => dnew_any p W
  have hrnew := fun W => refnew_any p W
  obtain ⟨EP, hEP⟩ : ∃ EP, newErr p = EP := ⟨_, rfl⟩
  have hEsz : EP = 0 → ((List.replicate p.toNat nought256).length : Int) = p := fun h => newErr_size (hEP.trans h)
  obtain ⟨L0, hL0⟩ : ∃ L0, List.replicate p.toNat nought256 = L0 := ⟨_, rfl⟩
  rw [hEP] at hnew hrnew
  rw [hL0] at hnew hEsz
  have HNEW := hid hnew
  have HRNEW := hid hrnew
  have HESZ := hid hEsz
  clear hnew hrnew hEsz hL0 hEP
  go_enter Try.func3, Try.ntmps3
  go_wp2_with fail
  refine (known_any _).mono ?_
  rintro e w1 ⟨rfl, f1⟩
  go_wp2_with fail
  refine (HNEW.out _).mono ?_
  rintro e w2 ⟨q, rfl, f2, hld⟩
  go_wp2_with fail
  refine (HRNEW.out _).mono ?_
  rintro e w3 ⟨x, rfl, f3, hth⟩
  have hld := hld.fresh f3
  have f13 := (f1.trans f2).trans f3
  clear f1 f2 f3
  have HLD := hid hld
  have HTH := hid hth
  clear hld hth
  go_wp2_with fail
  go_loopw [14, 15] (fun v i wr => ∃ k : Nat, i = .int .i64 (k : Int) ∧ k ≤ N ∧ wr.ownsRow 0 9 1 v k (texts (pagesTo k)) ∧ (∀ g, v.ownBlock = some g → w3.heap.size ≤ g) ∧ Fresh w3 wr) (fun _ i _ => N - (intOf i).toNat)
  case atStart => exact ⟨0, rfl, by omega, World.ownsRow_nil _ _ _ _, (fun _ h => nomatch h), Keeps.refl _ _⟩
  case round =>
    obtain ⟨k, rfl, hk, hrow, hown, hf⟩ := hrel
    obtain ⟨so, scap, rfl⟩ := ownsRow_slice hrow
    by_cases hlt : k < N
    · have hlt2 : (k : Int) < (N : Int) := by omega
      go_wp2_with fail
      refine (HPICK.out _).mono ?_
      rintro e _ ⟨rfl, rfl⟩
      go_wp2_with fail
      refine (page_any _ _).mono ?_
      rintro e w8 ⟨rfl, f8⟩
      have hrow9 := ownsRow_keeps hrow f8 (fun _ _ h => h)
      have hf8 := hf.trans f8
      clear hrow
      go_wp2_with (at_builtin; refine wpList_push rfl (.tmp 38) (.tmp 41) 30 rfl 9 i0 (.string ⟨#[]⟩) 16 Try.underlying30 hi hz0 hz1 hz2 rfl w8 hrow9 _ (by rfl) (by rfl) rfl (by omega) (by unfold maxLen; omega) ?_)
      intro v4 w4 ha
      have hrow4 := ha.row
      have e4 : texts (pagesTo k) ++ [Value.string (str (pageOf (k : Int)))] = texts (pagesTo (k + 1)) := by rw [← texts_snoc, ← pagesTo_succ]
      rw [e4] at hrow4
      have hown4 : ∀ g, v4.ownBlock = some g → w3.heap.size ≤ g := fun g hg => by
        rcases ha.own g hg with h | h
        · exact hown g h
        · have := hf8.size; omega
      have f4 : Fresh w3 w4 := hf8.trans' ha.keeps fun i hi h => by have := hown i h; omega
      clear ha hrow9 e4
      go_wp2
      go_roundw
      case rel => exact ⟨k + 1, by go_num, by omega, hrow4, hown4, f4⟩
      case measure => simp [intOf]; omega
    · obtain rfl : k = N := by omega
      go_wp2_with fail
      refine (HPICK.out _).mono ?_
      rintro e _ ⟨rfl, rfl⟩
      by_cases h0 : k = 0
      · subst h0
        have hOwn : OwnTexts w3.heap.size wr (.slice so 0 scap) [] := ⟨hrow, hown⟩
        have hT := hOwn.at_
        have hF := hf
        obtain ⟨l, hl⟩ : ∃ l : List (List UInt8), [] = l := ⟨_, rfl⟩
        have hlen : l.length = 0 := by rw [← hl]; rfl
        have hsl : ∀ t ∈ l, t.length ≤ 9223372036854775807 := by rw [← hl]; exact fun t ht => nomatch ht
        rw [hl] at hT
        have HL := hid hlen
        clear hl hOwn hrow hown
        go_wp2_with fail
        refine (load_any _ l _ hT (by omega) hsl).mono ?_
        rintro e w5 ⟨c, rfl, f5, hlc⟩
        have hT := hT.fresh f5
        have hF := hF.trans f5
        go_wp2_with fail
        refine (refload_any _ l _ hT (by omega) hsl).mono ?_
        rintro e w6 ⟨y, rfl, f6, hty⟩
        have hT := hT.fresh f6
        have hF := hF.trans f6
        have hlc := hlc.fresh f6
        have hld := HLD.out.fresh hF
        have fr := f13.trans hF
        have hth := HTH.out
        clear f5 f6
        rcases hld with ⟨hE1, rfl⟩ | ⟨hE1, d, rfl, hd, hdev⟩
        · obtain rfl := hth.none_ hE1
          rcases hlc with ⟨hE2, rfl⟩ | ⟨hE2, c, rfl, hc, hcdev⟩
          · obtain rfl := hty.none_ hE2
            go_wp2_with fail
            go_ret
            exact ⟨rfl, fr⟩
          · obtain ⟨ya, rfl⟩ := hty.some_ hE2
            go_wp2_with fail
            have hl4 := loadErr_small hE2
            refine (pages_any _ c l _ 0 false 0 _ hcdev hl4).mono ?_
            rintro e w7 ⟨v7, rfl, hv7, f7⟩
            have hcdev := hcdev.fresh f7
            have hT := hT.fresh f7
            have fr := fr.trans f7
            go_wp2_with fail
            refine (sameTexts_any v7 _ l l _ hv7 hT (by omega) (by omega)).mono ?_
            rintro e w8 ⟨rfl, f8⟩
            rw [decide_eq_true (rfl : l = l)]
            have hcdev := hcdev.fresh f8
            have fr := fr.trans f8
            clear f7 f8 hv7
            go_wp2_with fail
            refine (size_any _ c l _ 0 false 0 _ hcdev).mono ?_
            rintro e w9 ⟨rfl, f9⟩
            rw [HL.out]
            have hcdev := hcdev.fresh f9
            have fr := fr.trans f9
            clear f9
            go_wp2_with fail
            refine (pending_any _ c l _ 0 false 0 _ _ hcdev Pends.empty (by decide) (fun p hp => by cases hp)).mono ?_
            rintro e w10 ⟨v10, rfl, hv10, f10⟩
            have hcdev := hcdev.fresh f10
            have fr := fr.trans f10
            obtain ⟨ao10, cp10, rfl, -⟩ := hv10
            rw [show ((pendList (.map [] : DD) (fun _ => none)).length = 0) from by rw [noPend]; rfl]
            clear f10
            go_wp2_with fail
            refine (dead_any _ c l _ 0 false 0 _ hcdev).mono ?_
            rintro e w11 ⟨rfl, f11⟩
            have fr := fr.trans f11
            go_wp2_with fail
            go_ret
            exact ⟨rfl, fr⟩
        · obtain ⟨xa, rfl⟩ := hth.some_ hE1
          have hdsz := HESZ.out hE1
          rcases hlc with ⟨hE2, rfl⟩ | ⟨hE2, c, rfl, hc, hcdev⟩
          · obtain rfl := hty.none_ hE2
            go_wp2_with fail
            refine (size_any _ d L0 _ 0 false 0 _ hdev).mono ?_
            rintro e wa ⟨rfl, fa⟩
            rw [hdsz]
            have hdev := hdev.fresh fa
            have fr := fr.trans fa
            go_wp2_with fail
            refine (dead_any _ d L0 _ 0 false 0 _ hdev).mono ?_
            rintro e wb ⟨rfl, fb⟩
            have fr := fr.trans fb
            go_wp2_with fail
            go_ret
            exact ⟨rfl, fr⟩
          · obtain ⟨ya, rfl⟩ := hty.some_ hE2
            go_wp2_with fail
            refine (size_any _ d L0 _ 0 false 0 _ hdev).mono ?_
            rintro e wa ⟨rfl, fa⟩
            rw [hdsz]
            have hdev := hdev.fresh fa
            have hcdev := hcdev.fresh fa
            have hT := hT.fresh fa
            have fr := fr.trans fa
            go_wp2_with fail
            refine (dead_any _ d L0 _ 0 false 0 _ hdev).mono ?_
            rintro e wb ⟨rfl, fb⟩
            have hcdev := hcdev.fresh fb
            have hT := hT.fresh fb
            have fr := fr.trans fb
            clear fa fb hdev
            go_wp2_with fail
            have hl4 := loadErr_small hE2
            refine (pages_any _ c l _ 0 false 0 _ hcdev hl4).mono ?_
            rintro e w7 ⟨v7, rfl, hv7, f7⟩
            have hcdev := hcdev.fresh f7
            have hT := hT.fresh f7
            have fr := fr.trans f7
            go_wp2_with fail
            refine (sameTexts_any v7 _ l l _ hv7 hT (by omega) (by omega)).mono ?_
            rintro e w8 ⟨rfl, f8⟩
            rw [decide_eq_true (rfl : l = l)]
            have hcdev := hcdev.fresh f8
            have fr := fr.trans f8
            clear f7 f8 hv7
            go_wp2_with fail
            refine (size_any _ c l _ 0 false 0 _ hcdev).mono ?_
            rintro e w9 ⟨rfl, f9⟩
            rw [HL.out]
            have hcdev := hcdev.fresh f9
            have fr := fr.trans f9
            clear f9
            go_wp2_with fail
            refine (pending_any _ c l _ 0 false 0 _ _ hcdev Pends.empty (by decide) (fun p hp => by cases hp)).mono ?_
            rintro e w10 ⟨v10, rfl, hv10, f10⟩
            have hcdev := hcdev.fresh f10
            have fr := fr.trans f10
            obtain ⟨ao10, cp10, rfl, -⟩ := hv10
            rw [show ((pendList (.map [] : DD) (fun _ => none)).length = 0) from by rw [noPend]; rfl]
            clear f10
            go_wp2_with fail
            refine (dead_any _ c l _ 0 false 0 _ hcdev).mono ?_
            rintro e w11 ⟨rfl, f11⟩
            have fr := fr.trans f11
            go_wp2_with fail
            go_ret
            exact ⟨rfl, fr⟩
      · have hk0 : (0 : Int) < (k : Int) := by omega
        have hk1 : ¬ (k : Int) ≤ 0 := by omega
        obtain ⟨g, hso, cur, hg, hcur⟩ : ∃ g, so = some ⟨g, 0, none⟩ ∧ ∃ cur, wr.heap[g]? = some (.cells cur 9 (0, 0)) ∧ k ≤ cur.size := by
          rcases hrow.2 with ⟨_, h⟩ | ⟨g, cap, cur, he, _, hb, h1, _, h3, _⟩
          · omega
          · simp only [Value.slice.injEq, true_and] at he
            exact ⟨g, he.1, cur, hb, by omega⟩
        subst hso
        have hgn := hown g rfl
        obtain ⟨r, hr, hr2⟩ := picked at_ k (by omega)
        have hpick2 := fun W => pick_any at_ k W (by omega) (by omega) ha ha2
        rw [hr] at hpick2
        have HPICK2 := hid hpick2
        clear hpick2 hr
        have hr0 : (0 : Int) ≤ (r : Int) := by omega
        have hrk : (r : Int) < (k : Int) := by omega
        have cr := cell_at hg r
        rw [Array.getElem?_eq_getElem (by omega)] at cr
        have fr_ := free_at hg r
        have hrow4 := ownsRow_set hrow r (.string (str s))
        rw [← texts_set] at hrow4
        have hF : Fresh w3 (wr.setCell ⟨g, r, none⟩ (.string (str s))) := hf.setCell (fun h => by simp only at h; omega) _
        obtain ⟨l, hl⟩ : ∃ l, (pagesTo k).set r s = l := ⟨_, rfl⟩
        have hlen : l.length = k := by rw [← hl, List.length_set, pagesTo_len]
        have hsl : ∀ t ∈ l, t.length ≤ 9223372036854775807 := by
          rw [← hl]
          intro t ht
          rcases List.mem_or_eq_of_mem_set ht with h | rfl
          · rw [pagesTo_mem h]; omega
          · exact hs
        rw [hl] at hrow4
        have hOwn : OwnTexts w3.heap.size (wr.setCell ⟨g, r, none⟩ (.string (str s))) (.slice (some ⟨g, 0, none⟩) k scap) l := ⟨by rw [hlen]; exact hrow4, hown⟩
        have hT := hOwn.at_
        have HL := hid hlen
        clear hl hOwn hrow hown hrow4 hf
        go_wp2_with fail
        refine (HPICK2.out _).mono ?_
        rintro e _ ⟨rfl, rfl⟩
        go_wp2_with fail
        refine (load_any _ l _ hT (by omega) hsl).mono ?_
        rintro e w5 ⟨c, rfl, f5, hlc⟩
        have hT := hT.fresh f5
        have hF := hF.trans f5
        go_wp2_with fail
        refine (refload_any _ l _ hT (by omega) hsl).mono ?_
        rintro e w6 ⟨y, rfl, f6, hty⟩
        have hT := hT.fresh f6
        have hF := hF.trans f6
        have hlc := hlc.fresh f6
        have hld := HLD.out.fresh hF
        have fr := f13.trans hF
        have hth := HTH.out
        clear f5 f6
        rcases hld with ⟨hE1, rfl⟩ | ⟨hE1, d, rfl, hd, hdev⟩
        · obtain rfl := hth.none_ hE1
          rcases hlc with ⟨hE2, rfl⟩ | ⟨hE2, c, rfl, hc, hcdev⟩
          · obtain rfl := hty.none_ hE2
            go_wp2_with fail
            go_ret
            exact ⟨rfl, fr⟩
          · obtain ⟨ya, rfl⟩ := hty.some_ hE2
            go_wp2_with fail
            have hl4 := loadErr_small hE2
            refine (pages_any _ c l _ 0 false 0 _ hcdev hl4).mono ?_
            rintro e w7 ⟨v7, rfl, hv7, f7⟩
            have hcdev := hcdev.fresh f7
            have hT := hT.fresh f7
            have fr := fr.trans f7
            go_wp2_with fail
            refine (sameTexts_any v7 _ l l _ hv7 hT (by omega) (by omega)).mono ?_
            rintro e w8 ⟨rfl, f8⟩
            rw [decide_eq_true (rfl : l = l)]
            have hcdev := hcdev.fresh f8
            have fr := fr.trans f8
            clear f7 f8 hv7
            go_wp2_with fail
            refine (size_any _ c l _ 0 false 0 _ hcdev).mono ?_
            rintro e w9 ⟨rfl, f9⟩
            rw [HL.out]
            have hcdev := hcdev.fresh f9
            have fr := fr.trans f9
            clear f9
            go_wp2_with fail
            refine (pending_any _ c l _ 0 false 0 _ _ hcdev Pends.empty (by decide) (fun p hp => by cases hp)).mono ?_
            rintro e w10 ⟨v10, rfl, hv10, f10⟩
            have hcdev := hcdev.fresh f10
            have fr := fr.trans f10
            obtain ⟨ao10, cp10, rfl, -⟩ := hv10
            rw [show ((pendList (.map [] : DD) (fun _ => none)).length = 0) from by rw [noPend]; rfl]
            clear f10
            go_wp2_with fail
            refine (dead_any _ c l _ 0 false 0 _ hcdev).mono ?_
            rintro e w11 ⟨rfl, f11⟩
            have fr := fr.trans f11
            go_wp2_with fail
            go_ret
            exact ⟨rfl, fr⟩
        · obtain ⟨xa, rfl⟩ := hth.some_ hE1
          have hdsz := HESZ.out hE1
          rcases hlc with ⟨hE2, rfl⟩ | ⟨hE2, c, rfl, hc, hcdev⟩
          · obtain rfl := hty.none_ hE2
            go_wp2_with fail
            refine (size_any _ d L0 _ 0 false 0 _ hdev).mono ?_
            rintro e wa ⟨rfl, fa⟩
            rw [hdsz]
            have hdev := hdev.fresh fa
            have fr := fr.trans fa
            go_wp2_with fail
            refine (dead_any _ d L0 _ 0 false 0 _ hdev).mono ?_
            rintro e wb ⟨rfl, fb⟩
            have fr := fr.trans fb
            go_wp2_with fail
            go_ret
            exact ⟨rfl, fr⟩
          · obtain ⟨ya, rfl⟩ := hty.some_ hE2
            go_wp2_with fail
            refine (size_any _ d L0 _ 0 false 0 _ hdev).mono ?_
            rintro e wa ⟨rfl, fa⟩
            rw [hdsz]
            have hdev := hdev.fresh fa
            have hcdev := hcdev.fresh fa
            have hT := hT.fresh fa
            have fr := fr.trans fa
            go_wp2_with fail
            refine (dead_any _ d L0 _ 0 false 0 _ hdev).mono ?_
            rintro e wb ⟨rfl, fb⟩
            have hcdev := hcdev.fresh fb
            have hT := hT.fresh fb
            have fr := fr.trans fb
            clear fa fb hdev
            go_wp2_with fail
            have hl4 := loadErr_small hE2
            refine (pages_any _ c l _ 0 false 0 _ hcdev hl4).mono ?_
            rintro e w7 ⟨v7, rfl, hv7, f7⟩
            have hcdev := hcdev.fresh f7
            have hT := hT.fresh f7
            have fr := fr.trans f7
            go_wp2_with fail
            refine (sameTexts_any v7 _ l l _ hv7 hT (by omega) (by omega)).mono ?_
            rintro e w8 ⟨rfl, f8⟩
            rw [decide_eq_true (rfl : l = l)]
            have hcdev := hcdev.fresh f8
            have fr := fr.trans f8
            clear f7 f8 hv7
            go_wp2_with fail
            refine (size_any _ c l _ 0 false 0 _ hcdev).mono ?_
            rintro e w9 ⟨rfl, f9⟩
            rw [HL.out]
            have hcdev := hcdev.fresh f9
            have fr := fr.trans f9
            clear f9
            go_wp2_with fail
            refine (pending_any _ c l _ 0 false 0 _ _ hcdev Pends.empty (by decide) (fun p hp => by cases hp)).mono ?_
            rintro e w10 ⟨v10, rfl, hv10, f10⟩
            have hcdev := hcdev.fresh f10
            have fr := fr.trans f10
            obtain ⟨ao10, cp10, rfl, -⟩ := hv10
            rw [show ((pendList (.map [] : DD) (fun _ => none)).length = 0) from by rw [noPend]; rfl]
            clear f10
            go_wp2_with fail
            refine (dead_any _ c l _ 0 false 0 _ hcdev).mono ?_
            rintro e w11 ⟨rfl, f11⟩
            have fr := fr.trans f11
            go_wp2_with fail
            go_ret
            exact ⟨rfl, fr⟩
end Go.Proofs.Ytbhienlalpbflaa
