/-
  The law's 'makes': New and Load.
-/
import Derived.Test.YtbhienlalpbflaaDwLoads
import Derived.Test.YtbhienlalpbflaaDvLaw
import Derived.Test.YtbhienlalpbflaaMMsF
namespace Go.Proofs.Ytbhienlalpbflaa
open Go.RowKit Go.Maps

/-- a step as it comes in -/
def opV (k on m : Int) (s : List UInt8) (kv : Value) : Value := .agg #[.int .i64 k, .int .i64 on, .int .i64 m, .string (str s), kv]

set_option maxRecDepth 100000 in
set_option maxHeartbeats 8000000 in
theorem makes_new (B ob n N : Nat) (c : Nat → Nat) (w : World) (v : WV) (f : Nat → St) (h : DW B c w ob v f f n N) (on m : Int) (s : List UInt8) (ko : Option Addr) (kn kc : Nat) :
    Calls Try.prog 35 #[.pointer (some ⟨ob, 0, none⟩), opV 12 on m s (.slice ko kn kc)] w fun e w' => e = .returned (.tuple #[.bool true, .bool true]) ∧ Aft B w' ob n N ∧ Keeps (fun q => B ≤ q) w w' := by
  obtain ⟨i0, hi, hz0, hz1, hz2⟩ := info_parts Try.infoSide
  obtain ⟨al, cl, elv⟩ := ownsRow_slice h.vw.row
  obtain ⟨w1, hw1⟩ : ∃ w1, w.alloc (.cells #[.int .i64 12, .int .i64 on, .int .i64 m, .string (str s), .slice ko kn kc] 51) = w1 := ⟨_, rfl⟩
  have f1 : Fresh w w1 := by rw [← hw1]; exact (Keeps.refl _ _).alloc _
  have HN := hid fun W => dnew_any m W
  have HR := hid fun W => refnew_full m W
  have H := hid h
  have HF1 := hid f1
  have hb1 : w1.heap[w.heap.size]? = some (.cells #[.int .i64 12, .int .i64 on, .int .i64 m, .string (str s), .slice ko kn kc] 51 (0, 0)) := by rw [← hw1]; exact heap_alloc_new w _
  have x0 : w1.cell? ⟨w.heap.size, 0, none⟩ = some (.int .i64 12) := (cell_at hb1 0).trans rfl
  have x2 : w1.cell? ⟨w.heap.size, 2, none⟩ = some (.int .i64 m) := (cell_at hb1 2).trans rfl
  have HB1 := hid hb1
  clear h f1 hb1
  unfold opV
  go_enter Try.func35, Try.ntmps35
  go_wp2_with fail
  (try rw [hw1])
  clear hw1
  refine (HN.out _).mono ?_
  rintro e w2 ⟨p1, rfl, f2, hld⟩
  have HL2 := hid (And.intro f2 hld)
  have x22 := (f2.cell (p := ⟨w.heap.size, 2, none⟩) (lt_of_block HB1.out) (fun h => h)).trans x2
  clear f2 hld HN x2 x0
  go_wp2_with fail
  refine (HR.out _).mono ?_
  rintro e w3 ⟨p2, rfl, f3, hrl⟩
  have fA := (HF1.out.trans HL2.out.1).trans f3
  have h3 := H.out.fresh fA
  have HL3 := hid (And.intro f3 hrl)
  have cl0 := (cell_at h3.box 0).trans (show _ = some (Value.slice al v.ss.length cl) from congrArg some elv)
  have dl0 := free_at h3.box 0
  have HUN := hid H.out.unborn
  have hsz := H.out.size
  have hs1 := HF1.out.size
  have hs2 := HL2.out.1.size
  have hs3 := f3.size
  have kB : Keeps (fun q => B ≤ q) w w3 := fA.mono fun _ _ h => h.elim
  obtain ⟨ev, hev⟩ : ∃ ev, newErr m = ev := ⟨_, rfl⟩
  rw [hev] at HL2 HL3 ⊢
  clear x22 f3 hrl HR
  by_cases h0 : ev = 0
  · obtain ⟨d, rfl, hdl, hD⟩ := HL2.out.2.at_ h0
    obtain ⟨x, rfl, hxl, hX2⟩ := HL3.out.2.at_ h0
    subst h0
    have hm : 4 ≤ m ∧ m ≤ 4096 := by
      unfold newErr at hev
      split at hev
      · cases hev
      · omega
    have hok : (newSt (List.replicate m.toNat nought256)).Ok := newSt_ok (by rw [List.length_replicate]; omega) (by rw [List.length_replicate]; omega) fun t ht => by rw [(List.mem_replicate.1 ht).2]; exact nought256_len
    by_cases h5 : v.ss.length < 5
    · have h5I : (v.ss.length : Int) < 5 := by omega
      have hrow : w3.ownsRow 0 53 2 (.slice al v.ss.length cl) v.ss.length (sideCells v.ss) := by rw [← elv]; exact h3.vw.row
      have H3 := hid h3
      have HD7 := hid (And.intro (hD.fresh HL3.out.1) hX2)
      have KB := hid kB
      clear hD hX2 h3 kB fA
      go_wp2_with (at_builtin; refine wpList_push2 rfl (.tmp 46) (.tmp 50) 43 rfl 53 i0 (.agg #[.pointer none, .pointer none]) 16 Try.underlying43 hi hz0 hz1 hz2 rfl w3 hrow _ _ (by rfl) (by rfl) rfl rfl (by omega) (by unfold maxLen; omega) ?_)
      intro v9 w9 ha
      have ha' : Appended 53 2 w3 w9 v.lv v9 (v.ss.length + 1) (sideCells (v.ss ++ [(d, x)])) := by
        rw [sideCells_snoc, elv]; exact ha
      obtain ⟨c9, q1, q2⟩ := H3.out.addSide HD7.out.1 HD7.out.2 hok (fun q hq hp => ⟨HUN.out q (by omega), by omega⟩) (fun q hq hp => ⟨HUN.out q (by omega), by omega⟩) (fun q hp hq => by omega) h5 ha'
      have b9 := ha.keeps.at_ H3.out.box (fun e => by have := H3.out.vw.crow _ (by rw [elv]; exact e); have := H3.out.cbox; omega)
      have d9 := free_at b9 0
      obtain ⟨u9, e9⟩ : ∃ u, w9.cell? ⟨ob, 0, none⟩ = some u := ⟨_, (cell_at b9 0).trans rfl⟩
      obtain ⟨a9, cp9, rfl⟩ := ownsRow_slice ha.row
      have HQ := hid (And.intro q1 (KB.out.trans q2))
      clear ha ha' q1 q2 b9 cl0 dl0
      go_wp2_with fail
      go_ret2
      exact ⟨by first | rfl | simp, ⟨_, _, _, HQ.out.1⟩, HQ.out.2⟩
    · have h5I : ¬ (v.ss.length : Int) < 5 := by omega
      have H3 := hid h3
      have KB := hid kB
      clear hD hX2 h3 kB fA
      go_wp2_with fail
      go_ret2
      exact ⟨by first | rfl | simp, ⟨_, _, _, H3.out⟩, KB.out⟩
  · have e1 : p1 = none := by
      rcases HL2.out.2 with ⟨-, e⟩ | ⟨e, -⟩
      · exact e
      · exact absurd e h0
    have e2 : p2 = none := by
      rcases HL3.out.2 with ⟨-, e⟩ | ⟨e, -⟩
      · exact e
      · exact absurd e h0
    subst e1 e2
    have H3 := hid h3
    have KB := hid kB
    clear h3 kB fA
    go_wp2_with fail
    go_ret2
    exact ⟨by first | rfl | simp, ⟨_, _, _, H3.out⟩, KB.out⟩

set_option maxRecDepth 100000 in
set_option maxHeartbeats 4000000 in
theorem makes_other (ob : Nat) (w : World) (k on m : Int) (s : List UInt8) (ko : Option Addr) (kn kc : Nat) (h1 : ¬ k = 12) (h2 : ¬ k = 11) :
    Calls Try.prog 35 #[.pointer (some ⟨ob, 0, none⟩), opV k on m s (.slice ko kn kc)] w fun e w' => e = .returned (.tuple #[.bool true, .bool false]) ∧ Fresh w w' := by
  unfold opV
  go_enter Try.func35, Try.ntmps35
  go_wp2_with fail
  go_ret2
  exact ⟨rfl, (Keeps.refl _ _).alloc _⟩

set_option maxRecDepth 100000 in
set_option maxHeartbeats 8000000 in
theorem makes_load (B ob n N : Nat) (c : Nat → Nat) (w : World) (v : WV) (f : Nat → St) (h : DW B c w ob v f f n N) (on m : Int) (s : List UInt8) (ko : Option Addr) (kn kc : Nat) (hon : -9223372036854775808 ≤ on) (hon2 : on ≤ 9223372036854775807) (hm : -9223372036854775808 ≤ m) (hm2 : m ≤ 9223372036854775807) (hs : s.length ≤ 9223372036854775807) :
    Calls Try.prog 35 #[.pointer (some ⟨ob, 0, none⟩), opV 11 on m s (.slice ko kn kc)] w fun e w' => e = .returned (.tuple #[.bool true, .bool true]) ∧ Aft B w' ob n N ∧ Keeps (fun q => B ≤ q) w w' := by
  obtain ⟨i0, hi, hz0, hz1, hz2⟩ := info_parts Try.infoText
  obtain ⟨w1, hw1⟩ : ∃ w1, w.alloc (.cells #[.int .i64 11, .int .i64 on, .int .i64 m, .string (str s), .slice ko kn kc] 51) = w1 := ⟨_, rfl⟩
  have f1 : Fresh w w1 := by rw [← hw1]; exact (Keeps.refl _ _).alloc _
  have hb1 : w1.heap[w.heap.size]? = some (.cells #[.int .i64 11, .int .i64 on, .int .i64 m, .string (str s), .slice ko kn kc] 51 (0, 0)) := by rw [← hw1]; exact heap_alloc_new w _
  obtain ⟨M, hM, hM9⟩ := picked m 9 (by omega)
  have HPK := hid fun W => pick_any m 9 W (by omega) (by omega) hm hm2
  rw [hM] at HPK
  have HX : Hid (∀ W, Fresh w1 W → W.cell? ⟨w.heap.size, 1, none⟩ = some (.int .i64 on) ∧ W.cell? ⟨w.heap.size, 2, none⟩ = some (.int .i64 m) ∧ W.cell? ⟨w.heap.size, 3, none⟩ = some (.string (str s))) := fun W f => by
    have := f.at_ hb1 (fun h => h)
    exact ⟨(cell_at this 1).trans rfl, (cell_at this 2).trans rfl, (cell_at this 3).trans rfl⟩
  have H := hid h
  have HF1 := hid f1
  have hs1 : w1.heap.size = w.heap.size + 1 := by rw [← hw1]; simp
  have HP9 := hid hM9
  have x0 : w1.cell? ⟨w.heap.size, 0, none⟩ = some (.int .i64 11) := (cell_at hb1 0).trans rfl
  clear h f1 hb1 hM
  unfold opV
  go_enter Try.func35, Try.ntmps35
  go_wp2_with fail
  (try rw [hw1])
  clear hw1 x0
  go_loopw [10, 11] (fun so ii wr => ∃ k : Nat, ii = .int .i64 (k : Int) ∧ k ≤ M ∧ wr.ownsRow 0 9 1 so k (texts (pagesTo k)) ∧ (∀ g, so.ownBlock = some g → w1.heap.size ≤ g) ∧ Fresh w1 wr) (fun _ ii _ => M - (intOf ii).toNat)
  case atStart => exact ⟨0, rfl, by omega, World.ownsRow_nil _ _ _ _, (fun _ h => nomatch h), Keeps.refl _ _⟩
  case round =>
    obtain ⟨k, rfl, hk, hrow, hnew, fr⟩ := hrel
    obtain ⟨x1, x2, x3⟩ := HX.out wr fr
    obtain ⟨so, scap, rfl⟩ := ownsRow_slice hrow
    have hk9 : (k : Int) ≤ 9 := by have := HP9.out; omega
    by_cases hlt : k < M
    · have hkI : (k : Int) < (M : Int) := by omega
      have HPG := hid fun W => page_any (k : Int) W
      have hsnoc : texts (pagesTo (k + 1)) = texts (pagesTo k) ++ [.string (str (pageOf (k : Int)))] := by rw [pagesTo_succ]; simp [texts]
      have HSN := hid hsnoc
      clear hsnoc
      go_wp2_with fail
      refine (HPK.out _).mono ?_
      rintro e _ ⟨rfl, rfl⟩
      go_wp2_with fail
      refine (HPG.out _).mono ?_
      rintro e w2 ⟨rfl, f2⟩
      have hrow2 := ownsRow_keeps hrow f2 (fun _ _ h => h)
      have fr2 := fr.trans f2
      clear x1 x2 x3 f2
      go_wp2_with (at_builtin; refine wpList_push rfl (.tmp 73) (.tmp 76) 30 rfl 9 i0 (.string ⟨#[]⟩) 16 Try.underlying30 hi hz0 hz1 hz2 rfl w2 hrow2 _ (by rfl) (by rfl) rfl (by have := HP9.out; omega) (by have := HP9.out; unfold maxLen; omega) ?_)
      intro v4 w4 ha
      have f4 : Fresh w1 w4 := fr2.trans' ha.keeps fun i hi h => by have := hnew i h; omega
      have hrow4 := ha.row
      rw [← HSN.out] at hrow4
      have hown4 : ∀ g, v4.ownBlock = some g → w1.heap.size ≤ g := fun g hg => by
        rcases ha.own g hg with h | h
        · exact hnew g h
        · have := fr2.size; omega
      obtain ⟨ao4, cp4, rfl⟩ := ownsRow_slice ha.row
      clear ha hrow hrow2 hnew
      go_wp2_with fail
      go_roundw
      case rel => exact ⟨k + 1, by go_num, by omega, hrow4, hown4, f4⟩
      case measure => simp [intOf]; omega
    · obtain rfl : k = M := by omega
      have hkn : ¬ (k : Int) < (k : Int) := by omega
      have fA := HF1.out.trans fr
      have HFA := hid fA
      have h3 := H.out.fresh fA
      have HUN := hid H.out.unborn
      by_cases hk0 : 0 < k
      · have hk0I : (0 : Int) < (k : Int) := by omega
        obtain ⟨gl, e, hgl, -⟩ := ownsRow_cells hrow hk0
        subst e
        obtain ⟨r, hr, hrk⟩ := picked on k hk0
        have HPO := hid fun W => pick_any on k W hk0 (by have := HP9.out; omega) hon hon2
        rw [hr] at HPO
        have hset := ownsRow_set hrow r (.string (str s))
        rw [← texts_set] at hset
        have hzf := row_free hrow r
        obtain ⟨ao', cap', e', hcc⟩ := ownsRow_at hrow
        simp only [Value.slice.injEq] at e'
        obtain ⟨rfl, -, rfl⟩ := e'
        obtain ⟨z, hz⟩ : ∃ z, (texts (pagesTo k))[r]? = some z := ⟨_, List.getElem?_eq_getElem (by simp [texts, pagesTo_len]; omega)⟩
        obtain ⟨bb, e3, -, hcell⟩ := hcc r z hz
        simp only [Option.some.injEq, Addr.mk.injEq, and_true] at e3
        subst e3
        have hgn : w1.heap.size ≤ gl := hnew gl rfl
        have hcg : (gl : Nat) ≠ w.heap.size := by omega
        have kS : Keeps (fun q => q = gl) wr (wr.setCell ⟨gl, r, none⟩ (.string (str s))) := (Keeps.refl (fun q => q = gl) wr).setCell (p := ⟨gl, r, none⟩) (fun _ => rfl) _
        have h4 := h3.nobody kS (fun g e _ => by rw [show g = gl from e]; exact HUN.out gl (by omega))
        have hlen : ((pagesTo k).set r s).length = k := by rw [List.length_set, pagesTo_len]
        have hat := OwnTexts_at (B := 0) (l := (pagesTo k).set r s) (by rw [hlen]; exact hset)
        have hnb : NobT c (wr.setCell ⟨gl, r, none⟩ (.string (str s))) (.slice (some ⟨gl, 0, none⟩) k scap) ((pagesTo k).set r s) := by
          obtain ⟨ao5, cap5, e5, hc5⟩ := hat
          rw [hlen] at e5
          simp only [Value.slice.injEq] at e5
          obtain ⟨rfl, -, rfl⟩ := e5
          refine ⟨_, _, by rw [hlen], fun q t ht => ?_⟩
          obtain ⟨b5, o5, e6, e7, e8⟩ := hc5 q t ht
          simp only [Option.some.injEq, Addr.mk.injEq, and_true] at e6
          obtain ⟨rfl, rfl⟩ := e6
          exact ⟨gl, 0, rfl, e7, HUN.out gl (by omega), e8⟩
        have HLW := hid fun W (ff : Fresh (wr.setCell ⟨gl, r, none⟩ (.string (str s))) W) => loads_w B ob n N c W v f _ _ (h4.fresh ff) (hnb.keeps ff (fun _ h => h.elim) (fun _ _ e => e)) (by rw [hlen]; have := HP9.out; omega) (fun t ht => by
          rcases List.mem_or_eq_of_mem_set ht with ht | rfl
          · rw [pagesTo_mem ht]; omega
          · exact hs)
        have HH4 := hid (And.intro h4 (And.intro kS (And.intro hset hnb)))
        have q1 : wr.cell? ⟨gl, r, none⟩ = some z := hcell
        have hrI : (r : Int) < (k : Int) := by omega
        clear h3 hrow hnew fr hset hat hnb kS h4 hcell hz hcc hr
        have hbxl : w.heap.size < wr.heap.size := by have := HFA.out.size; omega
        have hcg2 : ¬ (w.heap.size = gl) := fun e => hcg e.symm
        go_wp2_with fail
        refine (HPK.out _).mono ?_
        rintro e _ ⟨rfl, rfl⟩
        go_wp2_with fail
        refine wp_region_keep 10 (fun w' => w'.cell? ⟨w.heap.size, 1, none⟩ = some (.int .i64 on) ∧ w'.cell? ⟨w.heap.size, 3, none⟩ = some (.string (str s))) (fun w' => w'.cell? ⟨gl, r, none⟩ = some z ∧ w'.frozen? ⟨gl, r, none⟩ = false) (fun j => !(j == 9)) (by kernel_rfl) (by kernel_rfl) ?_
        (try (change wpKeep _ _ _ _ _ _ _ _ _ _ (World.drew _)))
        refine wpKeep_takeT (i := 0) (oi := ⟨some 81, _, _, _, _, _⟩) (v := ?_) rfl (by kernel_rfl) (by kernel_rfl) (by kernel_rfl) (by kernel_rfl) (fun _ _ _ h => h) (Or.inl ⟨by rfl, ?_⟩) ⟨x1, x3⟩ (fun _ => ⟨q1, hzf⟩) ?_
        rotate_left
        · intro w' hT
          obtain ⟨t1, t2⟩ := hT
          go_simp
          (try rw [if_pos (by omega)])
          (try with_reducible rfl)
        rotate_left
        (try simp only [Act.put, List.setIfInBounds_toArray, List.set_cons_zero, List.set_cons_succ])
        refine wpKeep_takeT (i := 1) (oi := ⟨some 82, _, _, _, _, _⟩) (v := ?_) rfl (by kernel_rfl) (by kernel_rfl) (by kernel_rfl) (by kernel_rfl) (fun _ _ _ h => h) (Or.inl ⟨by rfl, ?_⟩) ⟨x1, x3⟩ (fun _ => ⟨q1, hzf⟩) ?_
        rotate_left
        · intro w' hT
          obtain ⟨t1, t2⟩ := hT
          go_simp
          (try rw [if_pos (by omega)])
          (try with_reducible rfl)
        rotate_left
        (try simp only [Act.put, List.setIfInBounds_toArray, List.set_cons_zero, List.set_cons_succ])
        refine wpKeep_takeT (i := 2) (oi := ⟨some 83, _, _, _, _, _⟩) (v := ?_) rfl (by kernel_rfl) (by kernel_rfl) (by kernel_rfl) (by kernel_rfl) (fun _ _ _ h => h) (Or.inl ⟨by rfl, ?_⟩) ⟨x1, x3⟩ (fun _ => ⟨q1, hzf⟩) ?_
        rotate_left
        · intro w' hT
          obtain ⟨t1, t2⟩ := hT
          go_simp
          (try rw [if_pos (by omega)])
          (try with_reducible rfl)
        rotate_left
        (try simp only [Act.put, List.setIfInBounds_toArray, List.set_cons_zero, List.set_cons_succ])
        refine wpKeep_takeT (i := 3) (oi := ⟨some 84, _, _, _, _, _⟩) (v := ?_) rfl (by kernel_rfl) (by kernel_rfl) (by kernel_rfl) (by kernel_rfl) (fun _ _ _ h => h) (Or.inl ⟨by rfl, ?_⟩) ⟨x1, x3⟩ (fun _ => ⟨q1, hzf⟩) ?_
        rotate_left
        · intro w' hT
          obtain ⟨t1, t2⟩ := hT
          go_simp
          (try rw [if_pos (by omega)])
          (try with_reducible rfl)
        rotate_left
        (try simp only [Act.put, List.setIfInBounds_toArray, List.set_cons_zero, List.set_cons_succ])
        refine wpKeep_takeT (i := 4) (oi := ⟨some 85, _, _, _, _, _⟩) (v := ?_) rfl (by kernel_rfl) (by kernel_rfl) (by kernel_rfl) (by kernel_rfl) (fun _ _ _ h => h) (Or.inl ⟨by rfl, ?_⟩) ⟨x1, x3⟩ (fun _ => ⟨q1, hzf⟩) ?_
        rotate_left
        · intro w' hT
          obtain ⟨t1, t2⟩ := hT
          go_simp
          (try rw [if_pos (by omega)])
          (try with_reducible rfl)
        rotate_left
        (try simp only [Act.put, List.setIfInBounds_toArray, List.set_cons_zero, List.set_cons_succ])
        refine wpKeep_takeT (i := 6) (oi := ⟨some 87, _, _, _, _, _⟩) (v := ?_) rfl (by kernel_rfl) (by kernel_rfl) (by kernel_rfl) (by kernel_rfl) (fun _ _ _ h => h) (Or.inl ⟨by rfl, ?_⟩) ⟨x1, x3⟩ (fun _ => ⟨q1, hzf⟩) ?_
        rotate_left
        · intro w' hT
          obtain ⟨t1, t2⟩ := hT
          go_simp
          (try rw [if_pos (by omega)])
          (try with_reducible rfl)
        rotate_left
        (try simp only [Act.put, List.setIfInBounds_toArray, List.set_cons_zero, List.set_cons_succ])
        refine wpKeep_takeT (i := 7) (oi := ⟨some 88, _, _, _, _, _⟩) (v := ?_) rfl (by kernel_rfl) (by kernel_rfl) (by kernel_rfl) (by kernel_rfl) (fun _ _ _ h => h) (Or.inl ⟨by rfl, ?_⟩) ⟨x1, x3⟩ (fun _ => ⟨q1, hzf⟩) ?_
        rotate_left
        · intro w' hT
          obtain ⟨t1, t2⟩ := hT
          go_simp
          (try rw [if_pos (by omega)])
          (try with_reducible rfl)
        rotate_left
        (try simp only [Act.put, List.setIfInBounds_toArray, List.set_cons_zero, List.set_cons_succ])
        refine wpKeep_ready (rs := [5]) (by kernel_rfl) (by simp) ?_
        refine AllKeep.cons (o := ⟨some 86, _, _, _, _, _⟩) rfl (fun Kq hK => ?_) AllKeep.nil
        go_simp
        go_at_call 9
        refine (HPO.out _).mono ?_
        rintro e w3 ⟨rfl, hw3⟩
        subst hw3
        refine hK.out _ _ ⟨x1, x3⟩ (fun _ => ⟨q1, hzf⟩) ?_
        clear hK Kq
        (try simp only [Act.put, List.setIfInBounds_toArray, List.set_cons_zero, List.set_cons_succ])
        refine wpKeep_takeT (i := 8) (oi := ⟨some 89, _, _, _, _, _⟩) (v := ?_) rfl (by kernel_rfl) (by kernel_rfl) (by kernel_rfl) (by kernel_rfl) (fun _ _ _ h => h) (Or.inl ⟨by rfl, ?_⟩) ⟨x1, x3⟩ (fun _ => ⟨q1, hzf⟩) ?_
        rotate_left
        · intro w' hT
          obtain ⟨t1, t2⟩ := hT
          go_simp
          (try rw [if_pos (by omega)])
          (try with_reducible rfl)
        rotate_left
        (try simp only [Act.put, List.setIfInBounds_toArray, List.set_cons_zero, List.set_cons_succ])
        refine wpKeep_ready (rs := [9]) (by kernel_rfl) (by simp) ?_
        refine AllKeep.cons (o := ⟨none, _, _, _, _, _⟩) rfl (fun Kq hK => ?_) AllKeep.nil
        have kset : Keeps (fun q => q = gl) wr.drew (wr.drew.setCell ⟨gl, r, none⟩ (.string (str s))) := (Keeps.refl (fun q => q = gl) wr.drew).setCell (p := ⟨gl, r, none⟩) (fun _ => rfl) _
        have x14 := (kset.cell (p := ⟨w.heap.size, 1, none⟩) hbxl hcg2).trans x1
        have x34 := (kset.cell (p := ⟨w.heap.size, 3, none⟩) hbxl hcg2).trans x3
        go_simp
        refine hK.out _ _ ⟨x14, x34⟩ (not_early (by kernel_rfl)) ?_
        clear hK Kq
        (try simp only [Act.put, List.setIfInBounds_toArray, List.set_cons_zero, List.set_cons_succ])
        refine wpKeep_done (by kernel_rfl) ?_ _
        clear x1 x2 x3 x14 x34 q1 hzf kset
        go_wp2_with fail
        refine (HLW.out _ (by first | exact Keeps.refl _ _ | exact (Keeps.refl _ _).drew)).mono ?_
        rintro e w9 ⟨rfl, ha9, k9⟩
        have KB9 : Hid (Keeps (fun q => B ≤ q) w w9) := ((HFA.out.mono fun _ _ h => h.elim).trans (HH4.out.2.1.mono fun q _ e => by rw [show q = gl from e]; have := H.out.size; omega)).trans (by first | exact k9 | exact ((Keeps.refl _ _).drew).trans k9)
        go_wp2_with fail
        go_ret2
        exact ⟨by first | rfl | simp, ha9, KB9.out⟩
      · obtain rfl : k = 0 := by omega
        have HLW := hid (loads_w B ob n N c wr v f _ [] h3 ⟨so, scap, rfl, fun k s hs => by cases hs⟩ (by simp) (fun t ht => by cases ht))
        have KB := hid (HFA.out.mono (S' := fun q => B ≤ q) fun _ _ h => h.elim)
        clear h3 hrow hnew fr fA
        go_wp2_with fail
        refine (HPK.out _).mono ?_
        rintro e _ ⟨rfl, rfl⟩
        go_wp2_with fail
        refine HLW.out.mono ?_
        rintro e w9 ⟨rfl, ha9, k9⟩
        have KB9 := hid (KB.out.trans k9)
        go_wp2_with fail
        go_ret2
        exact ⟨by first | rfl | simp, ha9, KB9.out⟩
end Go.Proofs.Ytbhienlalpbflaa
