/-
  SpanTells: the law's walk.
-/
import Derived.Test.YtgikabafaocemaaDoorSpRecD
import Derived.Test.YtgikabafaocemaaDoorSpLawN
import Derived.Test.YtgikabafaocemaaDoorSpKnown
import Derived.Test.YtgikabafaocemaaDoorSpTellP
namespace Go.Proofs.YtgikabafaocemaaDoor
open Go.RowKit

theorem Tryd.infoIntT : (Tryd.prog.info? 3).map (fun i => (i.zero, i.size, i.bytes)) = some (some (.int .i64 0), 1, 8) := by kernel_rfl
def intsV (b j : Nat) : List Value := (List.range j).map fun k => .int .i64 ((b + k : Nat) : Int)
theorem intsV_len (b j : Nat) : (intsV b j).length = j := by simp [intsV]
theorem intsV_succ (b j : Nat) : intsV b (j + 1) = intsV b j ++ [.int .i64 ((b + j : Nat) : Int)] := by simp [intsV, List.range_succ]

/-- a part of a list of texts, as a slice of its places -/
theorem roomPart {w : World} {ao : Option Addr} {N cap : Nat} {l : List (List UInt8)} (h : w.ownsRow 0 9 1 (.slice ao N cap) N (texts l)) (hl : l.length = N) (h1 : 1 ≤ N) : ∃ g, ao = some ⟨g, 0, none⟩ ∧ N ≤ cap ∧ ∀ b e c2, b ≤ e → e ≤ N → e - b ≤ c2 → RoomIn w g (.slice (some ⟨g, b, none⟩) (e - b) c2) (sl l b e) := by
  have hle := row_le h
  obtain ⟨ao', cap', e', hk⟩ := ownsRow_at h
  simp only [Value.slice.injEq] at e'
  obtain ⟨rfl, -, rfl⟩ := e'
  have hget : ∀ (k : Nat) (s : List UInt8), l[k]? = some s → (texts l)[k]? = some (.string (str s)) := fun k s hs => by
    rw [texts, List.getElem?_map, hs]; rfl
  obtain ⟨g, rfl, hg, -⟩ := hk 0 _ (hget 0 (l[0]'(by omega)) (by simp))
  refine ⟨g, rfl, hle, fun b e c2 hb he hc => ⟨b, c2, by rw [sl_len l (by omega)], by rw [sl_len l (by omega)]; exact hc, hg, fun k s hs => ?_⟩⟩
  have hkl : k < e - b := by have := (List.getElem?_eq_some_iff.1 hs).1; rw [sl_len l (by omega)] at this; exact this
  rw [sl, List.getElem?_take, if_pos hkl, List.getElem?_drop] at hs
  obtain ⟨b2, e2, -, hcell⟩ := hk (b + k) _ (hget (b + k) s hs)
  simp only [Option.some.injEq, Addr.mk.injEq, and_true] at e2
  subst e2
  exact hcell

set_option maxRecDepth 100000 in
set_option maxHeartbeats 8000000 in
theorem tells_any (vr : Value) (nr : Nat) (height size at_ many : Int) (w : World) (hv : NumbersAt w vr nr) (hN : Nums w) (hh : -9223372036854775808 ≤ height) (hh2 : height ≤ 9223372036854775807) (hs : -9223372036854775808 ≤ size) (hs2 : size ≤ 9223372036854775807) (ha : -9223372036854775808 ≤ at_) (ha2 : at_ ≤ 9223372036854775807) (hm : -9223372036854775808 ≤ many) (hm2 : many ≤ 9223372036854775807) :
    Calls Tryd.prog 6 #[vr, .int .i64 height, .int .i64 size, .int .i64 at_, .int .i64 many] w fun x w' => x = .returned (.bool true) ∧ Fresh w w' := by
  have hk := hid (known_any w hN)
  have hnum := hid (fun W (f : Fresh w W) => numbered_any vr nr 200 W (by
    obtain ⟨ao, cap, e, hc⟩ := hv
    exact ⟨ao, cap, e, fun k hk => by
      obtain ⟨bb, off, z, q1, q2, q3⟩ := hc k hk
      exact ⟨bb, off, z, q1, Nat.lt_of_lt_of_le q2 f.size, (f.cell (p := ⟨bb, off + k, none⟩) q2 (fun h => h)).trans q3⟩⟩) (by omega))
  obtain ⟨aor, cpr, rfl, -⟩ := hv
  have HN := hid hN
  clear hN
  go_enter Tryd.func6, Tryd.ntmps6
  go_wp2_with fail
  refine hk.out.mono ?_
  rintro x w1 ⟨rfl, f1⟩
  go_wp2_with fail
  refine (hnum.out w1 f1).mono ?_
  rintro x w2 ⟨v2, l, rfl, hl, h32, hown, f2⟩
  have f2' := f1.trans f2
  have hll : l.length ≤ 200 := by omega
  have hpl := hid (planted_any v2 l height w2 hown.at_ h32 (by omega) hh hh2 (HN.out.fresh f2'))
  obtain ⟨ao2, cp2, ev2⟩ := ownsRow_slice hown.1
  subst ev2
  have HL := hid hll
  have H32 := hid h32
  have HOWN := hid hown
  clear hk hnum hl h32 hown
  go_wp2_with fail
  refine hpl.out.mono ?_
  rintro x w3 ⟨tb, rfl, hT, f3⟩
  have f3' := f2'.trans f3
  have hq1 : ∀ W, (binOp .eql 28 (.pointer (some ⟨tb, 0, none⟩)) (.pointer none)).run Tryd.prog W = .ok (.bool false) W := fun W => by kernel_rfl
  clear hpl
  by_cases h0 : l.length = 0
  · go_wp2_with fail
    go_ret
    exact ⟨rfl, f3'⟩
  · obtain ⟨N, hNl⟩ : ∃ N, l.length = N := ⟨_, rfl⟩
    rw [hNl] at h0 hll HOWN ⊢
    have p1 := fun W => pick_any size (N : Int) W (by omega) (by omega) hs hs2
    have q1 := pickN_in size (N : Int) (by omega)
    generalize pickN size (N : Int) = P1 at p1 q1
    obtain ⟨n, hn⟩ : ∃ n : Nat, (n : Int) = 1 + P1 := ⟨(1 + P1).toNat, by omega⟩
    have p2 := fun W => pick_any at_ (n : Int) W (by omega) (by omega) ha ha2
    have q2 := pickN_in at_ (n : Int) (by omega)
    generalize pickN at_ (n : Int) = P2 at p2 q2
    obtain ⟨b, rfl⟩ : ∃ b : Nat, (b : Int) = P2 := ⟨P2.toNat, by omega⟩
    obtain ⟨D, hD⟩ : ∃ D : Nat, D = n - b := ⟨_, rfl⟩
    have p3 := fun W => pick_any many (D : Int) W (by omega) (by omega) hm hm2
    have q3 := pickN_in many (D : Int) (by omega)
    generalize pickN many (D : Int) = P3 at p3 q3
    obtain ⟨m, hmm⟩ : ∃ m : Nat, (m : Int) = 1 + P3 := ⟨(1 + P3).toNat, by omega⟩
    have HP1 := hid p1
    have HP2 := hid p2
    have HP3 := hid p3
    have HQ := hid (show 1 ≤ n ∧ n ≤ N ∧ b < n ∧ 1 ≤ m ∧ b + m ≤ n ∧ N ≤ 200 by omega)
    have hN0 : ((N : Int) == 0) = false := by simp; omega
    have hnb : (n : Int) ≤ 200 := by omega
    have hbb : (b : Int) ≤ 200 := by omega
    have hmb : (m : Int) ≤ 200 := by omega
    have hn1 := hid (show 1 + P1 = (n : Int) by omega)
    have hd1 := hid (show (n : Int) - (b : Int) = (D : Int) by omega)
    have hm1 := hid (show 1 + P3 = (m : Int) by omega)
    have hP1 : P1 ≤ 200 := by omega
    have hP1' : 0 ≤ P1 := by omega
    have hP3 : P3 ≤ 200 := by omega
    have hP3' : 0 ≤ P3 := by omega
    clear p1 p2 p3 q1 q2 q3 hn hmm hD hs hs2 ha ha2 hm hm2 hh hh2 h0 hll
    go_wp2_with fail
    refine (HP1.out _).mono ?_
    rintro x w4 ⟨rfl, rfl⟩
    go_wp2_with fail
    rw [hn1.out]
    refine (HP2.out _).mono ?_
    rintro x w4 ⟨rfl, rfl⟩
    go_wp2_with fail
    rw [hd1.out]
    refine (HP3.out _).mono ?_
    rintro x w4 ⟨rfl, rfl⟩
    obtain ⟨hgt, S, hTT, hS⟩ := hT
    obtain ⟨e, he⟩ : ∃ e, b + m = e := ⟨_, rfl⟩
    have hpv := hid (pprove_good S tb hgt l n b e w3 hTT (HN.out.fresh f3').dig HQ.out.1 (by rw [hNl]; exact HQ.out.2.1) (by have := HQ.out; omega) (by have := HQ.out; omega))
    have HE := hid he
    have hbm := hid (show (b : Int) + (m : Int) = (e : Int) by omega)
    unfold spanV at hpv
    have HTT := hid hTT
    clear he hTT
    go_wp2_with fail
    rw [hm1.out, hbm.out]
    refine hpv.out.mono ?_
    rintro x w5 ⟨v5, rfl, hclip, f5⟩
    have HCLIP := hid hclip
    obtain ⟨ao5, cp5, hv5r, hv5o, ev5⟩ := hclip
    subst ev5
    clear hpv hv5r hv5o
    go_wp2_with fail
    obtain ⟨i9, hi, hz0, hz1, hz2⟩ := info_parts Tryd.infoIntT
    have heb : (e : Int) ≤ 200 := by have := HQ.out; have := HE.out; omega
    have f5a := f5.alloc (.cells #[.int .i64 (n : Int), .int .i64 (b : Int), .int .i64 (e : Int), .slice ao5 (toldH l (toldF 40 b e 0 n)).length (toldH l (toldF 40 b e 0 n)).length] 41)
    have hb5 := heap_alloc_new w5 (.cells #[.int .i64 (n : Int), .int .i64 (b : Int), .int .i64 (e : Int), .slice ao5 (toldH l (toldF 40 b e 0 n)).length (toldH l (toldF 40 b e 0 n)).length] 41)
    have f55 := (Keeps.refl (fun _ => False) w5).alloc (.cells #[.int .i64 (n : Int), .int .i64 (b : Int), .int .i64 (e : Int), .slice ao5 (toldH l (toldF 40 b e 0 n)).length (toldH l (toldF 40 b e 0 n)).length] 41)
    generalize w5.alloc (.cells #[.int .i64 (n : Int), .int .i64 (b : Int), .int .i64 (e : Int), .slice ao5 (toldH l (toldF 40 b e 0 n)).length (toldH l (toldF 40 b e 0 n)).length] 41) = W5 at f5a hb5 f55 ⊢
    generalize w5.heap.size = rb at hb5 ⊢
    have HB5 := hid hb5
    clear hb5
    go_loopw [19, 20] (fun v i wr => ∃ (j : Nat), i = .int .i64 ((b + j : Nat) : Int) ∧ j ≤ m ∧ wr.ownsRow 0 3 1 v j (intsV b j) ∧ (∀ g, v.ownBlock = some g → W5.heap.size ≤ g) ∧ Fresh W5 wr) (fun _ i _ => b + m - (intOf i).toNat)
    case atStart => exact ⟨0, rfl, Nat.zero_le _, World.ownsRow_nil _ _ _ _, (fun g hg => by simp [Value.ownBlock] at hg), Keeps.refl _ _⟩
    case round =>
      obtain ⟨j, rfl, hj, hrow, ok, f6⟩ := hrel
      by_cases hjm : j < m
      · obtain ⟨B, hB⟩ : ∃ B, b + j = B := ⟨_, rfl⟩
        rw [hB]
        have hBi : (B : Int) < (b : Int) + (m : Int) := by omega
        have hBb : (B : Int) ≤ 200 := by have := HQ.out; omega
        obtain ⟨aoY, cpY, erv⟩ := ownsRow_slice hrow
        have HJM := hid hjm
        have HB := hid hB
        have HO := hid ok
        have fal := (Keeps.refl (fun _ => False) wr).alloc (.cells #[.int .i64 (B : Int)] 3)
        have hlb := heap_alloc_new wr (.cells #[.int .i64 (B : Int)] 3)
        have hsrc : Src Tryd.prog 1 22 (.slice (some ⟨wr.heap.size, 0, none⟩) 1 1) 1 [.int .i64 (B : Int)] (wr.alloc (.cells #[.int .i64 (B : Int)] 3)) := Src.ofSlice _ Tryd.underlying22 _ 1 1 [.int .i64 (B : Int)] rfl (fun k u hu => by
          match k, hu with
          | 0, hu => simp at hu; subst hu; exact cell_at hlb 0
          | (k + 1), hu => simp at hu) (fun u hu => by rw [List.mem_singleton.1 hu]; rfl)
        have hrow6 := ownsRow_keeps hrow fal (fun _ _ h => h)
        have HLEN := hid (show j + 1 ≤ 201 by have := HQ.out; omega)
        subst erv
        clear hjm hj hrow ok hlb hB
        go_wp2_with (at_builtin; refine wpList_append_src rfl (.tmp 83) (.tmp 85) 22 22 rfl 3 i9 (.int .i64 0) 1 8 Tryd.underlying22 hi hz0 hz1 hz2 rfl (by decide) hrow6 _ 1 [.int .i64 (B : Int)] (by rfl) (by rfl) hsrc (by have := HLEN.out; unfold maxLen; omega) (by have := HLEN.out; omega) ?_)
        intro v6 w6 ha
        replace ha : Appended 3 1 (wr.alloc (.cells #[.int .i64 (B : Int)] 3)) w6 (.slice aoY j cpY) v6 (j + 1) (intsV b j ++ [.int .i64 (B : Int)]) := ha
        have f7 : Fresh W5 w6 := (f6.trans fal).trans' ha.keeps (fun q hq e => by have := HO.out q e; omega)
        have o7 : ∀ g, v6.ownBlock = some g → W5.heap.size ≤ g := fun g hg => by
          rcases ha.own g hg with z | z
          · exact HO.out g z
          · have := (f6.trans fal).size; omega
        have hrow7 : w6.ownsRow 0 3 1 v6 (j + 1) (intsV b (j + 1)) := by
          rw [intsV_succ, HB.out]
          exact ha.row
        obtain ⟨ao6, cp6, rfl⟩ := ownsRow_slice ha.row
        clear ha hsrc hrow6 fal
        go_wp2_with fail
        go_roundw
        case rel => exact ⟨j + 1, by have := HB.out; simp; omega, HJM.out, hrow7, o7, f7⟩
        case measure => have := HJM.out; have := HB.out; simp [intOf]; omega
      · have hjm2 : j = m := by omega
        subst hjm2
        have hQ := HQ.out
        obtain ⟨aoY, cpY, erv⟩ := ownsRow_slice hrow
        have hle := row_le (erv ▸ hrow)
        have f6' := f5a.trans f6
        have f7 := f3'.trans f6'
        have hbB : ¬ ((b + j : Nat) : Int) < (b : Int) + (j : Int) := by omega
        have HOWN6 := hid (OwnTexts_at (ownsRow_keeps HOWN.out.1 (f3.trans f6') (fun _ _ h => h)))
        have hidx : IdxAt wr (.slice aoY j cpY) b j := by
          obtain ⟨ao', cap', e', hk⟩ := ownsRow_at (erv ▸ hrow)
          simp only [Value.slice.injEq] at e'
          obtain ⟨rfl, -, rfl⟩ := e'
          have hget : ∀ k, k < j → (intsV b j)[k]? = some (.int .i64 ((b + k : Nat) : Int)) := fun k hk => by
            rw [intsV, List.getElem?_map, List.getElem?_range hk]; rfl
          obtain ⟨bb, rfl, hbb, -⟩ := hk 0 _ (hget 0 (by omega))
          refine ⟨bb, 0, cpY, rfl, hle, hbb, fun k hk2 => ?_⟩
          obtain ⟨b2, e2, -, hc⟩ := hk k _ (hget k hk2)
          simp only [Option.some.injEq, Addr.mk.injEq, and_true] at e2
          subst e2
          rw [Nat.zero_add]
          exact hc
        subst erv
        have HIDX := hid hidx
        have hrow6 := ownsRow_keeps HOWN.out.1 (f3.trans f6') (fun _ _ h => h)
        rw [hNl] at hrow6
        obtain ⟨g, eao, hNc, hpart⟩ := roomPart hrow6 hNl (by omega)
        subst eao
        have r1 : RoomIn wr g (.slice (some ⟨g, 0, none⟩) n cp2) (l.take n) := hpart 0 n cp2 (by omega) (by omega) (by omega)
        have r2 := hpart b e (cp2 - b) (by have := HE.out; omega) (by have := HE.out; omega) (by have := HE.out; omega)
        have hlt : (l.take n).length = n := by rw [List.length_take]; omega
        have h32t : all32P (l.take n) := fun z hz => H32.out z (List.mem_of_mem_take hz)
        have hmany := recmany_any g b j (l.take n) (.slice (some ⟨g, 0, none⟩) n cp2) (.slice aoY j cpY) wr (by omega) (by omega) h32t (by omega) (by omega) (by omega) (hlt ▸ r1) hidx (HN.out.fresh f7).dig
        have hroot := fun W (f : Fresh wr W) => recRoot_any (.slice (some ⟨g, 0, none⟩) n cp2) (l.take n) W ⟨g, (show RoomIn wr g _ _ from r1).keeps f (fun h => h)⟩ (by omega) (by omega) h32t (HN.out.fresh (f7.trans f)).dig
        rw [hlt, HE.out, toldH_of_take l (by omega) (by omega)] at hmany
        have HMANY := hid hmany
        have HROOT := hid hroot
        have hrr := root_right l H32.out (n := n) (b := b) (e := e) (by omega) (by omega) (by have := HE.out; omega) (by have := HE.out; omega)
        have HRR := hid hrr
        have R2 := hid r2
        have hbe := hid (show b + j = e by exact HE.out)
        obtain ⟨TH, hTH⟩ : ∃ TH, toldH l (toldF 40 b e 0 n) = TH := ⟨_, rfl⟩
        rw [hTH] at HMANY HRR HB5 HCLIP
        have hclip := HCLIP.out
        have HTHL := hid hTH
        clear hidx hrow6 hpart r1 r2 hlt h32t hmany hroot hrr hTH
        go_wp2_with fail
        refine (HMANY.out).mono ?_
        rintro x w8 ⟨⟨vM, rfl, hM⟩, f8⟩
        have f8' := f7.trans f8
        go_wp2_with fail
        refine (HROOT.out _ f8).mono ?_
        rintro x w9 ⟨rfl, f9⟩
        have f9' := f8.trans f9
        have hb9 := (f6.trans f9').at_ HB5.out (fun h => h)
        have RBL := lt_of_block hb9
        have RB0 := cell_at hb9 0
        have RB1 := cell_at hb9 1
        have RB2 := cell_at hb9 2
        have RB3 := cell_at hb9 3
        simp only [List.getElem?_toArray, List.getElem?_cons_zero, List.getElem?_cons_succ] at RB0 RB1 RB2 RB3
        have R29 := hid (R2.out.keeps f9' (fun h => h))
        have hclip9 := hclip.fresh ((f55.trans f6).trans f9')
        have hatL := RoomAt.at_ ⟨g, R29.out⟩
        have hatH := hclip9.at_
        have hpr := fun W (f : Fresh w9 W) => proot_any (n : Int) (b : Int) (e : Int) (.slice ao5 TH.length TH.length) (.slice (some ⟨g, b, none⟩) (e - b) (cp2 - b)) TH (sl l b e) W (TextsAt.fresh hatH f) (TextsAt.fresh hatL f) (by have := HTHL.out; have h5 := toldF_len 40 b e 0 n; rw [← this, toldH, List.length_map]; simp only [Nat.reducePow] at h5; omega) (by rw [sl_len l (by have := HE.out; omega)]; omega) (HN.out.fresh ((f7.trans f9').trans f)).dig (fun wb q => listBut_at (TextsAt.fresh hatH f) rfl (by omega) wb q) (fun wb q => listBut_at (TextsAt.fresh hatL f) rfl (by have := HE.out; omega) wb q)
        rw [HRR.out] at hpr
        unfold runV at hpr
        have HPR := hid hpr
        have HATH := hid hatH
        have HM := hid (hM.fresh f9)
        have RB3' := RB3
        clear hpr hatH hatL hclip hclip9 hM
        have z1 : IntKind.i64.wrap ((b : Int) + (j : Int)) = (e : Int) := by rw [hbm.out]; exact IntWalk.i64_in _ (by omega)
        have z2 : (b : Int) ≤ (e : Int) := by have := HE.out; omega
        have z3 : (e : Int) ≤ (cp2 : Int) := by have := HE.out; omega
        have z4 : b < cp2 := by omega
        have z5 : ¬ cp2 = b := by omega
        go_wp2_with fail
        refine wp_region_keep 13 (fun w' => Fresh w9 w') (fun _ => True) (fun _ => true) (by kernel_rfl) (by kernel_rfl) ?_
        (try (change wpKeep _ _ _ _ _ _ _ _ _ _ (World.drew _)))
        refine wpKeep_takeT (i := 0) (oi := ⟨some 103, _, _, _, _, _⟩) (v := ?_) rfl (by kernel_rfl) (by kernel_rfl) (by kernel_rfl) (by kernel_rfl) (fun _ _ _ h => h) (Or.inl ⟨by rfl, ?_⟩) (Keeps.refl _ _).drew (fun _ => trivial) ?_
        rotate_left
        · intro w' hT
          have yB0 := (hT.cell (p := ⟨rb, 0, none⟩) RBL (fun h => h)).trans RB0
          have yB1 := (hT.cell (p := ⟨rb, 1, none⟩) RBL (fun h => h)).trans RB1
          have yB2 := (hT.cell (p := ⟨rb, 2, none⟩) RBL (fun h => h)).trans RB2
          have yB3 := (hT.cell (p := ⟨rb, 3, none⟩) RBL (fun h => h)).trans RB3
          go_simp
          (try rw [if_pos (by omega)])
          (try with_reducible rfl)
        rotate_left
        (try simp only [Act.put, List.setIfInBounds_toArray, List.set_cons_zero, List.set_cons_succ])
        refine wpKeep_takeT (i := 1) (oi := ⟨some 104, _, _, _, _, _⟩) (v := ?_) rfl (by kernel_rfl) (by kernel_rfl) (by kernel_rfl) (by kernel_rfl) (fun _ _ _ h => h) (Or.inl ⟨by rfl, ?_⟩) (Keeps.refl _ _).drew (fun _ => trivial) ?_
        rotate_left
        · intro w' hT
          have yB0 := (hT.cell (p := ⟨rb, 0, none⟩) RBL (fun h => h)).trans RB0
          have yB1 := (hT.cell (p := ⟨rb, 1, none⟩) RBL (fun h => h)).trans RB1
          have yB2 := (hT.cell (p := ⟨rb, 2, none⟩) RBL (fun h => h)).trans RB2
          have yB3 := (hT.cell (p := ⟨rb, 3, none⟩) RBL (fun h => h)).trans RB3
          go_simp
          (try rw [if_pos (by omega)])
          (try with_reducible rfl)
        rotate_left
        (try simp only [Act.put, List.setIfInBounds_toArray, List.set_cons_zero, List.set_cons_succ])
        refine wpKeep_takeT (i := 2) (oi := ⟨some 105, _, _, _, _, _⟩) (v := ?_) rfl (by kernel_rfl) (by kernel_rfl) (by kernel_rfl) (by kernel_rfl) (fun _ _ _ h => h) (Or.inl ⟨by rfl, ?_⟩) (Keeps.refl _ _).drew (fun _ => trivial) ?_
        rotate_left
        · intro w' hT
          have yB0 := (hT.cell (p := ⟨rb, 0, none⟩) RBL (fun h => h)).trans RB0
          have yB1 := (hT.cell (p := ⟨rb, 1, none⟩) RBL (fun h => h)).trans RB1
          have yB2 := (hT.cell (p := ⟨rb, 2, none⟩) RBL (fun h => h)).trans RB2
          have yB3 := (hT.cell (p := ⟨rb, 3, none⟩) RBL (fun h => h)).trans RB3
          go_simp
          (try rw [if_pos (by omega)])
          (try with_reducible rfl)
        rotate_left
        (try simp only [Act.put, List.setIfInBounds_toArray, List.set_cons_zero, List.set_cons_succ])
        refine wpKeep_takeT (i := 3) (oi := ⟨some 106, _, _, _, _, _⟩) (v := ?_) rfl (by kernel_rfl) (by kernel_rfl) (by kernel_rfl) (by kernel_rfl) (fun _ _ _ h => h) (Or.inl ⟨by rfl, ?_⟩) (Keeps.refl _ _).drew (fun _ => trivial) ?_
        rotate_left
        · intro w' hT
          have yB0 := (hT.cell (p := ⟨rb, 0, none⟩) RBL (fun h => h)).trans RB0
          have yB1 := (hT.cell (p := ⟨rb, 1, none⟩) RBL (fun h => h)).trans RB1
          have yB2 := (hT.cell (p := ⟨rb, 2, none⟩) RBL (fun h => h)).trans RB2
          have yB3 := (hT.cell (p := ⟨rb, 3, none⟩) RBL (fun h => h)).trans RB3
          go_simp
          (try rw [if_pos (by omega)])
          (try with_reducible rfl)
        rotate_left
        (try simp only [Act.put, List.setIfInBounds_toArray, List.set_cons_zero, List.set_cons_succ])
        refine wpKeep_takeT (i := 4) (oi := ⟨some 107, _, _, _, _, _⟩) (v := ?_) rfl (by kernel_rfl) (by kernel_rfl) (by kernel_rfl) (by kernel_rfl) (fun _ _ _ h => h) (Or.inl ⟨by rfl, ?_⟩) (Keeps.refl _ _).drew (fun _ => trivial) ?_
        rotate_left
        · intro w' hT
          have yB0 := (hT.cell (p := ⟨rb, 0, none⟩) RBL (fun h => h)).trans RB0
          have yB1 := (hT.cell (p := ⟨rb, 1, none⟩) RBL (fun h => h)).trans RB1
          have yB2 := (hT.cell (p := ⟨rb, 2, none⟩) RBL (fun h => h)).trans RB2
          have yB3 := (hT.cell (p := ⟨rb, 3, none⟩) RBL (fun h => h)).trans RB3
          go_simp
          (try rw [if_pos (by omega)])
          (try with_reducible rfl)
        rotate_left
        (try simp only [Act.put, List.setIfInBounds_toArray, List.set_cons_zero, List.set_cons_succ])
        refine wpKeep_takeT (i := 5) (oi := ⟨some 108, _, _, _, _, _⟩) (v := ?_) rfl (by kernel_rfl) (by kernel_rfl) (by kernel_rfl) (by kernel_rfl) (fun _ _ _ h => h) (Or.inl ⟨by rfl, ?_⟩) (Keeps.refl _ _).drew (fun _ => trivial) ?_
        rotate_left
        · intro w' hT
          have yB0 := (hT.cell (p := ⟨rb, 0, none⟩) RBL (fun h => h)).trans RB0
          have yB1 := (hT.cell (p := ⟨rb, 1, none⟩) RBL (fun h => h)).trans RB1
          have yB2 := (hT.cell (p := ⟨rb, 2, none⟩) RBL (fun h => h)).trans RB2
          have yB3 := (hT.cell (p := ⟨rb, 3, none⟩) RBL (fun h => h)).trans RB3
          go_simp
          (try rw [if_pos (by omega)])
          (try with_reducible rfl)
        rotate_left
        (try simp only [Act.put, List.setIfInBounds_toArray, List.set_cons_zero, List.set_cons_succ])
        refine wpKeep_takeT (i := 6) (oi := ⟨some 109, _, _, _, _, _⟩) (v := ?_) rfl (by kernel_rfl) (by kernel_rfl) (by kernel_rfl) (by kernel_rfl) (fun _ _ _ h => h) (Or.inl ⟨by rfl, ?_⟩) (Keeps.refl _ _).drew (fun _ => trivial) ?_
        rotate_left
        · intro w' hT
          have yB0 := (hT.cell (p := ⟨rb, 0, none⟩) RBL (fun h => h)).trans RB0
          have yB1 := (hT.cell (p := ⟨rb, 1, none⟩) RBL (fun h => h)).trans RB1
          have yB2 := (hT.cell (p := ⟨rb, 2, none⟩) RBL (fun h => h)).trans RB2
          have yB3 := (hT.cell (p := ⟨rb, 3, none⟩) RBL (fun h => h)).trans RB3
          go_simp
          (try rw [if_pos (by omega)])
          (try with_reducible rfl)
        rotate_left
        (try simp only [Act.put, List.setIfInBounds_toArray, List.set_cons_zero, List.set_cons_succ])
        refine wpKeep_ready (rs := [7]) (by kernel_rfl) (by simp) ?_
        refine AllKeep.cons (o := ⟨some 110, _, _, _, _, _⟩) rfl (fun K hK => ?_) AllKeep.nil
        go_simp
        go_at_call 25
        with_reducible refine (HPR.out _ (Keeps.refl (fun _ => False) w9).drew).mono ?_
        rintro x w10 ⟨rfl, f10⟩
        have f10 : Fresh w9 w10 := (Keeps.refl (fun _ => False) w9).drew.trans f10
        dsimp only
        refine hK.out _ _ f10 (fun _ => trivial) ?_
        clear hK K
        (try simp only [Act.put, List.setIfInBounds_toArray, List.set_cons_zero, List.set_cons_succ])
        refine wpKeep_takeT (i := 8) (oi := ⟨some 102, _, _, _, _, _⟩) (v := ?_) rfl (by kernel_rfl) (by kernel_rfl) (by kernel_rfl) (by kernel_rfl) (fun _ _ _ h => h) (Or.inl ⟨by rfl, ?_⟩) f10 (fun _ => trivial) ?_
        rotate_left
        · intro w' hT
          have yB0 := (hT.cell (p := ⟨rb, 0, none⟩) RBL (fun h => h)).trans RB0
          have yB1 := (hT.cell (p := ⟨rb, 1, none⟩) RBL (fun h => h)).trans RB1
          have yB2 := (hT.cell (p := ⟨rb, 2, none⟩) RBL (fun h => h)).trans RB2
          have yB3 := (hT.cell (p := ⟨rb, 3, none⟩) RBL (fun h => h)).trans RB3
          go_simp
          (try rw [if_pos (by omega)])
          (try with_reducible rfl)
        rotate_left
        (try simp only [Act.put, List.setIfInBounds_toArray, List.set_cons_zero, List.set_cons_succ])
        refine wpKeep_takeT (i := 9) (oi := ⟨some 111, _, _, _, _, _⟩) (v := ?_) rfl (by kernel_rfl) (by kernel_rfl) (by kernel_rfl) (by kernel_rfl) (fun _ _ _ h => h) (Or.inl ⟨by rfl, ?_⟩) f10 (fun _ => trivial) ?_
        rotate_left
        · intro w' hT
          have yB0 := (hT.cell (p := ⟨rb, 0, none⟩) RBL (fun h => h)).trans RB0
          have yB1 := (hT.cell (p := ⟨rb, 1, none⟩) RBL (fun h => h)).trans RB1
          have yB2 := (hT.cell (p := ⟨rb, 2, none⟩) RBL (fun h => h)).trans RB2
          have yB3 := (hT.cell (p := ⟨rb, 3, none⟩) RBL (fun h => h)).trans RB3
          go_simp
          (try rw [if_pos (by omega)])
          (try with_reducible rfl)
        rotate_left
        (try simp only [Act.put, List.setIfInBounds_toArray, List.set_cons_zero, List.set_cons_succ])
        refine wpKeep_takeT (i := 10) (oi := ⟨some 112, _, _, _, _, _⟩) (v := ?_) rfl (by kernel_rfl) (by kernel_rfl) (by kernel_rfl) (by kernel_rfl) (fun _ _ _ h => h) (Or.inl ⟨by rfl, ?_⟩) f10 (fun _ => trivial) ?_
        rotate_left
        · intro w' hT
          have yB0 := (hT.cell (p := ⟨rb, 0, none⟩) RBL (fun h => h)).trans RB0
          have yB1 := (hT.cell (p := ⟨rb, 1, none⟩) RBL (fun h => h)).trans RB1
          have yB2 := (hT.cell (p := ⟨rb, 2, none⟩) RBL (fun h => h)).trans RB2
          have yB3 := (hT.cell (p := ⟨rb, 3, none⟩) RBL (fun h => h)).trans RB3
          go_simp
          (try rw [if_pos (by omega)])
          (try with_reducible rfl)
        rotate_left
        (try simp only [Act.put, List.setIfInBounds_toArray, List.set_cons_zero, List.set_cons_succ])
        refine wpKeep_takeT (i := 11) (oi := ⟨some 25, _, _, _, _, _⟩) (v := ?_) rfl (by kernel_rfl) (by kernel_rfl) (by kernel_rfl) (by kernel_rfl) (fun _ _ _ h => h) (Or.inl ⟨by rfl, ?_⟩) f10 (fun _ => trivial) ?_
        rotate_left
        · intro w' hT
          have yB0 := (hT.cell (p := ⟨rb, 0, none⟩) RBL (fun h => h)).trans RB0
          have yB1 := (hT.cell (p := ⟨rb, 1, none⟩) RBL (fun h => h)).trans RB1
          have yB2 := (hT.cell (p := ⟨rb, 2, none⟩) RBL (fun h => h)).trans RB2
          have yB3 := (hT.cell (p := ⟨rb, 3, none⟩) RBL (fun h => h)).trans RB3
          go_simp
          (try rw [if_pos (by omega)])
          (try with_reducible rfl)
        rotate_left
        (try simp only [Act.put, List.setIfInBounds_toArray, List.set_cons_zero, List.set_cons_succ])
        refine wpKeep_takeT (i := 12) (oi := ⟨some 26, _, _, _, _, _⟩) (v := ?_) rfl (by kernel_rfl) (by kernel_rfl) (by kernel_rfl) (by kernel_rfl) (fun _ _ _ h => h) (Or.inl ⟨by rfl, ?_⟩) f10 (fun _ => trivial) ?_
        rotate_left
        · intro w' hT
          have yB0 := (hT.cell (p := ⟨rb, 0, none⟩) RBL (fun h => h)).trans RB0
          have yB1 := (hT.cell (p := ⟨rb, 1, none⟩) RBL (fun h => h)).trans RB1
          have yB2 := (hT.cell (p := ⟨rb, 2, none⟩) RBL (fun h => h)).trans RB2
          have yB3 := (hT.cell (p := ⟨rb, 3, none⟩) RBL (fun h => h)).trans RB3
          go_simp
          (try rw [if_pos (by omega)])
          (try with_reducible rfl)
        rotate_left
        (try simp only [Act.put, List.setIfInBounds_toArray, List.set_cons_zero, List.set_cons_succ])
        refine wpKeep_done (by kernel_rfl) ?_ _
        clear z1 z2 z3 z4 z5
        have f10' := f9'.trans f10
        have hb10 := f10.at_ hb9 (fun h => h)
        have RBL2 := lt_of_block hb10
        have SB0 := cell_at hb10 0
        have SB1 := cell_at hb10 1
        have SB2 := cell_at hb10 2
        have SB3 := cell_at hb10 3
        simp only [List.getElem?_toArray, List.getElem?_cons_zero, List.getElem?_cons_succ] at SB0 SB1 SB2 SB3
        clear RB0 RB1 RB2 RB3 RB3'
        have hsm := same_any (.slice ao5 TH.length TH.length) vM TH TH w10 (HATH.out.fresh f10) (HM.out.fresh f10) (by have := HTHL.out; have h5 := toldF_len 40 b e 0 n; rw [← this, toldH, List.length_map]; simp only [Nat.reducePow] at h5; omega) (by have := HTHL.out; have h5 := toldF_len 40 b e 0 n; rw [← this, toldH, List.length_map]; simp only [Nat.reducePow] at h5; omega)
        rw [decide_eq_true rfl] at hsm
        have HSM := hid hsm
        obtain ⟨aoM, cpM, evM, -⟩ := HM.out
        subst evM
        clear hsm
        go_wp2_with fail
        with_reducible refine (HSM.out).mono ?_
        rintro x w11 ⟨rfl, f11⟩
        have TB0 := (f11.cell (p := ⟨rb, 0, none⟩) RBL2 (fun h => h)).trans SB0
        have TB1 := (f11.cell (p := ⟨rb, 1, none⟩) RBL2 (fun h => h)).trans SB1
        have TB2 := (f11.cell (p := ⟨rb, 2, none⟩) RBL2 (fun h => h)).trans SB2
        clear SB0 SB1 SB2 SB3 hb10 hb9
        go_wp2_with fail
        have q9 : ((e : Int) == (b : Int) + (j : Int)) = true := by rw [hbm.out]; simp
        rw [q9]
        go_ret
        exact ⟨rfl, f7.trans (f10'.trans f11)⟩
end Go.Proofs.YtgikabafaocemaaDoor
