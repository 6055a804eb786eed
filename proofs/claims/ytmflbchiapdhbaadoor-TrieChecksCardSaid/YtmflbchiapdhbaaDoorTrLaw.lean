/-
  TrieChecks: the law's walk.
-/
import Derived.Test.YtmflbchiapdhbaaDoorTrLawA
namespace Go.Proofs.YtmflbchiapdhbaaDoor
open Go.RowKit

set_option maxRecDepth 100000 in
set_option maxHeartbeats 4000000 in
theorem law_any (v : Value) (l : List (List UInt8)) (pt : Bool) (pk pv key value : List UInt8) (there : Bool) (root : List UInt8) (w : World) (hl : TextsAt w v l) (hd : Dig w) (hll : l.length ≤ 8796093021952) (hpk : pk.length ≤ 9223372036854775807) (hpv : pv.length ≤ 9223372036854775807) (hkey : key.length ≤ 9223372036854775807) (hval : value.length ≤ 9223372036854775807) (hs : ∀ s ∈ l, s.length ≤ 9223372036854775807) :
    Calls Tryd.prog 3 #[.agg #[v, .bool pt, .string (str pk), .string (str pv)], .string (str key), .string (str value), .bool there, .string (str root)] w fun e w' => e = .returned (.bool true) ∧ Fresh w w' := by
  obtain ⟨i0, hi, hz0, hz1, hz2⟩ := info_parts Tryd.infoText
  have f1 : Fresh w (w.alloc (.cells #[v, .bool pt, .string (str pk), .string (str pv)] 24)) := (Keeps.refl _ _).alloc _
  have hbp := heap_alloc_new w (.cells #[v, .bool pt, .string (str pk), .string (str pv)] 24)
  have hl1 := hl.fresh f1
  have hd1 := hd.fresh f1
  have hl0 := hl
  obtain ⟨ao, cap, rfl, -⟩ := hl
  go_enter Tryd.func3, Tryd.ntmps3
  go_wp2_with fail
  refine (known_any _ hd1).mono ?_
  rintro e w1 ⟨rfl, fa⟩
  have hl1 := hl1.fresh fa
  have hd1 := hd1.fresh fa
  have hbp := fa.at_ hbp (fun h => h)
  have f1 := f1.trans fa
  clear fa
  obtain ⟨bp, hbpe⟩ : ∃ bp, w.heap.size = bp := ⟨_, rfl⟩
  rw [hbpe] at hbp ⊢
  have p0 := cell_at hbp 0
  have p1 := cell_at hbp 1
  have p2 := cell_at hbp 2
  have p3 := cell_at hbp 3
  simp at p0 p1 p2 p3
  go_wp2_with fail
  have hbo := heap_alloc_new w1 (.cells #[.slice ao l.length cap, .bool pt, .string (str pk), .string (str pv)] 24)
  have fo : Fresh w1 (w1.alloc (.cells #[.slice ao l.length cap, .bool pt, .string (str pk), .string (str pv)] 24)) := (Keeps.refl _ _).alloc _
  have hl2 := hl1.fresh fo
  have hd2 := hd1.fresh fo
  have hbp2 := fo.at_ hbp (fun h => h)
  have f2 := f1.trans fo
  have hlt : bp < w1.heap.size := lt_of_block hbp
  clear f1 fo hl1 hd1 hbp p0 p1 p2 p3
  obtain ⟨bo, hboe⟩ : ∃ bo, w1.heap.size = bo := ⟨_, rfl⟩
  rw [hboe] at hbo hlt ⊢
  generalize w1.alloc (.cells #[.slice ao l.length cap, .bool pt, .string (str pk), .string (str pv)] 24) = W1 at hbo hl2 hd2 hbp2 f2 ⊢
  have hbol : bo < W1.heap.size := lt_of_block hbo
  go_cut [] (fun wx => ∃ g c, wx.heap[bo]? = some (.cells #[.slice (some ⟨g, 0, none⟩) l.length c, .bool pt, .string (str pk), .string (str pv)] 24 (0, 0)) ∧ wx.ownsRow 0 9 1 (.slice (some ⟨g, 0, none⟩) (l.length + 2) c) (l.length + 2) (texts (l ++ [[126], [126]])) ∧ W1.heap.size ≤ g ∧ Keeps (fun q => q = bo) W1 wx)
  case first =>
    have k1 : Fresh W1 W1.drew := (Keeps.refl _ _).drew
    have k2 : Fresh W1 (W1.alloc (.cells #[.string ⟨#[126]⟩, .string ⟨#[126]⟩] 9)).drew := ((Keeps.refl _ _).alloc _).drew
    have hA1 := hl2.fresh k1
    have hA2 := hl2.fresh k2
    have hnew2 : (W1.alloc (.cells #[.string ⟨#[126]⟩, .string ⟨#[126]⟩] 9)).drew.heap[W1.heap.size]? = _ := heap_alloc_new W1 (.cells #[.string ⟨#[126]⟩, .string ⟨#[126]⟩] 9)
    have src2 : ∀ (W : World) (n : Nat), W.heap[n]? = some (.cells #[.string ⟨#[126]⟩, .string ⟨#[126]⟩] 9 (0, 0)) → Src Tryd.prog 1 22 (.slice (some ⟨n, 0, none⟩) 2 2) 2 (texts [[126], [126]]) W := fun W n hW =>
      Src.ofSlice _ Tryd.underlying22 _ 2 2 _ rfl (fun j y hj => by
        rw [addr_add0, cell_at hW]
        match j, hj with
        | 0, hj => simp [texts] at hj; subst hj; rfl
        | 1, hj => simp [texts] at hj; subst hj; rfl
        | (j + 2), hj => simp [texts] at hj) (fun u hu => by obtain ⟨x, _, rfl⟩ := List.mem_map.1 hu; rfl)
    have p0 := cell_at hbp2 0
    have o0 := cell_at hbo 0
    have y0 := free_at hbo 0
    simp at p0 o0
    have P0 : (W1.alloc (.cells #[.string ⟨#[126]⟩, .string ⟨#[126]⟩] 9)).cell? ⟨bp, 0, none⟩ = some (.slice ao l.length cap) := (k2.cell (p := ⟨bp, 0, none⟩) (by simp only; omega) (fun h => h)).trans p0
    go_region_law (first
      | (refine step_append rfl (.const (.slice none 0 0)) (.tmp 23) 22 rfl 9 i0 (.string ⟨#[]⟩) 16 Tryd.underlying22 hi hz0 hz1 hz2 rfl (World.ownsRow_nil _ _ _ _) (.slice ao l.length cap) l.length (texts l) (by rfl) (by rfl) (Src.ofTexts Tryd.underlying22 (by first | exact hA1 | exact hA2)) (by unfold maxLen; omega) (by omega) ?_; intro v2 w2 ha; rw [Nat.zero_add, List.nil_append] at ha; obtain ⟨ao2, cp2, rfl⟩ := ownsRow_slice ha.row; have kk : Fresh W1 w2 := (by first | exact k1.trans' ha.keeps (fun _ _ h => by cases h) | exact k2.trans' ha.keeps (fun _ _ h => by cases h)); have q0 := (kk.cell (p := ⟨bp, 0, none⟩) (by simp only; omega) (fun h => h)).trans p0; have Q0 := ((kk.alloc (.cells #[.string ⟨#[126]⟩, .string ⟨#[126]⟩] 9)).cell (p := ⟨bp, 0, none⟩) (by simp only; omega) (fun h => h)).trans p0)
      | (refine step_append rfl (.tmp 24) (.tmp 25) 22 rfl 9 i0 (.string ⟨#[]⟩) 16 Tryd.underlying22 hi hz0 hz1 hz2 rfl (by first | exact ha.row.alloc _ | exact ha.row) _ 2 (texts [[126], [126]]) (by rfl) (by rfl) (by first | exact src2 _ _ (heap_alloc_new _ _) | exact src2 _ _ (ha.keeps.at_ hnew2 (fun h => by cases h))) (by unfold maxLen; omega) (by omega) ?_; intro v3 w3 hb3; obtain ⟨g, c, rfl, hcap, kk3, hgn, hrow3⟩ := lent_row (l := l) ha (by first | exact k1 | exact k2) hb3 (by omega) (by simp) (by first | exact Keeps.refl _ _ | exact (Keeps.refl _ _).alloc _); have HROW := hid hrow3; clear hb3 hrow3; have hcap2 : l.length ≤ c := (by omega); have o3 := (kk3.cell (p := ⟨bo, 0, none⟩) hbol (fun h => h)).trans o0; have y3 := (kk3.frozen (p := ⟨bo, 0, none⟩) hbol (fun h => h)).trans y0; have q3 := (kk3.cell (p := ⟨bp, 0, none⟩) (by simp only; omega) (fun h => h)).trans p0))
    all_goals
      go_wp2
      go_meet
      exact ⟨g, c, heap_setCell_at (kk3.at_ hbo (fun h => h)) 0 _, ownsRow_setCell_ne HROW.out (fun e => by simp [Value.ownBlock] at e; omega) _, hgn, Keeps.setCell (S := fun q => q = bo) (kk3.mono (fun _ _ h => h.elim)) (p := ⟨bo, 0, none⟩) (fun _ => rfl) _⟩
  case rest =>
    obtain ⟨g, c, hbo, hrow, hg, kW⟩ := hcut
    have hbpn : ¬ (bp = bo) := by omega
    have hbp := kW.at_ hbp2 hbpn
    have hdW : Dig wc := hd2.keepsOut (B := bo) (h := bo) (kW.mono (fun _ _ h => .inl h)) (by have := hd.room; omega) (by have := hd.room; omega)
    have hwbo : w.heap.size ≤ bo := by omega
    have kT : Keeps (fun q => w.heap.size ≤ q) w wc := (f2.mono (fun _ _ h => h.elim)).trans (kW.mono (fun q _ h => by omega))
    have hcapc := row_cap hrow
    have hO := row_texts hrow
    have hP := hl0.keepsNew kT
    clear kW hd2 hbp2 f2 hl2
    have go2 : bp < g := by omega
    have o0 := cell_at hbo 0
    have o1 := cell_at hbo 1
    have o2 := cell_at hbo 2
    have o3 := cell_at hbo 3
    simp at o0 o1 o2 o3
    go_wp2_with fail
    refine (check_any _ l pt pk pv key value there root wc hO hdW hpk hpv hkey hval (by omega) hs).mono ?_
    rintro e w5 ⟨rfl, fa⟩
    have hO := hO.fresh fa
    have hP := hP.fresh fa
    have hbo := fa.at_ hbo (fun h => h)
    have hbp := fa.at_ hbp (fun h => h)
    have hdW := hdW.fresh fa
    have kT := kT.trans (fa.mono (fun _ _ h => h.elim))
    have hrow := ownsRow_keeps hrow fa (fun _ _ h => h)
    clear fa o0 o1 o2 o3
    have o0 := cell_at hbo 0
    have o1 := cell_at hbo 1
    have o2 := cell_at hbo 2
    have o3 := cell_at hbo 3
    have p0 := cell_at hbp 0
    have p1 := cell_at hbp 1
    have p2 := cell_at hbp 2
    have p3 := cell_at hbp 3
    simp at o0 o1 o2 o3 p0 p1 p2 p3
    obtain ⟨ev, hev⟩ : ∃ ev, checkOf l pt pk pv key value there root = ev := ⟨_, rfl⟩
    rw [hev]
    go_wp2_with fail
    refine (same_self _ _ l pt pk pv w5 hO hP (by omega)).mono ?_
    rintro e w6 ⟨rfl, fa⟩
    have hO := hO.fresh fa
    have hP := hP.fresh fa
    have hbo := fa.at_ hbo (fun h => h)
    have hbp := fa.at_ hbp (fun h => h)
    have hdW := hdW.fresh fa
    have kT := kT.trans (fa.mono (fun _ _ h => h.elim))
    have hrow := ownsRow_keeps hrow fa (fun _ _ h => h)
    clear fa o0 o1 o2 o3 p0 p1 p2 p3
    have o0 := cell_at hbo 0
    have p0 := cell_at hbp 0
    have p1 := cell_at hbp 1
    have p2 := cell_at hbp 2
    have p3 := cell_at hbp 3
    simp at o0 p0 p1 p2 p3
    have m0 : w6.cell? ⟨g, l.length, none⟩ = some (.string ⟨#[126]⟩) := row_cell hrow (s := [126]) (by simp)
    have m1 : w6.cell? ⟨g, l.length + 1, none⟩ = some (.string ⟨#[126]⟩) := row_cell hrow (s := [126]) (by simp)
    have HEV := hid hev
    clear hev
    have HROW := hid hrow
    clear hrow hdW hO hP
    have hb6 : bp < w6.heap.size := lt_of_block hbp
    have hbo6 : bo < w6.heap.size := lt_of_block hbo
    have hg6 : g < w6.heap.size := ownsRow_lt HROW.out rfl
    go_wp2_with fail
    have f7 : Fresh w6 (w6.alloc (.cells #[.slice none 0 0, .bool pt, .string (str pk), .string (str pv)] 24)) := (Keeps.refl _ _).alloc _
    have hbn := heap_alloc_new w6 (.cells #[.slice none 0 0, .bool pt, .string (str pk), .string (str pv)] 24)
    have hbo := f7.at_ hbo (fun h => h)
    have hbp := f7.at_ hbp (fun h => h)
    have HROW7 := hid (ownsRow_keeps HROW.out f7 (fun _ _ h => h))
    have kT := kT.trans (f7.mono (fun _ _ h => h.elim))
    have hsz7 : (w6.alloc (.cells #[.slice none 0 0, .bool pt, .string (str pk), .string (str pv)] 24)).heap.size = w6.heap.size + 1 := by simp
    clear f7 HROW o0 p0 p1 p2 p3 m0 m1
    obtain ⟨bn, hbne⟩ : ∃ bn, w6.heap.size = bn := ⟨_, rfl⟩
    rw [hbne] at hbn hb6 hbo6 hg6 hsz7 ⊢
    generalize w6.alloc (.cells #[.slice none 0 0, .bool pt, .string (str pk), .string (str pv)] 24) = W7 at hbn hbo hbp HROW7 kT hsz7 ⊢
    go_loopw [18] (fun i wr => ∃ (m : Nat), i = .int .i64 ((m : Int) - 1) ∧ m ≤ l.length ∧ ∃ nv, wr.heap[bn]? = some (.cells #[nv, .bool pt, .string (str pk), .string (str pv)] 24 (0, 0)) ∧ wr.ownsRow 0 9 1 nv (l.length - m) (texts ((l.drop m).reverse)) ∧ (∀ q, nv.ownBlock = some q → bn < q) ∧ Keeps (fun q => bn ≤ q) W7 wr) (fun i _ => (intOf i + 1).toNat)
    case atStart => exact ⟨l.length, rfl, Nat.le_refl _, _, hbn, by rw [Nat.sub_self, List.drop_length]; exact World.ownsRow_nil _ _ _ _, (fun _ h => nomatch h), Keeps.refl _ _⟩
    case round =>
      obtain ⟨m, rfl, hm, nv, hbn, hrow, hnew, k7⟩ := hrel
      have hbo := k7.at_ hbo (by omega)
      have hbp := k7.at_ hbp (by omega)
      have hP := hl0.keepsNew (kT.trans (k7.mono (fun q _ h => by omega)))
      obtain ⟨no, ncap, rfl⟩ := ownsRow_slice hrow
      have n0 := cell_at hbn 0
      have y0 := free_at hbn 0
      have p0 := cell_at hbp 0
      simp at n0 p0
      cases m with
      | zero =>
        have hrow2 : wr.ownsRow 0 9 1 (.slice no l.length ncap) l.reverse.length (texts l.reverse) := by simpa using hrow
        have hgno : (Value.slice no l.length ncap).ownBlock ≠ some g := fun e => by have := hnew g (by simpa using e); omega
        obtain ⟨cur, hcur, hcs⟩ := row_cells (ownsRow_keeps HROW7.out k7 (fun q hq h => by simp [Value.ownBlock] at hq; omega))
        obtain ⟨u, w8, hcopy, k8, hO8⟩ := copy_back wr g c l l.reverse (.slice no l.length ncap) cur hcur (by omega) (by simp) hrow2 hgno
        have kT8 := (kT.trans (k7.mono (fun q _ h => by omega))).trans (k8.mono (S' := fun q => w.heap.size ≤ q) (fun q _ h => by omega))
        have hd8 : Dig w8 := hd.keepsOut (B := w.heap.size) (h := w.heap.size) (kT8.mono (fun _ _ h => .inr h)) hd.room hd.room
        have hP8 := hl0.keepsNew kT8
        have oo := cell_at hbo 0
        simp at oo
        have hbo := k8.at_ hbo (by omega)
        have hbp := k8.at_ hbp (by omega)
        have hbn := k8.at_ hbn (by omega)
        have hN8 := ownsRow_keeps hrow2 k8 (fun q hq h => hgno (by rw [hq, h]))
        have hnl : (Value.slice no l.length ncap) = .slice no l.reverse.length ncap := by rw [List.length_reverse]
        rw [List.length_reverse] at hN8
        have hN : TextsAt w8 (.slice no l.length ncap) l.reverse := by
          rw [hnl]
          exact OwnTexts_at (B := 0) (by rw [← hnl, List.length_reverse]; exact hN8)
        have HN := hid hN
        have hOr := hO8
        have hrl : l.reverse.length ≤ 9223372036854775807 := by simp; omega
        have hrs : ∀ s ∈ l.reverse, s.length ≤ 9223372036854775807 := fun s h => hs s (by simpa using h)
        have HRS := hid hrs
        have HS := hid hs
        have hll2 : l.length ≤ 9223372036854775807 := by omega
        clear hrow hrow2 hnew hN8 hN hnl hrs hs hcur hP k7 kT HROW7
        have o0 := cell_at hbo 0
        have o1 := cell_at hbo 1
        have o2 := cell_at hbo 2
        have o3 := cell_at hbo 3
        simp at o0 o1 o2 o3
        go_wp2_with (at_builtin; refine wpList_copy_to wr rfl (.tmp 86) (.tmp 88) 22 22 rfl _ _ (by rfl) (by rfl) hcopy ?_)
        refine (check_any _ l.reverse pt pk pv key value there root w8 hOr hd8 hpk hpv hkey hval hrl HRS.out).mono ?_
        rintro e w9 ⟨rfl, fa⟩
        have hP9 := hP8.fresh fa
        have hN9 := HN.out.fresh fa
        have hbp := fa.at_ hbp (fun h => h)
        have hbn := fa.at_ hbn (fun h => h)
        have kT9 := kT8.trans (fa.mono (S' := fun q => w.heap.size ≤ q) (fun _ _ h => h.elim))
        clear fa kT8 o0 o1 o2 o3 hP8 hOr hd8
        have p0 := cell_at hbp 0
        have p1 := cell_at hbp 1
        have p2 := cell_at hbp 2
        have p3 := cell_at hbp 3
        simp at p0 p1 p2 p3
        have href := refcheck_any _ l pt pk pv key value there root w9 hP9 hpk hpv hkey hval hll2 HS.out
        rw [HEV.out] at href
        have HREF := hid href
        have href2 := fun w10 hN10 => refcheck_any (.slice no l.length ncap) l.reverse pt pk pv key value there root w10 hN10 hpk hpv hkey hval hrl HRS.out
        obtain ⟨fv, hfv⟩ : ∃ fv, checkOf l.reverse pt pk pv key value there root = fv := ⟨_, rfl⟩
        rw [hfv] at href2 ⊢
        have HREF2 := hid href2
        clear href href2 hfv HEV
        go_wp2_with fail
        refine HREF.out.mono ?_
        rintro e w10 ⟨rfl, fa⟩
        have hN10 := hN9.fresh fa
        have hbn := fa.at_ hbn (fun h => h)
        have kT10 := kT9.trans (fa.mono (S' := fun q => w.heap.size ≤ q) (fun _ _ h => h.elim))
        clear fa kT9 p0 p1 p2 p3 hP9 HREF
        have q0 := cell_at hbn 0
        have q1 := cell_at hbn 1
        have q2 := cell_at hbn 2
        have q3 := cell_at hbn 3
        simp at q0 q1 q2 q3
        go_wp2_with fail
        refine (HREF2.out w10 hN10).mono ?_
        rintro e w11 ⟨rfl, fa⟩
        have kT11 := kT10.trans (fa.mono (S' := fun q => w.heap.size ≤ q) (fun _ _ h => h.elim))
        go_wp2_with fail
        go_ret
        exact ⟨by simp, kT11.mono (fun i hi h => by omega)⟩
      | succ m =>
        obtain ⟨s, hsm⟩ : ∃ s, l[m]? = some s := ⟨l[m]'(by omega), by simp⟩
        obtain ⟨pa, pcp, hpe, hpc⟩ := hP
        simp only [Value.slice.injEq] at hpe
        obtain ⟨rfl, _, rfl⟩ := hpe
        obtain ⟨bb, off, hao, hbb, hcell⟩ := hpc m s hsm
        have htx : texts ((l.drop (m + 1)).reverse) ++ [Value.string (str s)] = texts ((l.drop m).reverse) := by rw [drop_cons hsm]; simp [texts]
        have hln : l.length - (m + 1) + 1 = l.length - m := by omega
        have hmi : (((m + 1 : Nat) : Int) - 1) = (m : Int) := by omega
        rw [hmi]
        subst hao
        have hbnl : bn < wr.heap.size := lt_of_block hbn
        have hltm : m < l.length := by omega
        have HTX := hid htx
        clear hpc hsm htx hmi
        go_wp2_with fail
        have hrd := ownsRow_keeps hrow ((Keeps.refl (fun _ => False) wr).drew) (fun _ _ h => h)
        have e0 : (wr.alloc (.cells #[.string (str s)] 9)).cell? ⟨bn, 0, none⟩ = some (.slice no (l.length - (m + 1)) ncap) := (((Keeps.refl (fun _ => False) wr).alloc (.cells #[.string (str s)] 9)).cell (p := ⟨bn, 0, none⟩) hbnl (fun h => h)).trans n0
        go_region_law (first
          | (refine step_push rfl (.tmp 76) (.tmp 82) 22 rfl 9 i0 (.string ⟨#[]⟩) 16 Tryd.underlying22 hi hz0 hz1 hz2 rfl wr.drew hrd (.string (str s)) (by rfl) (by rfl) rfl (by omega) (by unfold maxLen; omega) ?_; intro v4 w4 ha; obtain ⟨ao4, cp4, rfl⟩ := ownsRow_slice ha.row; have hb4 := ha.keeps.at_ (k := bn) hbn (fun h => by have := hnew bn h; omega); have d0 := cell_at hb4 0; have z0 := free_at hb4 0; simp at d0))
        all_goals
          have hrow4 := ha.row
          rw [HTX.out] at hrow4
          have hown4 : ∀ q, (Value.slice ao4 (l.length - (m + 1) + 1) cp4).ownBlock = some q → bn < q := fun q hq => by
            rcases ha.own q hq with h1 | h1
            · exact hnew q h1
            · have := h1.1; simp at this; omega
          have hS := heap_setCell_at hb4 0 (.slice ao4 (l.length - (m + 1) + 1) cp4)
          have hR := ownsRow_setCell_ne (a := ⟨bn, 0, none⟩) hrow4 (fun e => by have := hown4 bn e; omega) (.slice ao4 (l.length - (m + 1) + 1) cp4)
          have kS : Keeps (fun q => bn ≤ q) W7 (w4.setCell ⟨bn, 0, none⟩ (.slice ao4 (l.length - (m + 1) + 1) cp4)) := Keeps.setCell (S := fun q => bn ≤ q) (k7.trans ((((Keeps.refl (fun q => bn ≤ q) wr).drew).trans (ha.keeps.mono (fun q _ h => by have := hnew q h; omega))))) (p := ⟨bn, 0, none⟩) (fun _ => Nat.le_refl _) _
          rw [hln] at hS hR kS hown4
          go_wp2
          go_roundw
          case rel => exact ⟨m, by try rfl, by omega, _, hS, hR, hown4, kS⟩
          case measure => simp [intOf] <;> omega
end Go.Proofs.YtmflbchiapdhbaaDoor
