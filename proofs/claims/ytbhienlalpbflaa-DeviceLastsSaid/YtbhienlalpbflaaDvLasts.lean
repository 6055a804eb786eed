/-
  The law: DeviceLasts. The walk.
-/
import Derived.Test.YtbhienlalpbflaaDvLastsP
import Derived.Test.YtbhienlalpbflaaDvKnown
import Derived.Deep.CutBlock
namespace Go.Proofs.Ytbhienlalpbflaa
open Go.RowKit Go.Maps

theorem nought_made : ∃ MB, (∀ W, (Instr.makeSlice 63 (.int .i64 256) (.int .i64 256)).run Try.prog W = .ok (.slice (some ⟨W.heap.size, 0, none⟩) 256 256) (W.alloc (.cells MB 5))) ∧ ∀ W : World, (convert 63 9 (.slice (some ⟨W.heap.size, 0, none⟩) 256 256)).run Try.prog (W.alloc (.cells MB 5)) = .ok (.string (str nought256)) (W.alloc (.cells MB 5)) := by
  obtain ⟨j0, hj, hy0, hy1, hy2⟩ := info_parts Try.infoByte
  refine ⟨madeCells #[.int .u8 0] 256, fun W => ?_, fun W => ?_⟩
  · have := run_make W 63 5 j0 (.int .u8 0) Try.underlying63 hj hy0 .i64 .i64 256 256 (by omega) (by omega) (by rw [hy2]; omega) (by omega)
    rw [hy1] at this
    exact this
  · have hb := heap_alloc_new W (.cells (madeCells #[.int .u8 0] 256) 5)
    have := run_convert_bytes_back (W.alloc (.cells (madeCells #[.int .u8 0] 256) 5)) 63 9 5 ⟨W.heap.size, 0, none⟩ 256 nought256 Try.underlying63 Try.underlying5 Try.underlying9 (fun j hj => by
      rw [addr_add0, cell_at hb, ← Array.getElem?_toList, made_list]
      have hj : j < 256 := by rw [← nought256_len]; exact hj
      rw [List.getElem?_replicate, if_pos hj]
      rw [nought_get]; rfl)
    rw [nought256_len] at this
    exact this
def noughtTo (n : Nat) : List (List UInt8) := (List.range 6).map fun i : Nat => if i < n then nought256 else []
theorem noughtTo_zero : noughtTo 0 = List.replicate 6 [] := rfl
theorem noughtTo_succ (n : Nat) : noughtTo (n + 1) = (noughtTo n).set n nought256 := by
  apply List.ext_getElem?
  intro k
  simp only [noughtTo, List.getElem?_set, List.length_map, List.length_range, List.getElem?_map]
  by_cases hk : k < 6
  · rw [List.getElem?_range hk]
    simp only [Option.map_some]
    by_cases e : n = k
    · subst e
      simp [hk]
    · have : (k < n + 1) = (k < n) := by rw [eq_iff_iff]; omega
      simp only [if_neg e, this]
  · rw [List.getElem?_eq_none (by simp; omega)]
    simp
    omega
theorem noughtTo_get {n : Nat} (hn : n < 6) : (noughtTo n)[n]? = some [] := by simp [noughtTo, hn]
theorem noughtTo_all : noughtTo 6 = List.replicate 6 nought256 := by
  apply List.ext_getElem?
  intro k
  simp only [noughtTo, List.getElem?_map, List.getElem?_replicate]
  by_cases hk : k < 6
  · rw [List.getElem?_range hk, if_pos hk]; simp [hk]
  · rw [List.getElem?_eq_none (by simp; omega), if_neg hk]; rfl
theorem newErr_six : newErr 6 = 0 := by decide
/-- what is pending is of the six pages, each of a page's length -/
def Six (f : Int → Option (List UInt8)) : Prop := ∀ p s, f p = some s → (0 ≤ p ∧ p < 6) ∧ s.length = 256
theorem Six.none_ : Six (fun _ => none) := fun _ _ h => nomatch h
theorem Six.put {f : Int → Option (List UInt8)} (h : Six f) {p : Int} {s : List UInt8} (hp : 0 ≤ p) (hp2 : p < 6) (hs : s.length = 256) : Six (fun q => if q = p then some s else f q) := fun q t ht => by
  simp only at ht
  split at ht
  · rename_i e
    cases ht
    exact ⟨by omega, hs⟩
  · exact h q t ht
theorem flushed_mem {l : List (List UInt8)} {f : Int → Option (List UInt8)} (hl : ∀ s ∈ l, s.length = 256) (hf : Six f) : ∀ s ∈ flushed l f, s.length = 256 := fun s hs => by
  obtain ⟨k, hk⟩ := List.getElem?_of_mem hs
  simp only [flushed, List.getElem?_mapIdx] at hk
  cases hl2 : l[k]? with
  | none => rw [hl2] at hk; cases hk
  | some t =>
    rw [hl2, Option.map_some, Option.some.injEq] at hk
    cases hf2 : f (k : Int) with
    | none => rw [hf2] at hk; rw [← hk]; exact hl t (List.mem_of_getElem? hl2)
    | some u => rw [hf2] at hk; rw [← hk]; exact (hf _ _ hf2).2
theorem lower_le {a : Int} (h : 0 ≤ a) (h2 : a ≤ 1000) : 0 ≤ lower a ∧ lower a ≤ 1000 := by
  unfold lower
  split <;> omega

theorem arr6 {l : List (List UInt8)} (h : l.length = 6) : arr l = #[.string (str (l[0]'(by omega))), .string (str (l[1]'(by omega))), .string (str (l[2]'(by omega))), .string (str (l[3]'(by omega))), .string (str (l[4]'(by omega))), .string (str (l[5]'(by omega)))] := by
  match l, h with
  | [a, b, c, d, e, f], _ => rfl
def keepCells (ks : List (Int × Int)) : List Value := ks.flatMap fun x => [.int .i64 x.1, .int .i64 x.2]
theorem keepCells_snoc (ks : List (Int × Int)) (x : Int × Int) : keepCells (ks ++ [x]) = keepCells ks ++ [.int .i64 x.1, .int .i64 x.2] := by simp [keepCells]
theorem keepCells_at : ∀ (ks : List (Int × Int)) (k : Nat) (x : Int × Int), ks[k]? = some x → (keepCells ks)[k * 2]? = some (.int .i64 x.1) ∧ (keepCells ks)[k * 2 + 1]? = some (.int .i64 x.2)
  | [], k, x, h => by simp at h
  | y :: r, 0, x, h => by
    simp at h
    subst h
    exact ⟨rfl, rfl⟩
  | y :: r, k + 1, x, h => by
    have ih := keepCells_at r k x (by simpa using h)
    have e : keepCells (y :: r) = .int .i64 y.1 :: .int .i64 y.2 :: keepCells r := rfl
    rw [e, show (k + 1) * 2 = k * 2 + 1 + 1 by omega, show k * 2 + 1 + 1 + 1 = (k * 2 + 1) + 1 + 1 by omega]
    simpa using ih
theorem Try.infoKeep : (Try.prog.info? 71).map (fun i => (i.zero, i.size, i.bytes)) = some (some (.agg #[.int .i64 0, .int .i64 0]), 2, 16) := by kernel_rfl

theorem KeepsAt.of_row {w : World} {v : Value} {ks : List (Int × Int)} (h : w.ownsRow 0 71 2 v ks.length (keepCells ks)) : KeepsAt w v ks := by
  rcases h.2 with ⟨rfl, h0⟩ | ⟨g, cap, cur, rfl, _, hb, h2, h3, h4, h5⟩
  · refine ⟨none, 0, by rw [h0], fun k x hx => ?_⟩
    have := (List.getElem?_eq_some_iff.1 hx).1
    omega
  · refine ⟨some ⟨g, 0, none⟩, cap, rfl, fun k x hx => ⟨g, 0, rfl, lt_of_block hb, ?_⟩⟩
    obtain ⟨q1, q2⟩ := keepCells_at _ k x hx
    rw [← h5] at q1 q2
    rw [List.getElem?_take] at q1 q2
    refine ⟨?_, ?_⟩
    · rw [cell_at hb, Nat.zero_add]
      split at q1
      · simpa using q1
      · cases q1
    · rw [cell_at hb, Nat.zero_add]
      split at q2
      · simpa using q2
      · cases q2
theorem every_of {l : List (List UInt8)} (h : ∀ s ∈ l, s.length = 256) : every256 l = true := by
  induction l with
  | nil => rfl
  | cons a r ih => rw [every256, ih (fun s hs => h s (by simp [hs])), h a (by simp)]; rfl
theorem Dev.keeps {S T : Nat → Prop} {w w' : World} {d : Nat} {l : List (List UInt8)} {D : DD} {n : Nat} {dead : Bool} {armed : Int} (h : Dev S w d l D n dead armed) (k : Keeps T w w') (hn : ∀ q, S q → ¬ T q) : Dev S w' d l D n dead armed := by
  obtain ⟨pv, mb, e1, e2, e3, e4, e5⟩ := h.ex
  exact ⟨⟨pv, mb, k.at_ e1 (hn _ e5), ⟨ownsRow_keeps e2.1 k (fun g hg => hn _ (e2.2 g hg)), e2.2⟩, map_keeps e3 k (hn _ e4), e4, e5⟩⟩
theorem Dev.told_ {S : Nat → Prop} {w : World} {d : Nat} {l : List (List UInt8)} {D : DD} {n : Nat} {dead : Bool} {armed : Int} {f : Int → Option (List UInt8)} (hdev : Dev S w d l D n dead armed) (hP : Pends D f) (hr : ∀ p, (f p).isSome = true → 0 ≤ p ∧ p < l.length) (hn : n ≤ 4096) (hl : l.length ≤ 4096) :
    pendList D f = (told f l.length).map (fun p => (p, (f p).getD [])) ∧ Maps.size D ≤ 4096 ∧ ∀ p ∈ intKeys D, 0 ≤ p ∧ p < 4096 := by
  obtain ⟨pv, mb, -, -, e3, -⟩ := hdev.ex
  have h1 := rise_told e3 Try.intKeyed Try.underlying3 hP hr
  refine ⟨?_, Nat.le_trans e3.size_le hn, fun p hp => ?_⟩
  · rw [← h1]; rfl
  · have h2 := ((keys_told e3 Try.intKeyed Try.underlying3).2 p).1 hp
    rw [(hP.2 p).1] at h2
    have := hr p h2
    omega

set_option maxRecDepth 100000 in
set_option maxHeartbeats 8000000 in
theorem lasts_any (v0 v2 : Value) (ps : List (Bool × Int × Int)) (dies : Int) (bs : List Int) (w : World) (h0 : PutsAt w v0 ps) (h2 : NumsAt w v2 bs) (hd1 : -9223372036854775808 ≤ dies) (hd2 : dies ≤ 9223372036854775807)
    (hps : ∀ x ∈ ps, (-9223372036854775808 ≤ x.2.1 ∧ x.2.1 ≤ 9223372036854775807) ∧ -9223372036854775808 ≤ x.2.2 ∧ x.2.2 ≤ 9223372036854775807) (hbs : ∀ x ∈ bs, -9223372036854775808 ≤ x ∧ x ≤ 9223372036854775807) (hpl : ps.length ≤ 9223372036854775807) (hbl : bs.length ≤ 9223372036854775807) :
    Calls Try.prog 5 #[v0, .int .i64 dies, v2] w fun e w' => e = .returned (.bool true) ∧ Fresh w w' := by
  obtain ⟨ao0, cap0, rfl, hc0⟩ := h0
  obtain ⟨ao2, cap2, rfl, hc2⟩ := h2
  have HC0 := hid hc0
  have HC2 := hid hc2
  have HPS := hid hps
  have HBS := hid hbs
  obtain ⟨A, hA, hA2⟩ := picked dies 70 (by omega)
  have hpick := fun W => pick_any dies 70 W (by omega) (by omega) hd1 hd2
  rw [hA] at hpick
  have HPICK := hid hpick
  have hnew := fun W => dnew_any 6 W
  rw [newErr_six] at hnew
  have HNEW := hid hnew
  obtain ⟨MB, hmk, hcv⟩ := nought_made
  clear hc0 hc2 hps hbs hA hpick hnew
  go_enter Try.func5, Try.ntmps5
  go_wp2_with fail
  refine (known_any _).mono ?_
  rintro e w1 ⟨rfl, f1⟩
  go_wp2_with fail
  refine (HNEW.out _).mono ?_
  rintro e w2 ⟨q, rfl, f2, hld⟩
  obtain ⟨d, rfl, hd, hdev⟩ : ∃ d, q = some ⟨d, 0, none⟩ ∧ w1.heap.size ≤ d ∧ Dev (fun q => w1.heap.size ≤ q ∧ q < w2.heap.size) w2 d (List.replicate 6 nought256) (.map []) 0 false 0 := by
    rcases hld with ⟨h, _⟩ | ⟨_, d, h1, h2, h3⟩
    · exact absurd rfl h
    · exact ⟨d, h1, h2, h3⟩
  have f12 := f1.trans f2
  have hw1 := f1.size
  obtain ⟨S, hS⟩ : ∃ S : Nat → Prop, (fun q => w1.heap.size ≤ q ∧ q < w2.heap.size) = S := ⟨_, rfl⟩
  have hSw : ∀ q, S q → w.heap.size ≤ q ∧ q < w2.heap.size := fun q h => by rw [← hS] at h; have h : w1.heap.size ≤ q ∧ q < w2.heap.size := h; omega
  rw [hS] at hdev
  clear hld HNEW f1 f2 hd hw1 hS
  go_wp2_with fail
  refine (HPICK.out _).mono ?_
  rintro e w2 ⟨rfl, rfl⟩
  have harm := arm_any S d _ _ 0 0 (A : Int) w2 hdev (by omega)
  have HARM := hid harm
  clear harm hdev HPICK
  go_wp2_with fail
  refine HARM.out.mono ?_
  rintro e w3 ⟨rfl, hdev, k3⟩
  have f3 : Fresh w w3 := f12.trans' k3 (fun i hi h => by have := hSw i h; omega)
  have hE : w2.heap.size ≤ w3.heap.size := k3.size
  have hSw3 : ∀ q, S q → w.heap.size ≤ q ∧ q < w3.heap.size := fun q h => by have := hSw q h; omega
  have HSW := hid hSw3
  have hsb : ∀ q, S q → w.heap.size ≤ q := fun q h => (hSw3 q h).1
  have HSB := hid hsb
  clear k3 f12 hE hSw hSw3 HARM hsb
  have g1 := heap_alloc_new w3 (.cells (arr (noughtTo 0)) 62)
  have g2 := heap_alloc_new (w3.alloc (.cells (arr (noughtTo 0)) 62)) (.cells (arr (noughtTo 0)) 62)
  have k4 : Fresh w3 ((w3.alloc (.cells (arr (noughtTo 0)) 62)).alloc (.cells (arr (noughtTo 0)) 62)) := ((Keeps.refl _ _).alloc _).alloc _
  have g1 := ((Keeps.refl (fun _ => False) _).alloc (.cells (arr (noughtTo 0)) 62)).at_ g1 (fun h => h)
  have hdev := hdev.fresh k4
  have f4 := f3.trans k4
  rw [World.size_alloc] at g2
  have hz6 : arr (noughtTo 0) = #[.string ⟨#[]⟩, .string ⟨#[]⟩, .string ⟨#[]⟩, .string ⟨#[]⟩, .string ⟨#[]⟩, .string ⟨#[]⟩] := rfl
  rw [hz6] at g1 g2 hdev f4
  obtain ⟨bl, hble⟩ : ∃ bl, w3.heap.size = bl := ⟨_, rfl⟩
  have hslt : ∀ q, S q → q < bl := fun q h => by have := (HSW.out _ h).2; omega
  have HSLT := hid hslt
  clear hslt
  have hSbl : ¬ S bl := fun h => by have := (HSW.out _ h).2; omega
  have hSbn : ¬ S (bl + 1) := fun h => by have := (HSW.out _ h).2; omega
  have hwbl : w.heap.size ≤ bl := by have := f3.size; omega
  obtain ⟨W4, hW4⟩ : ∃ W4, (w3.alloc (.cells #[.string ⟨#[]⟩, .string ⟨#[]⟩, .string ⟨#[]⟩, .string ⟨#[]⟩, .string ⟨#[]⟩, .string ⟨#[]⟩] 62)).alloc (.cells #[.string ⟨#[]⟩, .string ⟨#[]⟩, .string ⟨#[]⟩, .string ⟨#[]⟩, .string ⟨#[]⟩, .string ⟨#[]⟩] 62) = W4 := ⟨_, rfl⟩
  rw [hW4] at g1 g2 hdev f4
  rw [hble] at g1 g2
  rw [← hz6] at g1 g2
  have HG := hid (And.intro g1 (And.intro g2 (And.intro hdev f4)))
  clear g1 g2 hdev f4 k4 hz6 f3 HSW
  go_wp2_with fail
  clear hW4
  go_loopw [12] (fun i wr => ∃ n : Nat, i = .int .i64 (n : Int) ∧ n ≤ 6 ∧ wr.heap[bl]? = some (.cells (arr (noughtTo n)) 62 (0, 0)) ∧ Keeps (fun q => q = bl) W4 wr) (fun i _ => 6 - (intOf i).toNat)
  case atStart => exact ⟨0, rfl, by omega, HG.out.1, Keeps.refl _ _⟩
  case round =>
    obtain ⟨n, rfl, hn, hb, fr⟩ := hrel
    by_cases hlt : n < 6
    · have g : Fresh wr (wr.alloc (.cells MB 5)) := (Keeps.refl _ _).alloc _
      have hb2 := g.at_ hb (fun h => h)
      have hcell := cell_at hb2 n
      rw [arr_get (noughtTo_get hlt)] at hcell
      have hz := free_at hb2 n
      have hnext := heap_setCell_at hb2 n (.string (str nought256))
      rw [arr_set, ← noughtTo_succ] at hnext
      have hk : Keeps (fun q => q = bl) W4 ((wr.alloc (.cells MB 5)).setCell ⟨bl, n, none⟩ (.string (str nought256))) := Keeps.setCell (S := fun q => q = bl) (p := ⟨bl, n, none⟩) (fr.trans (g.mono (fun _ _ h => h.elim))) (fun _ => rfl) _
      have HN := hid hnext
      have HK := hid hk
      clear hnext hk hb2 hb g
      go_wp2_with fail
      go_roundw
      case rel => exact ⟨n + 1, by go_num, by omega, HN.out, HK.out⟩
      case measure => simp [intOf]; omega
    · obtain rfl : n = 6 := by omega
      obtain ⟨g1, g2, hdev, f4⟩ := HG.out
      have hbl1 : bl < W4.heap.size := lt_of_block g1
      rw [noughtTo_all] at hb
      have hbn := fr.at_ g2 (fun h => by have h : bl + 1 = bl := h; omega)
      obtain ⟨pv, mb, e1, e2, e3, e4, e5⟩ := hdev.ex
      have hdev : Dev S wr d (List.replicate 6 nought256) (.map []) 0 false (A : Int) := ⟨⟨pv, mb, fr.at_ e1 (fun h => hSbl (by rw [← show d = bl from h]; exact e5)), ⟨ownsRow_keeps e2.1 fr (fun g hg h => hSbl (by rw [← show g = bl from h]; exact e2.2 g hg)), e2.2⟩, map_keeps e3 fr (fun h => hSbl (by rw [← show mb = bl from h]; exact e4)), e4, e5⟩⟩
      have hF : Fresh w wr := f4.trans' fr (fun i hi h => by have h : i = bl := h; omega)
      have hbl2 : bl + 1 < wr.heap.size := lt_of_block hbn
      clear fr g1 g2 f4 hbl1 e1 e2 e3 e4 e5 HG
      have hrep6 : (List.replicate 6 nought256).length = 6 := List.length_replicate
      have hrep256 : ∀ s ∈ List.replicate 6 nought256, s.length = 256 := fun s hs => by rw [(List.mem_replicate.1 hs).2, nought256_len]
      obtain ⟨l0, hl0⟩ : ∃ l, List.replicate 6 nought256 = l := ⟨_, rfl⟩
      rw [hl0] at hdev hb hrep6 hrep256
      rw [noughtTo_zero, ← nowOf_none] at hbn
      clear hl0
      go_upto_block 2 with fail
      go_cut [13, 14, 15, 16, 17] (fun s13 s14 s15 s16 s17 wx => ∃ (l : List (List UInt8)) (D : DD) (n : Nat) (f : Int → Option (List UInt8)) (dead : Bool) (armed : Int), Dev S wx d l D n dead armed ∧ Pends D f ∧ Six f ∧ n ≤ 60 ∧ l.length = 6 ∧ (∀ s ∈ l, s.length = 256) ∧ wx.heap[bl]? = some (.cells (arr l) 62 (0, 0)) ∧ wx.heap[bl + 1]? = some (.cells (arr (nowOf f)) 62 (0, 0)) ∧ Fresh w wx)
      case first =>
        go_wp2_with fail
        go_loopw [13] (fun i wr => ∃ (i0 : Nat) (l : List (List UInt8)) (D : DD) (n : Nat) (f : Int → Option (List UInt8)) (armed : Int), i = .int .i64 (i0 : Int) ∧ i0 ≤ 60 ∧ n ≤ i0 ∧ i0 ≤ ps.length ∧ Dev S wr d l D n false armed ∧ Pends D f ∧ Six f ∧ (0 ≤ armed ∧ armed ≤ 1000) ∧ l.length = 6 ∧ (∀ s ∈ l, s.length = 256) ∧ wr.heap[bl]? = some (.cells (arr l) 62 (0, 0)) ∧ wr.heap[bl + 1]? = some (.cells (arr (nowOf f)) 62 (0, 0)) ∧ Fresh w wr) (fun i _ => 60 - (intOf i).toNat)
        case atStart => exact ⟨0, l0, _, 0, _, (A : Int), rfl, by omega, by omega, by omega, hdev, Pends.empty, Six.none_, by omega, hrep6, hrep256, hb, hbn, hF⟩
        case round =>
          obtain ⟨i, l, D, n, f, armed, rfl, hi60, hni, hip, hdev, hP, hsix, harm, hl6, hl256, hbL, hbN, hF⟩ := hrel
          by_cases hlt : i < ps.length
          · by_cases h60 : i < 60
            · obtain ⟨⟨fl, pg, cc⟩, hp⟩ : ∃ x, ps[i]? = some x := ⟨ps[i], by simp⟩
              obtain ⟨bb, off, rfl, hbb, hx0, hx1, hx2⟩ := HC0.out i _ hp
              have y0 := (hF.cell (p := ⟨bb, off + i * 3, none⟩) hbb (fun h => h)).trans hx0
              have y1 := (hF.cell (p := ⟨bb, off + i * 3 + 1, none⟩) hbb (fun h => h)).trans hx1
              have y2 := (hF.cell (p := ⟨bb, off + i * 3 + 2, none⟩) hbb (fun h => h)).trans hx2
              have hw := HPS.out _ (List.mem_of_getElem? hp)
              simp only at y0 y1 y2 hw
              clear hx0 hx1 hx2
              cases fl with
              | true =>
                have hfl := flush_end S d l D n armed f wr hdev harm.1 (by omega) hP (fun p hp => by obtain ⟨s, hs⟩ := Option.isSome_iff_exists.1 hp; have := hsix p s hs; omega) (by omega) (by omega)
                have HFL := hid hfl
                have HSIX := hid hsix
                have HL256 := hid hl256
                have HP := hid hP
                clear hfl hsix hl256 hP hp y1 y2 hw
                go_wp2_with fail
                refine HFL.out.mono ?_
                rintro e w5 (⟨hA, rfl, hdev5, k5⟩ | ⟨hA, rfl, ⟨D', hdev5, hPn⟩, k5⟩)
                · have hF5 := hF.trans' k5 (fun q _ h => by have := HSB.out q h; omega)
                  have hbL5 := k5.at_ hbL hSbl
                  have hbN5 := k5.at_ hbN hSbn
                  clear k5 hF hbL hbN HFL
                  go_wp2_with fail
                  refine (dead_any S d l D n true 1 w5 hdev5).mono ?_
                  rintro e w6 ⟨rfl, f6⟩
                  go_wp2_with fail
                  go_meet
                  exact ⟨l, D, n, f, true, 1, hdev5.fresh f6, HP.out, HSIX.out, by omega, hl6, HL256.out, f6.at_ hbL5 (fun h => h), f6.at_ hbN5 (fun h => h), hF5.trans f6⟩
                · have hF5 := hF.trans' k5 (fun q _ h => by have := HSB.out q h; omega)
                  have hbL5 := k5.at_ hbL hSbl
                  have hbN5 := k5.at_ hbN hSbn
                  have HD5 := hid (And.intro hdev5 (And.intro hPn hF5))
                  clear k5 hF hbL hbN HFL hdev5 hPn hF5
                  go_wp2_with fail
                  go_loopw [15] (fun j wx => ∃ m : Nat, j = .int .i64 (m : Int) ∧ m ≤ 6 ∧ wx.heap[bl]? = some (.cells (arr (lastTo l f m)) 62 (0, 0)) ∧ wx.heap[bl + 1]? = some (.cells (arr (nowTo f m)) 62 (0, 0)) ∧ Keeps (fun q => q = bl ∨ q = bl + 1) w5 wx) (fun j _ => 6 - (intOf j).toNat)
                  case atStart => exact ⟨0, rfl, by omega, by rw [lastTo_zero]; exact hbL5, by rw [nowTo_zero]; exact hbN5, Keeps.refl _ _⟩
                  case round =>
                    obtain ⟨m, rfl, hm, hcl, hcn, kx⟩ := hrel
                    by_cases hlt6 : m < 6
                    · have hc1 := cell_at hcn m
                      rw [arr_get (nowTo_get f hlt6)] at hc1
                      have hz1 := free_at hcn m
                      have hz0 := free_at hcl m
                      cases hf : f (m : Int) with
                      | none =>
                        have hn1 := heap_setCell_at hcn m (.string (str []))
                        rw [arr_set, ← nowTo_succ] at hn1
                        have hk1 : Keeps (fun q => q = bl + 1) wr (wr.setCell ⟨bl + 1, m, none⟩ (.string (str []))) := Keeps.setCell (S := fun q => q = bl + 1) (p := ⟨bl + 1, m, none⟩) (Keeps.refl _ _) (fun _ => rfl) _
                        have hl1 := hk1.at_ hcl (fun h => by have h : bl = bl + 1 := h; omega)
                        rw [← lastTo_none hf] at hl1
                        have hk2 := kx.trans (hk1.mono (fun q _ h => Or.inr h))
                        have HN1 := hid hn1
                        have HL1 := hid hl1
                        have HK2 := hid hk2
                        rw [hf, Option.getD_none] at hc1
                        have hemp : (str []).toList.isEmpty = true := by rw [str_toList]; rfl
                        clear hn1 hl1 hk1 hk2 hf hcl hcn kx
                        go_wp2_with fail
                        go_roundw
                        case rel => exact ⟨m + 1, by go_num, by omega, HL1.out, HN1.out, HK2.out⟩
                        case measure => simp [intOf]; omega
                      | some t =>
                        rw [hf, Option.getD_some] at hc1
                        have ht256 := (HSIX.out _ _ hf).2
                        have ho := cell_at hcl m
                        obtain ⟨s0, hs0⟩ : ∃ s, (lastTo l f m)[m]? = some s := ⟨(lastTo l f m)[m]'(by rw [lastTo_len]; omega), by simp⟩
                        rw [arr_get hs0] at ho
                        have hl0 := heap_setCell_at hcl m (.string (str t))
                        rw [arr_set, ← lastTo_some hf] at hl0
                        have hk0 : Keeps (fun q => q = bl) wr (wr.setCell ⟨bl, m, none⟩ (.string (str t))) := Keeps.setCell (S := fun q => q = bl) (p := ⟨bl, m, none⟩) (Keeps.refl _ _) (fun _ => rfl) _
                        have hn0 := hk0.at_ hcn (fun h => by have h : bl + 1 = bl := h; omega)
                        have hc2 := cell_at hn0 m
                        rw [arr_get (nowTo_get f hlt6), hf, Option.getD_some] at hc2
                        have hz2 := free_at hn0 m
                        have hn1 := heap_setCell_at hn0 m (.string (str []))
                        rw [arr_set, ← nowTo_succ] at hn1
                        have hk1 : Keeps (fun q => q = bl + 1) (wr.setCell ⟨bl, m, none⟩ (.string (str t))) ((wr.setCell ⟨bl, m, none⟩ (.string (str t))).setCell ⟨bl + 1, m, none⟩ (.string (str []))) := Keeps.setCell (S := fun q => q = bl + 1) (p := ⟨bl + 1, m, none⟩) (Keeps.refl _ _) (fun _ => rfl) _
                        have hl1 := hk1.at_ hl0 (fun h => by have h : bl = bl + 1 := h; omega)
                        have hk2 := (kx.trans (hk0.mono (fun q _ h => Or.inl h))).trans (hk1.mono (fun q _ h => Or.inr h))
                        have HN1 := hid hn1
                        have HL1 := hid hl1
                        have HK2 := hid hk2
                        have hemp : (str t).toList.isEmpty = false := by
                          rw [str_toList]
                          cases t with
                          | nil => simp at ht256
                          | cons a b => rfl
                        clear hn1 hl1 hk1 hk2 hf hs0 hl0 hn0 hk0 hcl hcn kx ht256
                        go_wp2_with fail
                        go_roundw
                        case rel => exact ⟨m + 1, by go_num, by omega, HL1.out, HN1.out, HK2.out⟩
                        case measure => simp [intOf]; omega
                    · obtain rfl : m = 6 := by omega
                      rw [lastTo_all hl6] at hcl
                      rw [nowTo_all] at hcn
                      obtain ⟨hdev5, hPn, hF5⟩ := HD5.out
                      obtain ⟨pv, mb, e1, e2, e3, e4, e5⟩ := hdev5.ex
                      have hns : ∀ q, S q → ¬ (q = bl ∨ q = bl + 1) := fun q h e => e.elim (fun e => hSbl (by rw [← e]; exact h)) (fun e => hSbn (by rw [← e]; exact h))
                      have hdev6 : Dev S wr d (flushed l f) D' n false (lower armed) := ⟨⟨pv, mb, kx.at_ e1 (hns _ e5), ⟨ownsRow_keeps e2.1 kx (fun g hg => hns _ (e2.2 g hg)), e2.2⟩, map_keeps e3 kx (hns _ e4), e4, e5⟩⟩
                      have hF6 : Fresh w wr := hF5.trans' kx (fun q _ h => by omega)
                      have hlow := lower_le harm.1 harm.2
                      have h256 := flushed_mem HL256.out HSIX.out
                      have hlen := (flushed_len l f).trans hl6
                      clear e1 e2 e3 kx hns hdev5 hF5
                      go_wp2
                      go_roundw
                      case rel =>
                        (repeat apply Exists.intro)
                        exact ⟨⟨i + 1, _, D', n, _, _, by go_num, by omega, by omega, by omega, hdev6, hPn, Six.none_, hlow, hlen, h256, hcl, hcn, hF6⟩, rfl⟩
                      case measure => simp [intOf]; omega
              | false =>
                obtain ⟨N, hN, hN6⟩ := picked pg 6 (by omega)
                have hpick := fun W => pick_any pg 6 W (by omega) (by omega) hw.1.1 hw.1.2
                rw [hN] at hpick
                have HPK := hid hpick
                have hpage := fun W => page_any cc W
                obtain ⟨s, hs⟩ : ∃ s, pageOf cc = s := ⟨_, rfl⟩
                have hs256 : s.length = 256 := by rw [← hs]; exact pageOf_len cc
                rw [hs] at hpage
                have HPG := hid hpage
                have HSIX := hid hsix
                have HL256 := hid hl256
                have HP := hid hP
                clear hsix hl256 hP hp hw hN hpick hpage hs
                go_wp2_with fail
                refine (HPK.out _).mono ?_
                rintro e _ ⟨rfl, rfl⟩
                go_wp2_with fail
                refine (HPG.out _).mono ?_
                rintro e w4 ⟨rfl, f4⟩
                have hwr := write_end S d l D n armed (N : Int) s w4 (hdev.fresh f4) harm.1 (by omega) (by omega) (by omega) (by omega) (by omega) hs256
                have HWR := hid hwr
                have hF4 := hF.trans f4
                have hbL4 := f4.at_ hbL (fun h => h)
                have hbN4 := f4.at_ hbN (fun h => h)
                have y4 := (f4.cell (p := ⟨bb, off + i * 3 + 2, none⟩) (Nat.lt_of_lt_of_le hbb hF.size) (fun h => h)).trans y2
                have hbb4 : bb < w4.heap.size := Nat.lt_of_lt_of_le hbb hF4.size
                clear hwr f4 hbL hbN hF hdev y0 y1 y2 HPK
                go_wp2_with fail
                refine HWR.out.mono ?_
                rintro e w5 (⟨hA, rfl, hdev5, k5⟩ | ⟨hA, rfl, hdev5, k5⟩)
                · have hF5 := hF4.trans' k5 (fun q _ h => by have := HSB.out q h; omega)
                  have hbL5 := k5.at_ hbL4 hSbl
                  have hbN5 := k5.at_ hbN4 hSbn
                  clear k5 hF4 hbL4 hbN4 HWR
                  go_wp2_with fail
                  refine (dead_any S d l D n true 1 w5 hdev5).mono ?_
                  rintro e w6 ⟨rfl, f6⟩
                  go_wp2_with fail
                  go_meet
                  exact ⟨l, D, n, f, true, 1, hdev5.fresh f6, HP.out, HSIX.out, by omega, hl6, HL256.out, f6.at_ hbL5 (fun h => h), f6.at_ hbN5 (fun h => h), hF5.trans f6⟩
                · have hF5 := hF4.trans' k5 (fun q _ h => by have := HSB.out q h; omega)
                  have hbL5 := k5.at_ hbL4 hSbl
                  have hbN5 := k5.at_ hbN4 hSbn
                  have y5 := (k5.cell (p := ⟨bb, off + i * 3 + 2, none⟩) hbb4 (fun h => by have := HSB.out _ h; simp only at this; omega)).trans y4
                  have hbb5 : bb < w5.heap.size := Nat.lt_of_lt_of_le hbb4 k5.size
                  clear k5 hF4 hbL4 hbN4 HWR
                  go_wp2_with fail
                  refine (HPG.out _).mono ?_
                  rintro e w6 ⟨rfl, f6⟩
                  have hdev6 := hdev5.fresh f6
                  have hF6 := hF5.trans f6
                  have hbL6 := f6.at_ hbL5 (fun h => h)
                  have hbN6 := f6.at_ hbN5 (fun h => h)
                  have hc6 := cell_at hbN6 N
                  rw [arr_get (nowOf_get f hN6)] at hc6
                  have hz6 := free_at hbN6 N
                  have hn7 := heap_setCell_at hbN6 N (.string (str s))
                  rw [arr_set, nowOf_put] at hn7
                  have k7 : Keeps (fun q => q = bl + 1) w6 (w6.setCell ⟨bl + 1, N, none⟩ (.string (str s))) := Keeps.setCell (S := fun q => q = bl + 1) (p := ⟨bl + 1, N, none⟩) (Keeps.refl _ _) (fun _ => rfl) _
                  have hl7 := k7.at_ hbL6 (fun h => by have h : bl = bl + 1 := h; omega)
                  obtain ⟨pv, mb, e1, e2, e3, e4, e5⟩ := hdev6.ex
                  have hns : ∀ q, S q → ¬ (q = bl + 1) := fun q h e => hSbn (by rw [← e]; exact h)
                  have hdev7 : Dev S (w6.setCell ⟨bl + 1, N, none⟩ (.string (str s))) d l (D.put (pkey (N : Int)) (.lit (.string s))) (n + 1) false (lower armed) := ⟨⟨pv, mb, k7.at_ e1 (hns _ e5), ⟨ownsRow_keeps e2.1 k7 (fun g hg => hns _ (e2.2 g hg)), e2.2⟩, map_keeps e3 k7 (hns _ e4), e4, e5⟩⟩
                  have hF7 : Fresh w (w6.setCell ⟨bl + 1, N, none⟩ (.string (str s))) := hF6.trans' k7 (fun q _ h => by have h : q = bl + 1 := h; omega)
                  have hP7 := HP.out.put (N : Int) s
                  have hsix7 := HSIX.out.put (p := (N : Int)) (by omega) (by omega) hs256
                  have hlow := lower_le harm.1 harm.2
                  have H7 := hid (And.intro hdev7 (And.intro hF7 (And.intro hP7 (And.intro hsix7 (And.intro hn7 hl7)))))
                  clear hdev7 hF7 hP7 hsix7 hn7 hl7 k7 e1 e2 e3 hns hbN6 hbL6 hdev6 hF6 hdev5 hF5 hbL5 hbN5 f6
                  go_wp2_with fail
                  obtain ⟨hdev7, hF7, hP7, hsix7, hn7, hl7⟩ := H7.out
                  go_roundw
                  case rel =>
                    (repeat apply Exists.intro)
                    exact ⟨⟨i + 1, l, _, n + 1, _, _, by go_num, by omega, by omega, by omega, hdev7, hP7, hsix7, hlow, hl6, HL256.out, hl7, hn7, hF7⟩, rfl⟩
                  case measure => simp [intOf]; omega
            · go_wp2_with fail
              go_meet
              exact ⟨l, D, n, f, false, armed, hdev, hP, hsix, by omega, hl6, hl256, hbL, hbN, hF⟩
          · go_wp2_with fail
            go_meet
            exact ⟨l, D, n, f, false, armed, hdev, hP, hsix, by omega, hl6, hl256, hbL, hbN, hF⟩
      case rest =>
        obtain ⟨l, D, n, f, dead, armed, hdev, hP, hsix, hn60, hl6, hl256, hbL, hbN, hF⟩ := hcut
        have hr : ∀ p, (f p).isSome = true → 0 ≤ p ∧ p < l.length := fun p hp => by obtain ⟨s, hs⟩ := Option.isSome_iff_exists.1 hp; have := hsix p s hs; omega
        have hPL : pendList D f = (told f 6).map (fun p => (p, (f p).getD [])) ∧ Maps.size D ≤ 4096 ∧ ∀ p ∈ intKeys D, 0 ≤ p ∧ p < 4096 := by
          obtain ⟨pv, mb, -, -, e3, -⟩ := hdev.ex
          have h1 := rise_told e3 Try.intKeyed Try.underlying3 hP hr
          rw [hl6] at h1
          refine ⟨?_, Nat.le_trans e3.size_le (by omega), fun p hp => ?_⟩
          · rw [← h1]; rfl
          · have h2 := ((keys_told e3 Try.intKeyed Try.underlying3).2 p).1 hp
            rw [(hP.2 p).1] at h2
            have := hr p h2
            omega
        obtain ⟨hPL, hsz, hkr⟩ := hPL
        have hpend := pending_any S d l D n dead armed f wc hdev hP hsz hkr
        rw [hPL] at hpend
        have HPEND := hid hpend
        have HSIX := hid hsix
        have HL256 := hid hl256
        have HP := hid hP
        have HR := hid hr
        clear hpend hsix hl256 hP hr hsz hkr hPL hrep6 hrep256 HPS hb hbn
        go_wp2_with fail
        refine HPEND.out.mono ?_
        rintro e w5 ⟨v5, rfl, hv5, f5⟩
        obtain ⟨aoP, capP, rfl, hcP⟩ := hv5
        rw [List.length_map]
        have hdev5 := hdev.fresh f5
        have hF5 := hF.trans f5
        have hbL5 := f5.at_ hbL (fun h => h)
        have hbN5 := f5.at_ hbN (fun h => h)
        have hC0 := cell_at hbL5 0
        have hC1 := cell_at hbL5 1
        have hC2 := cell_at hbL5 2
        have hC3 := cell_at hbL5 3
        have hC4 := cell_at hbL5 4
        have hC5 := cell_at hbL5 5
        rw [arr6 hl6] at hC0 hC1 hC2 hC3 hC4 hC5
        simp only [List.getElem?_toArray, List.getElem?_cons_zero, List.getElem?_cons_succ] at hC0 hC1 hC2 hC3 hC4 hC5
        have hbw := heap_alloc_new w5 (.cells (arr l) 62)
        have g6 : Fresh w5 (w5.alloc (.cells (arr l) 62)) := (Keeps.refl _ _).alloc _
        have hdev6 := hdev5.fresh g6
        have hF6 := hF5.trans g6
        have hbL6 := g6.at_ hbL5 (fun h => h)
        have hbN6 := g6.at_ hbN5 (fun h => h)
        have hcP6 : ∀ (k : Nat) (x : Int × List UInt8), ((told f 6).map (fun p => (p, (f p).getD [])))[k]? = some x → ∃ bb, aoP = some ⟨bb, 0, none⟩ ∧ bb < w5.heap.size ∧ (w5.alloc (.cells (arr l) 62)).cell? ⟨bb, k * 2, none⟩ = some (.int .i64 x.1) ∧ (w5.alloc (.cells (arr l) 62)).cell? ⟨bb, k * 2 + 1, none⟩ = some (.string (str x.2)) := fun k x hx => by
          obtain ⟨bb, h1, h2, h3, h4⟩ := hcP k x hx
          rw [Nat.mul_comm] at h3 h4
          exact ⟨bb, h1, h2, (g6.cell (p := ⟨bb, k * 2, none⟩) h2 (fun h => h)).trans h3, (g6.cell (p := ⟨bb, k * 2 + 1, none⟩) h2 (fun h => h)).trans h4⟩
        have hSbw : ¬ S w5.heap.size := fun h => by
          obtain ⟨pv, mb, e1, e2, e3, e4, e5⟩ := hdev5.ex
          have := HSLT.out _ h
          have := hF5.size
          have := lt_of_block hbN5
          omega
        have hwbw : w.heap.size ≤ w5.heap.size := hF5.size
        have hblw : bl + 1 < w5.heap.size := lt_of_block hbN5
        obtain ⟨W6, hW6⟩ : ∃ W6, w5.alloc (.cells (arr l) 62) = W6 := ⟨_, rfl⟩
        obtain ⟨bw, hbwe⟩ : ∃ bw, w5.heap.size = bw := ⟨_, rfl⟩
        rw [hW6] at hbw hdev6 hF6 hbL6 hbN6 hcP6
        rw [hbwe] at hbw hSbw hwbw hblw hcP6
        have hbws : bw < W6.heap.size := lt_of_block hbw
        rw [arr6 hl6] at hW6
        have HC := hid hcP6
        have HG := hid (And.intro hbw (And.intro hdev6 (And.intro hF6 (And.intro hbL6 hbN6))))
        clear hdev hF hbL hbN f5 HPEND hbw hdev6 hF6 hbL6 hbN6 hcP6 hcP g6 hdev5 hF5 hbL5 hbN5
        go_wp2_with fail
        clear hW6 hbwe hC0 hC1 hC2 hC3 hC4 hC5
        obtain ⟨i0, hi, hz0, hz1, hz2⟩ := info_parts Try.infoKeep
        go_loopw [19, 20, 22] (fun s19 s20 i wr => ∃ m : Nat, i = .int .i64 (m : Int) ∧ m ≤ 6 ∧ s19 = .int .i64 ((told f m).length : Int) ∧ wr.ownsRow 0 71 2 s20 (keepsList bs (told f m).length).length (keepCells (keepsList bs (told f m).length)) ∧ (∀ g, s20.ownBlock = some g → W6.heap.size ≤ g) ∧ wr.heap[bw]? = some (.cells (arr (wantTo l f bs m)) 62 (0, 0)) ∧ Keeps (fun q => q = bw) W6 wr) (fun _ _ i _ => 6 - (intOf i).toNat)
        case atStart => exact ⟨0, rfl, by omega, rfl, World.ownsRow_nil _ _ _ _, (fun _ h => nomatch h), by rw [wantTo_zero]; exact HG.out.1, Keeps.refl _ _⟩
        case round =>
          obtain ⟨m, rfl, hm, rfl, hrow, hnew, hbW, kr⟩ := hrel
          obtain ⟨-, -, hF6, hbL6, hbN6⟩ := HG.out
          have hnbl : ¬ (bl = bw) := by omega
          have hnbn : ¬ (bl + 1 = bw) := by omega
          have hbLr := kr.at_ hbL6 hnbl
          have hbNr := kr.at_ hbN6 hnbn
          clear hF6 hbL6 hbN6
          by_cases hlt : m < 6
          · have hnc := cell_at hbNr m
            rw [arr_get (nowOf_get f hlt)] at hnc
            have hlm : l[m]? = some (l[m]'(by omega)) := List.getElem?_eq_getElem _
            obtain ⟨sl, hsl⟩ : ∃ s, l[m]'(by omega) = s := ⟨_, rfl⟩
            rw [hsl] at hlm
            clear hsl
            cases hf : f (m : Int) with
            | none =>
              rw [hf, Option.getD_none] at hnc
              have hemp : (str []).toList.isEmpty = true := by rw [str_toList]; rfl
              have htl : told f (m + 1) = told f m := by rw [told_succ, hf]; simp
              have hwt : wantTo l f bs (m + 1) = wantTo l f bs m := wantTo_same hlm (by unfold wants; rw [hf])
              rw [← htl] at hrow
              rw [← hwt] at hbW
              have HT := hid htl
              clear htl hwt hf hlm
              go_wp2_with fail
              go_roundw
              case rel => exact ⟨m + 1, by go_num, by omega, by rw [HT.out], hrow, hnew, hbW, kr⟩
              case measure => simp [intOf]; omega
            | some t =>
              rw [hf, Option.getD_some] at hnc
              have ht256 := (HSIX.out _ _ hf).2
              have hemp : (str t).toList.isEmpty = false := by
                rw [str_toList]
                cases t with
                | nil => simp at ht256
                | cons a b => rfl
              have hat := told_at (f := f) (p := m) (by rw [hf]; rfl) 6 hlt
              have hat2 : (told f m).length < (told f 6).length := (List.getElem?_eq_some_iff.1 hat).1
              have htl : told f (m + 1) = told f m ++ [(m : Int)] := by rw [told_succ, hf]; simp
              obtain ⟨bb, rfl, hbb, hp1, hp2⟩ := HC.out (told f m).length ((m : Int), t) (by rw [List.getElem?_map, hat, Option.map_some, hf]; rfl)
              have hp1 := (kr.cell (p := ⟨bb, (told f m).length * 2, none⟩) (Nat.lt_trans hbb hbws) (fun h => by have h : bb = bw := h; omega)).trans hp1
              have hp2 := (kr.cell (p := ⟨bb, (told f m).length * 2 + 1, none⟩) (Nat.lt_trans hbb hbws) (fun h => by have h : bb = bw := h; omega)).trans hp2
              simp only at hp1 hp2
              have hatI : ((told f m).length : Int) < ((told f 6).length : Int) := by omega
              have hq : ((str t).toList == (str t).toList) = true := by simp
              have hat60 : (told f m).length ≤ 6 := by
                have h1 := List.length_filter_le (fun p => (f p).isSome) ((List.range m).map fun i : Nat => (i : Int))
                simp only [List.length_map, List.length_range] at h1
                exact Nat.le_trans h1 hm
              obtain ⟨hF6, hbLr2, hbNr2⟩ : Fresh w W6 ∧ wr.heap[bl]? = some (.cells (arr l) 62 (0, 0)) ∧ wr.heap[bl + 1]? = some (.cells (arr (nowOf f)) 62 (0, 0)) := ⟨HG.out.2.2.1, hbLr, hbNr⟩
              have hFr : Fresh w wr := hF6.trans' kr (fun q _ h => by have h : q = bw := h; omega)
              have htl2 : (told f (m + 1)).length = (told f m).length + 1 := by rw [htl]; simp
              have HTL := hid htl2
              by_cases hab : (told f m).length < bs.length
              · have habI : ((told f m).length : Int) < (bs.length : Int) := by omega
                obtain ⟨b0, hb0⟩ : ∃ b, bs[(told f m).length]? = some b := ⟨bs[(told f m).length], by simp⟩
                obtain ⟨bb2, off2, rfl, hbb2, hbc⟩ := HC2.out _ b0 hb0
                have hbc := (hFr.cell (p := ⟨bb2, off2 + (told f m).length, none⟩) hbb2 (fun h => h)).trans hbc
                have hbr := HBS.out b0 (List.mem_of_getElem? hb0)
                obtain ⟨c, hc, hc257⟩ := picked b0 257 (by omega)
                have hpick := fun W => pick_any b0 257 W (by omega) (by omega) hbr.1 hbr.2
                rw [hc] at hpick
                have hpk : pk b0 257 = (c : Int) := hc
                have hks := keepsList_succ hb0
                rw [hpk] at hks
                have hwant : wants f bs m sl = t.take c ++ sl.drop c := by
                  unfold wants
                  rw [hf]
                  simp only
                  rw [if_pos hab, List.getD_eq_getElem?_getD, hb0, Option.getD_some, hpk, Int.toNat_natCast]
                have hwt := wantTo_succ (f := f) (bs := bs) hlm
                rw [hwant] at hwt
                have hsl256 : sl.length = 256 := HL256.out sl (List.mem_of_getElem? hlm)
                have hsz1 : (str t).size = 256 := by rw [str_size]; exact ht256
                have hsz2 : (str sl).size = 256 := by rw [str_size]; exact hsl256
                have hval : (str t).extract 0 c ++ (str sl).extract c 256 = str (t.take c ++ sl.drop c) := by
                  have e1 := str_from sl c
                  rw [hsl256] at e1
                  rw [str_to, e1, str_join]
                have hkl : (keepsList bs (told f m).length).length = (told f m).length := by rw [keepsList_len]; omega
                rw [hkl] at hrow
                have HWT := hid hwt
                have HKS := hid hks
                have HPK := hid hpick
                have HVAL := hid hval
                have HLM := hid hlm
                have HF := hid hf
                have hkl2 : (keepsList bs ((told f m).length + 1)).length = (told f m).length + 1 := by rw [keepsList_len]; omega
                have HKL2 := hid hkl2
                clear hf hat htl hlm hwt hks hpick hval hwant hpk hc hb0 hbr hF6 hbLr hbNr htl2 hkl hkl2
                go_wp2_with fail
                go_quiet (fail)
                go_wp2_with fail
                refine (HPK.out _).mono ?_
                rintro e _ ⟨rfl, rfl⟩
                have hrow9 := ownsRow_keeps hrow ((Keeps.refl (fun _ => False) wr).drewN nq) (fun _ _ h => h)
                obtain ⟨so, scap, rfl⟩ := ownsRow_slice hrow
                go_wp2_with (at_builtin; refine wpList_push2 rfl (.tmp 169) (.tmp 173) 49 rfl 71 i0 (.agg #[.int .i64 0, .int .i64 0]) 16 Try.underlying49 hi hz0 hz1 hz2 rfl (wr.drewN nq) hrow9 _ _ (by rfl) (by rfl) rfl rfl (by omega) (by unfold maxLen; omega) ?_)
                intro v8 w8 ha
                obtain ⟨ao8, cp8, rfl⟩ := ownsRow_slice ha.row
                have hr8 := ha.row
                rw [← keepCells_snoc _ (((told f m).length : Int), (c : Int)), ← HKS.out] at hr8
                have hnew8 : ∀ g, (Value.slice ao8 ((told f m).length + 1) cp8).ownBlock = some g → W6.heap.size ≤ g := fun g hg => by
                  rcases ha.own g hg with h | h
                  · exact hnew g h
                  · have h1 := kr.size
                    have h2 : (wr.drewN nq).heap.size = wr.heap.size := rfl
                    omega
                have k8 : Keeps (fun q => W6.heap.size ≤ q) wr w8 := ((Keeps.refl _ wr).drewN nq).trans (ha.keeps.mono fun q _ h => hnew q h)
                have hbl6 : bl < W6.heap.size := by omega
                have hbL8 := k8.at_ hbLr2 (fun h => by have h : W6.heap.size ≤ bl := h; omega)
                have hbN8 := k8.at_ hbNr2 (fun h => by have h : W6.heap.size ≤ bl + 1 := h; omega)
                have hbW8 := k8.at_ hbW (fun h => by have h : W6.heap.size ≤ bw := h; omega)
                have kr8 : Keeps (fun q => q = bw) W6 w8 := kr.trans' k8 (fun q hq h => by have h : W6.heap.size ≤ q := h; omega)
                have x1 : w8.drew.cell? ⟨bl, m, none⟩ = some (.string (str sl)) := (cell_at hbL8 m).trans (arr_get HLM.out)
                have x2 : w8.drew.cell? ⟨bl + 1, m, none⟩ = some (.string (str t)) := (cell_at hbN8 m).trans (by rw [arr_get (nowOf_get f hlt), HF.out, Option.getD_some])
                obtain ⟨x3v, x3⟩ : ∃ u, w8.drew.cell? ⟨bw, m, none⟩ = some u := by
                  obtain ⟨s3, hs3⟩ : ∃ s, (wantTo l f bs m)[m]? = some s := ⟨(wantTo l f bs m)[m]'(by rw [wantTo_len]; omega), by simp⟩
                  exact ⟨_, (cell_at hbW8 m).trans (arr_get hs3)⟩
                have x4 : w8.drew.frozen? ⟨bw, m, none⟩ = false := free_at hbW8 m
                have hn9 := heap_setCell_at hbW8 m (.string (str (t.take c ++ sl.drop c)))
                rw [arr_set, ← HWT.out] at hn9
                have k9 : Keeps (fun q => q = bw) w8 (w8.setCell ⟨bw, m, none⟩ (.string (str (t.take c ++ sl.drop c)))).drew := (Keeps.setCell (S := fun q => q = bw) (p := ⟨bw, m, none⟩) (Keeps.refl _ _) (fun _ => rfl) _).drew
                have hr9 := ownsRow_keeps hr8 k9 (fun g hg e => by have h1 := hnew8 g hg; have h2 : g = bw := e; omega)
                have kr9 := kr8.trans k9
                have hc0 : (0 : Int) ≤ (c : Int) := by omega
                have hc1 : (c : Int) ≤ 256 := by omega
                have HR9 := hid hr9
                have HN9 := hid hn9
                have HK9 := hid kr9
                clear ha hr8 hr9 hrow9 hrow hnew hn9 k9 kr9 kr8 k8 hbL8 hbN8 hbW8 hbW kr hbLr2 hbNr2 hFr hp1 hp2 hnc hbc
                go_wp2_with fail
                go_region
                all_goals
                  rw [HVAL.out]
                  go_wp2_with fail
                  go_roundw
                  case rel => exact ⟨m + 1, by go_num, by omega, by rw [HTL.out]; go_num, by rw [HTL.out, HKL2.out]; exact HR9.out, hnew8, HN9.out, HK9.out⟩
                  case measure => simp [intOf]; omega
              · have habI : ¬ ((told f m).length : Int) < (bs.length : Int) := by omega
                have hwant : wants f bs m sl = sl := by
                  unfold wants
                  rw [hf]
                  simp only
                  rw [if_neg hab]
                have hwt := wantTo_same (f := f) (bs := bs) hlm hwant
                have hks : keepsList bs ((told f m).length + 1) = keepsList bs (told f m).length := keepsList_more (by omega)
                rw [← hks, ← htl2] at hrow
                rw [← hwt] at hbW
                clear hf hat htl hlm ht256 hwt hks htl2
                go_wp2_with fail
                go_quiet (fail)
                go_wp2_with fail
                go_roundw
                case rel => exact ⟨m + 1, by go_num, by omega, by rw [HTL.out]; go_num, hrow, hnew, hbW, kr.drewN _⟩
                case measure => simp [intOf]; omega
          · obtain rfl : m = 6 := by omega
            obtain ⟨-, hdev6, hF6, -, -⟩ := HG.out
            have hdevr : Dev S wr d l D n dead armed := hdev6.keeps kr (fun q h e => hSbw (by rw [← show q = bw from e]; exact h))
            have hFr : Fresh w wr := hF6.trans' kr (fun q _ h => by have h : q = bw := h; omega)
            rw [wantTo_all hl6] at hbW
            have hblr : bw < wr.heap.size := lt_of_block hbW
            have hks := KeepsAt.of_row hrow
            have hpages := pages_any S d l D n dead armed wr hdevr (by omega)
            have hle : loadErr l = 0 := by rw [loadErr, if_neg (by omega), every_of HL256.out]; rfl
            have hload := fun v W hT => load_any v l W hT (by omega) (fun s hs => by rw [HL256.out s hs]; omega)
            rw [hle] at hload
            have HPG := hid hpages
            have HLD := hid hload
            clear hdev6 hF6 hrow hnew hle hload hpages HC kr
            go_wp2_with fail
            refine HPG.out.mono ?_
            rintro e w7 ⟨v7, rfl, hv7, f7⟩
            go_wp2_with fail
            refine (HLD.out _ _ hv7).mono ?_
            rintro e w8 ⟨q8, rfl, f8, hld8⟩
            obtain ⟨c8, rfl, hcdev⟩ : ∃ c, q8 = some ⟨c, 0, none⟩ ∧ Dev (fun q => w7.heap.size ≤ q ∧ q < w8.heap.size) w8 c l (.map []) 0 false 0 := by
              rcases hld8 with ⟨h, _⟩ | ⟨_, c, h1, _, h3⟩
              · exact absurd rfl h
              · exact ⟨c, h1, h3⟩
            have f78 := f7.trans f8
            have hdev8 := hdevr.fresh f78
            have hF8 := hFr.trans f78
            have hbW8 := f78.at_ hbW (fun h => h)
            have hbL8 := f78.at_ hbLr (fun h => h)
            have hks8 := hks.fresh f78
            have hw7 : bw < w7.heap.size := Nat.lt_of_lt_of_le hblr f7.size
            have hkl := keepsList_len bs (told f 6).length
            have htl6 : (told f 6).length ≤ 6 := by
              have h1 := List.length_filter_le (fun p => (f p).isSome) ((List.range 6).map fun i : Nat => (i : Int))
              simp only [List.length_map, List.length_range] at h1
              exact h1
            have hcr := crash_any S d l D n dead armed f _ (keepsList bs (told f 6).length) w8 hdev8 HP.out HR.out (by omega) (by omega) HL256.out (fun p s h => (HSIX.out p s h).2) hks8 (by rw [hkl]; omega) (fun k hk => by have := keepsList_small bs _ k hk; exact ⟨WalkArith.wf_i64 (by omega), WalkArith.wf_i64 (by omega)⟩)
            rw [hl6] at hcr
            have HCR := hid hcr
            clear hcr hv7 hld8 HPG HLD hdevr hFr hbW hbLr hbNr f7 f8 f78 hdev8 hks8 hks hkl
            go_wp2_with fail
            refine HCR.out.mono ?_
            rintro e w9 (⟨hno, -, -⟩ | ⟨-, rfl, ⟨D9, hdev9, hP9⟩, k9⟩)
            · exact absurd (keepsList_ok bs (told f 6).length) hno
            have hSlt : ∀ q, S q → q < bl := HSLT.out
            have hF9 := hF8.trans' k9 (fun q _ h => by have := HSB.out q h; omega)
            have hbW9 := k9.at_ hbW8 hSbw
            have hbL9 := k9.at_ hbL8 hSbl
            have hcdev9 := hcdev.keeps k9 (fun q h h2 => by have := hSlt q h2; have h : w7.heap.size ≤ q ∧ q < w8.heap.size := h; omega)
            obtain ⟨Sc, hSc⟩ : ∃ Sc : Nat → Prop, (fun q => w7.heap.size ≤ q ∧ q < w8.heap.size) = Sc := ⟨_, rfl⟩
            rw [hSc] at hcdev9
            have hlen9 := (crashed_len l f (keepsList bs (told f 6).length)).trans hl6
            obtain ⟨L9, hL9⟩ : ∃ L9, crashed l f (keepsList bs (told f 6).length) = L9 := ⟨_, rfl⟩
            rw [hL9] at hlen9 hdev9 hbW9
            obtain ⟨hPL9, hsz9, hkr9⟩ := hdev9.told_ hP9 (fun p h => nomatch h) (by omega) (by omega)
            rw [show told (fun _ => none) L9.length = [] from by rw [hlen9]; rfl, List.map_nil] at hPL9
            have hdead := fun W hW => dead_any S d L9 D9 n false 0 W hW
            have hpend := fun W hW => pending_any S d L9 D9 n false 0 (fun _ => none) W hW hP9 hsz9 hkr9
            rw [hPL9] at hpend
            have HDEAD := hid hdead
            have HPEND := hid hpend
            have HL6 := hid hl6
            have HL9 := hid hlen9
            clear hSc hL9 k9 HCR hF8 hbW8 hbL8 hcdev hPL9 hsz9 hkr9 hdead hpend hSlt hlen9
            go_wp2_with fail
            refine (HDEAD.out _ hdev9).mono ?_
            rintro e w10 ⟨rfl, f10⟩
            have hdev10 := hdev9.fresh f10
            go_wp2_with fail
            refine (HPEND.out _ hdev10).mono ?_
            rintro e w11 ⟨v11, rfl, hv11, f11⟩
            obtain ⟨ao11, cp11, rfl, -⟩ := hv11
            rw [List.length_nil]
            have f911 := f10.trans f11
            have hdev11 := hdev9.fresh f911
            have hpages := pages_any S d L9 D9 n false 0 w11 hdev11 (by rw [HL9.out]; omega)
            have HPG := hid hpages
            clear hpages hdev10 f10 f11
            go_wp2_with fail
            refine HPG.out.mono ?_
            rintro e w12 ⟨v12, rfl, hv12, f12⟩
            have f912 := f911.trans f12
            have hdev12 := hdev11.fresh f12
            have hcdev12 := hcdev9.fresh f912
            have hF12 := hF9.trans f912
            have hbW12 := f912.at_ hbW9 (fun h => h)
            have hbL12 := f912.at_ hbL9 (fun h => h)
            obtain ⟨ao12, cp12, rfl, hc12⟩ := hv12
            rw [HL9.out]
            have HC12 := hid hc12
            have HH := hid (And.intro hdev12 (And.intro hcdev12 (And.intro hF12 (And.intro hbW12 hbL12))))
            clear hc12 hdev12 hcdev12 hF12 hbW12 hbL12 f912 f911 f12 hdev11 hdev9 hcdev9 hF9 hbW9 hbL9 HPG
            go_wp2_with fail
            go_loopw [28] (fun i wx => ∃ m : Nat, i = .int .i64 (m : Int) ∧ m ≤ 6 ∧ Fresh w12 wx) (fun i _ => 6 - (intOf i).toNat)
            case atStart => exact ⟨0, rfl, by omega, Keeps.refl _ _⟩
            case round =>
              obtain ⟨m, rfl, hm, fx⟩ := hrel
              by_cases hlt : m < 6
              · obtain ⟨hdev12, hcdev12, hF12, hbW12, hbL12⟩ := HH.out
                obtain ⟨x, hx⟩ : ∃ x, L9[m]? = some x := ⟨L9[m]'(by rw [HL9.out]; exact hlt), by simp⟩
                obtain ⟨y, hy⟩ : ∃ y, l[m]? = some y := ⟨l[m]'(by rw [HL6.out]; exact hlt), by simp⟩
                have hr1 := read_last S d L9 D9 n 0 m x (fun _ => none) wr (hdev12.fresh fx) hP9 rfl hx (by rw [HL9.out]; omega)
                have hr2 := fun W hW => read_last Sc c8 l (.map []) 0 0 m y (fun _ => none) W hW Pends.empty rfl hy (by rw [HL6.out]; omega)
                obtain ⟨b12, o12, rfl, hb12, hx12⟩ := HC12.out m x hx
                have hcx := hcdev12.fresh fx
                have hbWx := fx.at_ hbW12 (fun h => h)
                have hbLx := fx.at_ hbL12 (fun h => h)
                have hcp := (fx.cell (p := ⟨b12, o12 + m, none⟩) hb12 (fun h => h)).trans hx12
                have hb12 : b12 < wr.heap.size := Nat.lt_of_lt_of_le hb12 fx.size
                have HR1 := hid hr1
                have HR2 := hid hr2
                have HX := hid hx
                have HY := hid hy
                have hq1 : ((str x).toList == (str x).toList) = true := by simp
                have hq2 : ((str y).toList == (str y).toList) = true := by simp
                clear hr1 hr2 hx hy hdev12 hcdev12 hF12 hbW12 hbL12 hx12
                go_wp2_with fail
                refine HR1.out.mono ?_
                rintro e w13 ⟨rfl, f13⟩
                go_wp2_with fail
                refine (HR2.out _ (hcx.fresh f13)).mono ?_
                rintro e w14 ⟨rfl, f14⟩
                have f134 := f13.trans f14
                have z1 := (cell_at (f134.at_ hbWx (fun h => h)) m).trans (arr_get HX.out)
                have z2 := (cell_at (f134.at_ hbLx (fun h => h)) m).trans (arr_get HY.out)
                have z3 := (f134.cell (p := ⟨b12, o12 + m, none⟩) hb12 (fun h => h)).trans hcp
                have fx14 := fx.trans f134
                clear f13 f14 f134 hcx hbWx hbLx hcp HR1 HR2
                go_wp2_with fail
                go_quiet (fail)
                go_wp2_with fail
                go_roundw
                case rel => exact ⟨m + 1, by go_num, by omega, fx14.drewN _⟩
                case measure => simp [intOf]; omega
              · obtain rfl : m = 6 := by omega
                go_wp2_with fail
                go_ret
                exact ⟨rfl, HH.out.2.2.1.trans fx⟩
end Go.Proofs.Ytbhienlalpbflaa
