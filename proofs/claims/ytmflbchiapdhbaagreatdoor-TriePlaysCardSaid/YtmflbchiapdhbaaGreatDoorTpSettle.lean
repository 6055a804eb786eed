/-
  The law's world: those that stayed untouched read as they did; then all are marked, all are grown, all are looked at.
-/
import Derived.Test.YtmflbchiapdhbaaGreatDoorMTpA
namespace Go.Proofs.YtmflbchiapdhbaaGreatDoor
open Go.RowKit

theorem mark_sum (a b : Nat) (ha : a ≤ 1000000) (hb : b ≤ 1000000) (w : World) :
    Calls Tryz.prog 31 #[.int .i64 (IntKind.i64.wrap ((a : Int) + (b : Int)))] w fun e w' => e = .returned (.string (str (markL (a + b)))) ∧ Fresh w w' := by
  have := mark_any (a + b) w
  have hw : IntKind.i64.wrap ((a : Int) + (b : Int)) = ((a + b : Nat) : Int) := by rw [IntKind.wrap_i64]; omega
  rw [hw]
  exact this
theorem fcol_inj (i j : Nat) (h : fcol i = fcol j) : i = j := by unfold fcol at h; omega

abbrev MarksT (c : Nat → Nat) (w : World) (G i : Nat) (F : List Value) (C : List Texts) : Prop := Marks c w 9 1 texts List.length markU fcol G 1000 i F C

theorem Pen.texts {c : Nat → Nat} {w : World} {x : Nat} {v : Value} {l : Texts} (h : Pen c w 9 1 (texts l) x v l.length) : TextsAt w v l := by
  by_cases h0 : 0 < l.length
  · obtain ⟨g, cap, rfl, hg, -, hc⟩ := h.cells h0
    exact ⟨_, _, rfl, fun k s hs => ⟨g, 0, rfl, hg, by rw [Nat.zero_add]; exact hc k _ (by simp [Go.Proofs.YtmflbchiapdhbaaGreatDoor.texts, hs])⟩⟩
  · obtain ⟨ao, cap, rfl⟩ := h.slice
    exact ⟨ao, cap, rfl, fun k s hs => by have := (List.getElem?_eq_some_iff.1 hs).1; omega⟩
/-- while they are grown -/
structure Sett (c : Nat → Nat) (w : World) (ob : Nat) (kp : Bool) (m y : Nat → Nat) (fv wv : Value) (F : List Value) (G i : Nat) (c' : Nat → Nat) (av : Value) (A : List Value) (wr : World) : Prop where
  box : wr.heap[ob]? = some (.cells (boxCells m y av fv wv kp) 33 (0, 0))
  cbox : c' ob = 1
  frow : wr.ownsRow 0 41 1 fv F.length F
  cfrow : ∀ g, fv.ownBlock = some g → c' g = 3
  pack : Packs c' wr av A
  len : A.length = 6 * (G + i)
  rest : ∀ (j : Nat) (v : Value), i ≤ j → F[j]? = some v → ∃ k, k ≤ 1000 ∧ Pen c' wr 9 1 (reps k (markU (G + j))) (fcol j) v k
  keeps : Keeps (fun g => c g = 1 ∨ c g = 2 ∨ (∃ a, c g = fcol a) ∨ ∃ a, c g = gcol a) w wr
  cols : ∀ g, g < w.heap.size → c' g = c g ∨ (∃ a, c g = fcol a) ∨ ∃ a, c g = gcol a
theorem Sett.fresh {c c' : Nat → Nat} {w wr w2 : World} {ob : Nat} {kp : Bool} {m y : Nat → Nat} {fv wv av : Value} {F A : List Value} {G i : Nat} (h : Sett c w ob kp m y fv wv F G i c' av A wr) (f : Fresh wr w2) : Sett c w ob kp m y fv wv F G i c' av A w2 :=
  ⟨f.at_ h.box (fun h => h), h.cbox, ownsRow_keeps h.frow f (fun _ _ h => h), h.cfrow, h.pack.fresh f, h.len, fun j v hj hv => by
    obtain ⟨k, h1, h2⟩ := h.rest j v hj hv
    exact ⟨k, h1, h2.keeps f (fun _ h => h.elim) (fun _ _ h => h)⟩, h.keeps.trans (f.mono fun _ _ h => h.elim), h.cols⟩
theorem Sett.box2 {c c' : Nat → Nat} {w wr w2 : World} {ob : Nat} {kp : Bool} {m y : Nat → Nat} {fv wv av : Value} {F A : List Value} {G i : Nat} (h : Sett c w ob kp m y fv wv F G i c' av A wr)
    (k2 : Keeps (fun g => (if c' g = fcol i then gcol (G + i) else c' g) = 2 ∨ (if c' g = fcol i then gcol (G + i) else c' g) = gcol (G + i)) wr w2) : w2.heap[ob]? = some (.cells (boxCells m y av fv wv kp) 33 (0, 0)) :=
  k2.at_ h.box (fun e => by
    have hc := h.cbox
    rw [hc, if_neg (by unfold fcol; omega)] at e
    rcases e with e | e
    · omega
    · unfold gcol at e; omega)
/-- one of them grown, and stored -/
theorem Sett.next {c c' c2 : Nat → Nat} {w wr w2 : World} {ob : Nat} {kp : Bool} {m y : Nat → Nat} {fv wv av av' : Value} {F A A' : List Value} {G i : Nat} (h : Sett c w ob kp m y fv wv F G i c' av A wr)
    (hag : ∀ g, g < wr.heap.size → c2 g = if c' g = fcol i then gcol (G + i) else c' g) (hA' : A'.length = 6 * (G + i + 1)) (hp : Packs c2 w2 av' A') (k2 : Keeps (fun g => (if c' g = fcol i then gcol (G + i) else c' g) = 2 ∨ (if c' g = fcol i then gcol (G + i) else c' g) = gcol (G + i)) wr w2) :
    Sett c w ob kp m y fv wv F G (i + 1) c2 av' A' (w2.setCell ⟨ob, 4, none⟩ av') := by
  have hob := lt_of_block h.box
  have hsz := h.keeps.size
  have k3 : Keeps (fun g => c' g = fcol i ∨ c' g = 2 ∨ c' g = gcol (G + i)) wr w2 := k2.mono fun g _ e => by
    by_cases q : c' g = fcol i
    · exact .inl q
    · rw [if_neg q] at e
      exact .inr e
  have k4 : Keeps (fun g => c' g = fcol i ∨ c' g = 2 ∨ c' g = gcol (G + i) ∨ c' g = 1) wr (w2.setCell ⟨ob, 4, none⟩ av') := (k3.mono fun g _ e => by
    rcases e with e | e | e
    · exact .inl e
    · exact .inr (.inl e)
    · exact .inr (.inr (.inl e))).setCell (p := ⟨ob, 4, none⟩) (fun _ => .inr (.inr (.inr h.cbox))) av'
  have hne : ∀ g, g < wr.heap.size → c' g ≠ fcol i → c2 g = c' g := fun g hg hn => by rw [hag g hg, if_neg hn]
  have b2 := k3.at_ h.box (fun e => by
    have := h.cbox
    rcases e with e | e | e
    · unfold fcol at e; omega
    · omega
    · unfold gcol at e; omega)
  have cb : c2 ob = 1 := (hne ob hob (by rw [h.cbox]; unfold fcol; omega)).trans h.cbox
  refine ⟨heap_setCell_at b2 4 av', cb, ?_, fun g hg => ?_, ?_, by rw [hA']; omega, fun j v hj hv => ?_, ?_, fun g hg => ?_⟩
  · exact ownsRow_keeps h.frow k4 fun g hg e => by
      have := h.cfrow g hg
      rcases e with e | e | e | e
      · unfold fcol at e; omega
      · omega
      · unfold gcol at e; omega
      · omega
  · have := h.cfrow g hg
    exact (hne g (h.frow.lt g hg).2 (by rw [this]; unfold fcol; omega)).trans this
  · exact hp.keeps ((Keeps.refl (fun q => q = ob) w2).setCell (p := ⟨ob, 4, none⟩) (fun _ => rfl) av') (fun g hg _ => by rw [hg, cb]; exact ⟨by omega, fun i => by unfold gcol; omega⟩) fun _ _ _ => rfl
  · obtain ⟨k, h1, h2⟩ := h.rest j v (by omega) hv
    exact ⟨k, h1, h2.keeps k4 (fun g hg _ e => by
      rcases hg with q | q | q | q
      · have := fcol_inj _ _ (q.symm.trans e); omega
      · unfold fcol at e; omega
      · unfold gcol at q; unfold fcol at e; omega
      · unfold fcol at e; omega) fun g hg e => (hne g hg (fun q => by have := fcol_inj _ _ (q.symm.trans e); omega)).trans e⟩
  · refine h.keeps.trans' k4 fun g hg e => ?_
    rcases h.cols g hg with q | ⟨a, q⟩ | ⟨a, q⟩
    · rw [q] at e
      rcases e with e | e | e | e
      · exact .inr (.inr (.inl ⟨_, e⟩))
      · exact .inr (.inl e)
      · exact .inr (.inr (.inr ⟨_, e⟩))
      · exact .inl e
    · exact .inr (.inr (.inl ⟨_, q⟩))
    · exact .inr (.inr (.inr ⟨_, q⟩))
  · by_cases e : c' g = fcol i
    · rcases h.cols g hg with q | q
      · exact .inr (.inl ⟨i, q ▸ e⟩)
      · exact .inr q
    · rw [hne g (by omega) e]
      exact h.cols g hg

set_option maxRecDepth 100000 in
set_option maxHeartbeats 8000000 in
theorem settled_any (B ob N : Nat) (c : Nat → Nat) (w : World) (kp : Bool) (m y n : Nat → Nat) (t : Nat → Tr) (dv : Nat → Value) (L : Nat → List Ent) (lv fv wv : Value) (A F Wv : List Value) (C : List Texts) (h : TW B c w ob kp m y t n dv L lv fv wv A F Wv C N) (hN : N ≤ 1000) :
    Calls Tryz.prog 9 #[.pointer (some ⟨ob, 0, none⟩)] w fun e w' => e = .returned (.bool true) ∧ ∃ G c' av A', Sett c w ob kp m y fv wv F G F.length c' av A' w' := by
  obtain ⟨G, hG, hGN⟩ := h.lists
  obtain ⟨aol, cpl, rfl⟩ := ownsRow_slice h.pack.row
  obtain ⟨aof, cpf, rfl⟩ := ownsRow_slice h.free.frow
  obtain ⟨aow, cpw, rfl⟩ := ownsRow_slice h.free.wrow
  have H := hid h
  have HC : Hid (∀ W, Keeps (fun g => ∃ a, c g = fcol a) w W → W.cell? ⟨ob, 4, none⟩ = some (.slice aol A.length cpl) ∧ W.cell? ⟨ob, 5, none⟩ = some (.slice aof F.length cpf) ∧ W.cell? ⟨ob, 6, none⟩ = some (.slice aow Wv.length cpw) ∧ W.ownsRow 0 41 1 (.slice aof F.length cpf) F.length F) := fun W f => by
    have hb := f.at_ h.box (fun ⟨a, e⟩ => by have := h.cbox; unfold fcol at e; omega)
    exact ⟨(cell_at hb 4).trans rfl, (cell_at hb 5).trans rfl, (cell_at hb 6).trans rfl, ownsRow_keeps h.free.frow f fun g hg ⟨a, e⟩ => by have := h.free.cfrow g hg; unfold fcol at e; omega⟩
  have hWF : Wv.length = F.length := h.free.lenW
  have hCF : C.length = F.length := h.free.lenC
  have hFb : (F.length : Int) ≤ 1000 := by omega
  have hG6 : (A.length : Int) / 6 = (G : Int) := by omega
  have hGb : (G : Int) ≤ 1000 := by omega
  have bl := lt_of_block h.box
  have HG := hid hG
  have HGN := hid hGN
  have HWF := hid hWF
  have HCF := hid hCF
  have kw : Keeps (fun g => ∃ a, c g = fcol a) w w := Keeps.refl _ _
  obtain ⟨c4, c5, c6, -⟩ := HC.out w kw
  clear h hG hGN hWF hCF kw
  go_enter Tryz.func9, Tryz.ntmps9
  go_wp2_with fail
  clear c4 c5 c6
  go_loopw [3] (fun i wr => ∃ k : Nat, i = .int .i64 (k : Int) ∧ k ≤ F.length ∧ Fresh w wr) (fun i _ => F.length - (intOf i).toNat)
  case atStart => exact ⟨0, rfl, Nat.zero_le _, Keeps.refl _ _⟩
  case round =>
    obtain ⟨k, rfl, hk, fr⟩ := hrel
    obtain ⟨c4, c5, c6, hfrow⟩ := HC.out wr (fr.mono fun _ _ h => h.elim)
    by_cases hlt : k < F.length
    · obtain ⟨x, hx⟩ : ∃ x, F[k]? = some x := ⟨F[k], by simp⟩
      obtain ⟨u, hu⟩ : ∃ u, Wv[k]? = some u := ⟨Wv[k]'(by have := HWF.out; omega), by simp⟩
      obtain ⟨l, hl⟩ : ∃ l, C[k]? = some l := ⟨C[k]'(by have := HCF.out; omega), by simp⟩
      have hp1 := (H.out.free.lists k x l hx hl).keeps fr (fun _ h => h.elim) (fun _ _ h => h)
      have hp2 := (H.out.free.was k u l hu hl).keeps fr (fun _ h => h.elim) (fun _ _ h => h)
      have hls := H.out.small l (List.mem_of_getElem? hl)
      have HSAME := hid fun W (f : Fresh wr W) => sameTexts_any x u l l W (hp1.texts.fresh f) (hp2.texts.fresh f) (by omega) (by omega)
      obtain ⟨xo, xc, rfl⟩ := hp1.slice
      obtain ⟨uo, uc, rfl⟩ := hp2.slice
      have hwrow : wr.ownsRow 0 41 1 (.slice aow Wv.length cpw) Wv.length Wv := ownsRow_keeps H.out.free.wrow fr (fun _ _ h => h)
      obtain ⟨gf, rfl, hgf, hcf⟩ := ownsRow_cells hfrow (by omega)
      obtain ⟨gw, rfl, hgw, hcw⟩ := ownsRow_cells hwrow (by have := HWF.out; omega)
      have hfx := hcf k _ hx
      have hwx := hcw k _ hu
      have hk0 : (0 : Int) ≤ (k : Int) := by omega
      have hk1 : (k : Int) < (F.length : Int) := by omega
      have hk2 : (k : Int) < (Wv.length : Int) := by have := HWF.out; omega
      rw [decide_eq_true (rfl : l = l)] at HSAME
      clear hp1 hp2 hx hu hl hfrow hwrow hcf hcw
      go_wp2_with fail
      go_region_law (first | (go_simp; go_at_call 22; refine (HSAME.out _ (by first | exact Keeps.refl _ _ | exact (Keeps.refl _ _).drew)).mono ?_; rintro e w3 ⟨rfl, f0⟩; have f : Fresh wr w3 := (by first | exact f0 | exact ((Keeps.refl (fun _ => False) wr).drew).trans f0); clear f0))
      all_goals
        clear c4 c5 c6 hfx hwx
        go_wp2_with fail
        go_roundw
        case rel => exact ⟨k + 1, by go_num, by omega, fr.trans f⟩
        case measure => simp [intOf]; omega
    · obtain rfl : k = F.length := by omega
      clear hfrow
      go_wp2_with fail
      have hM0 : MarksT c wr G 0 F C := ⟨fun j v hj _ => by omega, fun j v l _ hv hl => (H.out.free.lists j v l hv hl).keeps fr (fun _ h => h.elim) (fun _ _ h => h)⟩
      have K0 : Hid (Keeps (fun g => ∃ a, c g = fcol a) w wr) := fr.mono fun _ _ h => h.elim
      have HM0 := hid hM0
      clear c4 c5 c6 fr hM0 hlt hk
      go_loopw [6] (fun i wr => ∃ i' : Nat, i = .int .i64 (i' : Int) ∧ i' ≤ F.length ∧ MarksT c wr G i' F C ∧ Keeps (fun g => ∃ a, c g = fcol a) w wr) (fun i _ => F.length - (intOf i).toNat)
      case atStart => exact ⟨0, rfl, Nat.zero_le _, HM0.out, K0.out⟩
      case round =>
        clear HM0 K0
        obtain ⟨i, rfl, hi, hm, kr⟩ := hrel
        obtain ⟨c4, c5, c6, hfrow⟩ := HC.out wr kr
        by_cases hlt : i < F.length
        · obtain ⟨x, hx⟩ : ∃ x, F[i]? = some x := ⟨F[i], by simp⟩
          obtain ⟨l, hl⟩ : ∃ l, C[i]? = some l := ⟨C[i]'(by have := HCF.out; omega), by simp⟩
          have hp1 := hm.todo i x l (Nat.le_refl _) hx hl
          have hls := H.out.small l (List.mem_of_getElem? hl)
          obtain ⟨xo, xc, rfl⟩ := hp1.slice
          obtain ⟨gf, rfl, hgf, hcf⟩ := ownsRow_cells hfrow (by omega)
          have hfx := hcf i _ hx
          have hi0 : (0 : Int) ≤ (i : Int) := by omega
          have hi1 : (i : Int) < (F.length : Int) := by omega
          have HX := hid hx
          have HLX := hid hl
          have HM := hid hm
          have KR := hid kr
          have HP0 := hid (HPen.begin (us := markU (G + i)) hp1)
          obtain ⟨q, hq⟩ : ∃ q, l.length = q := ⟨_, rfl⟩
          rw [hq] at HP0 hfx hls
          have hqb : (q : Int) ≤ 1000 := by omega
          rw [hq] at HX
          clear hx hl hm kr hp1 hfrow hcf hq
          go_wp2_with fail
          clear c4 c5 c6 hfx
          obtain ⟨w6, rfl⟩ : ∃ w6, w6 = wr := ⟨_, rfl⟩
          go_loopw [7] (fun jj wk => ∃ j : Nat, jj = .int .i64 (j : Int) ∧ j ≤ q ∧ HPen c wk 9 1 (markU (G + i)) (fcol i) (.slice xo q xc) q j ∧ Keeps (fun g => c g = fcol i) w6 wk) (fun jj _ => q - (intOf jj).toNat)
          case atStart => exact ⟨0, rfl, Nat.zero_le _, HP0.out, Keeps.refl _ _⟩
          case round =>
            obtain ⟨wk, rfl⟩ : ∃ wk, wk = wr := ⟨_, rfl⟩
            obtain ⟨j, rfl, hj, hp, kk⟩ := hrel
            have kw : Keeps (fun g => ∃ a, c g = fcol a) w wk := KR.out.trans (kk.mono fun g _ e => ⟨i, e⟩)
            obtain ⟨c4, c5, c6, hfrow⟩ := HC.out wk kw
            obtain ⟨gf2, e2, hgf2, hcf⟩ := ownsRow_cells hfrow (by omega)
            simp only [Option.some.injEq, Addr.mk.injEq, and_true] at e2
            subst e2
            have hfx := hcf i _ HX.out
            have HP := hid hp
            have KK := hid kk
            by_cases hjq : j < q
            · obtain ⟨g, cap, u, e, hgl, hcg, hcell, hfr⟩ := hp.cell hjq
              simp only [Value.slice.injEq, true_and] at e
              obtain ⟨rfl, rfl⟩ := e
              have hj0 : (0 : Int) ≤ (j : Int) := by omega
              have hj1 : (j : Int) < (q : Int) := by omega
              have hmk := fun W => mark_sum G i (by omega) (by omega) W
              have hbl : ob < wk.heap.size := World.block_lt_of_cell? wk _ c4
              clear hp kk kw hfrow hcf
              go_wp2_with fail
              go_region_law (first | (go_simp; go_at_call 31; refine (hmk _).mono ?_; rintro e w3 ⟨rfl, f0⟩; have f : Fresh wk w3 := (by first | exact f0 | exact ((Keeps.refl (fun _ => False) wk).drew).trans f0); clear f0; have c5' := (f.cell (p := ⟨ob, 5, none⟩) hbl (fun h => h)).trans c5; have hfx' := (f.cell (p := ⟨gf, i, none⟩) hgf2 (fun h => h)).trans hfx; have hcell' := (f.cell (p := ⟨g, j, none⟩) hgl (fun h => h)).trans hcell; have hfr' := (f.frozen (p := ⟨g, j, none⟩) hgl (fun h => h)).trans hfr))
              all_goals
                have HP3 := hid ((HP.out.fresh f).put1 (u := .string (str (markL (G + i)))) hjq)
                have KK3 := hid ((KK.out.trans (f.mono fun _ _ h => h.elim)).setCell (p := ⟨g, j, none⟩) (fun _ => hcg) (.string (str (markL (G + i)))))
                clear c4 c5 c6 hfx hcell hfr c5' hfx' hcell' hfr'
                go_wp2_with fail
                go_roundw
                case rel => exact ⟨j + 1, by go_num, by omega, (by first | exact HP3.out | exact HP3.out.fresh (Keeps.refl _ _).drew), (by first | exact KK3.out | exact KK3.out.drew)⟩
                case measure => simp [intOf]; omega
            · obtain rfl : j = q := by omega
              have hnj : ¬ (j : Int) < (j : Int) := by omega
              have hM2 : MarksT c wk G (i + 1) F C := by
                obtain ⟨q1, q2⟩ := HM.out.turn fcol_inj kk (fun g h => h)
                refine ⟨fun a v ha hv => ?_, fun a v l ha hv hl => q2 a v l (by omega) hv hl⟩
                by_cases e : a = i
                · subst e
                  rw [HX.out] at hv
                  injection hv with hv
                  subst hv
                  exact ⟨j, hls, hp.fin rfl⟩
                · exact q1 a v (by omega) hv
              have HM2 := hid hM2
              have KW := hid kw
              clear hp kk kw hfrow hcf hM2
              go_wp2_with fail
              go_roundw
              case rel => exact ⟨i + 1, by go_num, by omega, HM2.out, KW.out⟩
              case measure => simp [intOf]; omega
        · obtain rfl : i = F.length := by omega
          have hS0 : Sett c w ob kp m y (.slice aof F.length cpf) (.slice aow Wv.length cpw) F G 0 c (.slice aol A.length cpl) A wr := by
            have hb := kr.at_ H.out.box (fun ⟨a, e⟩ => by have := H.out.cbox; unfold fcol at e; omega)
            refine ⟨hb, H.out.cbox, hfrow, H.out.free.cfrow, H.out.pack.keeps kr (fun g ⟨a, e⟩ _ => by rw [e]; exact ⟨by unfold fcol; omega, fun b => by unfold fcol gcol; omega⟩) (fun _ _ _ => rfl), HG.out, fun j v _ hv => ?_, kr.mono fun g _ e => .inr (.inr (.inl e)), fun g _ => .inl rfl⟩
            exact hm.done j v ((List.getElem?_eq_some_iff.1 hv).1) hv
          have HS0 := hid hS0
          clear hm kr hfrow hS0 hlt hi c4 c6
          go_wp2_with fail
          clear c5
          go_loopw [8] (fun ii wr => ∃ (i : Nat) (c' : Nat → Nat) (av : Value) (A' : List Value), ii = .int .i64 (i : Int) ∧ i ≤ F.length ∧ Sett c w ob kp m y (.slice aof F.length cpf) (.slice aow Wv.length cpw) F G i c' av A' wr) (fun ii _ => F.length - (intOf ii).toNat)
          case atStart => exact ⟨0, c, _, A, rfl, Nat.zero_le _, HS0.out⟩
          case round =>
            clear HS0
            obtain ⟨i, c', av, A', rfl, hi, hs⟩ := hrel
            obtain ⟨a1, p1, rfl⟩ := ownsRow_slice hs.pack.row
            have c4 := (cell_at hs.box 4).trans (show _ = some (Value.slice a1 A'.length p1) from rfl)
            have c5 := (cell_at hs.box 5).trans (show _ = some (Value.slice aof F.length cpf) from rfl)
            have d4 := free_at hs.box 4
            have HS := hid hs
            by_cases hlt : i < F.length
            · obtain ⟨x, hx⟩ : ∃ x, F[i]? = some x := ⟨F[i], by simp⟩
              obtain ⟨q, hq, hpx⟩ := hs.rest i x (Nat.le_refl _) hx
              obtain ⟨xo, xc, rfl⟩ := hpx.slice
              obtain ⟨gf, e2, hgf, hcf⟩ := ownsRow_cells hs.frow (by omega)
              subst e2
              have hfx := hcf i _ hx
              have hi0 : (0 : Int) ≤ (i : Int) := by omega
              have hi1 : (i : Int) < (F.length : Int) := by omega
              have hmk := fun W => mark_sum G i (by omega) (by omega) W
              have hbl : ob < wr.heap.size := World.block_lt_of_cell? wr _ c4
              have HGR : Hid (∀ W, Fresh wr W → Calls Tryz.prog 32 #[.slice a1 A'.length p1, .slice xo q xc, .string (str (markL (G + i)))] W fun e w' => ∃ c2 av' A2, e = .returned av' ∧ (∀ g, g < W.heap.size → c2 g = if c' g = fcol i then gcol (G + i) else c' g) ∧ A2.length = 6 * (G + i + 1) ∧ Packs c2 w' av' A2 ∧ Keeps (fun g => (if c' g = fcol i then gcol (G + i) else c' g) = 2 ∨ (if c' g = fcol i then gcol (G + i) else c' g) = gcol (G + i)) W w') := fun W f => by
                have hs2 := HS.out.fresh f
                have hpk : Packs (fun g => if c' g = fcol i then gcol (G + i) else c' g) W (.slice a1 A'.length p1) A' := hs2.pack.keeps (Keeps.refl (fun _ => False) W) (fun _ h => h.elim) fun g _ e => by
                  show (if c' g = fcol i then gcol (G + i) else c' g) = c' g
                  rw [if_neg (fun q => by
                    rcases e with e | ⟨a, e⟩
                    · rw [e] at q; unfold fcol at q; omega
                    · rw [e] at q; unfold fcol gcol at q; omega)]
                have hpx2 : Pen (fun g => if c' g = fcol i then gcol (G + i) else c' g) W 9 1 (reps q (markU (G + i))) (gcol (G + i)) (.slice xo q xc) q := by
                  obtain ⟨z, z1, z2, z3⟩ := hpx.keeps f (fun _ h => h.elim) (fun _ _ h => h) (c' := c')
                  exact ⟨z, z1, z2, fun g hg => if_pos (z3 g hg)⟩
                exact grows_any _ _ _ A' (G + i) q W (hpk.begin (by rw [hs2.len]) hpx2) (by rw [hs2.len]) (by omega) (by omega)
              clear hs hpx hcf hx
              go_wp2_with fail
              go_region_law (first
                | (go_simp; go_at_call 31; refine (hmk _).mono ?_; rintro e w3 ⟨rfl, f0⟩; have f : Fresh wr w3 := (by first | exact f0 | exact ((Keeps.refl (fun _ => False) wr).drew).trans f0); clear f0; have c4' := (f.cell (p := ⟨ob, 4, none⟩) hbl (fun h => h)).trans c4; have c5' := (f.cell (p := ⟨ob, 5, none⟩) hbl (fun h => h)).trans c5; have hfx' := (f.cell (p := ⟨gf, i, none⟩) hgf (fun h => h)).trans hfx)
                | (go_simp; go_at_call 32; refine (HGR.out _ f).mono ?_; rintro e w4 ⟨c2, av', A2, rfl, hag, hA2, hp2, k2⟩; obtain ⟨a2, p2, rfl⟩ := ownsRow_slice hp2.row; have hsn := hid ((HS.out.fresh f).next hag hA2 hp2 k2); have b4 := (HS.out.fresh f).box2 k2; clear hag hA2 hp2 k2; have q4 := (cell_at b4 4).trans (show _ = some (Value.slice a1 A'.length p1) from rfl); have q4f := free_at b4 4))
              all_goals
                have HSN := hsn
                clear hsn b4 q4 q4f c4 c5 d4 c4' c5' hfx hfx'
                go_wp2_with fail
                go_roundw
                case rel => exact ⟨i + 1, c2, _, A2, by go_num, by omega, (by first | exact HSN.out | exact HSN.out.fresh (Keeps.refl _ _).drew)⟩
                case measure => simp [intOf]; omega
            · obtain rfl : i = F.length := by omega
              have hA6 : A'.length ≤ 6000 := by have := hs.len; have := HGN.out; omega
              have HK := hid (kept_pack ob c' wr kp m y _ _ _ A' hs.box hs.pack hA6)
              clear hs hA6
              go_wp2_with fail
              refine HK.out.mono ?_
              rintro e w5 ⟨rfl, f5⟩
              have hfin := HS.out.fresh f5
              have HFIN := hid hfin
              clear hfin f5 c4 c5 d4
              go_wp2_with fail
              go_ret
              exact ⟨rfl, G, c', _, A', HFIN.out⟩
end Go.Proofs.YtmflbchiapdhbaaGreatDoor
