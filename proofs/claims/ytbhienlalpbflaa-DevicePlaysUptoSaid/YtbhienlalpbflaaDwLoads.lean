/-
  The law's 'loads': pages are lent in its hand, both devices are loaded. Printed by gen_dwloads.py.
-/
import Derived.Test.YtbhienlalpbflaaDwLent
namespace Go.Proofs.Ytbhienlalpbflaa
open Go.RowKit Go.Maps

section
variable {B ob n N : Nat} {c : Nat → Nat} {w w' : World} {v : WV} {sd sx : Nat → St}
/-- the hand is made anew -/
theorem DW.setHand (h : DW B c w ob v sd sx n N) (m : Nat) : ∃ c', DW B c' ((w.alloc (textsC (List.replicate m []))).setCell ⟨ob, 7, none⟩ (.slice (some ⟨w.heap.size, 0, none⟩) m m)) ob { v with xv := .slice (some ⟨w.heap.size, 0, none⟩) m m, H := List.replicate m [] } sd sx n N ∧ (∀ g, g < w.heap.size → c' g = c g) ∧ Keeps (fun q => q = ob) w ((w.alloc (textsC (List.replicate m []))).setCell ⟨ob, 7, none⟩ (.slice (some ⟨w.heap.size, 0, none⟩) m m)) := by
  have hob := lt_of_block h.box
  obtain ⟨c', hc'⟩ : ∃ c' : Nat → Nat, ∀ g, c' g = if g = w.heap.size then 11 else c g := ⟨_, fun _ => rfl⟩
  have hold : ∀ g, g < w.heap.size → c' g = c g := fun g hg => by rw [hc', if_neg (by omega)]
  have fa : Fresh w (w.alloc (textsC (List.replicate m []))) := (Keeps.refl _ _).alloc _
  have hn := heap_alloc_new w (textsC (List.replicate m []))
  have k : Keeps (fun q => q = ob) w ((w.alloc (textsC (List.replicate m []))).setCell ⟨ob, 7, none⟩ (.slice (some ⟨w.heap.size, 0, none⟩) m m)) := (fa.mono (S' := fun q => q = ob) fun _ _ h => h.elim).setCell (p := ⟨ob, 7, none⟩) (fun _ => rfl) _
  have hS : ∀ g, g = ob → c g = 1 := fun g e => by rw [e]; exact h.cbox
  have z : ((w.alloc (textsC (List.replicate m []))).setCell ⟨ob, 7, none⟩ (.slice (some ⟨w.heap.size, 0, none⟩) m m)).heap.size = w.heap.size + 1 := by simp
  have vq := h.vw.keeps (c' := c') k (fun g hs _ => by have := hS g hs; omega) (fun g hg _ => hold g hg)
  have lq := h.lw.keeps (c' := c') k (fun g hs _ => by have := hS g hs; omega) (fun g hg _ => hold g hg)
  have hk2 : Keeps (fun q => q = ob) (w.alloc (textsC (List.replicate m []))) ((w.alloc (textsC (List.replicate m []))).setCell ⟨ob, 7, none⟩ (.slice (some ⟨w.heap.size, 0, none⟩) m m)) := (Keeps.refl (fun q => q = ob) _).setCell (p := ⟨ob, 7, none⟩) (fun _ => rfl) _
  refine ⟨c', ⟨heap_setCell_at (fa.at_ h.box (fun h => h)) 7 _, (hold ob hob).trans h.cbox, ⟨lq.pack, lq.packW, lq.free, lq.freeW, lq.lists, lq.listsW, lq.small, lq.smallW⟩, ⟨vq.row, vq.crow, vq.few, vq.dev, vq.ref, vq.okd, vq.okx, .inr ⟨w.heap.size, by rw [List.length_replicate], hk2.at_ hn (fun e => by have e : w.heap.size = ob := e; omega)⟩, fun g hg => ?_⟩, fun g hg => ?_, Nat.le_trans h.size k.size, fun g hg => ?_⟩, hold, k⟩
  · simp only [Value.ownBlock, Option.some.injEq] at hg
    rw [hc', if_pos hg.symm]
  · rw [hold g (by have := h.size; omega)]; exact h.low g hg
  · rw [hc', if_neg (by omega)]; exact h.unborn g (by omega)
/-- what lies in the hand turns -/
theorem DW.handTo (h : DW B c w ob v sd sx n N) {g : Nat} {X : Texts} (hx : v.xv = .slice (some ⟨g, 0, none⟩) v.H.length v.H.length) (k : Keeps (fun q => q = g) w w') (hg : w'.heap[g]? = some (textsC X)) (hX : X.length = v.H.length) : DW B c w' ob { v with H := X } sd sx n N := by
  have hcg : c g = 11 := h.vw.chand g (by rw [hx]; rfl)
  have hS : ∀ q, q = g → c q = 11 := fun q e => by rw [e]; exact hcg
  have lq := h.lw.keeps (c' := c) k (fun q hs _ => by have := hS q hs; omega) (fun _ _ _ => rfl)
  have hfew := h.vw.few
  refine ⟨k.at_ h.box (fun hs => by have := hS _ hs; have := h.cbox; omega), h.cbox, ⟨lq.pack, lq.packW, lq.free, lq.freeW, lq.lists, lq.listsW, lq.small, lq.smallW⟩, ⟨ownsRow_keeps h.vw.row k fun q hq hs => by have := hS q hs; have := h.vw.crow q hq; omega, h.vw.crow, h.vw.few, fun i s hs => (h.vw.dev i s hs).keeps k fun q hl hq e => by have := hS q hq; have := (List.getElem?_eq_some_iff.1 hs).1; omega, fun i s hs => (h.vw.ref i s hs).keeps k fun q hl hq e => by have := hS q hq; have := (List.getElem?_eq_some_iff.1 hs).1; omega, h.vw.okd, h.vw.okx, .inr ⟨g, by rw [hX]; exact hx, hg⟩, h.vw.chand⟩, h.low, Nat.le_trans h.size k.size, fun q hq => h.unborn q (Nat.le_trans k.size hq)⟩
end
/-- a list of texts in nobody's blocks -/
def NobT (c : Nat → Nat) (w : World) (v : Value) (l : List (List UInt8)) : Prop := ∃ ao cap, v = .slice ao l.length cap ∧ ∀ (k : Nat) (s : List UInt8), l[k]? = some s → ∃ bb off, ao = some ⟨bb, off, none⟩ ∧ bb < w.heap.size ∧ c bb = 0 ∧ w.cell? ⟨bb, off + k, none⟩ = some (.string (str s))
theorem NobT.at_ {c : Nat → Nat} {w : World} {v : Value} {l : List (List UInt8)} (h : NobT c w v l) : TextsAt w v l := by
  obtain ⟨ao, cap, rfl, hc⟩ := h
  refine ⟨ao, cap, rfl, fun k s hs => ?_⟩
  obtain ⟨bb, off, e1, e2, -, e3⟩ := hc k s hs
  exact ⟨bb, off, e1, e2, e3⟩
theorem NobT.keeps {S : Nat → Prop} {c c' : Nat → Nat} {w w' : World} {v : Value} {l : List (List UInt8)} (h : NobT c w v l) (k : Keeps S w w') (hS : ∀ g, S g → g < w.heap.size → c g ≠ 0) (hc' : ∀ g, g < w.heap.size → c g = 0 → c' g = 0) : NobT c' w' v l := by
  obtain ⟨ao, cap, rfl, hc⟩ := h
  refine ⟨ao, cap, rfl, fun i x hx => ?_⟩
  obtain ⟨bb, off, e1, e2, e0, e3⟩ := hc i x hx
  exact ⟨bb, off, e1, Nat.lt_of_lt_of_le e2 k.size, hc' bb e2 e0, (k.cell (p := ⟨bb, off + i, none⟩) e2 (fun hs => hS bb hs e2 e0)).trans e3⟩
def overL : List UInt8 := [111, 118, 101, 114]
/-- so many spare ones are written behind the list -/
def handTo (l H : Texts) (j : Nat) : Texts := l ++ (List.replicate j spareL ++ H.drop (l.length + j))
theorem every256_mem : ∀ (l : Texts), every256 l = true → ∀ t ∈ l, t.length = 256
  | [], _, t, h => by cases h
  | s :: r, he, t, h => by
    simp only [every256, Bool.and_eq_true, decide_eq_true_eq] at he
    rcases List.mem_cons.1 h with rfl | h
    · exact he.1
    · exact every256_mem r he.2 t h
theorem handTo_len (l H : Texts) (j : Nat) (h : l.length + j ≤ H.length) : (handTo l H j).length = H.length := by simp [handTo]; omega
theorem handTo_zero (l H : Texts) : handTo l H 0 = l ++ H.drop l.length := by simp [handTo]
theorem handTo_set (l H : Texts) (j : Nat) (h : l.length + j < H.length) : (handTo l H j).set (l.length + j) spareL = handTo l H (j + 1) := by
  unfold handTo
  rw [List.set_append_right _ _ (by omega), Nat.add_sub_cancel_left, List.set_append_right _ _ (by simp), List.length_replicate, Nat.sub_self, List.drop_eq_getElem_cons h, List.set_cons_zero, List.replicate_succ', List.append_assoc]
  rfl
theorem handTo_take (l H : Texts) (j : Nat) : (handTo l H j).take l.length = l := by simp [handTo]
theorem handTo_spare (l H : Texts) (i : Nat) (hi : i < 8) : (handTo l H 8)[l.length + i]? = some spareL := by
  unfold handTo
  rw [List.getElem?_append_right (by omega), Nat.add_sub_cancel_left, List.getElem?_append_left (by simp; omega), List.getElem?_replicate, if_pos hi]
/-- so many are written over -/
def overTo (X : Texts) (j : Nat) : Texts := List.replicate j overL ++ X.drop j
theorem overTo_len (X : Texts) (j : Nat) (h : j ≤ X.length) : (overTo X j).length = X.length := by simp [overTo]; omega
theorem overTo_set (X : Texts) (j : Nat) (h : j < X.length) : (overTo X j).set j overL = overTo X (j + 1) := by
  unfold overTo
  rw [List.set_append_right _ _ (by simp), List.length_replicate, Nat.sub_self, List.drop_eq_getElem_cons h, List.set_cons_zero, List.replicate_succ', List.append_assoc]
  rfl

set_option maxRecDepth 100000 in
set_option maxHeartbeats 8000000 in
theorem loads_w (B ob n N : Nat) (c : Nat → Nat) (w : World) (v : WV) (f : Nat → St) (lv : Value) (l : Texts) (h : DW B c w ob v f f n N) (hl : NobT c w lv l) (hll : l.length ≤ 4096) (hls : ∀ s ∈ l, s.length ≤ 9223372036854775807) :
    Calls Try.prog 45 #[.pointer (some ⟨ob, 0, none⟩), lv] w fun e w' => e = .returned (.bool true) ∧ Aft B w' ob n N ∧ Keeps (fun q => B ≤ q) w w' := by
  obtain ⟨j0, hj, hy0, hy1, hy2⟩ := info_parts Try.infoText
  obtain ⟨i0, hi, hz0, hz1, hz2⟩ := info_parts Try.infoSide
  obtain ⟨ao7, e7⟩ := h.vw.hand.slice
  have c7 := (cell_at h.box 7).trans (show _ = some (Value.slice ao7 v.H.length v.H.length) by rw [← e7]; rfl)
  have d7 := free_at h.box 7
  have hlI : (l.length : Int) ≤ 4096 := by omega
  have HLS := hid hls
  obtain ⟨ao, cap, elv⟩ : ∃ ao cap, lv = .slice ao l.length cap := by
    obtain ⟨ao, cap, e, -⟩ := hl
    exact ⟨ao, cap, e⟩
  subst elv
  by_cases hlt : v.H.length < l.length + 8
  · as_aux_lemma =>
    have hltI : (v.H.length : Int) < (l.length : Int) + 8 := by omega
    have hmk : (Instr.makeSlice 30 (.int .i64 ((l.length : Int) + 30)) (.int .i64 ((l.length : Int) + 30))).run Try.prog w = .ok (.slice (some ⟨w.heap.size, 0, none⟩) (l.length + 30) (l.length + 30)) (w.alloc (textsC (List.replicate (l.length + 30) []))) := by
      have := run_make w 30 9 j0 (.string ⟨#[]⟩) Try.underlying30 hj hy0 .i64 .i64 ((l.length : Int) + 30) ((l.length : Int) + 30) (by omega) (by omega) (by rw [hy2]; omega) (by omega)
      rw [hy1, Nat.mul_one, show ((l.length : Int) + 30).toNat = l.length + 30 by omega] at this
      rw [this]
      congr 2
      unfold textsC
      congr 1
      apply Array.ext'
      rw [show (Value.string ⟨#[]⟩ : Value).cells = #[Value.string ⟨#[]⟩] from rfl, made_list]
      simp [texts, str]
    obtain ⟨c1, h1, hc1, k1⟩ := h.setHand (l.length + 30)
    have hl1 := hl.keeps (c' := c1) k1 (fun q e _ => by rw [show q = ob from e, h.cbox]; omega) (fun q hq e => (hc1 q hq).trans e)
    have fa : Fresh w (w.alloc (textsC (List.replicate (l.length + 30) []))) := (Keeps.refl _ _).alloc _
    have c7a := (fa.cell (p := ⟨ob, 7, none⟩) (lt_of_block h.box) (fun h => h)).trans c7
    have d7a := (fa.frozen (p := ⟨ob, 7, none⟩) (lt_of_block h.box) (fun h => h)).trans d7
    have hg1 : ((w.alloc (textsC (List.replicate (l.length + 30) []))).setCell ⟨ob, 7, none⟩ (.slice (some ⟨w.heap.size, 0, none⟩) (l.length + 30) (l.length + 30))).heap[w.heap.size]? = some (textsC (List.replicate (l.length + 30) [])) := by
      refine ((Keeps.refl (fun q => q = ob) (w.alloc (textsC (List.replicate (l.length + 30) [])))).setCell (p := ⟨ob, 7, none⟩) (fun _ => rfl) _).at_ (heap_alloc_new w _) (fun e => ?_)
      have e : w.heap.size = ob := e
      have := lt_of_block h.box
      omega
    obtain ⟨u, w2, hcopy, k2, hg2⟩ := copy_into _ w.heap.size _ l (List.replicate (l.length + 30) []) (l.length + 8) (l.length + 30) hg1 (by omega) (by simp) hl1.at_
    have HW : Hid (DW B c1 ((w.alloc (textsC (List.replicate (l.length + 30) []))).setCell ⟨ob, 7, none⟩ (.slice (some ⟨w.heap.size, 0, none⟩) (l.length + 30) (l.length + 30))) ob { v with xv := .slice (some ⟨w.heap.size, 0, none⟩) (List.replicate (l.length + 30) ([] : List UInt8)).length (List.replicate (l.length + 30) ([] : List UInt8)).length, H := List.replicate (l.length + 30) [] } f f n N ∧ Keeps (fun q => B ≤ q) w ((w.alloc (textsC (List.replicate (l.length + 30) []))).setCell ⟨ob, 7, none⟩ (.slice (some ⟨w.heap.size, 0, none⟩) (l.length + 30) (l.length + 30))) ∧ NobT c1 ((w.alloc (textsC (List.replicate (l.length + 30) []))).setCell ⟨ob, 7, none⟩ (.slice (some ⟨w.heap.size, 0, none⟩) (l.length + 30) (l.length + 30))) (.slice ao l.length cap) l) := by
      rw [Hid]
      simp only [List.length_replicate]
      exact And.intro h1 (And.intro (h.owns k1 fun q hs _ => by rw [show q = ob from hs, h.cbox]; omega) hl1)
    have hX : l.length + 8 ≤ (List.replicate (l.length + 30) ([] : List UInt8)).length := by simp
    have hgl := lt_of_block hg1
    clear h hl hy0 hy1 hy2 hj e7 h1 hc1 k1 hl1 fa hg1
    go_enter Try.func45, Try.ntmps45
    go_wp2_with fail
    clear hcopy hmk c7 d7 c7a d7a hltI hlt
    generalize (w.alloc (textsC (List.replicate (l.length + 30) []))).setCell ⟨ob, 7, none⟩ (.slice (some ⟨w.heap.size, 0, none⟩) (l.length + 30) (l.length + 30)) = W1 at HW k2 hgl ⊢
    obtain ⟨g, hgn⟩ : ∃ g, w.heap.size = g := ⟨_, rfl⟩
    rw [hgn] at HW k2 hgl hg2 ⊢
    clear hgn
    revert hX hg2 HW
    generalize List.replicate (l.length + 30) ([] : List UInt8) = X
    intro hX hg2 HW
    generalize hMM : l.length + 30 = M
    have hM8 : l.length + 8 ≤ M := by omega
    clear hMM
    have hcg : c1 g = 11 := HW.out.1.vw.chand g rfl
    have hlen : ∀ k, k ≤ 8 → (handTo l X k).length = X.length := fun k hk => handTo_len l X k (by omega)
    rw [← handTo_zero] at hg2
    have HG2 := hid hg2
    have HLEN := hid hlen
    clear hg2 hlen hls
    go_loopw [6] (fun ii wr => ∃ k : Nat, ii = .int .i64 ((l.length + k : Nat) : Int) ∧ k ≤ 8 ∧ wr.heap[g]? = some (textsC (handTo l X k)) ∧ Keeps (fun q => q = g) w2 wr) (fun ii _ => l.length + 8 - (intOf ii).toNat)
    case atStart => exact ⟨0, rfl, by omega, HG2.out, Keeps.refl _ _⟩
    case round =>
      clear HG2
      obtain ⟨k, rfl, hk, hg, kr⟩ := hrel
      by_cases hlt : k < 8
      · obtain ⟨z, hz⟩ : ∃ z, (handTo l X k)[l.length + k]? = some z := ⟨_, List.getElem?_eq_getElem (by rw [HLEN.out k hk]; omega)⟩
        have q0 := textsC_cell hg hz
        have z0 := textsC_free hg (l.length + k)
        have hset := textsC_set hg (l.length + k) spareL
        rw [handTo_set l X k (by omega)] at hset
        have k3 := kr.trans ((Keeps.refl (fun q => q = g) wr).setCell (p := ⟨g, l.length + k, none⟩) (fun _ => rfl) (.string (str spareL)))
        have HSET := hid hset
        have K3 := hid k3
        have hli : ((l.length + k : Nat) : Int) < (l.length : Int) + 8 := by omega
        have hl2 : ((l.length + k : Nat) : Int) ≤ 9000000000000 := by omega
        have hl0 : (0 : Int) ≤ ((l.length + k : Nat) : Int) := by omega
        clear hg hset k3 kr hz
        go_wp2_with fail
        go_roundw
        case rel => exact ⟨k + 1, congrArg (Value.int .i64) (by omega), by omega, HSET.out, K3.out⟩
        case measure => simp [intOf]; omega
      · obtain rfl : k = 8 := by omega
        have hli : ¬ (((l.length + 8 : Nat) : Int) < (l.length : Int) + 8) := by omega
        have hlM : (l.length : Int) ≤ (M : Int) := by omega
        have hl8 : (l.length : Int) ≤ (l.length : Int) + 8 := by omega
        have hl8M : (l.length : Int) + 8 ≤ (M : Int) := by omega
        have HLD := hid (load_any (.slice (some ⟨g, 0, none⟩) l.length M) l wr (textsC_at hg (handTo_take l X 8)) (by omega) HLS.out)
        have k13 := k2.trans kr
        have hnb := HW.out.2.2.keeps (c' := c1) k13 (fun q e _ => by rw [show q = g from e, hcg]; omega) (fun _ _ e => e)
        have HRL := hid fun W (f : Fresh wr W) => refload_full (.slice ao l.length cap) l W (hnb.at_.fresh f) (by omega) HLS.out
        have HSM := hid fun W (f : Fresh wr W) => sameTexts_any (.slice (some ⟨g, 0, none⟩) l.length M) (.slice ao l.length cap) l l W ((textsC_at hg (handTo_take l X 8)).fresh f) (hnb.at_.fresh f) (by omega) (by omega)
        rw [decide_eq_true (rfl : l = l)] at HSM
        have HG := hid hg
        have K13 := hid k13
        clear hg k13 hnb kr
        go_wp2_with fail
        refine HLD.out.mono ?_
        rintro e w4 ⟨p1, rfl, f4, hld⟩
        have HL4 := hid (And.intro f4 hld)
        clear f4 hld HLD
        go_wp2_with fail
        refine (HRL.out w4 HL4.out.1).mono ?_
        rintro e w5 ⟨p2, rfl, f5, hrl⟩
        have HL5 := hid (And.intro f5 hrl)
        clear f5 hrl
        go_wp2_with fail
        refine (HSM.out w5 (HL4.out.1.trans HL5.out.1)).mono ?_
        rintro e w6 ⟨rfl, f6⟩
        have HF6 := hid f6
        have HG6 := hid (((HL4.out.1.trans HL5.out.1).trans f6).at_ HG.out (fun h => h))
        clear f6 HSM HRL HG
        obtain ⟨ev, hev⟩ : ∃ ev, loadErr l = ev := ⟨_, rfl⟩
        rw [hev] at HL4 HL5 ⊢
        go_wp2_with fail
        go_loopw [11, 12] (fun t ii wr => ∃ k : Nat, t = .bool true ∧ ii = .int .i64 ((l.length + k : Nat) : Int) ∧ k ≤ 8 ∧ Fresh w6 wr) (fun _ ii _ => l.length + 8 - (intOf ii).toNat)
        case atStart => exact ⟨0, rfl, rfl, by omega, Keeps.refl _ _⟩
        case round =>
          obtain ⟨k, rfl, rfl, hk, fr⟩ := hrel
          have hgr := fr.at_ HG6.out (fun h => h)
          by_cases hlt : k < 8
          · have q0 := textsC_cell hgr (handTo_spare l X k hlt)
            have hq : ((str spareL).toList == [115, 112, 97, 114, 101]) = true := by rw [str_toList]; rfl
            have hli : ((l.length + k : Nat) : Int) < (l.length : Int) + 8 := by omega
            have hl2 : ((l.length + k : Nat) : Int) ≤ 9000000000000 := by omega
            have hl0 : (0 : Int) ≤ ((l.length + k : Nat) : Int) := by omega
            clear hgr
            go_wp2_with fail
            go_roundw
            case rel => exact ⟨k + 1, rfl, congrArg (Value.int .i64) (by omega), by omega, fr⟩
            case measure => simp [intOf]; omega
          · obtain rfl : k = 8 := by omega
            have hli : ¬ (((l.length + 8 : Nat) : Int) < (l.length : Int) + 8) := by omega
            have HGR := hid hgr
            have HFR := hid fr
            clear hgr fr
            go_wp2_with fail
            go_loopw [13] (fun ii wx => ∃ k : Nat, ii = .int .i64 (k : Int) ∧ k ≤ l.length + 8 ∧ wx.heap[g]? = some (textsC (overTo (handTo l X 8) k)) ∧ Keeps (fun q => q = g) wr wx) (fun ii _ => l.length + 8 - (intOf ii).toNat)
            case atStart => exact ⟨0, rfl, by omega, by (simpa [overTo] using HGR.out), Keeps.refl _ _⟩
            case round =>
              obtain ⟨wy, rfl⟩ : ∃ wy, wy = wr := ⟨_, rfl⟩
              obtain ⟨k, rfl, hk, hg, kr⟩ := hrel
              by_cases hlt : k < l.length + 8
              · obtain ⟨z, hz⟩ : ∃ z, (overTo (handTo l X 8) k)[k]? = some z := ⟨_, List.getElem?_eq_getElem (by rw [overTo_len _ _ (by rw [HLEN.out 8 (Nat.le_refl _)]; omega), HLEN.out 8 (Nat.le_refl _)]; omega)⟩
                have q0 := textsC_cell hg hz
                have z0 := textsC_free hg k
                have hset := textsC_set hg k overL
                rw [overTo_set _ k (by rw [HLEN.out 8 (Nat.le_refl _)]; omega)] at hset
                have k3 := kr.trans ((Keeps.refl (fun q => q = g) wy).setCell (p := ⟨g, k, none⟩) (fun _ => rfl) (.string (str overL)))
                have HSET := hid hset
                have K3 := hid k3
                have hkI : (k : Int) < (l.length : Int) + 8 := by omega
                clear hg hset k3 kr hz
                go_wp2_with fail
                go_roundw
                case rel => exact ⟨k + 1, by go_num, by omega, HSET.out, K3.out⟩
                case measure => simp [intOf]; omega
              · obtain rfl : k = l.length + 8 := by omega
                have fA := ((HL4.out.1.trans HL5.out.1).trans HF6.out).trans HFR.out
                have k17 : Keeps (fun q => q = g) W1 wy := (K13.out.trans (fA.mono fun _ _ h => h.elim)).trans kr
                have h7 := HW.out.1.handTo (X := overTo (handTo l X 8) (l.length + 8)) rfl k17 hg (by rw [overTo_len _ _ (by rw [HLEN.out 8 (Nat.le_refl _)]; omega), HLEN.out 8 (Nat.le_refl _)])
                have kB : Keeps (fun q => B ≤ q) w wy := HW.out.2.1.trans (HW.out.1.owns k17 fun q e _ => by rw [show q = g from e, hcg]; omega)
                obtain ⟨al, cl, elv⟩ := ownsRow_slice h7.vw.row
                have cl0 := (cell_at h7.box 0).trans (show _ = some (Value.slice al v.ss.length cl) from congrArg some elv)
                have dl0 := free_at h7.box 0
                have hkn : ¬ (((l.length + 8 : Nat) : Int) < (l.length : Int) + 8) := by omega
                by_cases h0 : ev = 0
                · obtain ⟨d, rfl, hdl, hD⟩ := HL4.out.2.at_ h0
                  obtain ⟨x, rfl, hxl, hX2⟩ := HL5.out.2.at_ h0
                  subst h0
                  have hle : l.length ≤ 4096 ∧ 4 ≤ l.length ∧ every256 l = true := by
                    unfold loadErr at hev
                    split at hev
                    · cases hev
                    · rename_i hn4
                      split at hev
                      · rename_i he; exact ⟨by omega, by omega, he⟩
                      · cases hev
                  have hok : (newSt l).Ok := newSt_ok hle.2.1 hle.1 fun t ht => every256_mem l hle.2.2 t ht
                  have s4 := HL4.out.1.size
                  have s5 := HL5.out.1.size
                  have sA := fA.size
                  have s3 := K13.out.size
                  have H7UN := HW.out.1.unborn
                  have hD7 := (hD.fresh ((HL5.out.1.trans HF6.out).trans HFR.out)).keeps kr (fun q _ e hp => by have e : q = g := e; have := hgl; omega)
                  have hX7 := (hX2.fresh (HF6.out.trans HFR.out)).keeps kr (fun q _ e hp => by have e : q = g := e; have := hgl; omega)
                  have sk := kr.size
                  by_cases h5 : v.ss.length < 5
                  · have h5I : (v.ss.length : Int) < 5 := by omega
                    have hrow : wy.ownsRow 0 53 2 (.slice al v.ss.length cl) v.ss.length (sideCells v.ss) := by rw [← elv]; exact h7.vw.row
                    have H7 := hid h7
                    have HD7 := hid (And.intro hD7 hX7)
                    have KB := hid kB
                    clear hD hX2 hD7 hX7 h7 kB k17 kr hg
                    go_wp2_with (at_builtin; refine wpList_push2 rfl (.tmp 114) (.tmp 118) 43 rfl 53 i0 (.agg #[.pointer none, .pointer none]) 16 Try.underlying43 hi hz0 hz1 hz2 rfl wy hrow _ _ (by rfl) (by rfl) rfl rfl (by omega) (by unfold maxLen; omega) ?_)
                    intro v9 w9 ha
                    have ha' : Appended 53 2 wy w9 v.lv v9 (v.ss.length + 1) (sideCells (v.ss ++ [(d, x)])) := by
                      rw [sideCells_snoc, elv]; exact ha
                    obtain ⟨c9, q1, q2⟩ := H7.out.addSide HD7.out.1 HD7.out.2 hok (fun q hq hp => ⟨H7UN q (by omega), by have := HW.out.1.size; omega⟩) (fun q hq hp => ⟨H7UN q (by omega), by have := HW.out.1.size; omega⟩) (fun q hp hq => by omega) h5 ha'
                    have b9 := ha.keeps.at_ H7.out.box (fun e => by have := H7.out.vw.crow _ (by rw [elv]; exact e); have := H7.out.cbox; omega)
                    have d9 := free_at b9 0
                    obtain ⟨u9, e9⟩ : ∃ u, w9.cell? ⟨ob, 0, none⟩ = some u := ⟨_, (cell_at b9 0).trans rfl⟩
                    obtain ⟨a9, cp9, rfl⟩ := ownsRow_slice ha.row
                    have HQ := hid (And.intro q1 (KB.out.trans q2))
                    clear ha ha' q1 q2 b9 cl0 dl0
                    go_wp2_with fail
                    go_ret
                    exact ⟨by first | rfl | simp, ⟨_, _, _, HQ.out.1⟩, HQ.out.2⟩
                  · have h5I : ¬ (v.ss.length : Int) < 5 := by omega
                    have H7 := hid h7
                    have KB := hid kB
                    clear hD hX2 hD7 hX7 h7 kB k17 kr hg
                    go_wp2_with fail
                    go_ret
                    exact ⟨by first | rfl | simp, ⟨_, _, _, H7.out⟩, KB.out⟩
                · have e1 : p1 = none := by
                    rcases HL4.out.2 with ⟨-, e⟩ | ⟨e, -⟩
                    · exact e
                    · exact absurd e h0
                  have e2 : p2 = none := by
                    rcases HL5.out.2 with ⟨-, e⟩ | ⟨e, -⟩
                    · exact e
                    · exact absurd e h0
                  subst e1 e2
                  have H7 := hid h7
                  have KB := hid kB
                  clear h7 kB k17 kr hg
                  go_wp2_with fail
                  go_ret
                  exact ⟨by first | rfl | simp, ⟨_, _, _, H7.out⟩, KB.out⟩
  · as_aux_lemma =>
    have hltI : ¬ (v.H.length : Int) < (l.length : Int) + 8 := by omega
    have hgI : (l.length : Int) + 8 ≤ (v.H.length : Int) := by omega
    obtain ⟨g, eg, hg1⟩ : ∃ g, v.xv = .slice (some ⟨g, 0, none⟩) v.H.length v.H.length ∧ w.heap[g]? = some (textsC v.H) := by
      rcases h.vw.hand with ⟨-, e⟩ | h
      · rw [e] at hlt; simp at hlt
      · exact h
    have eao : ao7 = some ⟨g, 0, none⟩ := by
      rw [e7] at eg
      simp only [Value.slice.injEq, and_true] at eg
      exact eg
    subst eao
    obtain ⟨u, w2, hcopy, k2, hg2⟩ := copy_into w g _ l v.H (l.length + 8) v.H.length hg1 (by omega) (by omega) hl.at_
    have HW : Hid (DW B c w ob v f f n N ∧ Keeps (fun q => B ≤ q) w w ∧ NobT c w _ l) := And.intro h (And.intro (Keeps.refl _ _) hl)
    have hX : l.length + 8 ≤ v.H.length := by omega
    have hxv := eg
    have hgl := lt_of_block hg1
    replace hxv := hid hxv
    clear h hl hy0 hy1 hy2 hj e7 hg1 eg
    go_enter Try.func45, Try.ntmps45
    go_wp2_with fail
    clear hcopy c7 d7 hltI hlt hgI
    obtain ⟨W1, hW1⟩ : ∃ W1, W1 = w := ⟨_, rfl⟩
    obtain ⟨c1, hc1⟩ : ∃ c1, c1 = c := ⟨_, rfl⟩
    rw [← hW1] at k2 hgl
    have HW1 : Hid (DW B c1 W1 ob { v with xv := .slice (some ⟨g, 0, none⟩) v.H.length v.H.length } f f n N ∧ Keeps (fun q => B ≤ q) w W1 ∧ NobT c1 W1 (.slice ao l.length cap) l) := by
      rw [Hid, hW1, hc1, ← hxv.out]
      exact HW.out
    clear hW1 hc1 HW
    have HW := HW1
    clear HW1
    clear hxv
    generalize hMM : v.H.length = M
    have hM8 : l.length + 8 ≤ M := by omega
    clear hMM
    revert hX hg2 HW
    generalize v.H = X
    intro hg2 hX HW
    have hcg : c1 g = 11 := HW.out.1.vw.chand g rfl
    have hlen : ∀ k, k ≤ 8 → (handTo l X k).length = X.length := fun k hk => handTo_len l X k (by omega)
    rw [← handTo_zero] at hg2
    have HG2 := hid hg2
    have HLEN := hid hlen
    clear hg2 hlen hls
    go_loopw [6] (fun ii wr => ∃ k : Nat, ii = .int .i64 ((l.length + k : Nat) : Int) ∧ k ≤ 8 ∧ wr.heap[g]? = some (textsC (handTo l X k)) ∧ Keeps (fun q => q = g) w2 wr) (fun ii _ => l.length + 8 - (intOf ii).toNat)
    case atStart => exact ⟨0, rfl, by omega, HG2.out, Keeps.refl _ _⟩
    case round =>
      clear HG2
      obtain ⟨k, rfl, hk, hg, kr⟩ := hrel
      by_cases hlt : k < 8
      · obtain ⟨z, hz⟩ : ∃ z, (handTo l X k)[l.length + k]? = some z := ⟨_, List.getElem?_eq_getElem (by rw [HLEN.out k hk]; omega)⟩
        have q0 := textsC_cell hg hz
        have z0 := textsC_free hg (l.length + k)
        have hset := textsC_set hg (l.length + k) spareL
        rw [handTo_set l X k (by omega)] at hset
        have k3 := kr.trans ((Keeps.refl (fun q => q = g) wr).setCell (p := ⟨g, l.length + k, none⟩) (fun _ => rfl) (.string (str spareL)))
        have HSET := hid hset
        have K3 := hid k3
        have hli : ((l.length + k : Nat) : Int) < (l.length : Int) + 8 := by omega
        have hl2 : ((l.length + k : Nat) : Int) ≤ 9000000000000 := by omega
        have hl0 : (0 : Int) ≤ ((l.length + k : Nat) : Int) := by omega
        clear hg hset k3 kr hz
        go_wp2_with fail
        go_roundw
        case rel => exact ⟨k + 1, congrArg (Value.int .i64) (by omega), by omega, HSET.out, K3.out⟩
        case measure => simp [intOf]; omega
      · obtain rfl : k = 8 := by omega
        have hli : ¬ (((l.length + 8 : Nat) : Int) < (l.length : Int) + 8) := by omega
        have hlM : (l.length : Int) ≤ (M : Int) := by omega
        have hl8 : (l.length : Int) ≤ (l.length : Int) + 8 := by omega
        have hl8M : (l.length : Int) + 8 ≤ (M : Int) := by omega
        have HLD := hid (load_any (.slice (some ⟨g, 0, none⟩) l.length M) l wr (textsC_at hg (handTo_take l X 8)) (by omega) HLS.out)
        have k13 := k2.trans kr
        have hnb := HW.out.2.2.keeps (c' := c1) k13 (fun q e _ => by rw [show q = g from e, hcg]; omega) (fun _ _ e => e)
        have HRL := hid fun W (f : Fresh wr W) => refload_full (.slice ao l.length cap) l W (hnb.at_.fresh f) (by omega) HLS.out
        have HSM := hid fun W (f : Fresh wr W) => sameTexts_any (.slice (some ⟨g, 0, none⟩) l.length M) (.slice ao l.length cap) l l W ((textsC_at hg (handTo_take l X 8)).fresh f) (hnb.at_.fresh f) (by omega) (by omega)
        rw [decide_eq_true (rfl : l = l)] at HSM
        have HG := hid hg
        have K13 := hid k13
        clear hg k13 hnb kr
        go_wp2_with fail
        refine HLD.out.mono ?_
        rintro e w4 ⟨p1, rfl, f4, hld⟩
        have HL4 := hid (And.intro f4 hld)
        clear f4 hld HLD
        go_wp2_with fail
        refine (HRL.out w4 HL4.out.1).mono ?_
        rintro e w5 ⟨p2, rfl, f5, hrl⟩
        have HL5 := hid (And.intro f5 hrl)
        clear f5 hrl
        go_wp2_with fail
        refine (HSM.out w5 (HL4.out.1.trans HL5.out.1)).mono ?_
        rintro e w6 ⟨rfl, f6⟩
        have HF6 := hid f6
        have HG6 := hid (((HL4.out.1.trans HL5.out.1).trans f6).at_ HG.out (fun h => h))
        clear f6 HSM HRL HG
        obtain ⟨ev, hev⟩ : ∃ ev, loadErr l = ev := ⟨_, rfl⟩
        rw [hev] at HL4 HL5 ⊢
        go_wp2_with fail
        go_loopw [11, 12] (fun t ii wr => ∃ k : Nat, t = .bool true ∧ ii = .int .i64 ((l.length + k : Nat) : Int) ∧ k ≤ 8 ∧ Fresh w6 wr) (fun _ ii _ => l.length + 8 - (intOf ii).toNat)
        case atStart => exact ⟨0, rfl, rfl, by omega, Keeps.refl _ _⟩
        case round =>
          obtain ⟨k, rfl, rfl, hk, fr⟩ := hrel
          have hgr := fr.at_ HG6.out (fun h => h)
          by_cases hlt : k < 8
          · have q0 := textsC_cell hgr (handTo_spare l X k hlt)
            have hq : ((str spareL).toList == [115, 112, 97, 114, 101]) = true := by rw [str_toList]; rfl
            have hli : ((l.length + k : Nat) : Int) < (l.length : Int) + 8 := by omega
            have hl2 : ((l.length + k : Nat) : Int) ≤ 9000000000000 := by omega
            have hl0 : (0 : Int) ≤ ((l.length + k : Nat) : Int) := by omega
            clear hgr
            go_wp2_with fail
            go_roundw
            case rel => exact ⟨k + 1, rfl, congrArg (Value.int .i64) (by omega), by omega, fr⟩
            case measure => simp [intOf]; omega
          · obtain rfl : k = 8 := by omega
            have hli : ¬ (((l.length + 8 : Nat) : Int) < (l.length : Int) + 8) := by omega
            have HGR := hid hgr
            have HFR := hid fr
            clear hgr fr
            go_wp2_with fail
            go_loopw [13] (fun ii wx => ∃ k : Nat, ii = .int .i64 (k : Int) ∧ k ≤ l.length + 8 ∧ wx.heap[g]? = some (textsC (overTo (handTo l X 8) k)) ∧ Keeps (fun q => q = g) wr wx) (fun ii _ => l.length + 8 - (intOf ii).toNat)
            case atStart => exact ⟨0, rfl, by omega, by (simpa [overTo] using HGR.out), Keeps.refl _ _⟩
            case round =>
              obtain ⟨wy, rfl⟩ : ∃ wy, wy = wr := ⟨_, rfl⟩
              obtain ⟨k, rfl, hk, hg, kr⟩ := hrel
              by_cases hlt : k < l.length + 8
              · obtain ⟨z, hz⟩ : ∃ z, (overTo (handTo l X 8) k)[k]? = some z := ⟨_, List.getElem?_eq_getElem (by rw [overTo_len _ _ (by rw [HLEN.out 8 (Nat.le_refl _)]; omega), HLEN.out 8 (Nat.le_refl _)]; omega)⟩
                have q0 := textsC_cell hg hz
                have z0 := textsC_free hg k
                have hset := textsC_set hg k overL
                rw [overTo_set _ k (by rw [HLEN.out 8 (Nat.le_refl _)]; omega)] at hset
                have k3 := kr.trans ((Keeps.refl (fun q => q = g) wy).setCell (p := ⟨g, k, none⟩) (fun _ => rfl) (.string (str overL)))
                have HSET := hid hset
                have K3 := hid k3
                have hkI : (k : Int) < (l.length : Int) + 8 := by omega
                clear hg hset k3 kr hz
                go_wp2_with fail
                go_roundw
                case rel => exact ⟨k + 1, by go_num, by omega, HSET.out, K3.out⟩
                case measure => simp [intOf]; omega
              · obtain rfl : k = l.length + 8 := by omega
                have fA := ((HL4.out.1.trans HL5.out.1).trans HF6.out).trans HFR.out
                have k17 : Keeps (fun q => q = g) W1 wy := (K13.out.trans (fA.mono fun _ _ h => h.elim)).trans kr
                have h7 := HW.out.1.handTo (X := overTo (handTo l X 8) (l.length + 8)) rfl k17 hg (by rw [overTo_len _ _ (by rw [HLEN.out 8 (Nat.le_refl _)]; omega), HLEN.out 8 (Nat.le_refl _)])
                have kB : Keeps (fun q => B ≤ q) w wy := HW.out.2.1.trans (HW.out.1.owns k17 fun q e _ => by rw [show q = g from e, hcg]; omega)
                obtain ⟨al, cl, elv⟩ := ownsRow_slice h7.vw.row
                have cl0 := (cell_at h7.box 0).trans (show _ = some (Value.slice al v.ss.length cl) from congrArg some elv)
                have dl0 := free_at h7.box 0
                have hkn : ¬ (((l.length + 8 : Nat) : Int) < (l.length : Int) + 8) := by omega
                by_cases h0 : ev = 0
                · obtain ⟨d, rfl, hdl, hD⟩ := HL4.out.2.at_ h0
                  obtain ⟨x, rfl, hxl, hX2⟩ := HL5.out.2.at_ h0
                  subst h0
                  have hle : l.length ≤ 4096 ∧ 4 ≤ l.length ∧ every256 l = true := by
                    unfold loadErr at hev
                    split at hev
                    · cases hev
                    · rename_i hn4
                      split at hev
                      · rename_i he; exact ⟨by omega, by omega, he⟩
                      · cases hev
                  have hok : (newSt l).Ok := newSt_ok hle.2.1 hle.1 fun t ht => every256_mem l hle.2.2 t ht
                  have s4 := HL4.out.1.size
                  have s5 := HL5.out.1.size
                  have sA := fA.size
                  have s3 := K13.out.size
                  have H7UN := HW.out.1.unborn
                  have hD7 := (hD.fresh ((HL5.out.1.trans HF6.out).trans HFR.out)).keeps kr (fun q _ e hp => by have e : q = g := e; have := hgl; omega)
                  have hX7 := (hX2.fresh (HF6.out.trans HFR.out)).keeps kr (fun q _ e hp => by have e : q = g := e; have := hgl; omega)
                  have sk := kr.size
                  by_cases h5 : v.ss.length < 5
                  · have h5I : (v.ss.length : Int) < 5 := by omega
                    have hrow : wy.ownsRow 0 53 2 (.slice al v.ss.length cl) v.ss.length (sideCells v.ss) := by rw [← elv]; exact h7.vw.row
                    have H7 := hid h7
                    have HD7 := hid (And.intro hD7 hX7)
                    have KB := hid kB
                    clear hD hX2 hD7 hX7 h7 kB k17 kr hg
                    go_wp2_with (at_builtin; refine wpList_push2 rfl (.tmp 114) (.tmp 118) 43 rfl 53 i0 (.agg #[.pointer none, .pointer none]) 16 Try.underlying43 hi hz0 hz1 hz2 rfl wy hrow _ _ (by rfl) (by rfl) rfl rfl (by omega) (by unfold maxLen; omega) ?_)
                    intro v9 w9 ha
                    have ha' : Appended 53 2 wy w9 v.lv v9 (v.ss.length + 1) (sideCells (v.ss ++ [(d, x)])) := by
                      rw [sideCells_snoc, elv]; exact ha
                    obtain ⟨c9, q1, q2⟩ := H7.out.addSide HD7.out.1 HD7.out.2 hok (fun q hq hp => ⟨H7UN q (by omega), by have := HW.out.1.size; omega⟩) (fun q hq hp => ⟨H7UN q (by omega), by have := HW.out.1.size; omega⟩) (fun q hp hq => by omega) h5 ha'
                    have b9 := ha.keeps.at_ H7.out.box (fun e => by have := H7.out.vw.crow _ (by rw [elv]; exact e); have := H7.out.cbox; omega)
                    have d9 := free_at b9 0
                    obtain ⟨u9, e9⟩ : ∃ u, w9.cell? ⟨ob, 0, none⟩ = some u := ⟨_, (cell_at b9 0).trans rfl⟩
                    obtain ⟨a9, cp9, rfl⟩ := ownsRow_slice ha.row
                    have HQ := hid (And.intro q1 (KB.out.trans q2))
                    clear ha ha' q1 q2 b9 cl0 dl0
                    go_wp2_with fail
                    go_ret
                    exact ⟨by first | rfl | simp, ⟨_, _, _, HQ.out.1⟩, HQ.out.2⟩
                  · have h5I : ¬ (v.ss.length : Int) < 5 := by omega
                    have H7 := hid h7
                    have KB := hid kB
                    clear hD hX2 hD7 hX7 h7 kB k17 kr hg
                    go_wp2_with fail
                    go_ret
                    exact ⟨by first | rfl | simp, ⟨_, _, _, H7.out⟩, KB.out⟩
                · have e1 : p1 = none := by
                    rcases HL4.out.2 with ⟨-, e⟩ | ⟨e, -⟩
                    · exact e
                    · exact absurd e h0
                  have e2 : p2 = none := by
                    rcases HL5.out.2 with ⟨-, e⟩ | ⟨e, -⟩
                    · exact e
                    · exact absurd e h0
                  subst e1 e2
                  have H7 := hid h7
                  have KB := hid kB
                  clear h7 kB k17 kr hg
                  go_wp2_with fail
                  go_ret
                  exact ⟨by first | rfl | simp, ⟨_, _, _, H7.out⟩, KB.out⟩
end Go.Proofs.Ytbhienlalpbflaa
