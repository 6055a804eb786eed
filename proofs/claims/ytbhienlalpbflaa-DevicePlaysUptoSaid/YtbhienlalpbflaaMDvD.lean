/-
  The document's device in memory: what lasts, of which something is pending, what, in how many acts it dies, is it dead; Load and New. Printed by gen_rdmem.py.
  The device: the answers when it is dead, when there is no such page, when the bytes are not a page, when the number is below nought.
  The document's device: Size, asked, Read, Arm, act.
  The document's device: its cells are set; Arm, act.
  The device: Write, of a device that dies in it, or is armed for later.
  The document's device: Arm, act, Write.
  The document's device: Flush.
  The document's device: Pending.
-/
import Derived.Test.YtbhienlalpbflaaMDvB
import Derived.Test.YtbhienlalpbflaaDvFlush
import Derived.Test.YtbhienlalpbflaaDvArm
import Derived.Test.YtbhienlalpbflaaDvPend
namespace Go.Proofs.Ytbhienlalpbflaa
open Go.RowKit Go.Maps

theorem heap_under {w : World} {c b : Obj} {k : Nat} (h : w.heap[k]? = some b) : (w.alloc c).heap[k]? = some b := ((Keeps.refl (fun _ => False) w).alloc c).at_ h (fun h => h)
theorem made_row {w : World} {g n : Nat} {e : TypeId} {z : Value} (h : w.heap[g]? = some (.cells (madeCells #[z] n) e (0, 0))) (hn : n ≤ maxLen) : w.ownsRow 0 e 1 (.slice (some ⟨g, 0, none⟩) n n) n (List.replicate n z) :=
  ⟨by simp, .inr ⟨g, n, _, rfl, Nat.zero_le _, h, Nat.le_refl _, hn, by rw [← Array.length_toList, made_list]; simp, by rw [made_list]; simp⟩⟩

/-- the document's device, all its blocks among these -/
structure RDev (B : Nat → Prop) (w : World) (x : Nat) (l : List (List UInt8)) (is : List Bool) (ps : List (List UInt8)) (left : Int) (dead : Bool) : Prop where
  ex : ∃ lv iv pv, w.heap[x]? = some (.cells #[lv, iv, pv, .int .i64 left, .bool dead] 57 (0, 0)) ∧ OwnIn B w lv l ∧ (w.ownsRow 0 4 1 iv l.length (is.map Value.bool) ∧ ∀ g, iv.ownBlock = some g → B g) ∧ OwnIn B w pv ps ∧ (∀ g, lv.ownBlock = some g → pv.ownBlock = some g → False) ∧ is.length = l.length ∧ ps.length = l.length ∧ B x
theorem RDev.fresh {B : Nat → Prop} {w w' : World} {x : Nat} {l : List (List UInt8)} {is : List Bool} {ps : List (List UInt8)} {left : Int} {dead : Bool} (h : RDev B w x l is ps left dead) (f : Fresh w w') : RDev B w' x l is ps left dead := by
  obtain ⟨lv, iv, pv, h1, h2, h3, h4, h5⟩ := h.ex
  exact ⟨⟨lv, iv, pv, f.at_ h1 (fun h => h), h2.fresh f, ⟨ownsRow_keeps h3.1 f (fun _ _ h => h), h3.2⟩, h4.fresh f, h5⟩⟩
theorem RDev.mono {B B' : Nat → Prop} {w : World} {x : Nat} {l : List (List UInt8)} {is : List Bool} {ps : List (List UInt8)} {left : Int} {dead : Bool} (h : RDev B w x l is ps left dead) (hb : ∀ g, B g → B' g) : RDev B' w x l is ps left dead := by
  obtain ⟨lv, iv, pv, h1, h2, h3, h4, h5, h6, h7, h8⟩ := h.ex
  exact ⟨⟨lv, iv, pv, h1, ⟨h2.1, fun g hg => hb g (h2.2 g hg)⟩, ⟨h3.1, fun g hg => hb g (h3.2 g hg)⟩, ⟨h4.1, fun g hg => hb g (h4.2 g hg)⟩, h5, h6, h7, hb x h8⟩⟩
def RLoaded (w w' : World) (l : List (List UInt8)) (ev : Int) (p : Option Addr) : Prop := (ev ≠ 0 ∧ p = none) ∨ (ev = 0 ∧ ∃ x, p = some ⟨x, 0, none⟩ ∧ w.heap.size ≤ x ∧ RDev (fun q => w.heap.size ≤ q ∧ q < w'.heap.size) w' x l (List.replicate l.length false) (List.replicate l.length []) 0 false)
theorem RLoaded.mono {w0 w w' : World} {l : List (List UInt8)} {ev : Int} {p : Option Addr} (h : RLoaded w w' l ev p) (hw : w0.heap.size ≤ w.heap.size) : RLoaded w0 w' l ev p :=
  h.imp id fun ⟨h1, x, h2, h3, h4⟩ => ⟨h1, x, h2, by omega, h4.mono fun g hg => ⟨by omega, hg.2⟩⟩

set_option maxRecDepth 100000 in
set_option maxHeartbeats 4000000 in
theorem refload_full (v : Value) (l : List (List UInt8)) (w : World) (h : TextsAt w v l) (hll : l.length ≤ 9223372036854775807) (hs : ∀ s ∈ l, s.length ≤ 9223372036854775807) :
    Calls Try.prog 12 #[v] w fun e w' => ∃ p, e = .returned (.tuple #[.pointer p, .int .i64 (loadErr l)]) ∧ Fresh w w' ∧ RLoaded w w' l (loadErr l) p := by
  have hsrc := fun W (hW : TextsAt W v l) => Src.ofTexts (P := Try.prog) Try.underlying30 hW
  have h' := h
  obtain ⟨ao, cap, rfl, hc⟩ := h'
  obtain ⟨i0, hi, hz0, hz1, hz2⟩ := info_parts Try.infoText
  obtain ⟨j0, hj, hy0, hy1, hy2⟩ := info_parts Try.infoBool
  by_cases h4 : l.length < 4 ∨ 4096 < l.length
  · have hE : loadErr l = 1 := by rw [loadErr, if_pos h4]
    rw [hE]
    have h41 : ((l.length : Int) < 4) ∨ (4096 : Int) < (l.length : Int) := by omega
    clear h hs hE h4 hc hsrc
    by_cases h5 : (l.length : Int) < 4
    · go_enter Try.func12, Try.ntmps12
      go_wp2_with fail
      go_ret2
      exact ⟨none, rfl, Keeps.refl _ _, .inl ⟨by decide, rfl⟩⟩
    · have h6 : (4096 : Int) < (l.length : Int) := h41.resolve_left h5
      clear h41
      go_enter Try.func12, Try.ntmps12
      go_wp2_with fail
      go_ret2
      exact ⟨none, rfl, Keeps.refl _ _, .inl ⟨by decide, rfl⟩⟩
  · have h5 : ¬ (l.length : Int) < 4 := by omega
    have h6 : ¬ (4096 : Int) < (l.length : Int) := by omega
    have hEv : loadErr l = if every256 l = true then 0 else 91 := by rw [loadErr, if_neg h4]
    have HEV := hid hEv
    have HC := hid hc
    have HS := hid hs
    have HT := hid h
    have HSRC := hid hsrc
    clear hEv hc hs h hsrc h4
    go_enter Try.func12, Try.ntmps12
    go_wp2_with fail
    go_loopw [4] (fun i wr => ∃ n : Nat, i = .int .i64 (n : Int) ∧ n ≤ l.length ∧ Hid (every256 l = every256 (l.drop n)) ∧ w = wr) (fun i _ => l.length - (intOf i).toNat)
    case atStart => exact ⟨0, rfl, by omega, rfl, rfl⟩
    case round =>
      obtain ⟨n, rfl, hn, HE, rfl⟩ := hrel
      by_cases hlt : n < l.length
      · obtain ⟨s, hs⟩ : ∃ s, l[n]? = some s := ⟨l[n], by simp⟩
        obtain ⟨bb, off, hao, hbb, hcell⟩ := HC.out n s hs
        have hE := HE.out
        rw [drop_cons hs] at hE
        simp only [every256] at hE
        have hsl := HS.out s (List.mem_of_getElem? hs)
        have hsz := str_size s
        subst hao
        by_cases h256 : s.length = 256
        · have hE2 : Hid (every256 l = every256 (l.drop (n + 1))) := by rw [Hid, hE]; simp [h256]
          have hq : ((s.length : Int) != 256) = false := by rw [h256]; rfl
          clear hE hs HE h256
          go_wp2_with fail
          go_roundw
          case rel => exact ⟨n + 1, by go_num, by omega, hE2, by first | rfl | trivial⟩
          case measure => simp [intOf]; omega
        · have hE2 : Hid (every256 l = false) := by rw [Hid, hE]; simp [h256]
          have hq : ((s.length : Int) != 256) = true := by rw [bne_iff_ne]; omega
          clear hE hs HE h256
          go_wp2_with fail
          go_ret2
          refine ⟨none, ?_, Keeps.refl _ _, ?_⟩
          · rw [HEV.out, hE2.out]; rfl
          · rw [HEV.out, hE2.out]; exact .inl ⟨by decide, rfl⟩
      · have hE2 : Hid (every256 l = true) := by rw [Hid, HE.out, List.drop_eq_nil_of_le (by omega)]; rfl
        have hl4 : l.length ≤ 4096 := by omega
        clear HE
        go_wp2_with fail
        have frx : Fresh w w.drew := (Keeps.refl _ _).drew
        go_cut [5] (fun s5 wx => ∃ bd bi bs, s5 = .pointer (some ⟨bd, 0, none⟩) ∧ wx.heap[bd]? = some (.cells #[.slice none 0 0, .slice (some ⟨bi, 0, none⟩) l.length l.length, .slice (some ⟨bs, 0, none⟩) l.length l.length, .int .i64 0, .bool false] 57 (0, 0)) ∧ wx.heap[bi]? = some (.cells (madeCells #[.bool false] l.length) 4 (0, 0)) ∧ wx.heap[bs]? = some (.cells (madeCells #[.string ⟨#[]⟩] l.length) 9 (0, 0)) ∧ w.heap.size ≤ bd ∧ w.heap.size ≤ bi ∧ w.heap.size ≤ bs ∧ Fresh w wx)
        case first =>
          obtain ⟨MB, hMB, eMB⟩ : ∃ MB, (∀ W, (Instr.makeSlice 55 (.int .i64 (l.length : Int)) (.int .i64 (l.length : Int))).run Try.prog W = .ok (.slice (some ⟨W.heap.size, 0, none⟩) l.length l.length) (W.alloc (.cells MB 4))) ∧ Hid (MB = madeCells #[.bool false] l.length) := ⟨_, fun W => by
            have := run_make W 55 4 j0 (.bool false) Try.underlying55 hj hy0 .i64 .i64 (l.length : Int) (l.length : Int) (by omega) (by omega) (by rw [hy2]; omega) (by omega)
            rw [Int.toNat_natCast, hy1, Nat.mul_one] at this
            exact this, rfl⟩
          obtain ⟨MS, hMS, eMS⟩ : ∃ MS, (∀ W, (Instr.makeSlice 30 (.int .i64 (l.length : Int)) (.int .i64 (l.length : Int))).run Try.prog W = .ok (.slice (some ⟨W.heap.size, 0, none⟩) l.length l.length) (W.alloc (.cells MS 9))) ∧ Hid (MS = madeCells #[.string ⟨#[]⟩] l.length) := ⟨_, fun W => by
            have := run_make W 30 9 i0 (.string ⟨#[]⟩) Try.underlying30 hi hz0 .i64 .i64 (l.length : Int) (l.length : Int) (by omega) (by omega) (by rw [hz2]; omega) (by omega)
            rw [Int.toNat_natCast, hz1, Nat.mul_one] at this
            exact this, rfl⟩
          go_region
          all_goals
            go_wp2
            go_meet
            rw [← eMB.out, ← eMS.out]
            first
              | exact ⟨_, w.heap.size, w.heap.size + 1, rfl, heap_at_alloc (by simp), heap_under (heap_under (heap_at_alloc (by simp))), heap_under (heap_at_alloc (by simp)), by omega, by omega, by omega, ((frx.alloc _).alloc _).alloc _⟩
              | exact ⟨_, w.heap.size + 1, w.heap.size, rfl, heap_at_alloc (by simp), heap_under (heap_at_alloc (by simp)), heap_under (heap_under (heap_at_alloc (by simp))), by omega, by omega, by omega, ((frx.alloc _).alloc _).alloc _⟩
        case rest =>
          obtain ⟨bd, bi, bs, rfl, hbox, hbi, hbs, hbd, hli, hls, fr⟩ := hcut
          have HBI := hid (And.intro hbi hbs)
          have LBS := lt_of_block hbs
          clear hbi hbs
          have q0 := cell_at hbox 0
          have z0 := free_at hbox 0
          simp at q0
          have hsr := HSRC.out wc (HT.out.fresh fr)
          clear frx
          go_wp2_with (at_builtin; refine wpList_appendAll rfl (.tmp 38) (.tmp 39) 30 rfl 9 i0 (.string ⟨#[]⟩) 16 Try.underlying30 hi hz0 hz1 hz2 rfl (World.ownsRow_nil _ _ _ _) _ _ _ (by rfl) (by rfl) hsr (by unfold maxLen; omega) (by omega) ?_)
          intro v4 w4 ha
          have k4 := ha.keeps
          obtain ⟨ao4, cp4, rfl⟩ := ownsRow_slice ha.row
          have hbox4 := k4.at_ hbox (fun h => by cases h)
          have q4 := cell_at hbox4 0
          have z4 := free_at hbox4 0
          simp at q4
          have f4 : Fresh w w4 := fr.trans' k4 (fun i hi h => by cases h)
          have hrow4 := ha.row
          have hnew4 : ∀ g, (Value.slice ao4 l.length cp4).ownBlock = some g → wc.heap.size ≤ g := fun g hg => by
            rcases ha.own g hg with h | h
            · cases h
            · exact h.1
          have LS4 := k4.size
          clear ha q0 z0
          go_wp2_with fail
          go_ret2
          obtain ⟨hbi, hbs⟩ := HBI.out
          have hbi4 := k4.at_ hbi (fun h => by cases h)
          have hbs4 := k4.at_ hbs (fun h => by cases h)
          have k5 : Keeps (fun q => q = bd) w4 (w4.setCell ⟨bd, 0, none⟩ (.slice ao4 l.length cp4)) := Keeps.setCell (S := fun q => q = bd) (Keeps.refl _ w4) (p := ⟨bd, 0, none⟩) (fun _ => rfl) _
          have f5 : Fresh w (w4.setCell ⟨bd, 0, none⟩ (.slice ao4 l.length cp4)) := f4.trans' k5 (fun i hi h => by omega)
          have hmaxl : l.length ≤ maxLen := by unfold maxLen; omega
          have r1 := ownsRow_keeps hrow4 k5 (fun g hg e => cells_ne_row hbox4 hrow4 (by decide) (by rw [hg, e]))
          have r2 := ownsRow_keeps (made_row hbi4 hmaxl) k5 (fun g hg e => cells_ne_row hbox4 (made_row hbi4 hmaxl) (by decide) (by rw [hg, e]))
          have r3 := ownsRow_keeps (made_row hbs4 hmaxl) k5 (fun g hg e => cells_ne_row hbox4 (made_row hbs4 hmaxl) (by decide) (by rw [hg, e]))
          refine ⟨some ⟨bd, 0, none⟩, ?_, f5, ?_⟩
          · rw [HEV.out, hE2.out]; rfl
          · rw [HEV.out, hE2.out]
            refine .inr ⟨rfl, bd, rfl, hbd, ⟨_, _, _, heap_setCell_at hbox4 0 _, ⟨r1, fun g hg => ⟨?_, (r1.lt g hg).2⟩⟩, ⟨by rw [List.map_replicate]; exact r2, fun g hg => ⟨?_, (r2.lt g hg).2⟩⟩, ⟨?_, fun g hg => ⟨?_, (r3.lt g hg).2⟩⟩, fun g hg hg2 => ?_, List.length_replicate, List.length_replicate, hbd, lt_of_block (heap_setCell_at hbox4 0 _)⟩⟩
            · have := hnew4 g hg; have := fr.size; omega
            · simp only [Value.ownBlock, Option.some.injEq] at hg; omega
            · have e3 : texts (List.replicate l.length []) = List.replicate l.length (Value.string ⟨#[]⟩) := by rw [texts, List.map_replicate]; rfl
              rw [List.length_replicate, e3]; exact r3
            · simp only [Value.ownBlock, Option.some.injEq] at hg; omega
            · have := hnew4 g hg
              simp only [Value.ownBlock, Option.some.injEq] at hg2
              omega

set_option maxRecDepth 100000 in
set_option maxHeartbeats 2000000 in
theorem refnew_full (p : Int) (w : World) :
    Calls Try.prog 8 #[.int .i64 p] w fun e w' => ∃ q, e = .returned (.tuple #[.pointer q, .int .i64 (newErr p)]) ∧ Fresh w w' ∧ RLoaded w w' (List.replicate p.toNat nought256) (newErr p) q := by
  by_cases h4 : p < 4 ∨ 4096 < p
  · have hE : newErr p = 1 := by rw [newErr, if_pos h4]
    rw [hE]
    clear hE
    by_cases h5 : p < 4
    · clear h4
      go_enter Try.func8, Try.ntmps8
      go_wp2_with fail
      go_ret2
      exact ⟨none, rfl, Keeps.refl _ _, .inl ⟨by decide, rfl⟩⟩
    · have h6 : 4096 < p := h4.resolve_left h5
      clear h4
      go_enter Try.func8, Try.ntmps8
      go_wp2_with fail
      go_ret2
      exact ⟨none, rfl, Keeps.refl _ _, .inl ⟨by decide, rfl⟩⟩
  · have hE : newErr p = 0 := by rw [newErr, if_neg h4]
    obtain ⟨N, rfl⟩ : ∃ N : Nat, p = (N : Int) := ⟨p.toNat, by omega⟩
    have hN : 4 ≤ N ∧ N ≤ 4096 := by omega
    have hL : loadErr (List.replicate N nought256) = 0 := by
      rw [loadErr, if_neg (by rw [List.length_replicate]; omega), every_noughts, if_pos rfl]
    rw [hE, Int.toNat_natCast]
    obtain ⟨hN1, hN2⟩ := hN
    have HL := hid hL
    obtain ⟨i0, hi, hz0, hz1, hz2⟩ := info_parts Try.infoText
    obtain ⟨j0, hj, hy0, hy1, hy2⟩ := info_parts Try.infoByte
    clear h4 hE hL
    go_enter Try.func8, Try.ntmps8
    go_wp2_with fail
    go_loopw [4, 5] (fun v i wr => ∃ n : Nat, i = .int .i64 (n : Int) ∧ n ≤ N ∧ wr.ownsRow 0 9 1 v n (texts (List.replicate n nought256)) ∧ (∀ g, v.ownBlock = some g → w.heap.size ≤ g) ∧ Fresh w wr) (fun _ i _ => N - (intOf i).toNat)
    case atStart => exact ⟨0, rfl, by omega, World.ownsRow_nil _ _ _ _, (fun _ h => nomatch h), Keeps.refl _ _⟩
    case round =>
      obtain ⟨n, rfl, hn, hrow, hnew, hf⟩ := hrel
      obtain ⟨so, scap, rfl⟩ := ownsRow_slice hrow
      by_cases hlt : n < N
      · have hlt2 : (n : Int) < (N : Int) := by omega
        go_wp2_with (at_make; refine wpList_make_full _ rfl (.const (.int .i64 256)) (.const (.int .i64 256)) 63 rfl 0 5 j0 (.int .u8 0) 1 Try.underlying63 hj hy0 hy1 .i64 .i64 256 256 256 rfl rfl rfl rfl (by rw [hy2]; omega) (by unfold maxLen; omega) (Nat.zero_le _) ?_)
        intro w8 hrow8 hgr8
        have f8 : Fresh wr w8 := (Keeps.refl _ wr).grown hgr8 (fun k h => by cases h)
        have hrow8' : w8.ownsRow 0 5 1 (.slice (some ⟨wr.heap.size, 0, none⟩) 256 256) 256 (u8s nought256) := by
          have e : (madeCells #[Value.int .u8 0] 256).toList = u8s nought256 := by rw [made_list]; exact (u8s_noughts 256).symm
          rw [← e]; exact hrow8
        have hct : (convert 63 9 (.slice (some ⟨wr.heap.size, 0, none⟩) 256 256)).run Try.prog w8 = .ok (.string (str nought256)) w8 := run_text_of_row (P := Try.prog) (w := w8) (base := 0) (e := 5) (v := .slice (some ⟨wr.heap.size, 0, none⟩) 256 256) (bs := nought256) 63 9 Try.underlying63 Try.underlying5 Try.underlying9 hrow8'
        have hrow9 := ownsRow_keeps hrow f8 (fun _ _ h => h)
        have hf8 := hf.trans f8
        clear hrow8 hrow8' hgr8 hrow
        go_wp2_with (at_builtin; refine wpList_push rfl (.tmp 17) (.tmp 20) 30 rfl 9 i0 (.string ⟨#[]⟩) 16 Try.underlying30 hi hz0 hz1 hz2 rfl w8 hrow9 _ (by rfl) (by rfl) rfl (by omega) (by unfold maxLen; omega) ?_)
        intro v4 w4 ha
        have hrow4 := ha.row
        have e4 : texts (List.replicate n nought256) ++ [Value.string (str nought256)] = texts (List.replicate (n + 1) nought256) := by rw [← texts_snoc, ← List.replicate_succ']
        rw [e4] at hrow4
        have hown4 : ∀ g, v4.ownBlock = some g → w.heap.size ≤ g := fun g hg => by
          rcases ha.own g hg with h | h
          · exact hnew g h
          · have := hf8.size; omega
        have f4 : Fresh w w4 := hf8.trans' ha.keeps fun i hi h => by have := hnew i h; omega
        clear ha hct hrow9 e4
        go_wp2
        go_roundw
        case rel => exact ⟨n + 1, by go_num, by omega, hrow4, hown4, f4⟩
        case measure => simp [intOf]; omega
      · obtain rfl : n = N := by omega
        have hown : OwnTexts w.heap.size wr (.slice so n scap) (List.replicate n nought256) := ⟨by rw [List.length_replicate]; exact hrow, hnew⟩
        have hload := refload_full _ _ wr hown.at_ (by rw [List.length_replicate]; omega) (fun s hs => by rw [(List.mem_replicate.1 hs).2, nought256_len]; omega)
        rw [HL.out] at hload
        have HLD := hid hload
        clear hload hown
        go_wp2_with fail
        refine HLD.out.mono ?_
        rintro e w3 ⟨q, rfl, f3, hld⟩
        go_wp2_with fail
        go_ret2
        exact ⟨q, rfl, hf.trans f3, hld.mono hf.size⟩

end Go.Proofs.Ytbhienlalpbflaa

namespace Go.Proofs.Ytbhienlalpbflaa
open Go.RowKit Go.Maps

set_option maxRecDepth 100000 in
theorem asked_dead (B : Nat → Prop) (d : Nat) (l : List (List UInt8)) (D : DD) (n : Nat) (armed : Int) (p : Int) (w : World) (h : Dev B w d l D n true armed) :
    Calls Try.prog 49 #[.pointer (some ⟨d, 0, none⟩), .int .i64 p] w fun e w' => e = .returned (.int .i64 2) ∧ Fresh w w' := by
  obtain ⟨pv, mb, h1, h2, -⟩ := h.ex
  have c2 := cell_at h1 2
  simp at c2
  clear h1 h2 h
  go_enter Try.func49, Try.ntmps49
  go_wp2_with fail
  go_ret
  exact ⟨rfl, Keeps.refl _ _⟩
set_option maxRecDepth 100000 in
theorem asked_page (B : Nat → Prop) (d : Nat) (l : List (List UInt8)) (D : DD) (n : Nat) (armed : Int) (p : Int) (w : World) (h : Dev B w d l D n false armed) (hp : p < 0 ∨ (l.length : Int) ≤ p) :
    Calls Try.prog 49 #[.pointer (some ⟨d, 0, none⟩), .int .i64 p] w fun e w' => e = .returned (.int .i64 90) ∧ Fresh w w' := by
  obtain ⟨pv, mb, h1, h2, -⟩ := h.ex
  obtain ⟨ao, cp, rfl⟩ := ownsRow_slice h2.1
  have c0 := cell_at h1 0
  have c2 := cell_at h1 2
  simp at c0 c2
  clear h1 h2 h
  by_cases e1 : p < 0
  · clear hp
    go_enter Try.func49, Try.ntmps49
    go_wp2_with fail
    go_ret
    exact ⟨rfl, Keeps.refl _ _⟩
  · have e2 : (l.length : Int) ≤ p := by omega
    clear hp
    go_enter Try.func49, Try.ntmps49
    go_wp2_with fail
    go_ret
    exact ⟨rfl, Keeps.refl _ _⟩

/-- what asked answers when something is wrong -/
def askedErr (dead : Bool) (l : List (List UInt8)) (p : Int) : Int := if dead = true then 2 else if p < 0 ∨ (l.length : Int) ≤ p then 90 else 0
theorem asked_any (B : Nat → Prop) (d : Nat) (l : List (List UInt8)) (D : DD) (n : Nat) (dead : Bool) (armed : Int) (p : Int) (w : World) (h : Dev B w d l D n dead armed) :
    Calls Try.prog 49 #[.pointer (some ⟨d, 0, none⟩), .int .i64 p] w fun e w' => e = .returned (.int .i64 (askedErr dead l p)) ∧ Fresh w w' := by
  cases dead with
  | true => exact asked_dead B d l D n armed p w h
  | false =>
    by_cases hp : p < 0 ∨ (l.length : Int) ≤ p
    · have e : askedErr false l p = 90 := by simp [askedErr, hp]
      rw [e]
      exact asked_page B d l D n armed p w h hp
    · have e : askedErr false l p = 0 := by simp [askedErr, hp]
      rw [e]
      exact asked_ok B d l D n armed p w h (by omega) (by omega)

set_option maxRecDepth 100000 in
set_option maxHeartbeats 1000000 in
theorem read_wrong (d : Nat) (p x : Int) (w : World) (hx : ¬ x = 0)
    (hask : Calls Try.prog 49 #[.pointer (some ⟨d, 0, none⟩), .int .i64 p] w fun e w' => e = .returned (.int .i64 x) ∧ Fresh w w') :
    Calls Try.prog 27 #[.pointer (some ⟨d, 0, none⟩), .int .i64 p] w fun e w' => e = .returned (.tuple #[.string (str []), .int .i64 x]) ∧ Fresh w w' := by
  have HASK := hid hask
  clear hask
  go_enter Try.func27, Try.ntmps27
  go_wp2_with fail
  refine HASK.out.mono ?_
  rintro e w1 ⟨rfl, fa⟩
  clear HASK
  go_wp2_with fail
  go_ret2
  exact ⟨rfl, fa⟩

set_option maxRecDepth 100000 in
set_option maxHeartbeats 1000000 in
theorem write_wrong (d : Nat) (p x : Int) (s : List UInt8) (w : World) (hx : ¬ x = 0)
    (hask : ∀ W, Fresh w W → Calls Try.prog 49 #[.pointer (some ⟨d, 0, none⟩), .int .i64 p] W fun e w' => e = .returned (.int .i64 x) ∧ Fresh W w') :
    Calls Try.prog 25 #[.pointer (some ⟨d, 0, none⟩), .int .i64 p, .string (str s)] w fun e w' => e = .returned (.int .i64 x) ∧ Fresh w w' := by
  have f0 : Fresh w (((w.alloc (.cells #[.pointer (some ⟨d, 0, none⟩)] 23)).alloc (.cells #[.int .i64 p] 3)).alloc (.cells #[.string (str s)] 9)) := (((Keeps.refl _ _).alloc _).alloc _).alloc _
  have bx := (((Keeps.refl (fun _ => False) _).alloc (.cells #[.int .i64 p] 3)).alloc (.cells #[.string (str s)] 9)).at_ (heap_alloc_new w (.cells #[.pointer (some ⟨d, 0, none⟩)] 23)) (fun h => h)
  have bp := ((Keeps.refl (fun _ => False) _).alloc (.cells #[.string (str s)] 9)).at_ (heap_alloc_new (w.alloc (.cells #[.pointer (some ⟨d, 0, none⟩)] 23)) (.cells #[.int .i64 p] 3)) (fun h => h)
  have bs := heap_alloc_new ((w.alloc (.cells #[.pointer (some ⟨d, 0, none⟩)] 23)).alloc (.cells #[.int .i64 p] 3)) (.cells #[.string (str s)] 9)
  simp only [World.size_alloc] at bp bs
  obtain ⟨W0, hW0⟩ : ∃ W0, ((w.alloc (.cells #[.pointer (some ⟨d, 0, none⟩)] 23)).alloc (.cells #[.int .i64 p] 3)).alloc (.cells #[.string (str s)] 9) = W0 := ⟨_, rfl⟩
  rw [hW0] at bx bp bs f0
  have HASK := hid (hask W0 f0)
  have X0 := cell_at bx 0
  have P0 := cell_at bp 0
  have S0 := cell_at bs 0
  simp at X0 P0 S0
  clear hask bx bp bs
  go_enter Try.func25, Try.ntmps25
  go_wp2_with fail
  refine HASK.out.mono ?_
  rintro e w1 ⟨rfl, fa⟩
  clear HASK X0 P0 S0
  go_wp2_with fail
  go_ret
  exact ⟨rfl, f0.trans fa⟩

set_option maxRecDepth 100000 in
set_option maxHeartbeats 1000000 in
theorem write_size (d : Nat) (p : Int) (s : List UInt8) (w : World) (hs : s.length ≠ 256)
    (hask : ∀ W, Fresh w W → Calls Try.prog 49 #[.pointer (some ⟨d, 0, none⟩), .int .i64 p] W fun e w' => e = .returned (.int .i64 0) ∧ Fresh W w') :
    Calls Try.prog 25 #[.pointer (some ⟨d, 0, none⟩), .int .i64 p, .string (str s)] w fun e w' => e = .returned (.int .i64 91) ∧ Fresh w w' := by
  have hsz := str_size s
  have hs3 : ¬ ((str s).size : Int) = 256 := by omega
  have f0 : Fresh w (((w.alloc (.cells #[.pointer (some ⟨d, 0, none⟩)] 23)).alloc (.cells #[.int .i64 p] 3)).alloc (.cells #[.string (str s)] 9)) := (((Keeps.refl _ _).alloc _).alloc _).alloc _
  have bx := (((Keeps.refl (fun _ => False) _).alloc (.cells #[.int .i64 p] 3)).alloc (.cells #[.string (str s)] 9)).at_ (heap_alloc_new w (.cells #[.pointer (some ⟨d, 0, none⟩)] 23)) (fun h => h)
  have bp := ((Keeps.refl (fun _ => False) _).alloc (.cells #[.string (str s)] 9)).at_ (heap_alloc_new (w.alloc (.cells #[.pointer (some ⟨d, 0, none⟩)] 23)) (.cells #[.int .i64 p] 3)) (fun h => h)
  have bs := heap_alloc_new ((w.alloc (.cells #[.pointer (some ⟨d, 0, none⟩)] 23)).alloc (.cells #[.int .i64 p] 3)) (.cells #[.string (str s)] 9)
  simp only [World.size_alloc] at bp bs
  obtain ⟨W0, hW0⟩ : ∃ W0, ((w.alloc (.cells #[.pointer (some ⟨d, 0, none⟩)] 23)).alloc (.cells #[.int .i64 p] 3)).alloc (.cells #[.string (str s)] 9) = W0 := ⟨_, rfl⟩
  rw [hW0] at bx bp bs f0
  have HASK := hid (hask W0 f0)
  have X0 := cell_at bx 0
  have P0 := cell_at bp 0
  have S0 := cell_at bs 0
  simp at X0 P0 S0
  obtain ⟨B0, hB0⟩ : ∃ B0, w.heap.size = B0 := ⟨_, rfl⟩
  rw [hB0] at bx bp bs X0 P0 S0
  clear hask
  go_enter Try.func25, Try.ntmps25
  go_wp2_with fail
  refine HASK.out.mono ?_
  rintro e w1 ⟨rfl, fa⟩
  have bs := fa.at_ bs (fun h => h)
  have S1 := cell_at bs 0
  simp at S1
  clear HASK X0 P0 S0 bx bp bs
  go_wp2_with fail
  go_ret
  exact ⟨rfl, f0.trans fa⟩

set_option maxRecDepth 100000 in
set_option maxHeartbeats 1000000 in
theorem flush_dead (B : Nat → Prop) (d : Nat) (l : List (List UInt8)) (D : DD) (n : Nat) (armed : Int) (w : World) (h : Dev B w d l D n true armed) :
    Calls Try.prog 24 #[.pointer (some ⟨d, 0, none⟩)] w fun e w' => e = .returned (.int .i64 2) ∧ Fresh w w' := by
  have f0 : Fresh w (w.alloc (.cells #[.pointer (some ⟨d, 0, none⟩)] 23)) := (Keeps.refl _ _).alloc _
  have hbox := heap_alloc_new w (.cells #[.pointer (some ⟨d, 0, none⟩)] 23)
  have hdev0 := h.fresh f0
  obtain ⟨pv, mb, h1, -⟩ := hdev0.ex
  have X0 := cell_at hbox 0
  have D2 := cell_at h1 2
  simp at X0 D2
  clear hdev0 hbox h1 h
  go_enter Try.func24, Try.ntmps24
  go_wp2_with fail
  go_ret
  exact ⟨rfl, f0⟩

set_option maxRecDepth 100000 in
set_option maxHeartbeats 1000000 in
theorem arm_dead (B : Nat → Prop) (d : Nat) (l : List (List UInt8)) (D : DD) (n : Nat) (armed k : Int) (w : World) (h : Dev B w d l D n true armed) :
    Calls Try.prog 23 #[.pointer (some ⟨d, 0, none⟩), .int .i64 k] w fun e w' => e = .returned (.int .i64 2) ∧ Fresh w w' := by
  obtain ⟨pv, mb, h1, h2, -⟩ := h.ex
  have c2 := cell_at h1 2
  simp at c2
  clear h1 h2 h
  go_enter Try.func23, Try.ntmps23
  go_wp2_with fail
  go_ret
  exact ⟨rfl, Keeps.refl _ _⟩
set_option maxRecDepth 100000 in
set_option maxHeartbeats 1000000 in
theorem arm_neg (B : Nat → Prop) (d : Nat) (l : List (List UInt8)) (D : DD) (n : Nat) (armed k : Int) (w : World) (h : Dev B w d l D n false armed) (hk : k < 0) :
    Calls Try.prog 23 #[.pointer (some ⟨d, 0, none⟩), .int .i64 k] w fun e w' => e = .returned (.int .i64 1) ∧ Fresh w w' := by
  obtain ⟨pv, mb, h1, h2, -⟩ := h.ex
  have c2 := cell_at h1 2
  simp at c2
  clear h1 h2 h
  go_enter Try.func23, Try.ntmps23
  go_wp2_with fail
  go_ret
  exact ⟨rfl, Keeps.refl _ _⟩
end Go.Proofs.Ytbhienlalpbflaa

namespace Go.Proofs.Ytbhienlalpbflaa
open Go.RowKit Go.Maps

set_option maxRecDepth 100000 in
theorem rsize_any (B : Nat → Prop) (x : Nat) (l : List (List UInt8)) (is : List Bool) (ps : List (List UInt8)) (left : Int) (dead : Bool) (w : World) (h : RDev B w x l is ps left dead) :
    Calls Try.prog 38 #[.pointer (some ⟨x, 0, none⟩)] w fun e w' => e = .returned (.int .i64 (l.length : Int)) ∧ Fresh w w' := by
  obtain ⟨lv, iv, pv, h1, h2, -⟩ := h.ex
  obtain ⟨ao, cp, rfl⟩ := ownsRow_slice h2.1
  have c0 := cell_at h1 0
  simp at c0
  clear h1 h2 h
  go_enter Try.func38, Try.ntmps38
  go_wp2_with fail
  go_ret
  exact ⟨rfl, Keeps.refl _ _⟩

set_option maxRecDepth 100000 in
set_option maxHeartbeats 1000000 in
theorem rasked_any (B : Nat → Prop) (x : Nat) (l : List (List UInt8)) (is : List Bool) (ps : List (List UInt8)) (left : Int) (dead : Bool) (p : Int) (w : World) (h : RDev B w x l is ps left dead) :
    Calls Try.prog 60 #[.pointer (some ⟨x, 0, none⟩), .int .i64 p] w fun e w' => e = .returned (.int .i64 (askedErr dead l p)) ∧ Fresh w w' := by
  obtain ⟨lv, iv, pv, h1, h2, -⟩ := h.ex
  obtain ⟨ao, cp, rfl⟩ := ownsRow_slice h2.1
  have c0 := cell_at h1 0
  have c4 := cell_at h1 4
  simp at c0 c4
  clear h1 h2 h
  cases dead with
  | true =>
    go_enter Try.func60, Try.ntmps60
    go_wp2_with fail
    go_ret
    exact ⟨rfl, Keeps.refl _ _⟩
  | false =>
    by_cases e1 : p < 0
    · have e : askedErr false l p = 90 := by simp [askedErr, e1]
      rw [e]
      go_enter Try.func60, Try.ntmps60
      go_wp2_with fail
      go_ret
      exact ⟨rfl, Keeps.refl _ _⟩
    · by_cases e2 : (l.length : Int) ≤ p
      · have e : askedErr false l p = 90 := by simp [askedErr, e2]
        rw [e]
        clear e
        go_enter Try.func60, Try.ntmps60
        go_wp2_with fail
        go_ret
        exact ⟨rfl, Keeps.refl _ _⟩
      · have e : askedErr false l p = 0 := by simp [askedErr, e1, e2]
        rw [e]
        clear e
        go_enter Try.func60, Try.ntmps60
        go_wp2_with fail
        go_ret
        exact ⟨rfl, Keeps.refl _ _⟩

/-- its cells for one page -/
theorem RDev.page {B : Nat → Prop} {w : World} {x : Nat} {l : List (List UInt8)} {is : List Bool} {ps : List (List UInt8)} {left : Int} {dead : Bool} (h : RDev B w x l is ps left dead) {p : Nat} {s t : List UInt8} {b : Bool} (hs : l[p]? = some s) (hb : is[p]? = some b) (ht : ps[p]? = some t) :
    ∃ g1 c1 g2 c2 g3 c3, w.heap[x]? = some (.cells #[.slice (some ⟨g1, 0, none⟩) l.length c1, .slice (some ⟨g2, 0, none⟩) l.length c2, .slice (some ⟨g3, 0, none⟩) l.length c3, .int .i64 left, .bool dead] 57 (0, 0)) ∧ w.cell? ⟨g1, p, none⟩ = some (.string (str s)) ∧ w.cell? ⟨g2, p, none⟩ = some (.bool b) ∧ w.cell? ⟨g3, p, none⟩ = some (.string (str t)) := by
  obtain ⟨lv, iv, pv, h1, h2, h3, h4, h5, h6, h7, h8⟩ := h.ex
  obtain ⟨a1, c1, rfl, q1⟩ := ownsRow_at h2.1
  obtain ⟨a2, c2, rfl, q2⟩ := ownsRow_at h3.1
  obtain ⟨a3, c3, rfl, q3⟩ := ownsRow_at h4.1
  obtain ⟨g1, rfl, -, r1⟩ := q1 p (.string (str s)) (by rw [texts, List.getElem?_map, hs]; rfl)
  obtain ⟨g2, rfl, -, r2⟩ := q2 p (.bool b) (by rw [List.getElem?_map, hb]; rfl)
  obtain ⟨g3, rfl, -, r3⟩ := q3 p (.string (str t)) (by rw [texts, List.getElem?_map, ht]; rfl)
  rw [h7] at h1
  exact ⟨g1, c1, g2, c2, g3, c3, h1, r1, r2, r3⟩

set_option maxRecDepth 100000 in
set_option maxHeartbeats 1000000 in
theorem rread_wrong (B : Nat → Prop) (x : Nat) (l : List (List UInt8)) (is : List Bool) (ps : List (List UInt8)) (left : Int) (dead : Bool) (p : Int) (w : World) (h : RDev B w x l is ps left dead) (he : ¬ askedErr dead l p = 0) :
    Calls Try.prog 36 #[.pointer (some ⟨x, 0, none⟩), .int .i64 p] w fun e w' => e = .returned (.tuple #[.string (str []), .int .i64 (askedErr dead l p)]) ∧ Fresh w w' := by
  have HASK := hid (rasked_any B x l is ps left dead p w h)
  clear h
  obtain ⟨E, hE⟩ : ∃ E, askedErr dead l p = E := ⟨_, rfl⟩
  rw [hE] at HASK he ⊢
  clear hE
  go_enter Try.func36, Try.ntmps36
  go_wp2_with fail
  refine HASK.out.mono ?_
  rintro e w1 ⟨rfl, fa⟩
  clear HASK
  go_wp2_with fail
  go_ret2
  exact ⟨rfl, fa⟩

set_option maxRecDepth 100000 in
set_option maxHeartbeats 1000000 in
theorem rread_ok (B : Nat → Prop) (x : Nat) (l : List (List UInt8)) (is : List Bool) (ps : List (List UInt8)) (left : Int) (p : Nat) (s t : List UInt8) (b : Bool) (w : World) (h : RDev B w x l is ps left false) (hs : l[p]? = some s) (hb : is[p]? = some b) (ht : ps[p]? = some t) :
    Calls Try.prog 36 #[.pointer (some ⟨x, 0, none⟩), .int .i64 (p : Int)] w fun e w' => e = .returned (.tuple #[.string (str (if b = true then t else s)), .int .i64 0]) ∧ Fresh w w' := by
  have hpl : p < l.length := (List.getElem?_eq_some_iff.1 hs).1
  have hask := rasked_any B x l is ps left false p w h
  have e : askedErr false l (p : Int) = 0 := by simp [askedErr]; omega
  rw [e] at hask
  have HASK := hid hask
  have HR := hid h
  have HS := hid hs
  have HB := hid hb
  have HT := hid ht
  clear hask h hs hb ht e
  cases b with
  | true =>
    go_enter Try.func36, Try.ntmps36
    go_wp2_with fail
    refine HASK.out.mono ?_
    rintro e w1 ⟨rfl, fa⟩
    obtain ⟨g1, c1, g2, c2, g3, c3, h1, r1, r2, r3⟩ := (HR.out.fresh fa).page HS.out HB.out HT.out
    have q1 := cell_at h1 1
    have q2 := cell_at h1 2
    simp at q1 q2
    clear h1 HASK
    go_wp2_with fail
    go_ret2
    exact ⟨rfl, fa⟩
  | false =>
    go_enter Try.func36, Try.ntmps36
    go_wp2_with fail
    refine HASK.out.mono ?_
    rintro e w1 ⟨rfl, fa⟩
    obtain ⟨g1, c1, g2, c2, g3, c3, h1, r1, r2, r3⟩ := (HR.out.fresh fa).page HS.out HB.out HT.out
    have q0 := cell_at h1 0
    have q1 := cell_at h1 1
    simp at q0 q1
    clear h1 HASK
    go_wp2_with fail
    go_ret2
    exact ⟨rfl, fa⟩
end Go.Proofs.Ytbhienlalpbflaa

namespace Go.Proofs.Ytbhienlalpbflaa
open Go.RowKit Go.Maps

theorem rows_ne {w : World} {B1 B2 s1 s2 n1 n2 : Nat} {e1 e2 : TypeId} {v1 v2 : Value} {xs1 xs2 : List Value} (h1 : w.ownsRow B1 e1 s1 v1 n1 xs1) (h2 : w.ownsRow B2 e2 s2 v2 n2 xs2) (he : e1 ≠ e2) {g : Nat} (hg1 : v1.ownBlock = some g) (hg2 : v2.ownBlock = some g) : False := by
  rcases h1.2 with ⟨rfl, _⟩ | ⟨g', cap, cur, rfl, _, hb, _⟩
  · cases hg1
  · simp only [Value.ownBlock, Option.some.injEq] at hg1
    subst hg1
    exact cells_ne_row hb h2 he hg2

variable {B : Nat → Prop} {w w' : World} {x : Nat} {l : List (List UInt8)} {is : List Bool} {ps : List (List UInt8)} {left left' : Int} {dead dead' : Bool}
/-- its number of acts, its death -/
theorem RDev.put (h : RDev B w x l is ps left dead) (k : Keeps (fun q => q = x) w w')
    (hx : ∀ lv iv pv, w.heap[x]? = some (.cells #[lv, iv, pv, .int .i64 left, .bool dead] 57 (0, 0)) → w'.heap[x]? = some (.cells #[lv, iv, pv, .int .i64 left', .bool dead'] 57 (0, 0))) : RDev B w' x l is ps left' dead' := by
  obtain ⟨lv, iv, pv, h1, h2, h3, h4, h5⟩ := h.ex
  exact ⟨⟨lv, iv, pv, hx _ _ _ h1, ⟨ownsRow_keeps h2.1 k fun g hg e => cells_ne_row h1 h2.1 (by decide) (by rw [hg, e]), h2.2⟩, ⟨ownsRow_keeps h3.1 k fun g hg e => cells_ne_row h1 h3.1 (by decide) (by rw [hg, e]), h3.2⟩, ⟨ownsRow_keeps h4.1 k fun g hg e => cells_ne_row h1 h4.1 (by decide) (by rw [hg, e]), h4.2⟩, h5⟩⟩
/-- its cells, known by the block -/
theorem RDev.setP (h : RDev B w x l is ps left dead) {lv iv : Value} {g c n : Nat} (hx : w.heap[x]? = some (.cells #[lv, iv, .slice (some ⟨g, 0, none⟩) n c, .int .i64 left, .bool dead] 57 (0, 0))) (p : Nat) (s : List UInt8) :
    RDev B (w.setCell ⟨g, p, none⟩ (.string (str s))) x l is (ps.set p s) left dead ∧ B g := by
  obtain ⟨lv', iv', pv, h1, h2, h3, h4, h5, h6, h7, h8⟩ := h.ex
  rw [hx] at h1
  simp only [Option.some.injEq, Obj.cells.injEq, and_true, Array.mk.injEq, List.cons.injEq] at h1
  obtain ⟨rfl, rfl, rfl, -⟩ := h1
  obtain ⟨ao, c', e⟩ := ownsRow_slice h4.1
  simp only [Value.slice.injEq] at e
  obtain ⟨rfl, rfl, rfl⟩ := e
  have k : Keeps (fun q => q = g) w (w.setCell ⟨g, p, none⟩ (.string (str s))) := Keeps.setCell (S := fun q => q = g) (Keeps.refl _ w) (p := ⟨g, p, none⟩) (fun _ => rfl) _
  have hgx : g ≠ x := fun e => cells_ne_row hx h4.1 (by decide) (by rw [← e]; rfl)
  refine ⟨⟨⟨lv, iv, _, k.at_ hx (fun e => hgx e.symm), ⟨ownsRow_keeps h2.1 k fun g' hg e => h5 g' hg (by rw [show g' = g from e]; rfl), h2.2⟩, ⟨ownsRow_keeps h3.1 k fun g' hg e => rows_ne h3.1 h4.1 (by decide) hg (by rw [show g' = g from e]; rfl), h3.2⟩, ⟨?_, h4.2⟩, h5, h6, by rw [List.length_set]; exact h7, h8⟩⟩, h4.2 g rfl⟩
  rw [texts_put, List.length_set]
  exact ownsRow_set1 h4.1 p _
theorem RDev.setL (h : RDev B w x l is ps left dead) {iv pv : Value} {g c n : Nat} (hx : w.heap[x]? = some (.cells #[.slice (some ⟨g, 0, none⟩) n c, iv, pv, .int .i64 left, .bool dead] 57 (0, 0))) (p : Nat) (s : List UInt8) :
    RDev B (w.setCell ⟨g, p, none⟩ (.string (str s))) x (l.set p s) is ps left dead ∧ B g := by
  obtain ⟨lv', iv', pv', h1, h2, h3, h4, h5, h6, h7, h8⟩ := h.ex
  rw [hx] at h1
  simp only [Option.some.injEq, Obj.cells.injEq, and_true, Array.mk.injEq, List.cons.injEq] at h1
  obtain ⟨rfl, rfl, rfl, -⟩ := h1
  obtain ⟨ao, c', e⟩ := ownsRow_slice h2.1
  simp only [Value.slice.injEq] at e
  obtain ⟨rfl, rfl, rfl⟩ := e
  have k : Keeps (fun q => q = g) w (w.setCell ⟨g, p, none⟩ (.string (str s))) := Keeps.setCell (S := fun q => q = g) (Keeps.refl _ w) (p := ⟨g, p, none⟩) (fun _ => rfl) _
  have hgx : g ≠ x := fun e => cells_ne_row hx h2.1 (by decide) (by rw [← e]; rfl)
  refine ⟨⟨⟨_, iv, pv, k.at_ hx (fun e => hgx e.symm), ⟨?_, h2.2⟩, ⟨by rw [List.length_set]; exact ownsRow_keeps h3.1 k fun g' hg e => rows_ne h3.1 h2.1 (by decide) hg (by rw [show g' = g from e]; rfl), h3.2⟩, ⟨ownsRow_keeps h4.1 k fun g' hg e => h5 g' (by rw [show g' = g from e]; rfl) hg, h4.2⟩, h5, by rw [List.length_set]; exact h6, by rw [List.length_set]; exact h7, h8⟩⟩, h2.2 g rfl⟩
  rw [texts_put, List.length_set]
  exact ownsRow_set1 h2.1 p _
theorem RDev.setIs (h : RDev B w x l is ps left dead) {lv pv : Value} {g c n : Nat} (hx : w.heap[x]? = some (.cells #[lv, .slice (some ⟨g, 0, none⟩) n c, pv, .int .i64 left, .bool dead] 57 (0, 0))) (p : Nat) (b : Bool) :
    RDev B (w.setCell ⟨g, p, none⟩ (.bool b)) x l (is.set p b) ps left dead ∧ B g := by
  obtain ⟨lv', iv', pv', h1, h2, h3, h4, h5, h6, h7, h8⟩ := h.ex
  rw [hx] at h1
  simp only [Option.some.injEq, Obj.cells.injEq, and_true, Array.mk.injEq, List.cons.injEq] at h1
  obtain ⟨rfl, rfl, rfl, -⟩ := h1
  obtain ⟨ao, c', e⟩ := ownsRow_slice h3.1
  simp only [Value.slice.injEq] at e
  obtain ⟨rfl, rfl, rfl⟩ := e
  have k : Keeps (fun q => q = g) w (w.setCell ⟨g, p, none⟩ (.bool b)) := Keeps.setCell (S := fun q => q = g) (Keeps.refl _ w) (p := ⟨g, p, none⟩) (fun _ => rfl) _
  have hgx : g ≠ x := fun e => cells_ne_row hx h3.1 (by decide) (by rw [← e]; rfl)
  refine ⟨⟨⟨lv, _, pv, k.at_ hx (fun e => hgx e.symm), ⟨ownsRow_keeps h2.1 k fun g' hg e => rows_ne h2.1 h3.1 (by decide) hg (by rw [show g' = g from e]; rfl), h2.2⟩, ⟨?_, h3.2⟩, ⟨ownsRow_keeps h4.1 k fun g' hg e => rows_ne h4.1 h3.1 (by decide) hg (by rw [show g' = g from e]; rfl), h4.2⟩, h5, by rw [List.length_set]; exact h6, h7, h8⟩⟩, h3.2 g rfl⟩
  rw [List.map_set]
  exact ownsRow_set1 h3.1 p _
end Go.Proofs.Ytbhienlalpbflaa

namespace Go.Proofs.Ytbhienlalpbflaa
open Go.RowKit Go.Maps

set_option maxRecDepth 100000 in
set_option maxHeartbeats 1000000 in
theorem write_dies (B : Nat → Prop) (d : Nat) (l : List (List UInt8)) (D : DD) (n : Nat) (p : Int) (s : List UInt8) (w : World) (h : Dev B w d l D n false 1) (_hn : n ≤ 1000000000000000000) (hp : 0 ≤ p) (hp2 : p < l.length) (_hll : l.length ≤ 4096) (hs : s.length = 256) :
    Calls Try.prog 25 #[.pointer (some ⟨d, 0, none⟩), .int .i64 p, .string (str s)] w fun e w' => e = .returned (.int .i64 2) ∧ Dev B w' d l D n true 1 ∧ Keeps B w w' := by
  have hsz := str_size s
  have hmf : ∀ (fn : Fn) (first cap : Array Value) (w : World), (Instr.makeFunc fn first cap).run Try.prog w = .ok (.func fn first cap) w := fun _ _ _ _ => rfl
  obtain ⟨pv, mb, h1, h2, h3, h4, h5⟩ := h.ex
  have hml := h3.lt
  have hmd : mb ≠ d := fun e => by
    obtain ⟨es, clock, hb, _⟩ := h3
    rw [e, h1] at hb
    cases hb
  have hdl := lt_of_block h1
  have hpv : ∀ g, pv.ownBlock = some g → ¬ g = mb := fun g hg e => by
    obtain ⟨es, clock, hb, _⟩ := h3
    rcases h2.1.2 with ⟨rfl, _⟩ | ⟨g', cap, cur, rfl, _, hb2, _⟩
    · cases hg
    · simp only [Value.ownBlock, Option.some.injEq] at hg
      rw [hg, e, hb] at hb2
      cases hb2
  have f0 : Fresh w (((w.alloc (.cells #[.pointer (some ⟨d, 0, none⟩)] 23)).alloc (.cells #[.int .i64 p] 3)).alloc (.cells #[.string (str s)] 9)) := (((Keeps.refl _ _).alloc _).alloc _).alloc _
  have bx := (((Keeps.refl (fun _ => False) _).alloc (.cells #[.int .i64 p] 3)).alloc (.cells #[.string (str s)] 9)).at_ (heap_alloc_new w (.cells #[.pointer (some ⟨d, 0, none⟩)] 23)) (fun h => h)
  have bp := ((Keeps.refl (fun _ => False) _).alloc (.cells #[.string (str s)] 9)).at_ (heap_alloc_new (w.alloc (.cells #[.pointer (some ⟨d, 0, none⟩)] 23)) (.cells #[.int .i64 p] 3)) (fun h => h)
  have bs := heap_alloc_new ((w.alloc (.cells #[.pointer (some ⟨d, 0, none⟩)] 23)).alloc (.cells #[.int .i64 p] 3)) (.cells #[.string (str s)] 9)
  simp only [World.size_alloc] at bp bs
  have hdev0 := h.fresh f0
  obtain ⟨W0, hW0⟩ : ∃ W0, ((w.alloc (.cells #[.pointer (some ⟨d, 0, none⟩)] 23)).alloc (.cells #[.int .i64 p] 3)).alloc (.cells #[.string (str s)] 9) = W0 := ⟨_, rfl⟩
  rw [hW0] at bx bp bs f0 hdev0
  have hask := asked_ok B d l D n 1 p W0 hdev0 hp hp2
  have HASK := hid hask
  have X0 := cell_at bx 0
  have P0 := cell_at bp 0
  have S0 := cell_at bs 0
  simp at X0 P0 S0
  obtain ⟨B0, hB0⟩ : ∃ B0, w.heap.size = B0 := ⟨_, rfl⟩
  rw [hB0] at bx bp bs X0 P0 S0
  have HDEV := hid hdev0
  have HH := hid (And.intro h1 (And.intro h2 h3))
  clear hask h1 h2 h3 hdev0 h
  go_enter Try.func25, Try.ntmps25
  go_wp2_with fail
  refine HASK.out.mono ?_
  rintro e w1 ⟨rfl, fa⟩
  have bx := fa.at_ bx (fun h => h)
  have bp := fa.at_ bp (fun h => h)
  have bs := fa.at_ bs (fun h => h)
  have X1 := cell_at bx 0
  have P1 := cell_at bp 0
  have S1 := cell_at bs 0
  simp at X1 P1 S1
  have hd1 := HDEV.out.fresh fa
  have f1 := f0.trans fa
  have lx := lt_of_block bx
  have lp := lt_of_block bp
  have ls := lt_of_block bs
  obtain ⟨e1, e2, e3⟩ := HH.out
  have e1 := f1.at_ e1 (fun h => h)
  have e2 := e2.fresh f1
  have e3 := map_keeps e3 f1 (fun h => h)
  have D1 := cell_at e1 1
  have D3 := cell_at e1 3
  simp at D1 D3
  have hact := act_dies d #[.pointer (some ⟨B0 + 1 + 1, 0, none⟩), .pointer (some ⟨B0, 0, none⟩), .pointer (some ⟨B0 + 1, 0, none⟩)] (.func 50) pv (.map (some mb)) w1 e1
  have HACT := hid hact
  have E1 := hid (And.intro e1 (And.intro e2 e3))
  clear hact X0 P0 S0 HDEV HH fa hd1 e1 e2 e3 D1 D3 HASK bx bp bs
  go_wp2_with fail
  refine HACT.out.mono ?_
  rintro e w2 ⟨rfl, hw2⟩
  obtain ⟨e1, e2, e3⟩ := E1.out
  go_wp2_with fail
  go_ret
  subst hw2
  have g0 : Fresh w1 (w1.alloc (.cells #[.pointer (some ⟨d, 0, none⟩)] 23)) := (Keeps.refl _ _).alloc _
  have k2 : Keeps (fun q => q = d) w1 ((w1.alloc (.cells #[.pointer (some ⟨d, 0, none⟩)] 23)).setCell ⟨d, 2, none⟩ (.bool true)) := Keeps.setCell (S := fun q => q = d) (p := ⟨d, 2, none⟩) (g0.mono (fun _ _ h => h.elim)) (fun _ => rfl) _
  refine ⟨rfl, ⟨⟨pv, mb, heap_setCell_at (g0.at_ e1 (fun h => h)) 2 _, ⟨ownsRow_keeps e2.1 k2 (fun g hg e => cells_ne_row e1 e2.1 (by decide) (by rw [hg, e])), e2.2⟩, map_keeps e3 k2 hmd, h4, h5⟩⟩, (f1.mono (fun _ _ h => h.elim)).trans (k2.mono (fun q _ h => by rw [show q = d from h]; exact h5))⟩

set_option maxRecDepth 100000 in
set_option maxHeartbeats 1000000 in
theorem write_armed (B : Nat → Prop) (d k : Nat) (l : List (List UInt8)) (D : DD) (n : Nat) (p : Int) (s : List UInt8) (w : World) (h : Dev B w d l D n false ((k + 1 : Nat) : Int)) (hk : 1 ≤ k) (hk2 : k < 9223372036854775807) (hn : n ≤ 1000000000000000000) (hp : 0 ≤ p) (hp2 : p < l.length) (hll : l.length ≤ 4096) (hs : s.length = 256) :
    Calls Try.prog 25 #[.pointer (some ⟨d, 0, none⟩), .int .i64 p, .string (str s)] w fun e w' => e = .returned (.int .i64 0) ∧ Dev B w' d l (D.put (pkey p) (.lit (.string s))) (n + 1) false (k : Int) ∧ Keeps B w w' := by
  have hsz := str_size s
  have hmf : ∀ (fn : Fn) (first cap : Array Value) (w : World), (Instr.makeFunc fn first cap).run Try.prog w = .ok (.func fn first cap) w := fun _ _ _ _ => rfl
  obtain ⟨pv, mb, h1, h2, h3, h4, h5⟩ := h.ex
  have hml := h3.lt
  have hmd : mb ≠ d := fun e => by
    obtain ⟨es, clock, hb, _⟩ := h3
    rw [e, h1] at hb
    cases hb
  have hdl := lt_of_block h1
  have hpv : ∀ g, pv.ownBlock = some g → ¬ g = mb := fun g hg e => by
    obtain ⟨es, clock, hb, _⟩ := h3
    rcases h2.1.2 with ⟨rfl, _⟩ | ⟨g', cap, cur, rfl, _, hb2, _⟩
    · cases hg
    · simp only [Value.ownBlock, Option.some.injEq] at hg
      rw [hg, e, hb] at hb2
      cases hb2
  have f0 : Fresh w (((w.alloc (.cells #[.pointer (some ⟨d, 0, none⟩)] 23)).alloc (.cells #[.int .i64 p] 3)).alloc (.cells #[.string (str s)] 9)) := (((Keeps.refl _ _).alloc _).alloc _).alloc _
  have bx := (((Keeps.refl (fun _ => False) _).alloc (.cells #[.int .i64 p] 3)).alloc (.cells #[.string (str s)] 9)).at_ (heap_alloc_new w (.cells #[.pointer (some ⟨d, 0, none⟩)] 23)) (fun h => h)
  have bp := ((Keeps.refl (fun _ => False) _).alloc (.cells #[.string (str s)] 9)).at_ (heap_alloc_new (w.alloc (.cells #[.pointer (some ⟨d, 0, none⟩)] 23)) (.cells #[.int .i64 p] 3)) (fun h => h)
  have bs := heap_alloc_new ((w.alloc (.cells #[.pointer (some ⟨d, 0, none⟩)] 23)).alloc (.cells #[.int .i64 p] 3)) (.cells #[.string (str s)] 9)
  simp only [World.size_alloc] at bp bs
  have hdev0 := h.fresh f0
  obtain ⟨W0, hW0⟩ : ∃ W0, ((w.alloc (.cells #[.pointer (some ⟨d, 0, none⟩)] 23)).alloc (.cells #[.int .i64 p] 3)).alloc (.cells #[.string (str s)] 9) = W0 := ⟨_, rfl⟩
  rw [hW0] at bx bp bs f0 hdev0
  have hask := asked_ok B d l D n ((k + 1 : Nat) : Int) p W0 hdev0 hp hp2
  have HASK := hid hask
  have X0 := cell_at bx 0
  have P0 := cell_at bp 0
  have S0 := cell_at bs 0
  simp at X0 P0 S0
  obtain ⟨B0, hB0⟩ : ∃ B0, w.heap.size = B0 := ⟨_, rfl⟩
  rw [hB0] at bx bp bs X0 P0 S0
  have HDEV := hid hdev0
  have HH := hid (And.intro h1 (And.intro h2 h3))
  clear hask h1 h2 h3 hdev0 h
  go_enter Try.func25, Try.ntmps25
  go_wp2_with fail
  refine HASK.out.mono ?_
  rintro e w1 ⟨rfl, fa⟩
  have bx := fa.at_ bx (fun h => h)
  have bp := fa.at_ bp (fun h => h)
  have bs := fa.at_ bs (fun h => h)
  have X1 := cell_at bx 0
  have P1 := cell_at bp 0
  have S1 := cell_at bs 0
  simp at X1 P1 S1
  have hd1 := HDEV.out.fresh fa
  have f1 := f0.trans fa
  have lx := lt_of_block bx
  have lp := lt_of_block bp
  have ls := lt_of_block bs
  obtain ⟨e1, e2, e3⟩ := HH.out
  have e1 := f1.at_ e1 (fun h => h)
  have e2 := e2.fresh f1
  have e3 := map_keeps e3 f1 (fun h => h)
  have D1 := cell_at e1 1
  have D3 := cell_at e1 3
  simp at D1 D3
  have g0 : Fresh w1 (w1.alloc (.cells #[.pointer (some ⟨d, 0, none⟩)] 23)) := (Keeps.refl _ _).alloc _
  have hw1 := write1_any (B0 + 1 + 1) B0 (B0 + 1) d mb n D s p _ ((g0.cell (p := ⟨B0 + 1 + 1, 0, none⟩) ls (fun h => h)).trans S1) ((g0.cell (p := ⟨B0, 0, none⟩) lx (fun h => h)).trans X1) ((g0.cell (p := ⟨B0 + 1, 0, none⟩) lp (fun h => h)).trans P1) ((g0.cell (p := ⟨d, 1, none⟩) (lt_of_block e1) (fun h => h)).trans D1) (map_keeps e3 g0 (fun h => h)) hn (by omega) (WalkArith.wf_i64 (by omega))
  have hact := act_write d k #[.pointer (some ⟨B0 + 1 + 1, 0, none⟩), .pointer (some ⟨B0, 0, none⟩), .pointer (some ⟨B0 + 1, 0, none⟩)] pv (.map (some mb)) (fun q => q = mb) (fun W => W.ownsMap Try.prog 3 (plainElem Try.prog 9) mb (n + 1) (D.put (pkey p) (.lit (.string s)))) w1 e1 hk hk2 hw1 (fun h => hmd h.symm) (fun h => by have := e3.lt; omega)
  clear hw1
  have HACT := hid hact
  have E1 := hid (And.intro e1 (And.intro e2 e3))
  clear hact X0 P0 S0 HDEV HH fa hd1 e1 e2 e3 D1 D3 HASK bx bp bs
  go_wp2_with fail
  refine HACT.out.mono ?_
  rintro e w2 ⟨rfl, w3, hown2, k2, hw2⟩
  obtain ⟨e1, e2, e3⟩ := E1.out
  go_wp2_with fail
  go_ret
  subst hw2
  have k3 : Keeps (fun q => q = mb ∨ q = d) w1 (w3.setCell ⟨d, 3, none⟩ (.int .i64 (k : Int))) := Keeps.setCell (S := fun q => q = mb ∨ q = d) (p := ⟨d, 3, none⟩) (k2.mono (fun _ _ h => Or.inl h)) (fun _ => Or.inr rfl) _
  have k4 : Keeps (fun q => q = d) w3 (w3.setCell ⟨d, 3, none⟩ (.int .i64 (k : Int))) := Keeps.setCell (S := fun q => q = d) (p := ⟨d, 3, none⟩) (Keeps.refl _ _) (fun _ => rfl) _
  refine ⟨rfl, ⟨⟨pv, mb, heap_setCell_at (k2.at_ e1 (fun e => hmd e.symm)) 3 _, ⟨ownsRow_keeps e2.1 k3 (fun g hg e => by
    rcases e with e | e
    · exact row_ne_map e2.1 e3 (by rw [hg, e])
    · exact cells_ne_row e1 e2.1 (by decide) (by rw [hg, e])), e2.2⟩, map_keeps hown2 k4 hmd, h4, h5⟩⟩, (f1.mono (fun _ _ h => h.elim)).trans (k3.mono (fun q _ h => h.elim (fun h => by rw [h]; exact h4) (fun h => by rw [h]; exact h5)))⟩

/-- in how many acts it dies, behind one -/
def lower (a : Int) : Int := if a = 0 then 0 else a - 1
/-- Write, of a device that lives -/
theorem write_end (B : Nat → Prop) (d : Nat) (l : List (List UInt8)) (D : DD) (n : Nat) (armed p : Int) (s : List UInt8) (w : World) (h : Dev B w d l D n false armed) (ha : 0 ≤ armed) (ha2 : armed ≤ 9223372036854775807) (hn : n ≤ 1000000000000000000) (hp : 0 ≤ p) (hp2 : p < l.length) (hll : l.length ≤ 4096) (hs : s.length = 256) :
    Calls Try.prog 25 #[.pointer (some ⟨d, 0, none⟩), .int .i64 p, .string (str s)] w fun e w' => (armed = 1 ∧ e = .returned (.int .i64 2) ∧ Dev B w' d l D n true 1 ∧ Keeps B w w') ∨
      (armed ≠ 1 ∧ e = .returned (.int .i64 0) ∧ Dev B w' d l (D.put (pkey p) (.lit (.string s))) (n + 1) false (lower armed) ∧ Keeps B w w') := by
  by_cases h1 : armed = 1
  · subst h1
    refine (write_dies B d l D n p s w h hn hp hp2 hll hs).mono ?_
    rintro e w' ⟨rfl, h1, h2⟩
    exact .inl ⟨rfl, rfl, h1, h2⟩
  · by_cases h0 : armed = 0
    · subst h0
      refine (write_ok B d l D n p s w h hn hp hp2 hll hs).mono ?_
      rintro e w' ⟨rfl, h1, h2⟩
      exact .inr ⟨by omega, rfl, h1, h2⟩
    · obtain ⟨k, rfl⟩ : ∃ k : Nat, armed = ((k + 1 : Nat) : Int) := ⟨(armed - 1).toNat, by omega⟩
      refine (write_armed B d k l D n p s w h (by omega) (by omega) hn hp hp2 hll hs).mono ?_
      rintro e w' ⟨rfl, h3, h2⟩
      have e1 : lower ((k + 1 : Nat) : Int) = (k : Int) := by unfold lower; rw [if_neg (by omega)]; omega
      exact .inr ⟨by omega, rfl, by rw [e1]; exact h3, h2⟩
end Go.Proofs.Ytbhienlalpbflaa

namespace Go.Proofs.Ytbhienlalpbflaa
open Go.RowKit Go.Maps

set_option maxRecDepth 100000 in
set_option maxHeartbeats 1000000 in
theorem rarm_any (B : Nat → Prop) (x : Nat) (l : List (List UInt8)) (is : List Bool) (ps : List (List UInt8)) (left : Int) (dead : Bool) (k : Int) (w : World) (h : RDev B w x l is ps left dead) :
    Calls Try.prog 40 #[.pointer (some ⟨x, 0, none⟩), .int .i64 k] w fun e w' => e = .returned (.int .i64 (if dead = true then 2 else if k < 0 then 1 else 0)) ∧ RDev B w' x l is ps (if dead = true ∨ k < 0 then left else k) dead ∧ Keeps B w w' := by
  obtain ⟨lv, iv, pv, h1, h2, -, -, -, -, -, hB⟩ := h.ex
  have c4 := cell_at h1 4
  have z3 := free_at h1 3
  have c3 := cell_at h1 3
  simp at c4 c3
  have H := hid h
  clear h1 h2 h
  cases dead with
  | true =>
    go_enter Try.func40, Try.ntmps40
    go_wp2_with fail
    go_ret
    exact ⟨rfl, H.out, Keeps.refl _ _⟩
  | false =>
    by_cases hk : k < 0
    · have e1 : (if false = true then (2 : Int) else if k < 0 then 1 else 0) = 1 := by simp [hk]
      have e2 : (if false = true ∨ k < 0 then left else k) = left := by simp [hk]
      rw [e1, e2]
      clear e1 e2
      go_enter Try.func40, Try.ntmps40
      go_wp2_with fail
      go_ret
      exact ⟨rfl, H.out, Keeps.refl _ _⟩
    · have e1 : (if false = true then (2 : Int) else if k < 0 then 1 else 0) = 0 := by simp [hk]
      have e2 : (if false = true ∨ k < 0 then left else k) = k := by simp [hk]
      rw [e1, e2]
      clear e1 e2
      go_enter Try.func40, Try.ntmps40
      go_wp2
      go_ret
      have k1 : Keeps (fun q => q = x) w (w.setCell ⟨x, 3, none⟩ (.int .i64 k)) := Keeps.setCell (S := fun q => q = x) (p := ⟨x, 3, none⟩) (Keeps.refl _ w) (fun _ => rfl) _
      exact ⟨rfl, H.out.put k1 fun _ _ _ h => heap_setCell_at h 3 _, k1.mono fun q _ e => by rw [show q = x from e]; exact hB⟩

set_option maxRecDepth 100000 in
set_option maxHeartbeats 1000000 in
theorem ract_any (B : Nat → Prop) (x : Nat) (l : List (List UInt8)) (is : List Bool) (ps : List (List UInt8)) (left : Int) (w : World) (h : RDev B w x l is ps left false) (hl : 0 ≤ left) (hl2 : left ≤ 9223372036854775807) :
    Calls Try.prog 61 #[.pointer (some ⟨x, 0, none⟩)] w fun e w' => e = .returned (.bool (decide (left = 1))) ∧ RDev B w' x l is ps (lower left) (decide (left = 1)) ∧ Keeps B w w' := by
  obtain ⟨lv, iv, pv, h1, h2, -, -, -, -, -, hB⟩ := h.ex
  have H := hid h
  by_cases h0 : left = 0
  · subst h0
    have c4 := cell_at h1 4
    have c3 := cell_at h1 3
    simp at c4 c3
    clear h1 h2 h
    go_enter Try.func61, Try.ntmps61
    go_wp2
    go_ret
    exact ⟨rfl, H.out, Keeps.refl _ _⟩
  · obtain ⟨j, rfl⟩ : ∃ j : Nat, left = ((j + 1 : Nat) : Int) := ⟨(left - 1).toNat, by omega⟩
    have c3 : w.cell? ⟨x, 3, none⟩ = some (.int .i64 ((j + 1 : Nat) : Int)) := by rw [cell_at h1 3]; rfl
    have c4 : w.cell? ⟨x, 4, none⟩ = some (.bool false) := by rw [cell_at h1 4]; rfl
    have z3 := free_at h1 3
    have z4 := free_at h1 4
    have hk0 : (0 : Int) < ((j + 1 : Nat) : Int) := by omega
    have hw : IntKind.i64.wrap (((j + 1 : Nat) : Int) - 1) = (j : Int) := by rw [IntKind.wrap_i64]; omega
    have k1 : Keeps (fun q => q = x) w ((w.setCell ⟨x, 3, none⟩ (.int .i64 (j : Int))).setCell ⟨x, 4, none⟩ (.bool (decide ((j : Int) = 0)))) := Keeps.setCell (S := fun q => q = x) (p := ⟨x, 4, none⟩) (Keeps.setCell (S := fun q => q = x) (p := ⟨x, 3, none⟩) (Keeps.refl _ w) (fun _ => rfl) _) (fun _ => rfl) _
    have hd : decide (((j + 1 : Nat) : Int) = 1) = decide ((j : Int) = 0) := by rw [decide_eq_decide]; omega
    have hlw : lower ((j + 1 : Nat) : Int) = (j : Int) := by unfold lower; rw [if_neg (by omega)]; omega
    rw [hd, hlw]
    have K1 := hid k1
    clear h1 h2 h hd hlw k1
    go_enter Try.func61, Try.ntmps61
    go_wp2
    go_ret
    refine ⟨?_, H.out.put K1.out fun _ _ _ h => heap_setCell_at (heap_setCell_at h 3 _) 4 _, K1.out.mono fun q _ e => by rw [show q = x from e]; exact hB⟩
    rfl
end Go.Proofs.Ytbhienlalpbflaa

namespace Go.Proofs.Ytbhienlalpbflaa
open Go.RowKit Go.Maps

/-- what lasts behind the first n pages of a flush -/
def flL (l ps : List (List UInt8)) (is : List Bool) : Nat → List (List UInt8)
  | 0 => l
  | n + 1 => if is[n]? = some true then (flL l ps is n).set n (ps[n]?.getD []) else flL l ps is n
def flIs (is : List Bool) : Nat → List Bool
  | 0 => is
  | n + 1 => if is[n]? = some true then (flIs is n).set n false else flIs is n
theorem flL_len (l ps : List (List UInt8)) (is : List Bool) : ∀ n, (flL l ps is n).length = l.length
  | 0 => rfl
  | n + 1 => by simp only [flL]; split <;> simp [flL_len l ps is n]
theorem flIs_len (is : List Bool) : ∀ n, (flIs is n).length = is.length
  | 0 => rfl
  | n + 1 => by simp only [flIs]; split <;> simp [flIs_len is n]
theorem flIs_get (is : List Bool) : ∀ (n k : Nat), n ≤ k → (flIs is n)[k]? = is[k]?
  | 0, _, _ => rfl
  | n + 1, k, h => by
    simp only [flIs]
    split
    · rw [List.getElem?_set_ne (by omega)]; exact flIs_get is n k (by omega)
    · exact flIs_get is n k (by omega)
theorem flL_get (l ps : List (List UInt8)) (is : List Bool) : ∀ (n k : Nat), (flL l ps is n)[k]? = if k < n ∧ is[k]? = some true ∧ k < l.length then some (ps[k]?.getD []) else l[k]?
  | 0, k => by simp [flL]
  | n + 1, k => by
    simp only [flL]
    split
    · rename_i h
      by_cases hk : k = n
      · subst hk
        by_cases hl : k < l.length
        · rw [List.getElem?_set_self (by rw [flL_len]; exact hl), if_pos ⟨by omega, h, hl⟩]
        · rw [if_neg (by intro h; exact hl h.2.2), List.getElem?_eq_none (by rw [List.length_set, flL_len]; omega), List.getElem?_eq_none (by omega)]
      · rw [List.getElem?_set_ne (by omega), flL_get l ps is n k]
        by_cases h2 : k < n
        · simp [h2, Nat.lt_succ_of_lt h2]
        · rw [if_neg (by intro h; exact h2 h.1), if_neg (by intro h; omega)]
    · rename_i h
      rw [flL_get l ps is n k]
      by_cases hk : k = n
      · subst hk
        rw [if_neg (by intro h; omega), if_neg (by intro h2; exact h h2.2.1)]
      · by_cases h2 : k < n
        · simp [h2, Nat.lt_succ_of_lt h2]
        · rw [if_neg (by intro h; exact h2 h.1), if_neg (by intro h; omega)]

theorem row_free {w : World} {base g n c : Nat} {e : TypeId} {xs : List Value} (h : w.ownsRow base e 1 (.slice (some ⟨g, 0, none⟩) n c) n xs) (p : Nat) : w.frozen? ⟨g, p, none⟩ = false := by
  rcases h.2 with ⟨h0, _⟩ | ⟨g', cap', cur, h0, hb, hg, _⟩
  · cases h0
  · injection h0 with h1 h2 h3
    injection h1 with h1
    injection h1 with h1
    subst h1
    exact free_at hg p
section
variable {B : Nat → Prop} {w : World} {x : Nat} {l : List (List UInt8)} {is : List Bool} {ps : List (List UInt8)} {left : Int} {dead : Bool}
theorem RDev.freeL (h : RDev B w x l is ps left dead) {iv pv : Value} {g c n : Nat} (hx : w.heap[x]? = some (.cells #[.slice (some ⟨g, 0, none⟩) n c, iv, pv, .int .i64 left, .bool dead] 57 (0, 0))) (p : Nat) : w.frozen? ⟨g, p, none⟩ = false := by
  obtain ⟨lv', iv', pv', h1, h2, h3, h4, h5, h6, h7, h8⟩ := h.ex
  rw [hx] at h1
  simp only [Option.some.injEq, Obj.cells.injEq, and_true, Array.mk.injEq, List.cons.injEq] at h1
  obtain ⟨rfl, rfl, rfl, -⟩ := h1
  obtain ⟨ao, c', e⟩ := ownsRow_slice h2.1
  simp only [Value.slice.injEq] at e
  obtain ⟨rfl, rfl, rfl⟩ := e
  exact row_free h2.1 p
theorem RDev.neL (h : RDev B w x l is ps left dead) {iv pv : Value} {g c n : Nat} (hx : w.heap[x]? = some (.cells #[.slice (some ⟨g, 0, none⟩) n c, iv, pv, .int .i64 left, .bool dead] 57 (0, 0))) : x ≠ g := by
  obtain ⟨lv', iv', pv', h1, h2, h3, h4, h5, h6, h7, h8⟩ := h.ex
  have hx' := hx
  rw [hx] at h1
  simp only [Option.some.injEq, Obj.cells.injEq, and_true, Array.mk.injEq, List.cons.injEq] at h1
  obtain ⟨rfl, rfl, rfl, -⟩ := h1
  exact fun e => cells_ne_row hx' h2.1 (by decide) (by rw [e]; rfl)
theorem RDev.freeIs (h : RDev B w x l is ps left dead) {lv pv : Value} {g c n : Nat} (hx : w.heap[x]? = some (.cells #[lv, .slice (some ⟨g, 0, none⟩) n c, pv, .int .i64 left, .bool dead] 57 (0, 0))) (p : Nat) : w.frozen? ⟨g, p, none⟩ = false := by
  obtain ⟨lv', iv', pv', h1, h2, h3, h4, h5, h6, h7, h8⟩ := h.ex
  rw [hx] at h1
  simp only [Option.some.injEq, Obj.cells.injEq, and_true, Array.mk.injEq, List.cons.injEq] at h1
  obtain ⟨rfl, rfl, rfl, -⟩ := h1
  obtain ⟨ao, c', e⟩ := ownsRow_slice h3.1
  simp only [Value.slice.injEq] at e
  obtain ⟨rfl, rfl, rfl⟩ := e
  exact row_free h3.1 p
end

set_option maxRecDepth 100000 in
set_option maxHeartbeats 4000000 in
theorem rflush_end (B : Nat → Prop) (x : Nat) (l : List (List UInt8)) (is : List Bool) (ps : List (List UInt8)) (left : Int) (w : World) (h : RDev B w x l is ps left false) (hl : 0 ≤ left) (hl2 : left ≤ 9223372036854775807) (hll : l.length ≤ 4096) :
    Calls Try.prog 39 #[.pointer (some ⟨x, 0, none⟩)] w fun e w' =>
      (left = 1 ∧ e = .returned (.int .i64 2) ∧ RDev B w' x l is ps (lower left) true ∧ Keeps B w w') ∨ (left ≠ 1 ∧ e = .returned (.int .i64 0) ∧ RDev B w' x (flL l ps is l.length) (flIs is l.length) ps (lower left) false ∧ Keeps B w w') := by
  have HACT := hid (ract_any B x l is ps left w h hl hl2)
  obtain ⟨lv, iv, pv, h1, -, -, -, -, q6, q7, -⟩ := h.ex
  have c4 := cell_at h1 4
  simp at c4
  clear h h1
  go_enter Try.func39, Try.ntmps39
  go_wp2_with fail
  refine HACT.out.mono ?_
  rintro e w2 ⟨rfl, h2, k2⟩
  by_cases h1 : left = 1
  · have e1 : decide (left = 1) = true := decide_eq_true h1
    rw [e1] at h2
    have H2 := hid h2
    have HK2 := hid k2
    clear HACT h2 k2
    rw [e1]
    go_wp2_with fail
    go_ret
    exact .inl ⟨h1, rfl, H2.out, HK2.out⟩
  · have e1 : decide (left = 1) = false := decide_eq_false h1
    rw [e1] at h2
    have H2 := hid h2
    have HK2 := hid k2
    clear HACT h2 k2
    rw [e1]
    go_wp2_with fail
    go_loopw [4] (fun i wr => ∃ n : Nat, i = .int .i64 (n : Int) ∧ n ≤ l.length ∧ RDev B wr x (flL l ps is n) (flIs is n) ps (lower left) false ∧ Keeps B w wr) (fun i _ => l.length - (intOf i).toNat)
    case atStart => exact ⟨0, rfl, by omega, H2.out, HK2.out⟩
    case round =>
      obtain ⟨n, rfl, hn, hD, hk⟩ := hrel
      have hln := flL_len l ps is n
      by_cases hlt : n < l.length
      · obtain ⟨sl, hsl⟩ : ∃ sl, (flL l ps is n)[n]? = some sl := ⟨_, List.getElem?_eq_getElem (by omega)⟩
        obtain ⟨t, ht⟩ : ∃ t, ps[n]? = some t := ⟨_, List.getElem?_eq_getElem (by omega)⟩
        obtain ⟨b, hb⟩ : ∃ b, is[n]? = some b := ⟨_, List.getElem?_eq_getElem (by omega)⟩
        have hb2 : (flIs is n)[n]? = some b := by rw [flIs_get is n n (Nat.le_refl _)]; exact hb
        obtain ⟨g1, c1, g2, c2, g3, c3, e1', r1, r2, r3⟩ := hD.page hsl hb2 ht
        rw [hln] at e1'
        have d0 := cell_at e1' 0
        have d1 := cell_at e1' 1
        have d2 := cell_at e1' 2
        simp at d0 d1 d2
        cases b with
        | false =>
          have eL : flL l ps is (n + 1) = flL l ps is n := by simp [flL, hb]
          have eI : flIs is (n + 1) = flIs is n := by simp [flIs, hb]
          have HD := hid hD
          have HK := hid hk
          clear hD hk e1' r1 r3
          go_wp2_with fail
          go_roundw
          case rel => exact ⟨n + 1, by go_num, by omega, by rw [eL, eI]; exact HD.out, HK.out⟩
          case measure => simp [intOf]; omega
        | true =>
          have eL : flL l ps is (n + 1) = (flL l ps is n).set n t := by simp [flL, hb, ht]
          have eI : flIs is (n + 1) = (flIs is n).set n false := by simp [flIs, hb]
          obtain ⟨m1, b1⟩ := hD.setL e1' n t
          have z1 := hD.freeL e1' n
          have hgx : x ≠ g1 := fun e => hD.neL e1' e
          have hk1 := Keeps.setCell (S := fun q => q = g1) (Keeps.refl _ wr) (p := ⟨g1, n, none⟩) (fun _ => rfl) (.string (str t))
          have e2' := hk1.at_ e1' hgx
          obtain ⟨m2, b2⟩ := m1.setIs e2' n false
          have z2 := m1.freeIs e2' n
          have d1' := cell_at e2' 1
          simp at d1'
          obtain ⟨g1', c1', g2', c2', g3', c3', e2'', -, r2', -⟩ := m1.page (p := n) (s := t) (by simp only [List.getElem?_set_self', hsl]; rfl) hb2 ht
          rw [e2'] at e2''
          simp only [Option.some.injEq, Obj.cells.injEq, and_true, Array.mk.injEq, List.cons.injEq, Value.slice.injEq, Addr.mk.injEq] at e2''
          obtain rfl := e2''.2.1.1
          clear e2''
          have HD := hid m2
          have HK := hid (Keeps.setCell (p := ⟨g2, n, none⟩) (Keeps.setCell (p := ⟨g1, n, none⟩) hk (fun _ => b1) (.string (str t))) (fun _ => b2) (.bool false))
          clear hD hk e1' e2' m1 m2 b1 b2 hk1
          go_wp2_with fail
          go_region
          all_goals
            go_wp2
            go_roundw
            case rel => exact ⟨n + 1, by go_num, by omega, by rw [eL, eI]; exact HD.out.fresh (Keeps.refl _ _).drew, HK.out.drew⟩
            case measure => simp [intOf]; omega
      · obtain rfl : n = l.length := by omega
        have HD := hid hD
        have HK := hid hk
        obtain ⟨lv', iv', pv', e1', e2', -⟩ := hD.ex
        obtain ⟨ao', cp', rfl⟩ := ownsRow_slice e2'.1
        rw [hln] at e1'
        have d0 := cell_at e1' 0
        simp at d0
        clear hD hk e1' e2'
        go_wp2_with fail
        go_ret
        exact .inr ⟨h1, rfl, HD.out, HK.out⟩
end Go.Proofs.Ytbhienlalpbflaa

namespace Go.Proofs.Ytbhienlalpbflaa
open Go.RowKit Go.Maps

/-- what is pending of the first n pages, in order -/
def rpend (is : List Bool) (ps : List (List UInt8)) : Nat → List (Int × List UInt8)
  | 0 => []
  | n + 1 => match is[n]? with
    | some true => rpend is ps n ++ [((n : Int), (ps[n]?).getD [])]
    | _ => rpend is ps n
theorem rpend_len (is : List Bool) (ps : List (List UInt8)) : ∀ n, (rpend is ps n).length ≤ n
  | 0 => Nat.le_refl _
  | n + 1 => by
    have ih := rpend_len is ps n
    unfold rpend
    split
    · simp; omega
    · omega
theorem rpend_mem (is : List Bool) (ps : List (List UInt8)) : ∀ n (x : Int × List UInt8), x ∈ rpend is ps n → ∃ p : Nat, x.1 = (p : Int) ∧ p < n ∧ is[p]? = some true ∧ x.2 = (ps[p]?).getD []
  | 0, x, h => by cases h
  | n + 1, x, h => by
    unfold rpend at h
    split at h
    · rename_i hi
      rw [List.mem_append, List.mem_singleton] at h
      rcases h with h | rfl
      · obtain ⟨p, h1, h2, h3⟩ := rpend_mem is ps n x h
        exact ⟨p, h1, by omega, h3⟩
      · exact ⟨n, rfl, by omega, hi, rfl⟩
    · obtain ⟨p, h1, h2, h3⟩ := rpend_mem is ps n x h
      exact ⟨p, h1, by omega, h3⟩

set_option maxRecDepth 100000 in
set_option maxHeartbeats 4000000 in
theorem rpending_any (B : Nat → Prop) (x : Nat) (l : List (List UInt8)) (is : List Bool) (ps : List (List UInt8)) (left : Int) (dead : Bool) (w : World) (h : RDev B w x l is ps left dead) (hll : l.length ≤ 4096) :
    Calls Try.prog 22 #[.pointer (some ⟨x, 0, none⟩)] w fun e w' => ∃ v, e = .returned v ∧ w'.ownsRow 0 69 2 v (rpend is ps l.length).length (writeCells (rpend is ps l.length)) ∧ (∀ g, v.ownBlock = some g → w.heap.size ≤ g) ∧ Fresh w w' := by
  obtain ⟨i0, hi, hz0, hz1, hz2⟩ := info_parts Try.infoWrite
  obtain ⟨lv, iv, pv, h1, q2, -, -, -, q6, q7, -⟩ := h.ex
  obtain ⟨ao', cp', rfl⟩ := ownsRow_slice q2.1
  have H1 := hid h1
  have HH := hid h
  clear h h1 q2
  go_enter Try.func22, Try.ntmps22
  go_wp2_with fail
  go_loopw [3, 4] (fun s i wr => ∃ n : Nat, i = .int .i64 (n : Int) ∧ n ≤ l.length ∧ wr.ownsRow 0 69 2 s (rpend is ps n).length (writeCells (rpend is ps n)) ∧ (∀ g, s.ownBlock = some g → w.heap.size ≤ g) ∧ Fresh w wr) (fun _ i _ => l.length - (intOf i).toNat)
  case atStart => exact ⟨0, rfl, by omega, World.ownsRow_nil _ _ _ _, (fun _ h => nomatch h), Keeps.refl _ _⟩
  case round =>
    obtain ⟨n, rfl, hn, hrow, hnew, fr⟩ := hrel
    obtain ⟨so, scap, rfl⟩ := ownsRow_slice hrow
    have d0 := cell_at (fr.at_ H1.out (fun h => h)) 0
    simp at d0
    by_cases hlt : n < l.length
    · obtain ⟨sl, hsl⟩ : ∃ sl, l[n]? = some sl := ⟨_, List.getElem?_eq_getElem hlt⟩
      obtain ⟨t, ht⟩ : ∃ t, ps[n]? = some t := ⟨_, List.getElem?_eq_getElem (by omega)⟩
      obtain ⟨b, hb⟩ : ∃ b, is[n]? = some b := ⟨_, List.getElem?_eq_getElem (by omega)⟩
      obtain ⟨g1, c1, g2, c2, g3, c3, e1', r1, r2, r3⟩ := (HH.out.fresh fr).page hsl hb ht
      have d0 := cell_at e1' 0
      have d1 := cell_at e1' 1
      have d2 := cell_at e1' 2
      simp at d0 d1 d2
      cases b with
      | false =>
        have eP : rpend is ps (n + 1) = rpend is ps n := by simp [rpend, hb]
        clear e1' r1 r3
        go_wp2_with fail
        go_roundw
        case rel => exact ⟨n + 1, by go_num, by omega, by rw [eP]; exact hrow, hnew, fr⟩
        case measure => simp [intOf]; omega
      | true =>
        have eP : rpend is ps (n + 1) = rpend is ps n ++ [((n : Int), t)] := by simp [rpend, hb, ht]
        have hpl := rpend_len is ps n
        clear e1' r1
        go_wp2_with (at_builtin; refine wpList_push2 rfl (.tmp 21) (.tmp 31) 38 rfl 69 i0 (.agg #[.int .i64 0, .string ⟨#[]⟩]) 24 Try.underlying38 hi hz0 hz1 hz2 rfl wr hrow _ _ (by rfl) (by rfl) rfl rfl (by omega) (by unfold maxLen; omega) ?_)
        intro v4 w4 ha
        obtain ⟨ao4, cp4, rfl⟩ := ownsRow_slice ha.row
        have f4 : Fresh w w4 := fr.trans' ha.keeps fun i hi h => by have := hnew i h; omega
        have hrow4 := ha.row
        have hown4 : ∀ g, (Value.slice ao4 ((rpend is ps n).length + 1) cp4).ownBlock = some g → w.heap.size ≤ g := fun g hg => by
          rcases ha.own g hg with h | h
          · exact hnew g h
          · have := fr.size; omega
        have hrow5 : w4.ownsRow 0 69 2 (.slice ao4 ((rpend is ps n).length + 1) cp4) (rpend is ps (n + 1)).length (writeCells (rpend is ps (n + 1))) := by
          rw [eP, writeCells_snoc, List.length_append]; exact hrow4
        clear ha hrow4 hrow hnew
        go_wp2
        go_roundw
        case rel => exact ⟨n + 1, by go_num, by omega, hrow5, hown4, f4⟩
        case measure => simp [intOf]; omega
    · obtain rfl : n = l.length := by omega
      go_wp2_with fail
      go_ret
      exact ⟨_, rfl, hrow, hnew, fr⟩
end Go.Proofs.Ytbhienlalpbflaa
