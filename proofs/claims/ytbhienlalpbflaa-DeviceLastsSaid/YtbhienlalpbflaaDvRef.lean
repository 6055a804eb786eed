/-
  The document's device: Load and New: is there one, and which error?
-/
import Derived.Test.YtbhienlalpbflaaDvNew
import Derived.Test.YtbhienlalpbflaaDvPage
namespace Go.Proofs.Ytbhienlalpbflaa
open Go.RowKit Go.Maps

theorem heap_at_alloc {w : World} {c : Array Value} {e : TypeId} {k : Nat} (h : k = w.heap.size) : (w.alloc (.cells c e)).heap[k]? = some (.cells c e (0, 0)) := by
  subst h
  exact heap_alloc_new w (.cells c e)
theorem wpList_appendAll {P : Program} {ops : Array Oper} {rest : List Oper} {o : Oper} {a : Act} {Q : Exit → Act → World → Prop} {w : World} (hgd : o.guard = none) (s x : Operand) (t : TypeId)
    (ho : o.op = .call { callee := .builtin .append, args := #[s, x], argTypes := #[t, t] })
    (e : TypeId) (i : TypeInfo) (z : Value) (bytes : Nat) (ht : P.underlying t = some (.slice e)) (hi : P.info? e = some i) (hz : i.zero = some z) (hsize : i.size = 1) (hby : i.bytes = bytes) (hzs : z.cells.size = 1)
    {v : Value} {n : Nat} {xs : List Value} (hown : w.ownsRow 0 e 1 v n xs) (xv : Value) (m : Nat) (news : List Value) (hs : a.eval s = v) (hx : a.eval x = xv) (hsrc : Src P 1 t xv m news w)
    (hn : n + m ≤ maxLen) (hb : (n + m) * bytes ≤ 140737488355328)
    (h : ∀ v' w', Appended e 1 w w' v v' (n + m) (xs ++ news) → wpList P ops Q rest (a.put o.dst v') w') : wpList P ops Q (o :: rest) a w := by
  refine wpList_plain hgd fun K hK => ?_
  obtain ⟨v', w', hr, h1, h4⟩ := run_append_row (P := P) w t t o.type e i z 1 bytes ht hi hz hsize hby hzs (by decide) v n xs hown xv m news hsrc hn hb
  unfold Oper.wp
  simp [execOp, ho, resolve, invoke, builtin, hs, hx, hr, Result.andThen]
  exact hK _ _ (h v' w' h1)
theorem Try.infoBool : (Try.prog.info? 4).map (fun i => (i.zero, i.size, i.bytes)) = some (some (.bool false), 1, 1) := by kernel_rfl

/-- is there one? -/
def There (ev : Int) (p : Option Addr) : Prop := (ev = 0 ↔ p ≠ none)

set_option maxRecDepth 100000 in
set_option maxHeartbeats 4000000 in
theorem refload_any (v : Value) (l : List (List UInt8)) (w : World) (h : TextsAt w v l) (hll : l.length ≤ 9223372036854775807) (hs : ∀ s ∈ l, s.length ≤ 9223372036854775807) :
    Calls Try.prog 12 #[v] w fun e w' => ∃ p, e = .returned (.tuple #[.pointer p, .int .i64 (loadErr l)]) ∧ Fresh w w' ∧ There (loadErr l) p := by
  have hsrc := fun W (hW : TextsAt W v l) => Src.ofTexts (P := Try.prog) Try.underlying30 hW
  have h' := h
  obtain ⟨ao, cap, rfl, hc⟩ := h'
  obtain ⟨i0, hi, hz0, hz1, hz2⟩ := info_parts Try.infoText
  obtain ⟨j0, hj, hy0, hy1, hy2⟩ := info_parts Try.infoBool
  by_cases h4 : l.length < 4 ∨ 4096 < l.length
  · have hE : loadErr l = 1 := by rw [loadErr, if_pos h4]
    rw [hE]
    have h41 : ((l.length : Int) < 4) ∨ (4096 : Int) < (l.length : Int) := by omega
    clear h hs hE h4 hc hsrc
    by_cases h5 : (l.length : Int) < 4
    · go_enter Try.func12, Try.ntmps12
      go_wp2_with fail
      go_ret2
      exact ⟨none, rfl, Keeps.refl _ _, by simp [There]⟩
    · have h6 : (4096 : Int) < (l.length : Int) := h41.resolve_left h5
      clear h41
      go_enter Try.func12, Try.ntmps12
      go_wp2_with fail
      go_ret2
      exact ⟨none, rfl, Keeps.refl _ _, by simp [There]⟩
  · have h5 : ¬ (l.length : Int) < 4 := by omega
    have h6 : ¬ (4096 : Int) < (l.length : Int) := by omega
    have hEv : loadErr l = if every256 l = true then 0 else 91 := by rw [loadErr, if_neg h4]
    have HEV := hid hEv
    have HC := hid hc
    have HS := hid hs
    have HT := hid h
    have HSRC := hid hsrc
    clear hEv hc hs h hsrc h4
    go_enter Try.func12, Try.ntmps12
    go_wp2_with fail
    go_loopw [4] (fun i wr => ∃ n : Nat, i = .int .i64 (n : Int) ∧ n ≤ l.length ∧ Hid (every256 l = every256 (l.drop n)) ∧ w = wr) (fun i _ => l.length - (intOf i).toNat)
    case atStart => exact ⟨0, rfl, by omega, rfl, rfl⟩
    case round =>
      obtain ⟨n, rfl, hn, HE, rfl⟩ := hrel
      by_cases hlt : n < l.length
      · obtain ⟨s, hs⟩ : ∃ s, l[n]? = some s := ⟨l[n], by simp⟩
        obtain ⟨bb, off, hao, hbb, hcell⟩ := HC.out n s hs
        have hE := HE.out
        rw [drop_cons hs] at hE
        simp only [every256] at hE
        have hsl := HS.out s (List.mem_of_getElem? hs)
        have hsz := str_size s
        subst hao
        by_cases h256 : s.length = 256
        · have hE2 : Hid (every256 l = every256 (l.drop (n + 1))) := by rw [Hid, hE]; simp [h256]
          have hq : ((s.length : Int) != 256) = false := by rw [h256]; rfl
          clear hE hs HE h256
          go_wp2_with fail
          go_roundw
          case rel => exact ⟨n + 1, by go_num, by omega, hE2, by first | rfl | trivial⟩
          case measure => simp [intOf]; omega
        · have hE2 : Hid (every256 l = false) := by rw [Hid, hE]; simp [h256]
          have hq : ((s.length : Int) != 256) = true := by rw [bne_iff_ne]; omega
          clear hE hs HE h256
          go_wp2_with fail
          go_ret2
          refine ⟨none, ?_, Keeps.refl _ _, ?_⟩
          · rw [HEV.out, hE2.out]; rfl
          · rw [HEV.out, hE2.out]; simp [There]
      · have hE2 : Hid (every256 l = true) := by rw [Hid, HE.out, List.drop_eq_nil_of_le (by omega)]; rfl
        have hl4 : l.length ≤ 4096 := by omega
        clear HE
        go_wp2_with fail
        have frx : Fresh w w.drew := (Keeps.refl _ _).drew
        go_cut [5] (fun s5 wx => ∃ bd v1 v2, s5 = .pointer (some ⟨bd, 0, none⟩) ∧ wx.heap[bd]? = some (.cells #[.slice none 0 0, v1, v2, .int .i64 0, .bool false] 57 (0, 0)) ∧ w.heap.size ≤ bd ∧ Fresh w wx)
        case first =>
          obtain ⟨MB, hMB⟩ : ∃ MB, ∀ W, (Instr.makeSlice 55 (.int .i64 (l.length : Int)) (.int .i64 (l.length : Int))).run Try.prog W = .ok (.slice (some ⟨W.heap.size, 0, none⟩) l.length l.length) (W.alloc (.cells MB 4)) := ⟨_, fun W => by
            have := run_make W 55 4 j0 (.bool false) Try.underlying55 hj hy0 .i64 .i64 (l.length : Int) (l.length : Int) (by omega) (by omega) (by rw [hy2]; omega) (by omega)
            rw [Int.toNat_natCast] at this
            exact this⟩
          obtain ⟨MS, hMS⟩ : ∃ MS, ∀ W, (Instr.makeSlice 30 (.int .i64 (l.length : Int)) (.int .i64 (l.length : Int))).run Try.prog W = .ok (.slice (some ⟨W.heap.size, 0, none⟩) l.length l.length) (W.alloc (.cells MS 9)) := ⟨_, fun W => by
            have := run_make W 30 9 i0 (.string ⟨#[]⟩) Try.underlying30 hi hz0 .i64 .i64 (l.length : Int) (l.length : Int) (by omega) (by omega) (by rw [hz2]; omega) (by omega)
            rw [Int.toNat_natCast] at this
            exact this⟩
          go_region
          all_goals
            go_wp2
            go_meet
            exact ⟨_, _, _, rfl, heap_at_alloc (by simp), by omega, ((frx.alloc _).alloc _).alloc _⟩
        case rest =>
          obtain ⟨bd, v1, v2, rfl, hbox, hbd, fr⟩ := hcut
          have q0 := cell_at hbox 0
          have z0 := free_at hbox 0
          simp at q0
          have hsr := HSRC.out wc (HT.out.fresh fr)
          clear frx
          go_wp2_with (at_builtin; refine wpList_appendAll rfl (.tmp 38) (.tmp 39) 30 rfl 9 i0 (.string ⟨#[]⟩) 16 Try.underlying30 hi hz0 hz1 hz2 rfl (World.ownsRow_nil _ _ _ _) _ _ _ (by rfl) (by rfl) hsr (by unfold maxLen; omega) (by omega) ?_)
          intro v4 w4 ha
          have k4 := ha.keeps
          obtain ⟨ao4, cp4, rfl⟩ := ownsRow_slice ha.row
          have hbox4 := k4.at_ hbox (fun h => by cases h)
          have q4 := cell_at hbox4 0
          have z4 := free_at hbox4 0
          simp at q4
          have f4 : Fresh w w4 := fr.trans' k4 (fun i hi h => by cases h)
          clear ha q0 z0
          go_wp2_with fail
          go_ret2
          refine ⟨some ⟨bd, 0, none⟩, ?_, f4.trans' (Keeps.setCell (S := fun q => q = bd) (Keeps.refl _ w4) (p := ⟨bd, 0, none⟩) (fun _ => rfl) _) (fun i hi h => by omega), ?_⟩
          · rw [HEV.out, hE2.out]; rfl
          · rw [HEV.out, hE2.out]; simp [There]
end Go.Proofs.Ytbhienlalpbflaa
