/-
  The program's trie: Check.
-/
import Derived.Test.YtmflbchiapdhbaaGreatDoorMTrC
namespace Go.Proofs.YtmflbchiapdhbaaGreatDoor
open Go.RowKit Go.Shelf

attribute [local go_sem] Oper.semAt_some

def rungs (k g : List UInt8) (pre : List Place) : List UInt8 := pre.foldl (fun h x => rung k x.1.1 x.1.2 h) g
theorem rungs_snoc (k g : List UInt8) (pre : List Place) (x : Place) : rungs k g (pre ++ [x]) = rung k x.1.1 x.1.2 (rungs k g pre) := by simp [rungs]
theorem rungs_length (k g : List UInt8) (hg : g.length = 32) (pre : List Place) : (rungs k g pre).length = 32 := by
  have h : ∀ (p : List Place) (h : List UInt8), h.length = 32 → (rungs k h p).length = 32 := by
    intro p
    induction p with
    | nil => intro h hh; exact hh
    | cons x r ih => intro h _; exact ih _ (rung_length _ _ _ _)
  exact h pre g hg
theorem rungs_climb (k g : List UInt8) (l : List (List UInt8)) (h256 : l.length ≤ 256) (h32 : ∀ s ∈ l, s.length = 32) : ∀ n, n ≤ l.length → rungs k g (upto (fromEnd l) n) = climb k (l.length - n) (l.drop (l.length - n)) g := by
  intro n
  induction n with
  | zero => intro _; simp [upto, rungs, climb]
  | succ n ih =>
    intro hn
    obtain ⟨m, hm⟩ : ∃ m, l.length - (n + 1) = m := ⟨_, rfl⟩
    have hm1 : l.length - n = m + 1 := by omega
    have hn1 : n = l.length - 1 - m := by omega
    have hs : l[m]? = some (l[m]'(by omega)) := by simp
    have hp := fromEnd_eq l m _ (by omega) h256 hs (h32 _ (List.getElem_mem _))
    rw [upto_succ, rungs_snoc, ih (by omega), hm, hm1, hn1, hp, drop_cons hs]
    rfl

set_option maxRecDepth 100000 in
set_option maxHeartbeats 1000000 in
theorem backward_any (v : Value) (hv : ∃ ao n cap, v = .slice ao n cap) (w : World) :
    Calls Tryz.prog 39 #[v] w fun e w' => e = .returned (.func (.func 58) #[] #[.pointer (some ⟨w.heap.size, 0, none⟩)]) ∧ w.alloc (.cells #[v] 41) = w' := by
  obtain ⟨ao, n, cap, rfl⟩ := hv
  go_enter Tryz.func39, Tryz.ntmps39
  go_wp2_with fail
  go_ret
  exact ⟨rfl, rfl⟩

set_option maxRecDepth 100000 in
set_option maxHeartbeats 4000000 in
theorem check_any (v : Value) (l : List (List UInt8)) (pt : Bool) (pk pv key value : List UInt8) (there : Bool) (root : List UInt8) (w : World) (hl : TextsAt w v l) (hd : Dig w) (hpk : pk.length ≤ 9223372036854775807) (hpv : pv.length ≤ 9223372036854775807) (hkey : key.length ≤ 9223372036854775807) (hval : value.length ≤ 9223372036854775807) (hll : l.length ≤ 9223372036854775807) (hs : ∀ s ∈ l, s.length ≤ 9223372036854775807) :
    Calls Tryz.prog 14 #[.agg #[v, .bool pt, .string (str pk), .string (str pv)], .string (str key), .string (str value), .bool there, .string (str root)] w fun e w' => e = .returned (.int .i64 (checkOf l pt pk pv key value there root)) ∧ Fresh w w' := by
  have hskey := str_size key
  have hsval := str_size value
  by_cases hlong : tooLong key value there = true
  · have hF : Hid (checkOf l pt pk pv key value there root = 242) := by simp [Hid, checkOf, hlong]
    cases there
    · have h200 : 200 < key.length := by simpa [tooLong] using hlong
      clear hlong
      go_enter Tryz.func14, Tryz.ntmps14
      go_wp2_with fail
      go_ret
      exact ⟨by rw [hF.out]; rfl, (Keeps.refl _ _).alloc _⟩
    · have h200 : 200 < key.length ∨ 1000 < value.length := by simpa [tooLong] using hlong
      clear hlong
      by_cases h2 : 200 < key.length
      · go_enter Tryz.func14, Tryz.ntmps14
        go_wp2_with fail
        go_ret
        exact ⟨by rw [hF.out]; rfl, (Keeps.refl _ _).alloc _⟩
      · have h3 : 1000 < value.length := by omega
        clear h200
        go_enter Tryz.func14, Tryz.ntmps14
        go_wp2_with fail
        go_ret
        exact ⟨by rw [hF.out]; rfl, (Keeps.refl _ _).alloc _⟩
  have hk200 : ¬ 200 < key.length := fun h => hlong (by simp [tooLong, h])
  have hv1000 : there = true → ¬ 1000 < value.length := fun e h => hlong (by simp [tooLong, e, h])
  have hC : Hid (checkOf l pt pk pv key value there root = if fits l pt pk pv key value there = false then 240 else if climb (sha key) 0 l (ground pt pk pv) = root then 0 else 241) := by simp [Hid, checkOf, hlong]
  have hfit : Hid (fits l pt pk pv key value there = true → l.length ≤ 256 ∧ (∀ s ∈ l, s.length = 32) ∧ (pt = true → pk.length = 32 ∧ pv.length = 32)) := fun h => by
    simp only [fits, formOf, Bool.and_eq_true, decide_eq_true_eq] at h
    refine ⟨h.1.1.1, every32_mem h.1.1.2, fun hp => ?_⟩
    have := h.1.2
    rw [if_pos hp] at this
    simp only [Bool.and_eq_true, decide_eq_true_eq] at this
    exact ⟨this.1.1, this.1.2⟩
  clear hlong
  have f1 : Fresh w (w.alloc (.cells #[v, .bool pt, .string (str pk), .string (str pv)] 43)) := (Keeps.refl _ _).alloc _
  have hformed := formed_any v l pt pk pv key value there (w.alloc (.cells #[v, .bool pt, .string (str pk), .string (str pv)] 43)) (by
      obtain ⟨ao, cap, rfl, hc⟩ := hl
      exact ⟨ao, cap, rfl, fun j s hj => by
        obtain ⟨bb, off, e1, e2, e3⟩ := hc j s hj
        exact ⟨bb, off, e1, Nat.lt_of_lt_of_le e2 f1.size, (f1.cell (p := ⟨bb, off + j, none⟩) e2 (fun h => h)).trans e3⟩⟩) (hd.fresh f1) hpk hpv (by omega) (fun e => by have := hv1000 e; omega) hll hs
  have hb1 := heap_alloc_new w (.cells #[v, .bool pt, .string (str pk), .string (str pv)] 43)
  obtain ⟨ao, cap, rfl, hc⟩ := hl
  have HC := hid hc
  have HS := hid hs
  clear hc hs
  cases hfi : fits l pt pk pv key value there
  · have hF : Hid (checkOf l pt pk pv key value there root = 240) := by rw [Hid, hC.out, if_pos hfi]
    rw [hfi] at hformed
    have HFO := hid hformed
    clear hformed hfit hfi hC
    cases there
    · clear hv1000
      go_enter Tryz.func14, Tryz.ntmps14
      go_wp2_with fail
      refine HFO.out.mono ?_
      rintro e w1 ⟨rfl, fa⟩
      go_wp2
      go_ret
      exact ⟨by rw [hF.out]; rfl, f1.trans fa⟩
    · have h3 : ¬ 1000 < value.length := hv1000 rfl
      clear hv1000
      go_enter Tryz.func14, Tryz.ntmps14
      go_wp2_with fail
      refine HFO.out.mono ?_
      rintro e w1 ⟨rfl, fa⟩
      go_wp2
      go_ret
      exact ⟨by rw [hF.out]; rfl, f1.trans fa⟩
  · obtain ⟨h256, h32, hpl⟩ := hfit.out hfi
    have HG : Hid (checkOf l pt pk pv key value there root = if climb (sha key) 0 l (ground pt pk pv) = root then 0 else 241) := by
      rw [Hid, hC.out, if_neg]
      rw [hfi]; simp
    rw [hfi] at hformed
    have HFO := hid hformed
    have HPL := hid hpl
    have H32 := hid h32
    clear hformed hfit hfi hC hpl h32
    cases there
    · cases pt
      · skip
        clear hv1000
        refine (callsIn_wide (n := 9)).1 (callsIn_of_wp_marks Tryz.func14 rfl trivial ?_ rfl)
        refine wpIn_wide.2 ?_
        simp only [Tryz.ntmps14, List.size_toArray, List.length_cons, List.length_nil, Nat.reduceAdd, Nat.reduceSub, Array.replicate_succ, Array.replicate_zero, List.push_toArray, List.append_toArray, List.nil_append, List.cons_append]
        go_wp2_with fail
        refine HFO.out.mono ?_
        rintro e w1 ⟨rfl, fa⟩
        have fr1 := f1.trans fa
        have hb := fa.at_ hb1 (fun h => h)
        clear fa hb1 f1 HFO
        go_wp2_with fail
        refine (none_any w1).mono ?_
        rintro e w2 ⟨rfl, fa⟩
        have fr2 := fr1.trans fa
        have hb := fa.at_ hb (fun h => h)
        clear fa fr1
        have hlt2 : w.heap.size < w2.heap.size := lt_of_block hb
        have hh := heap_alloc_new w2 (.cells #[.string (str nought32)] 9)
        have hb3 := ((Keeps.refl (fun _ => False) w2).alloc (.cells #[.string (str nought32)] 9)).at_ hb (fun h => h)
        have fr3 := fr2.alloc (.cells #[.string (str nought32)] 9)
        have c1 := cell_at hb3 1
        have c2 := cell_at hb3 2
        have c3 := cell_at hb3 3
        have c0 := cell_at hb3 0
        simp at c0 c1 c2 c3
        go_wp2_with (go_at_call 15; fail)
        obtain ⟨hn, hhn⟩ : ∃ hn, w2.heap.size = hn := ⟨_, rfl⟩
        have hgrd : (Hid (ground false pk pv = nought32)) := rfl
        obtain ⟨g, hg⟩ : ∃ g, nought32 = g := ⟨_, rfl⟩
        have hgl : g.length = 32 := by subst hg; rfl
        rw [hg] at hgrd hh hb3 fr3 ⊢
        rw [hhn] at hh hlt2 ⊢
        have hset := hh
        have hbS := hb3
        have frT := fr3
        have hnw := hlt2
        have hWs : (w2.alloc (.cells #[.string (str g)] 9)).heap.size = hn + 1 := by simp [hhn]
        clear hg fr3 fr2 hh hb3 hb hlt2 c0 c1 c2 c3
        generalize w2.alloc (.cells #[.string (str g)] 9) = W at hset hbS frT hWs ⊢
        generalize hn + 1 = bn at hWs ⊢
        refine (psum_one bn key (W.alloc (.cells #[.string (str key)] 9)) (by rw [← hWs]; exact heap_alloc_new W _) ((hd.fresh frT).alloc _) (by omega)).mono ?_
        rintro e w5 ⟨rfl, fa⟩
        have f5 := (((Keeps.refl (fun _ => False) W).alloc (.cells #[.string (str key)] 9))).trans fa
        have fr5 := frT.trans f5
        have hh5 := f5.at_ hset (fun h => h)
        have hb5 := f5.at_ hbS (fun h => h)
        obtain ⟨k, hk⟩ : ∃ k, sha key = k := ⟨_, rfl⟩
        have hkl : k.length = 32 := by subst hk; exact sha_len _
        have HG2 : Hid (checkOf l false pk pv key value false root = if climb k 0 l g = root then 0 else 241) := by rw [Hid, HG.out, hgrd, hk]
        rw [hk]
        clear HG hk fa f5 hset hbS frT hWs
        have c0 := cell_at (((Keeps.refl (fun _ => False) w5).alloc (.cells #[.string (str k)] 9)).at_ hb5 (fun h => h)) 0
        simp at c0
        go_wp2_with (go_at_call 39; refine (backward_any (.slice ao l.length cap) ⟨_, _, _, rfl⟩ _).mono ?_; rintro e w6 ⟨rfl, rfl⟩)
        have hH6 : ((w5.alloc (.cells #[.string (str k)] 9)).alloc (.cells #[.slice ao l.length cap] 41)).heap[hn]? = _ := (((Keeps.refl (fun _ => False) w5).alloc (.cells #[.string (str k)] 9)).alloc (.cells #[.slice ao l.length cap] 41)).at_ hh5 (fun h => h)
        have hK6 : ((w5.alloc (.cells #[.string (str k)] 9)).alloc (.cells #[.slice ao l.length cap] 41)).heap[w5.heap.size]? = _ := ((Keeps.refl (fun _ => False) _).alloc (.cells #[.slice ao l.length cap] 41)).at_ (heap_alloc_new w5 (.cells #[.string (str k)] 9)) (fun h => h)
        have hB6 : ((w5.alloc (.cells #[.string (str k)] 9)).alloc (.cells #[.slice ao l.length cap] 41)).heap[w5.heap.size + 1]? = some (.cells #[.slice ao l.length cap] 41 (0, 0)) := by
          have := heap_alloc_new (w5.alloc (.cells #[.string (str k)] 9)) (.cells #[.slice ao l.length cap] 41)
          rwa [World.size_alloc] at this
        have fr6 : Fresh w ((w5.alloc (.cells #[.string (str k)] 9)).alloc (.cells #[.slice ao l.length cap] 41)) := (fr5.alloc _).alloc _
        have hn5 : hn < w5.heap.size := lt_of_block hh5
        have hs6 : ((w5.alloc (.cells #[.string (str k)] 9)).alloc (.cells #[.slice ao l.length cap] 41)).heap.size = w5.heap.size + 1 + 1 := by simp
        clear fr5 hh5 hb5 c0
        generalize (w5.alloc (.cells #[.string (str k)] 9)).alloc (.cells #[.slice ao l.length cap] 41) = W6 at hH6 hK6 hB6 fr6 hs6 ⊢
        generalize w5.heap.size = kn at hK6 hB6 hn5 hs6 ⊢
        have hseq : SeqStopsK Fence.wide (9 - 1) Tryz.prog 58 #[.pointer (some ⟨kn + 1, 0, none⟩)] (fun x : Place => #[Value.int .i64 (x.1.1 : Int), .string (str x.1.2)]) (fun A B => Keeps (fun q => q = hn ∨ W6.heap.size ≤ q) A B)
            (fun ys => ys = upto (fromEnd l) l.length) (fun _ => True) l.length W6 := fun ll J Jx W' hW' _ _ hY h0 => by
          refine back1_in Fence.wide (9 - 1) trivial rfl (by decide) ll (kn + 1) ao cap l h256 H32.out (fun q => q = hn ∨ W6.heap.size ≤ q) J Jx hY W' (by have := hW'.size; omega) (by omega) ?_ ?_ h0
          · rw [hW'.cell (p := ⟨kn + 1, 0, none⟩) (by simp only; omega), cell_at hB6 0]; rfl
          · intro j s hj
            obtain ⟨bb, off, e1, e2, e3⟩ := HC.out j s hj
            refine ⟨bb, off, e1, Nat.lt_of_lt_of_le e2 (Nat.le_trans fr6.size hW'.size), by have := fr6.size; omega, ?_⟩
            rw [hW'.cell (p := ⟨bb, off + j, none⟩) (by have := fr6.size; simp only; omega), fr6.cell (p := ⟨bb, off + j, none⟩) e2 (fun h => h)]
            exact e3
        refine (wpIn_wide (n := 9)).1 ?_
        apply wpIn_rangeFunc_ownF (F := Fence.wide) (n := 9) (P := Tryz.prog) (α := Place) rfl (by decide) (gf := 58) (lb := #[.pointer (some ⟨kn + 1, 0, none⟩)]) rfl trivial (enters_of Tryz.func58 (by kernel_rfl) rfl)
          hseq (fun h k => h.trans k) (fun W' ll o o' hl ho _ _ => ?hkb) (Below.refl _ _) (fun _ => rfl)
          (fun pre W' => W'.heap[hn]? = some (.cells #[.string (str (rungs k g pre))] 9 (0, 0)) ∧ Keeps (fun q => q = hn ∨ W6.heap.size ≤ q) W6 W') (fun _ _ _ => False)
          (fun pre A B row hs hg hr => ⟨(hg.block hn (lt_of_block hs.1) (fun e => by have := (hr hn e.symm).1; omega)).trans hs.1, hs.2.grown hg (fun q e _ => .inr (hr q e).1)⟩)
          (fun _ _ _ _ _ hs _ _ => hs)
          ⟨hH6, Keeps.refl _ _⟩
        case hkb =>
          refine ⟨rfl, rfl, rfl, by simp, fun q hq hnq => World.putObj_heap_other (fun e => hnq (.inr (by omega)))⟩
        case hassign =>
          intro ll x W' K hK
          gi_wp2
          exact hK
        case hbody =>
          rintro ll pre x W' ⟨hh, hk6⟩ _
          have hkk := hk6.at_ hK6 (by have := lt_of_block hK6; omega)
          have hc := cell_at hkk 0
          have hc2 := cell_at hh 0
          have hz2 := free_at hh 0
          simp at hc hc2
          have hdW : Dig W' := (hd.fresh fr6).keepsOut hk6 (by have := hd.room; omega) (by have := hd.room; have := fr6.size; omega)
          have hrl := rungs_length k g hgl pre
          obtain ⟨hcur, hcure⟩ : ∃ hcur, rungs k g pre = hcur := ⟨_, rfl⟩
          have hRS := rungs_snoc k g pre x
          have hp1 := x.2.1
          have hp2 := x.2.2
          obtain ⟨pi, hpi⟩ : ∃ pi, x.1.1 = pi := ⟨_, rfl⟩
          obtain ⟨ps, hps⟩ : ∃ ps, x.1.2 = ps := ⟨_, rfl⟩
          rw [hcure] at hh hc2 hrl hRS
          rw [hpi, hps] at hRS
          rw [hpi] at hp1 ⊢
          rw [hps] at hp2 ⊢
          have HRS := hid hRS
          clear hRS hcure hpi hps
          have hbitc := bit_any k pi W' (by omega) (by omega)
          have HBIT := hid hbitc
          have hb1 : 1 ≤ (9 : Nat) - 1 - 1 := by decide
          by_cases hbit : bitAt k pi = 0
          · have hbi : ((bitAt k pi : Int) == 0) = true := by rw [hbit]; rfl
            have HR : Hid (rung k pi ps hcur = sha ([3] ++ (hcur ++ ps))) := by rw [Hid, rung, if_pos hbit]; rfl
            clear hbit hbitc
            have fal : Fresh W' (W'.alloc (.cells #[.string (str [3]), .string (str hcur), .string (str ps)] 9)) := (Keeps.refl _ _).alloc _
            have hsum := psum_three W'.heap.size [3] hcur ps (W'.alloc (.cells #[.string (str [3]), .string (str hcur), .string (str ps)] 9)) (heap_alloc_new W' _) (hdW.fresh fal) (by simp; omega)
            rw [← HR.out, ← HRS.out] at hsum
            have HSUM := hid hsum
            clear hsum
            gi_wp2_with (first
              | (refine ⟨trivial, ?_⟩; gi_at_call 40; refine (CallsIn.inRound ll (callsIn_wide.2 HBIT.out)).mono ?_; rintro e w7 ⟨rfl, rfl⟩)
              | (refine ⟨trivial, ?_⟩; gi_at_call 15; refine (CallsIn.inRound ll (callsIn_wide.2 HSUM.out)).mono ?_; rintro e w8 ⟨rfl, fa⟩; have f8 := fal.trans fa; have hh8 := f8.at_ hh (fun h => h); have h8c := cell_at hh8 0; have h8z := free_at hh8 0; simp at h8c))
            have hset8 := heap_setCell_at hh8 0 (.string (str (rungs k g (pre ++ [x]))))
            have kS : Keeps (fun q => q = hn ∨ W6.heap.size ≤ q) W' (w8.setCell ⟨hn, 0, none⟩ (.string (str (rungs k g (pre ++ [x]))))) := Keeps.setCell (S := fun q => q = hn ∨ W6.heap.size ≤ q) (f8.mono (fun _ _ h => h.elim)) (p := ⟨hn, 0, none⟩) (fun _ => .inl rfl) _
            exact ⟨(KeepsOthers.mk f8.size (fun q o ho _ => f8.at_ ho (fun h => h))).trans (KeepsOthers.setCell _ _ _), kS, by simpa using hset8, hk6.trans kS⟩
          · have hbi : ((bitAt k pi : Int) == 0) = false := by simp [hbit]
            have HR : Hid (rung k pi ps hcur = sha ([3] ++ (ps ++ hcur))) := by rw [Hid, rung, if_neg hbit]; rfl
            clear hbit hbitc
            have fal : Fresh W' (W'.alloc (.cells #[.string (str [3]), .string (str ps), .string (str hcur)] 9)) := (Keeps.refl _ _).alloc _
            have hsum := psum_three W'.heap.size [3] ps hcur (W'.alloc (.cells #[.string (str [3]), .string (str ps), .string (str hcur)] 9)) (heap_alloc_new W' _) (hdW.fresh fal) (by simp; omega)
            rw [← HR.out, ← HRS.out] at hsum
            have HSUM := hid hsum
            clear hsum
            gi_wp2_with (first
              | (refine ⟨trivial, ?_⟩; gi_at_call 40; refine (CallsIn.inRound ll (callsIn_wide.2 HBIT.out)).mono ?_; rintro e w7 ⟨rfl, rfl⟩)
              | (refine ⟨trivial, ?_⟩; gi_at_call 15; refine (CallsIn.inRound ll (callsIn_wide.2 HSUM.out)).mono ?_; rintro e w8 ⟨rfl, fa⟩; have f8 := fal.trans fa; have hh8 := f8.at_ hh (fun h => h); have h8c := cell_at hh8 0; have h8z := free_at hh8 0; simp at h8c))
            have hset8 := heap_setCell_at hh8 0 (.string (str (rungs k g (pre ++ [x]))))
            have kS : Keeps (fun q => q = hn ∨ W6.heap.size ≤ q) W' (w8.setCell ⟨hn, 0, none⟩ (.string (str (rungs k g (pre ++ [x]))))) := Keeps.setCell (S := fun q => q = hn ∨ W6.heap.size ≤ q) (f8.mono (fun _ _ h => h.elim)) (p := ⟨hn, 0, none⟩) (fun _ => .inl rfl) _
            exact ⟨(KeepsOthers.mk f8.size (fun q o ho _ => f8.at_ ho (fun h => h))).trans (KeepsOthers.setCell _ _ _), kS, by simpa using hset8, hk6.trans kS⟩
        case hdone =>
          rintro D ys W' hD rfl ⟨hh, hk6⟩ hDD
          have hcl := rungs_climb k g l h256 H32.out l.length (Nat.le_refl _)
          rw [Nat.sub_self, List.drop_zero] at hcl
          obtain ⟨h, hhe⟩ : ∃ h, climb k 0 l g = h := ⟨_, rfl⟩
          rw [hcl, hhe] at hh
          rw [hhe] at HG2
          have hc := cell_at hh 0
          simp at hc
          have fin : Fresh w (W'.putObj D (.deferred none)) := by
            have k7 : Keeps (fun q => q = hn ∨ W6.heap.size ≤ q) W' (W'.putObj D (.deferred none)) := ⟨rfl, rfl, rfl, by simp, fun q hq hnq => World.putObj_heap_other (fun e => hnq (.inr (by omega)))⟩
            exact ((fr6.mono (S' := fun q => q = hn ∨ W6.heap.size ≤ q) (fun _ _ h => h.elim)).trans (hk6.trans k7)).mono (fun i hi h => by have := fr6.size; omega)
          clear hcl hhe hh hk6 hseq hK6 hB6 hH6
          by_cases he : h = root
          · have hne : ((str h).toList == (str root).toList) = true := by rw [he]; simp
            have HG4 : Hid (checkOf l false pk pv key value false root = 0) := by rw [Hid, HG2.out, if_pos he]
            clear he HG2
            go_wp2_with fail
            refine ⟨by simp, .inl ⟨_, _, rfl, run_takeDeferred hDD, ?_⟩⟩
            exact ⟨_, results_tmp rfl _ _ _, by rw [HG4.out]; rfl, fin⟩
          · have hne : ((str h).toList == (str root).toList) = false := by rw [str_toList, str_toList]; simp [he]
            have HG4 : Hid (checkOf l false pk pv key value false root = 241) := by rw [Hid, HG2.out, if_neg he]
            clear he HG2
            go_wp2_with fail
            refine ⟨by simp, .inl ⟨_, _, rfl, run_takeDeferred hDD, ?_⟩⟩
            exact ⟨_, results_tmp rfl _ _ _, by rw [HG4.out]; rfl, fin⟩
        case hstop =>
          intro D c pre W' _ _ h _
          exact h.elim
      · skip
        clear hv1000
        refine (callsIn_wide (n := 9)).1 (callsIn_of_wp_marks Tryz.func14 rfl trivial ?_ rfl)
        refine wpIn_wide.2 ?_
        simp only [Tryz.ntmps14, List.size_toArray, List.length_cons, List.length_nil, Nat.reduceAdd, Nat.reduceSub, Array.replicate_succ, Array.replicate_zero, List.push_toArray, List.append_toArray, List.nil_append, List.cons_append]
        go_wp2_with fail
        refine HFO.out.mono ?_
        rintro e w1 ⟨rfl, fa⟩
        have fr1 := f1.trans fa
        have hb := fa.at_ hb1 (fun h => h)
        clear fa hb1 f1 HFO
        go_wp2_with fail
        refine (none_any w1).mono ?_
        rintro e w2 ⟨rfl, fa⟩
        have fr2 := fr1.trans fa
        have hb := fa.at_ hb (fun h => h)
        clear fa fr1
        have hlt2 : w.heap.size < w2.heap.size := lt_of_block hb
        have hh := heap_alloc_new w2 (.cells #[.string (str nought32)] 9)
        have hb3 := ((Keeps.refl (fun _ => False) w2).alloc (.cells #[.string (str nought32)] 9)).at_ hb (fun h => h)
        have fr3 := fr2.alloc (.cells #[.string (str nought32)] 9)
        have c1 := cell_at hb3 1
        have c2 := cell_at hb3 2
        have c3 := cell_at hb3 3
        have c0 := cell_at hb3 0
        simp at c0 c1 c2 c3
        have hll32 := HPL.out (by first | rfl | trivial)
        go_wp2_with fail
        refine (leafHash_any pk pv _ (hd.fresh fr3).tab (hd.fresh fr3).first (hd.fresh fr3).room (by omega)).mono ?_
        rintro e w4 ⟨rfl, fa⟩
        have frx := fr3.trans fa
        have hbx := fa.at_ hb3 (fun h => h)
        have hhx := fa.at_ hh (fun h => h)
        clear fa fr2 fr3 hb3 hh c0 c1 c2 c3 hb
        have h0x := cell_at hhx 0
        have z0x := free_at hhx 0
        simp at h0x
        obtain ⟨hn, hhn⟩ : ∃ hn, w2.heap.size = hn := ⟨_, rfl⟩
        rw [hhn] at hhx hlt2 h0x z0x ⊢
        have hH : w4.heap.size > hn := lt_of_block hhx
        have hset := heap_setCell_at hhx 0 (.string (str (sha (2 :: (pk ++ pv)))))
        have hgrd : (Hid (ground true pk pv = sha (2 :: (pk ++ pv)))) := rfl
        obtain ⟨g, hg⟩ : ∃ g, sha (2 :: (pk ++ pv)) = g := ⟨_, rfl⟩
        have hgl : g.length = 32 := by subst hg; exact sha_len _
        rw [hg] at hset hgrd ⊢
        have frS : Keeps (fun q => q = hn) w (w4.setCell ⟨hn, 0, none⟩ (.string (str g))) := Keeps.setCell (S := fun q => q = hn) (frx.mono (fun _ _ h => h.elim)) (p := ⟨hn, 0, none⟩) (fun _ => rfl) _
        have hnw : w.heap.size < hn := hlt2
        have hbS : (w4.setCell ⟨hn, 0, none⟩ (.string (str g))).heap[w.heap.size]? = _ := (heap_setCell_ne w4 ⟨hn, 0, none⟩ (.string (str g)) w.heap.size (by simp only; omega)).trans hbx
        have frT : Fresh w (w4.setCell ⟨hn, 0, none⟩ (.string (str g))) := frS.mono (fun i hi h => by omega)
        go_wp2_with (go_at_call 15; fail)
        have hset : (w4.setCell ⟨hn, 0, none⟩ (.string (str g))).heap[hn]? = some (.cells #[.string (str g)] 9 (0, 0)) := by simpa using hset
        have hWs : (w4.setCell ⟨hn, 0, none⟩ (.string (str g))).heap.size = w4.heap.size := by simp
        clear hg frS h0x z0x frx hbx hhx hH hlt2
        generalize w4.setCell ⟨hn, 0, none⟩ (.string (str g)) = W at hset hbS frT hWs ⊢
        generalize w4.heap.size = bn at hWs ⊢
        refine (psum_one bn key (W.alloc (.cells #[.string (str key)] 9)) (by rw [← hWs]; exact heap_alloc_new W _) ((hd.fresh frT).alloc _) (by omega)).mono ?_
        rintro e w5 ⟨rfl, fa⟩
        have f5 := (((Keeps.refl (fun _ => False) W).alloc (.cells #[.string (str key)] 9))).trans fa
        have fr5 := frT.trans f5
        have hh5 := f5.at_ hset (fun h => h)
        have hb5 := f5.at_ hbS (fun h => h)
        obtain ⟨k, hk⟩ : ∃ k, sha key = k := ⟨_, rfl⟩
        have hkl : k.length = 32 := by subst hk; exact sha_len _
        have HG2 : Hid (checkOf l true pk pv key value false root = if climb k 0 l g = root then 0 else 241) := by rw [Hid, HG.out, hgrd, hk]
        rw [hk]
        clear HG hk fa f5 hset hbS frT hWs
        have c0 := cell_at (((Keeps.refl (fun _ => False) w5).alloc (.cells #[.string (str k)] 9)).at_ hb5 (fun h => h)) 0
        simp at c0
        go_wp2_with (go_at_call 39; refine (backward_any (.slice ao l.length cap) ⟨_, _, _, rfl⟩ _).mono ?_; rintro e w6 ⟨rfl, rfl⟩)
        have hH6 : ((w5.alloc (.cells #[.string (str k)] 9)).alloc (.cells #[.slice ao l.length cap] 41)).heap[hn]? = _ := (((Keeps.refl (fun _ => False) w5).alloc (.cells #[.string (str k)] 9)).alloc (.cells #[.slice ao l.length cap] 41)).at_ hh5 (fun h => h)
        have hK6 : ((w5.alloc (.cells #[.string (str k)] 9)).alloc (.cells #[.slice ao l.length cap] 41)).heap[w5.heap.size]? = _ := ((Keeps.refl (fun _ => False) _).alloc (.cells #[.slice ao l.length cap] 41)).at_ (heap_alloc_new w5 (.cells #[.string (str k)] 9)) (fun h => h)
        have hB6 : ((w5.alloc (.cells #[.string (str k)] 9)).alloc (.cells #[.slice ao l.length cap] 41)).heap[w5.heap.size + 1]? = some (.cells #[.slice ao l.length cap] 41 (0, 0)) := by
          have := heap_alloc_new (w5.alloc (.cells #[.string (str k)] 9)) (.cells #[.slice ao l.length cap] 41)
          rwa [World.size_alloc] at this
        have fr6 : Fresh w ((w5.alloc (.cells #[.string (str k)] 9)).alloc (.cells #[.slice ao l.length cap] 41)) := (fr5.alloc _).alloc _
        have hn5 : hn < w5.heap.size := lt_of_block hh5
        have hs6 : ((w5.alloc (.cells #[.string (str k)] 9)).alloc (.cells #[.slice ao l.length cap] 41)).heap.size = w5.heap.size + 1 + 1 := by simp
        clear fr5 hh5 hb5 c0
        generalize (w5.alloc (.cells #[.string (str k)] 9)).alloc (.cells #[.slice ao l.length cap] 41) = W6 at hH6 hK6 hB6 fr6 hs6 ⊢
        generalize w5.heap.size = kn at hK6 hB6 hn5 hs6 ⊢
        have hseq : SeqStopsK Fence.wide (9 - 1) Tryz.prog 58 #[.pointer (some ⟨kn + 1, 0, none⟩)] (fun x : Place => #[Value.int .i64 (x.1.1 : Int), .string (str x.1.2)]) (fun A B => Keeps (fun q => q = hn ∨ W6.heap.size ≤ q) A B)
            (fun ys => ys = upto (fromEnd l) l.length) (fun _ => True) l.length W6 := fun ll J Jx W' hW' _ _ hY h0 => by
          refine back1_in Fence.wide (9 - 1) trivial rfl (by decide) ll (kn + 1) ao cap l h256 H32.out (fun q => q = hn ∨ W6.heap.size ≤ q) J Jx hY W' (by have := hW'.size; omega) (by omega) ?_ ?_ h0
          · rw [hW'.cell (p := ⟨kn + 1, 0, none⟩) (by simp only; omega), cell_at hB6 0]; rfl
          · intro j s hj
            obtain ⟨bb, off, e1, e2, e3⟩ := HC.out j s hj
            refine ⟨bb, off, e1, Nat.lt_of_lt_of_le e2 (Nat.le_trans fr6.size hW'.size), by have := fr6.size; omega, ?_⟩
            rw [hW'.cell (p := ⟨bb, off + j, none⟩) (by have := fr6.size; simp only; omega), fr6.cell (p := ⟨bb, off + j, none⟩) e2 (fun h => h)]
            exact e3
        refine (wpIn_wide (n := 9)).1 ?_
        apply wpIn_rangeFunc_ownF (F := Fence.wide) (n := 9) (P := Tryz.prog) (α := Place) rfl (by decide) (gf := 58) (lb := #[.pointer (some ⟨kn + 1, 0, none⟩)]) rfl trivial (enters_of Tryz.func58 (by kernel_rfl) rfl)
          hseq (fun h k => h.trans k) (fun W' ll o o' hl ho _ _ => ?hkb) (Below.refl _ _) (fun _ => rfl)
          (fun pre W' => W'.heap[hn]? = some (.cells #[.string (str (rungs k g pre))] 9 (0, 0)) ∧ Keeps (fun q => q = hn ∨ W6.heap.size ≤ q) W6 W') (fun _ _ _ => False)
          (fun pre A B row hs hg hr => ⟨(hg.block hn (lt_of_block hs.1) (fun e => by have := (hr hn e.symm).1; omega)).trans hs.1, hs.2.grown hg (fun q e _ => .inr (hr q e).1)⟩)
          (fun _ _ _ _ _ hs _ _ => hs)
          ⟨hH6, Keeps.refl _ _⟩
        case hkb =>
          refine ⟨rfl, rfl, rfl, by simp, fun q hq hnq => World.putObj_heap_other (fun e => hnq (.inr (by omega)))⟩
        case hassign =>
          intro ll x W' K hK
          gi_wp2
          exact hK
        case hbody =>
          rintro ll pre x W' ⟨hh, hk6⟩ _
          have hkk := hk6.at_ hK6 (by have := lt_of_block hK6; omega)
          have hc := cell_at hkk 0
          have hc2 := cell_at hh 0
          have hz2 := free_at hh 0
          simp at hc hc2
          have hdW : Dig W' := (hd.fresh fr6).keepsOut hk6 (by have := hd.room; omega) (by have := hd.room; have := fr6.size; omega)
          have hrl := rungs_length k g hgl pre
          obtain ⟨hcur, hcure⟩ : ∃ hcur, rungs k g pre = hcur := ⟨_, rfl⟩
          have hRS := rungs_snoc k g pre x
          have hp1 := x.2.1
          have hp2 := x.2.2
          obtain ⟨pi, hpi⟩ : ∃ pi, x.1.1 = pi := ⟨_, rfl⟩
          obtain ⟨ps, hps⟩ : ∃ ps, x.1.2 = ps := ⟨_, rfl⟩
          rw [hcure] at hh hc2 hrl hRS
          rw [hpi, hps] at hRS
          rw [hpi] at hp1 ⊢
          rw [hps] at hp2 ⊢
          have HRS := hid hRS
          clear hRS hcure hpi hps
          have hbitc := bit_any k pi W' (by omega) (by omega)
          have HBIT := hid hbitc
          have hb1 : 1 ≤ (9 : Nat) - 1 - 1 := by decide
          by_cases hbit : bitAt k pi = 0
          · have hbi : ((bitAt k pi : Int) == 0) = true := by rw [hbit]; rfl
            have HR : Hid (rung k pi ps hcur = sha ([3] ++ (hcur ++ ps))) := by rw [Hid, rung, if_pos hbit]; rfl
            clear hbit hbitc
            have fal : Fresh W' (W'.alloc (.cells #[.string (str [3]), .string (str hcur), .string (str ps)] 9)) := (Keeps.refl _ _).alloc _
            have hsum := psum_three W'.heap.size [3] hcur ps (W'.alloc (.cells #[.string (str [3]), .string (str hcur), .string (str ps)] 9)) (heap_alloc_new W' _) (hdW.fresh fal) (by simp; omega)
            rw [← HR.out, ← HRS.out] at hsum
            have HSUM := hid hsum
            clear hsum
            gi_wp2_with (first
              | (refine ⟨trivial, ?_⟩; gi_at_call 40; refine (CallsIn.inRound ll (callsIn_wide.2 HBIT.out)).mono ?_; rintro e w7 ⟨rfl, rfl⟩)
              | (refine ⟨trivial, ?_⟩; gi_at_call 15; refine (CallsIn.inRound ll (callsIn_wide.2 HSUM.out)).mono ?_; rintro e w8 ⟨rfl, fa⟩; have f8 := fal.trans fa; have hh8 := f8.at_ hh (fun h => h); have h8c := cell_at hh8 0; have h8z := free_at hh8 0; simp at h8c))
            have hset8 := heap_setCell_at hh8 0 (.string (str (rungs k g (pre ++ [x]))))
            have kS : Keeps (fun q => q = hn ∨ W6.heap.size ≤ q) W' (w8.setCell ⟨hn, 0, none⟩ (.string (str (rungs k g (pre ++ [x]))))) := Keeps.setCell (S := fun q => q = hn ∨ W6.heap.size ≤ q) (f8.mono (fun _ _ h => h.elim)) (p := ⟨hn, 0, none⟩) (fun _ => .inl rfl) _
            exact ⟨(KeepsOthers.mk f8.size (fun q o ho _ => f8.at_ ho (fun h => h))).trans (KeepsOthers.setCell _ _ _), kS, by simpa using hset8, hk6.trans kS⟩
          · have hbi : ((bitAt k pi : Int) == 0) = false := by simp [hbit]
            have HR : Hid (rung k pi ps hcur = sha ([3] ++ (ps ++ hcur))) := by rw [Hid, rung, if_neg hbit]; rfl
            clear hbit hbitc
            have fal : Fresh W' (W'.alloc (.cells #[.string (str [3]), .string (str ps), .string (str hcur)] 9)) := (Keeps.refl _ _).alloc _
            have hsum := psum_three W'.heap.size [3] ps hcur (W'.alloc (.cells #[.string (str [3]), .string (str ps), .string (str hcur)] 9)) (heap_alloc_new W' _) (hdW.fresh fal) (by simp; omega)
            rw [← HR.out, ← HRS.out] at hsum
            have HSUM := hid hsum
            clear hsum
            gi_wp2_with (first
              | (refine ⟨trivial, ?_⟩; gi_at_call 40; refine (CallsIn.inRound ll (callsIn_wide.2 HBIT.out)).mono ?_; rintro e w7 ⟨rfl, rfl⟩)
              | (refine ⟨trivial, ?_⟩; gi_at_call 15; refine (CallsIn.inRound ll (callsIn_wide.2 HSUM.out)).mono ?_; rintro e w8 ⟨rfl, fa⟩; have f8 := fal.trans fa; have hh8 := f8.at_ hh (fun h => h); have h8c := cell_at hh8 0; have h8z := free_at hh8 0; simp at h8c))
            have hset8 := heap_setCell_at hh8 0 (.string (str (rungs k g (pre ++ [x]))))
            have kS : Keeps (fun q => q = hn ∨ W6.heap.size ≤ q) W' (w8.setCell ⟨hn, 0, none⟩ (.string (str (rungs k g (pre ++ [x]))))) := Keeps.setCell (S := fun q => q = hn ∨ W6.heap.size ≤ q) (f8.mono (fun _ _ h => h.elim)) (p := ⟨hn, 0, none⟩) (fun _ => .inl rfl) _
            exact ⟨(KeepsOthers.mk f8.size (fun q o ho _ => f8.at_ ho (fun h => h))).trans (KeepsOthers.setCell _ _ _), kS, by simpa using hset8, hk6.trans kS⟩
        case hdone =>
          rintro D ys W' hD rfl ⟨hh, hk6⟩ hDD
          have hcl := rungs_climb k g l h256 H32.out l.length (Nat.le_refl _)
          rw [Nat.sub_self, List.drop_zero] at hcl
          obtain ⟨h, hhe⟩ : ∃ h, climb k 0 l g = h := ⟨_, rfl⟩
          rw [hcl, hhe] at hh
          rw [hhe] at HG2
          have hc := cell_at hh 0
          simp at hc
          have fin : Fresh w (W'.putObj D (.deferred none)) := by
            have k7 : Keeps (fun q => q = hn ∨ W6.heap.size ≤ q) W' (W'.putObj D (.deferred none)) := ⟨rfl, rfl, rfl, by simp, fun q hq hnq => World.putObj_heap_other (fun e => hnq (.inr (by omega)))⟩
            exact ((fr6.mono (S' := fun q => q = hn ∨ W6.heap.size ≤ q) (fun _ _ h => h.elim)).trans (hk6.trans k7)).mono (fun i hi h => by have := fr6.size; omega)
          clear hcl hhe hh hk6 hseq hK6 hB6 hH6
          by_cases he : h = root
          · have hne : ((str h).toList == (str root).toList) = true := by rw [he]; simp
            have HG4 : Hid (checkOf l true pk pv key value false root = 0) := by rw [Hid, HG2.out, if_pos he]
            clear he HG2
            go_wp2_with fail
            refine ⟨by simp, .inl ⟨_, _, rfl, run_takeDeferred hDD, ?_⟩⟩
            exact ⟨_, results_tmp rfl _ _ _, by rw [HG4.out]; rfl, fin⟩
          · have hne : ((str h).toList == (str root).toList) = false := by rw [str_toList, str_toList]; simp [he]
            have HG4 : Hid (checkOf l true pk pv key value false root = 241) := by rw [Hid, HG2.out, if_neg he]
            clear he HG2
            go_wp2_with fail
            refine ⟨by simp, .inl ⟨_, _, rfl, run_takeDeferred hDD, ?_⟩⟩
            exact ⟨_, results_tmp rfl _ _ _, by rw [HG4.out]; rfl, fin⟩
        case hstop =>
          intro D c pre W' _ _ h _
          exact h.elim
    · cases pt
      · skip
        have h3 : ¬ 1000 < value.length := hv1000 rfl
        clear hv1000
        refine (callsIn_wide (n := 9)).1 (callsIn_of_wp_marks Tryz.func14 rfl trivial ?_ rfl)
        refine wpIn_wide.2 ?_
        simp only [Tryz.ntmps14, List.size_toArray, List.length_cons, List.length_nil, Nat.reduceAdd, Nat.reduceSub, Array.replicate_succ, Array.replicate_zero, List.push_toArray, List.append_toArray, List.nil_append, List.cons_append]
        go_wp2_with fail
        refine HFO.out.mono ?_
        rintro e w1 ⟨rfl, fa⟩
        have fr1 := f1.trans fa
        have hb := fa.at_ hb1 (fun h => h)
        clear fa hb1 f1 HFO
        go_wp2_with fail
        refine (none_any w1).mono ?_
        rintro e w2 ⟨rfl, fa⟩
        have fr2 := fr1.trans fa
        have hb := fa.at_ hb (fun h => h)
        clear fa fr1
        have hlt2 : w.heap.size < w2.heap.size := lt_of_block hb
        have hh := heap_alloc_new w2 (.cells #[.string (str nought32)] 9)
        have hb3 := ((Keeps.refl (fun _ => False) w2).alloc (.cells #[.string (str nought32)] 9)).at_ hb (fun h => h)
        have fr3 := fr2.alloc (.cells #[.string (str nought32)] 9)
        have c1 := cell_at hb3 1
        have c2 := cell_at hb3 2
        have c3 := cell_at hb3 3
        have c0 := cell_at hb3 0
        simp at c0 c1 c2 c3
        go_wp2_with (go_at_call 15; fail)
        obtain ⟨hn, hhn⟩ : ∃ hn, w2.heap.size = hn := ⟨_, rfl⟩
        have hgrd : (Hid (ground false pk pv = nought32)) := rfl
        obtain ⟨g, hg⟩ : ∃ g, nought32 = g := ⟨_, rfl⟩
        have hgl : g.length = 32 := by subst hg; rfl
        rw [hg] at hgrd hh hb3 fr3 ⊢
        rw [hhn] at hh hlt2 ⊢
        have hset := hh
        have hbS := hb3
        have frT := fr3
        have hnw := hlt2
        have hWs : (w2.alloc (.cells #[.string (str g)] 9)).heap.size = hn + 1 := by simp [hhn]
        clear hg fr3 fr2 hh hb3 hb hlt2 c0 c1 c2 c3
        generalize w2.alloc (.cells #[.string (str g)] 9) = W at hset hbS frT hWs ⊢
        generalize hn + 1 = bn at hWs ⊢
        refine (psum_one bn key (W.alloc (.cells #[.string (str key)] 9)) (by rw [← hWs]; exact heap_alloc_new W _) ((hd.fresh frT).alloc _) (by omega)).mono ?_
        rintro e w5 ⟨rfl, fa⟩
        have f5 := (((Keeps.refl (fun _ => False) W).alloc (.cells #[.string (str key)] 9))).trans fa
        have fr5 := frT.trans f5
        have hh5 := f5.at_ hset (fun h => h)
        have hb5 := f5.at_ hbS (fun h => h)
        obtain ⟨k, hk⟩ : ∃ k, sha key = k := ⟨_, rfl⟩
        have hkl : k.length = 32 := by subst hk; exact sha_len _
        have HG2 : Hid (checkOf l false pk pv key value true root = if climb k 0 l g = root then 0 else 241) := by rw [Hid, HG.out, hgrd, hk]
        rw [hk]
        clear HG hk fa f5 hset hbS frT hWs
        have c0 := cell_at (((Keeps.refl (fun _ => False) w5).alloc (.cells #[.string (str k)] 9)).at_ hb5 (fun h => h)) 0
        simp at c0
        go_wp2_with (go_at_call 39; refine (backward_any (.slice ao l.length cap) ⟨_, _, _, rfl⟩ _).mono ?_; rintro e w6 ⟨rfl, rfl⟩)
        have hH6 : ((w5.alloc (.cells #[.string (str k)] 9)).alloc (.cells #[.slice ao l.length cap] 41)).heap[hn]? = _ := (((Keeps.refl (fun _ => False) w5).alloc (.cells #[.string (str k)] 9)).alloc (.cells #[.slice ao l.length cap] 41)).at_ hh5 (fun h => h)
        have hK6 : ((w5.alloc (.cells #[.string (str k)] 9)).alloc (.cells #[.slice ao l.length cap] 41)).heap[w5.heap.size]? = _ := ((Keeps.refl (fun _ => False) _).alloc (.cells #[.slice ao l.length cap] 41)).at_ (heap_alloc_new w5 (.cells #[.string (str k)] 9)) (fun h => h)
        have hB6 : ((w5.alloc (.cells #[.string (str k)] 9)).alloc (.cells #[.slice ao l.length cap] 41)).heap[w5.heap.size + 1]? = some (.cells #[.slice ao l.length cap] 41 (0, 0)) := by
          have := heap_alloc_new (w5.alloc (.cells #[.string (str k)] 9)) (.cells #[.slice ao l.length cap] 41)
          rwa [World.size_alloc] at this
        have fr6 : Fresh w ((w5.alloc (.cells #[.string (str k)] 9)).alloc (.cells #[.slice ao l.length cap] 41)) := (fr5.alloc _).alloc _
        have hn5 : hn < w5.heap.size := lt_of_block hh5
        have hs6 : ((w5.alloc (.cells #[.string (str k)] 9)).alloc (.cells #[.slice ao l.length cap] 41)).heap.size = w5.heap.size + 1 + 1 := by simp
        clear fr5 hh5 hb5 c0
        generalize (w5.alloc (.cells #[.string (str k)] 9)).alloc (.cells #[.slice ao l.length cap] 41) = W6 at hH6 hK6 hB6 fr6 hs6 ⊢
        generalize w5.heap.size = kn at hK6 hB6 hn5 hs6 ⊢
        have hseq : SeqStopsK Fence.wide (9 - 1) Tryz.prog 58 #[.pointer (some ⟨kn + 1, 0, none⟩)] (fun x : Place => #[Value.int .i64 (x.1.1 : Int), .string (str x.1.2)]) (fun A B => Keeps (fun q => q = hn ∨ W6.heap.size ≤ q) A B)
            (fun ys => ys = upto (fromEnd l) l.length) (fun _ => True) l.length W6 := fun ll J Jx W' hW' _ _ hY h0 => by
          refine back1_in Fence.wide (9 - 1) trivial rfl (by decide) ll (kn + 1) ao cap l h256 H32.out (fun q => q = hn ∨ W6.heap.size ≤ q) J Jx hY W' (by have := hW'.size; omega) (by omega) ?_ ?_ h0
          · rw [hW'.cell (p := ⟨kn + 1, 0, none⟩) (by simp only; omega), cell_at hB6 0]; rfl
          · intro j s hj
            obtain ⟨bb, off, e1, e2, e3⟩ := HC.out j s hj
            refine ⟨bb, off, e1, Nat.lt_of_lt_of_le e2 (Nat.le_trans fr6.size hW'.size), by have := fr6.size; omega, ?_⟩
            rw [hW'.cell (p := ⟨bb, off + j, none⟩) (by have := fr6.size; simp only; omega), fr6.cell (p := ⟨bb, off + j, none⟩) e2 (fun h => h)]
            exact e3
        refine (wpIn_wide (n := 9)).1 ?_
        apply wpIn_rangeFunc_ownF (F := Fence.wide) (n := 9) (P := Tryz.prog) (α := Place) rfl (by decide) (gf := 58) (lb := #[.pointer (some ⟨kn + 1, 0, none⟩)]) rfl trivial (enters_of Tryz.func58 (by kernel_rfl) rfl)
          hseq (fun h k => h.trans k) (fun W' ll o o' hl ho _ _ => ?hkb) (Below.refl _ _) (fun _ => rfl)
          (fun pre W' => W'.heap[hn]? = some (.cells #[.string (str (rungs k g pre))] 9 (0, 0)) ∧ Keeps (fun q => q = hn ∨ W6.heap.size ≤ q) W6 W') (fun _ _ _ => False)
          (fun pre A B row hs hg hr => ⟨(hg.block hn (lt_of_block hs.1) (fun e => by have := (hr hn e.symm).1; omega)).trans hs.1, hs.2.grown hg (fun q e _ => .inr (hr q e).1)⟩)
          (fun _ _ _ _ _ hs _ _ => hs)
          ⟨hH6, Keeps.refl _ _⟩
        case hkb =>
          refine ⟨rfl, rfl, rfl, by simp, fun q hq hnq => World.putObj_heap_other (fun e => hnq (.inr (by omega)))⟩
        case hassign =>
          intro ll x W' K hK
          gi_wp2
          exact hK
        case hbody =>
          rintro ll pre x W' ⟨hh, hk6⟩ _
          have hkk := hk6.at_ hK6 (by have := lt_of_block hK6; omega)
          have hc := cell_at hkk 0
          have hc2 := cell_at hh 0
          have hz2 := free_at hh 0
          simp at hc hc2
          have hdW : Dig W' := (hd.fresh fr6).keepsOut hk6 (by have := hd.room; omega) (by have := hd.room; have := fr6.size; omega)
          have hrl := rungs_length k g hgl pre
          obtain ⟨hcur, hcure⟩ : ∃ hcur, rungs k g pre = hcur := ⟨_, rfl⟩
          have hRS := rungs_snoc k g pre x
          have hp1 := x.2.1
          have hp2 := x.2.2
          obtain ⟨pi, hpi⟩ : ∃ pi, x.1.1 = pi := ⟨_, rfl⟩
          obtain ⟨ps, hps⟩ : ∃ ps, x.1.2 = ps := ⟨_, rfl⟩
          rw [hcure] at hh hc2 hrl hRS
          rw [hpi, hps] at hRS
          rw [hpi] at hp1 ⊢
          rw [hps] at hp2 ⊢
          have HRS := hid hRS
          clear hRS hcure hpi hps
          have hbitc := bit_any k pi W' (by omega) (by omega)
          have HBIT := hid hbitc
          have hb1 : 1 ≤ (9 : Nat) - 1 - 1 := by decide
          by_cases hbit : bitAt k pi = 0
          · have hbi : ((bitAt k pi : Int) == 0) = true := by rw [hbit]; rfl
            have HR : Hid (rung k pi ps hcur = sha ([3] ++ (hcur ++ ps))) := by rw [Hid, rung, if_pos hbit]; rfl
            clear hbit hbitc
            have fal : Fresh W' (W'.alloc (.cells #[.string (str [3]), .string (str hcur), .string (str ps)] 9)) := (Keeps.refl _ _).alloc _
            have hsum := psum_three W'.heap.size [3] hcur ps (W'.alloc (.cells #[.string (str [3]), .string (str hcur), .string (str ps)] 9)) (heap_alloc_new W' _) (hdW.fresh fal) (by simp; omega)
            rw [← HR.out, ← HRS.out] at hsum
            have HSUM := hid hsum
            clear hsum
            gi_wp2_with (first
              | (refine ⟨trivial, ?_⟩; gi_at_call 40; refine (CallsIn.inRound ll (callsIn_wide.2 HBIT.out)).mono ?_; rintro e w7 ⟨rfl, rfl⟩)
              | (refine ⟨trivial, ?_⟩; gi_at_call 15; refine (CallsIn.inRound ll (callsIn_wide.2 HSUM.out)).mono ?_; rintro e w8 ⟨rfl, fa⟩; have f8 := fal.trans fa; have hh8 := f8.at_ hh (fun h => h); have h8c := cell_at hh8 0; have h8z := free_at hh8 0; simp at h8c))
            have hset8 := heap_setCell_at hh8 0 (.string (str (rungs k g (pre ++ [x]))))
            have kS : Keeps (fun q => q = hn ∨ W6.heap.size ≤ q) W' (w8.setCell ⟨hn, 0, none⟩ (.string (str (rungs k g (pre ++ [x]))))) := Keeps.setCell (S := fun q => q = hn ∨ W6.heap.size ≤ q) (f8.mono (fun _ _ h => h.elim)) (p := ⟨hn, 0, none⟩) (fun _ => .inl rfl) _
            exact ⟨(KeepsOthers.mk f8.size (fun q o ho _ => f8.at_ ho (fun h => h))).trans (KeepsOthers.setCell _ _ _), kS, by simpa using hset8, hk6.trans kS⟩
          · have hbi : ((bitAt k pi : Int) == 0) = false := by simp [hbit]
            have HR : Hid (rung k pi ps hcur = sha ([3] ++ (ps ++ hcur))) := by rw [Hid, rung, if_neg hbit]; rfl
            clear hbit hbitc
            have fal : Fresh W' (W'.alloc (.cells #[.string (str [3]), .string (str ps), .string (str hcur)] 9)) := (Keeps.refl _ _).alloc _
            have hsum := psum_three W'.heap.size [3] ps hcur (W'.alloc (.cells #[.string (str [3]), .string (str ps), .string (str hcur)] 9)) (heap_alloc_new W' _) (hdW.fresh fal) (by simp; omega)
            rw [← HR.out, ← HRS.out] at hsum
            have HSUM := hid hsum
            clear hsum
            gi_wp2_with (first
              | (refine ⟨trivial, ?_⟩; gi_at_call 40; refine (CallsIn.inRound ll (callsIn_wide.2 HBIT.out)).mono ?_; rintro e w7 ⟨rfl, rfl⟩)
              | (refine ⟨trivial, ?_⟩; gi_at_call 15; refine (CallsIn.inRound ll (callsIn_wide.2 HSUM.out)).mono ?_; rintro e w8 ⟨rfl, fa⟩; have f8 := fal.trans fa; have hh8 := f8.at_ hh (fun h => h); have h8c := cell_at hh8 0; have h8z := free_at hh8 0; simp at h8c))
            have hset8 := heap_setCell_at hh8 0 (.string (str (rungs k g (pre ++ [x]))))
            have kS : Keeps (fun q => q = hn ∨ W6.heap.size ≤ q) W' (w8.setCell ⟨hn, 0, none⟩ (.string (str (rungs k g (pre ++ [x]))))) := Keeps.setCell (S := fun q => q = hn ∨ W6.heap.size ≤ q) (f8.mono (fun _ _ h => h.elim)) (p := ⟨hn, 0, none⟩) (fun _ => .inl rfl) _
            exact ⟨(KeepsOthers.mk f8.size (fun q o ho _ => f8.at_ ho (fun h => h))).trans (KeepsOthers.setCell _ _ _), kS, by simpa using hset8, hk6.trans kS⟩
        case hdone =>
          rintro D ys W' hD rfl ⟨hh, hk6⟩ hDD
          have hcl := rungs_climb k g l h256 H32.out l.length (Nat.le_refl _)
          rw [Nat.sub_self, List.drop_zero] at hcl
          obtain ⟨h, hhe⟩ : ∃ h, climb k 0 l g = h := ⟨_, rfl⟩
          rw [hcl, hhe] at hh
          rw [hhe] at HG2
          have hc := cell_at hh 0
          simp at hc
          have fin : Fresh w (W'.putObj D (.deferred none)) := by
            have k7 : Keeps (fun q => q = hn ∨ W6.heap.size ≤ q) W' (W'.putObj D (.deferred none)) := ⟨rfl, rfl, rfl, by simp, fun q hq hnq => World.putObj_heap_other (fun e => hnq (.inr (by omega)))⟩
            exact ((fr6.mono (S' := fun q => q = hn ∨ W6.heap.size ≤ q) (fun _ _ h => h.elim)).trans (hk6.trans k7)).mono (fun i hi h => by have := fr6.size; omega)
          clear hcl hhe hh hk6 hseq hK6 hB6 hH6
          by_cases he : h = root
          · have hne : ((str h).toList == (str root).toList) = true := by rw [he]; simp
            have HG4 : Hid (checkOf l false pk pv key value true root = 0) := by rw [Hid, HG2.out, if_pos he]
            clear he HG2
            go_wp2_with fail
            refine ⟨by simp, .inl ⟨_, _, rfl, run_takeDeferred hDD, ?_⟩⟩
            exact ⟨_, results_tmp rfl _ _ _, by rw [HG4.out]; rfl, fin⟩
          · have hne : ((str h).toList == (str root).toList) = false := by rw [str_toList, str_toList]; simp [he]
            have HG4 : Hid (checkOf l false pk pv key value true root = 241) := by rw [Hid, HG2.out, if_neg he]
            clear he HG2
            go_wp2_with fail
            refine ⟨by simp, .inl ⟨_, _, rfl, run_takeDeferred hDD, ?_⟩⟩
            exact ⟨_, results_tmp rfl _ _ _, by rw [HG4.out]; rfl, fin⟩
        case hstop =>
          intro D c pre W' _ _ h _
          exact h.elim
      · skip
        have h3 : ¬ 1000 < value.length := hv1000 rfl
        clear hv1000
        refine (callsIn_wide (n := 9)).1 (callsIn_of_wp_marks Tryz.func14 rfl trivial ?_ rfl)
        refine wpIn_wide.2 ?_
        simp only [Tryz.ntmps14, List.size_toArray, List.length_cons, List.length_nil, Nat.reduceAdd, Nat.reduceSub, Array.replicate_succ, Array.replicate_zero, List.push_toArray, List.append_toArray, List.nil_append, List.cons_append]
        go_wp2_with fail
        refine HFO.out.mono ?_
        rintro e w1 ⟨rfl, fa⟩
        have fr1 := f1.trans fa
        have hb := fa.at_ hb1 (fun h => h)
        clear fa hb1 f1 HFO
        go_wp2_with fail
        refine (none_any w1).mono ?_
        rintro e w2 ⟨rfl, fa⟩
        have fr2 := fr1.trans fa
        have hb := fa.at_ hb (fun h => h)
        clear fa fr1
        have hlt2 : w.heap.size < w2.heap.size := lt_of_block hb
        have hh := heap_alloc_new w2 (.cells #[.string (str nought32)] 9)
        have hb3 := ((Keeps.refl (fun _ => False) w2).alloc (.cells #[.string (str nought32)] 9)).at_ hb (fun h => h)
        have fr3 := fr2.alloc (.cells #[.string (str nought32)] 9)
        have c1 := cell_at hb3 1
        have c2 := cell_at hb3 2
        have c3 := cell_at hb3 3
        have c0 := cell_at hb3 0
        simp at c0 c1 c2 c3
        have hll32 := HPL.out (by first | rfl | trivial)
        go_wp2_with fail
        refine (leafHash_any pk pv _ (hd.fresh fr3).tab (hd.fresh fr3).first (hd.fresh fr3).room (by omega)).mono ?_
        rintro e w4 ⟨rfl, fa⟩
        have frx := fr3.trans fa
        have hbx := fa.at_ hb3 (fun h => h)
        have hhx := fa.at_ hh (fun h => h)
        clear fa fr2 fr3 hb3 hh c0 c1 c2 c3 hb
        have h0x := cell_at hhx 0
        have z0x := free_at hhx 0
        simp at h0x
        obtain ⟨hn, hhn⟩ : ∃ hn, w2.heap.size = hn := ⟨_, rfl⟩
        rw [hhn] at hhx hlt2 h0x z0x ⊢
        have hH : w4.heap.size > hn := lt_of_block hhx
        have hset := heap_setCell_at hhx 0 (.string (str (sha (2 :: (pk ++ pv)))))
        have hgrd : (Hid (ground true pk pv = sha (2 :: (pk ++ pv)))) := rfl
        obtain ⟨g, hg⟩ : ∃ g, sha (2 :: (pk ++ pv)) = g := ⟨_, rfl⟩
        have hgl : g.length = 32 := by subst hg; exact sha_len _
        rw [hg] at hset hgrd ⊢
        have frS : Keeps (fun q => q = hn) w (w4.setCell ⟨hn, 0, none⟩ (.string (str g))) := Keeps.setCell (S := fun q => q = hn) (frx.mono (fun _ _ h => h.elim)) (p := ⟨hn, 0, none⟩) (fun _ => rfl) _
        have hnw : w.heap.size < hn := hlt2
        have hbS : (w4.setCell ⟨hn, 0, none⟩ (.string (str g))).heap[w.heap.size]? = _ := (heap_setCell_ne w4 ⟨hn, 0, none⟩ (.string (str g)) w.heap.size (by simp only; omega)).trans hbx
        have frT : Fresh w (w4.setCell ⟨hn, 0, none⟩ (.string (str g))) := frS.mono (fun i hi h => by omega)
        go_wp2_with (go_at_call 15; fail)
        have hset : (w4.setCell ⟨hn, 0, none⟩ (.string (str g))).heap[hn]? = some (.cells #[.string (str g)] 9 (0, 0)) := by simpa using hset
        have hWs : (w4.setCell ⟨hn, 0, none⟩ (.string (str g))).heap.size = w4.heap.size := by simp
        clear hg frS h0x z0x frx hbx hhx hH hlt2
        generalize w4.setCell ⟨hn, 0, none⟩ (.string (str g)) = W at hset hbS frT hWs ⊢
        generalize w4.heap.size = bn at hWs ⊢
        refine (psum_one bn key (W.alloc (.cells #[.string (str key)] 9)) (by rw [← hWs]; exact heap_alloc_new W _) ((hd.fresh frT).alloc _) (by omega)).mono ?_
        rintro e w5 ⟨rfl, fa⟩
        have f5 := (((Keeps.refl (fun _ => False) W).alloc (.cells #[.string (str key)] 9))).trans fa
        have fr5 := frT.trans f5
        have hh5 := f5.at_ hset (fun h => h)
        have hb5 := f5.at_ hbS (fun h => h)
        obtain ⟨k, hk⟩ : ∃ k, sha key = k := ⟨_, rfl⟩
        have hkl : k.length = 32 := by subst hk; exact sha_len _
        have HG2 : Hid (checkOf l true pk pv key value true root = if climb k 0 l g = root then 0 else 241) := by rw [Hid, HG.out, hgrd, hk]
        rw [hk]
        clear HG hk fa f5 hset hbS frT hWs
        have c0 := cell_at (((Keeps.refl (fun _ => False) w5).alloc (.cells #[.string (str k)] 9)).at_ hb5 (fun h => h)) 0
        simp at c0
        go_wp2_with (go_at_call 39; refine (backward_any (.slice ao l.length cap) ⟨_, _, _, rfl⟩ _).mono ?_; rintro e w6 ⟨rfl, rfl⟩)
        have hH6 : ((w5.alloc (.cells #[.string (str k)] 9)).alloc (.cells #[.slice ao l.length cap] 41)).heap[hn]? = _ := (((Keeps.refl (fun _ => False) w5).alloc (.cells #[.string (str k)] 9)).alloc (.cells #[.slice ao l.length cap] 41)).at_ hh5 (fun h => h)
        have hK6 : ((w5.alloc (.cells #[.string (str k)] 9)).alloc (.cells #[.slice ao l.length cap] 41)).heap[w5.heap.size]? = _ := ((Keeps.refl (fun _ => False) _).alloc (.cells #[.slice ao l.length cap] 41)).at_ (heap_alloc_new w5 (.cells #[.string (str k)] 9)) (fun h => h)
        have hB6 : ((w5.alloc (.cells #[.string (str k)] 9)).alloc (.cells #[.slice ao l.length cap] 41)).heap[w5.heap.size + 1]? = some (.cells #[.slice ao l.length cap] 41 (0, 0)) := by
          have := heap_alloc_new (w5.alloc (.cells #[.string (str k)] 9)) (.cells #[.slice ao l.length cap] 41)
          rwa [World.size_alloc] at this
        have fr6 : Fresh w ((w5.alloc (.cells #[.string (str k)] 9)).alloc (.cells #[.slice ao l.length cap] 41)) := (fr5.alloc _).alloc _
        have hn5 : hn < w5.heap.size := lt_of_block hh5
        have hs6 : ((w5.alloc (.cells #[.string (str k)] 9)).alloc (.cells #[.slice ao l.length cap] 41)).heap.size = w5.heap.size + 1 + 1 := by simp
        clear fr5 hh5 hb5 c0
        generalize (w5.alloc (.cells #[.string (str k)] 9)).alloc (.cells #[.slice ao l.length cap] 41) = W6 at hH6 hK6 hB6 fr6 hs6 ⊢
        generalize w5.heap.size = kn at hK6 hB6 hn5 hs6 ⊢
        have hseq : SeqStopsK Fence.wide (9 - 1) Tryz.prog 58 #[.pointer (some ⟨kn + 1, 0, none⟩)] (fun x : Place => #[Value.int .i64 (x.1.1 : Int), .string (str x.1.2)]) (fun A B => Keeps (fun q => q = hn ∨ W6.heap.size ≤ q) A B)
            (fun ys => ys = upto (fromEnd l) l.length) (fun _ => True) l.length W6 := fun ll J Jx W' hW' _ _ hY h0 => by
          refine back1_in Fence.wide (9 - 1) trivial rfl (by decide) ll (kn + 1) ao cap l h256 H32.out (fun q => q = hn ∨ W6.heap.size ≤ q) J Jx hY W' (by have := hW'.size; omega) (by omega) ?_ ?_ h0
          · rw [hW'.cell (p := ⟨kn + 1, 0, none⟩) (by simp only; omega), cell_at hB6 0]; rfl
          · intro j s hj
            obtain ⟨bb, off, e1, e2, e3⟩ := HC.out j s hj
            refine ⟨bb, off, e1, Nat.lt_of_lt_of_le e2 (Nat.le_trans fr6.size hW'.size), by have := fr6.size; omega, ?_⟩
            rw [hW'.cell (p := ⟨bb, off + j, none⟩) (by have := fr6.size; simp only; omega), fr6.cell (p := ⟨bb, off + j, none⟩) e2 (fun h => h)]
            exact e3
        refine (wpIn_wide (n := 9)).1 ?_
        apply wpIn_rangeFunc_ownF (F := Fence.wide) (n := 9) (P := Tryz.prog) (α := Place) rfl (by decide) (gf := 58) (lb := #[.pointer (some ⟨kn + 1, 0, none⟩)]) rfl trivial (enters_of Tryz.func58 (by kernel_rfl) rfl)
          hseq (fun h k => h.trans k) (fun W' ll o o' hl ho _ _ => ?hkb) (Below.refl _ _) (fun _ => rfl)
          (fun pre W' => W'.heap[hn]? = some (.cells #[.string (str (rungs k g pre))] 9 (0, 0)) ∧ Keeps (fun q => q = hn ∨ W6.heap.size ≤ q) W6 W') (fun _ _ _ => False)
          (fun pre A B row hs hg hr => ⟨(hg.block hn (lt_of_block hs.1) (fun e => by have := (hr hn e.symm).1; omega)).trans hs.1, hs.2.grown hg (fun q e _ => .inr (hr q e).1)⟩)
          (fun _ _ _ _ _ hs _ _ => hs)
          ⟨hH6, Keeps.refl _ _⟩
        case hkb =>
          refine ⟨rfl, rfl, rfl, by simp, fun q hq hnq => World.putObj_heap_other (fun e => hnq (.inr (by omega)))⟩
        case hassign =>
          intro ll x W' K hK
          gi_wp2
          exact hK
        case hbody =>
          rintro ll pre x W' ⟨hh, hk6⟩ _
          have hkk := hk6.at_ hK6 (by have := lt_of_block hK6; omega)
          have hc := cell_at hkk 0
          have hc2 := cell_at hh 0
          have hz2 := free_at hh 0
          simp at hc hc2
          have hdW : Dig W' := (hd.fresh fr6).keepsOut hk6 (by have := hd.room; omega) (by have := hd.room; have := fr6.size; omega)
          have hrl := rungs_length k g hgl pre
          obtain ⟨hcur, hcure⟩ : ∃ hcur, rungs k g pre = hcur := ⟨_, rfl⟩
          have hRS := rungs_snoc k g pre x
          have hp1 := x.2.1
          have hp2 := x.2.2
          obtain ⟨pi, hpi⟩ : ∃ pi, x.1.1 = pi := ⟨_, rfl⟩
          obtain ⟨ps, hps⟩ : ∃ ps, x.1.2 = ps := ⟨_, rfl⟩
          rw [hcure] at hh hc2 hrl hRS
          rw [hpi, hps] at hRS
          rw [hpi] at hp1 ⊢
          rw [hps] at hp2 ⊢
          have HRS := hid hRS
          clear hRS hcure hpi hps
          have hbitc := bit_any k pi W' (by omega) (by omega)
          have HBIT := hid hbitc
          have hb1 : 1 ≤ (9 : Nat) - 1 - 1 := by decide
          by_cases hbit : bitAt k pi = 0
          · have hbi : ((bitAt k pi : Int) == 0) = true := by rw [hbit]; rfl
            have HR : Hid (rung k pi ps hcur = sha ([3] ++ (hcur ++ ps))) := by rw [Hid, rung, if_pos hbit]; rfl
            clear hbit hbitc
            have fal : Fresh W' (W'.alloc (.cells #[.string (str [3]), .string (str hcur), .string (str ps)] 9)) := (Keeps.refl _ _).alloc _
            have hsum := psum_three W'.heap.size [3] hcur ps (W'.alloc (.cells #[.string (str [3]), .string (str hcur), .string (str ps)] 9)) (heap_alloc_new W' _) (hdW.fresh fal) (by simp; omega)
            rw [← HR.out, ← HRS.out] at hsum
            have HSUM := hid hsum
            clear hsum
            gi_wp2_with (first
              | (refine ⟨trivial, ?_⟩; gi_at_call 40; refine (CallsIn.inRound ll (callsIn_wide.2 HBIT.out)).mono ?_; rintro e w7 ⟨rfl, rfl⟩)
              | (refine ⟨trivial, ?_⟩; gi_at_call 15; refine (CallsIn.inRound ll (callsIn_wide.2 HSUM.out)).mono ?_; rintro e w8 ⟨rfl, fa⟩; have f8 := fal.trans fa; have hh8 := f8.at_ hh (fun h => h); have h8c := cell_at hh8 0; have h8z := free_at hh8 0; simp at h8c))
            have hset8 := heap_setCell_at hh8 0 (.string (str (rungs k g (pre ++ [x]))))
            have kS : Keeps (fun q => q = hn ∨ W6.heap.size ≤ q) W' (w8.setCell ⟨hn, 0, none⟩ (.string (str (rungs k g (pre ++ [x]))))) := Keeps.setCell (S := fun q => q = hn ∨ W6.heap.size ≤ q) (f8.mono (fun _ _ h => h.elim)) (p := ⟨hn, 0, none⟩) (fun _ => .inl rfl) _
            exact ⟨(KeepsOthers.mk f8.size (fun q o ho _ => f8.at_ ho (fun h => h))).trans (KeepsOthers.setCell _ _ _), kS, by simpa using hset8, hk6.trans kS⟩
          · have hbi : ((bitAt k pi : Int) == 0) = false := by simp [hbit]
            have HR : Hid (rung k pi ps hcur = sha ([3] ++ (ps ++ hcur))) := by rw [Hid, rung, if_neg hbit]; rfl
            clear hbit hbitc
            have fal : Fresh W' (W'.alloc (.cells #[.string (str [3]), .string (str ps), .string (str hcur)] 9)) := (Keeps.refl _ _).alloc _
            have hsum := psum_three W'.heap.size [3] ps hcur (W'.alloc (.cells #[.string (str [3]), .string (str ps), .string (str hcur)] 9)) (heap_alloc_new W' _) (hdW.fresh fal) (by simp; omega)
            rw [← HR.out, ← HRS.out] at hsum
            have HSUM := hid hsum
            clear hsum
            gi_wp2_with (first
              | (refine ⟨trivial, ?_⟩; gi_at_call 40; refine (CallsIn.inRound ll (callsIn_wide.2 HBIT.out)).mono ?_; rintro e w7 ⟨rfl, rfl⟩)
              | (refine ⟨trivial, ?_⟩; gi_at_call 15; refine (CallsIn.inRound ll (callsIn_wide.2 HSUM.out)).mono ?_; rintro e w8 ⟨rfl, fa⟩; have f8 := fal.trans fa; have hh8 := f8.at_ hh (fun h => h); have h8c := cell_at hh8 0; have h8z := free_at hh8 0; simp at h8c))
            have hset8 := heap_setCell_at hh8 0 (.string (str (rungs k g (pre ++ [x]))))
            have kS : Keeps (fun q => q = hn ∨ W6.heap.size ≤ q) W' (w8.setCell ⟨hn, 0, none⟩ (.string (str (rungs k g (pre ++ [x]))))) := Keeps.setCell (S := fun q => q = hn ∨ W6.heap.size ≤ q) (f8.mono (fun _ _ h => h.elim)) (p := ⟨hn, 0, none⟩) (fun _ => .inl rfl) _
            exact ⟨(KeepsOthers.mk f8.size (fun q o ho _ => f8.at_ ho (fun h => h))).trans (KeepsOthers.setCell _ _ _), kS, by simpa using hset8, hk6.trans kS⟩
        case hdone =>
          rintro D ys W' hD rfl ⟨hh, hk6⟩ hDD
          have hcl := rungs_climb k g l h256 H32.out l.length (Nat.le_refl _)
          rw [Nat.sub_self, List.drop_zero] at hcl
          obtain ⟨h, hhe⟩ : ∃ h, climb k 0 l g = h := ⟨_, rfl⟩
          rw [hcl, hhe] at hh
          rw [hhe] at HG2
          have hc := cell_at hh 0
          simp at hc
          have fin : Fresh w (W'.putObj D (.deferred none)) := by
            have k7 : Keeps (fun q => q = hn ∨ W6.heap.size ≤ q) W' (W'.putObj D (.deferred none)) := ⟨rfl, rfl, rfl, by simp, fun q hq hnq => World.putObj_heap_other (fun e => hnq (.inr (by omega)))⟩
            exact ((fr6.mono (S' := fun q => q = hn ∨ W6.heap.size ≤ q) (fun _ _ h => h.elim)).trans (hk6.trans k7)).mono (fun i hi h => by have := fr6.size; omega)
          clear hcl hhe hh hk6 hseq hK6 hB6 hH6
          by_cases he : h = root
          · have hne : ((str h).toList == (str root).toList) = true := by rw [he]; simp
            have HG4 : Hid (checkOf l true pk pv key value true root = 0) := by rw [Hid, HG2.out, if_pos he]
            clear he HG2
            go_wp2_with fail
            refine ⟨by simp, .inl ⟨_, _, rfl, run_takeDeferred hDD, ?_⟩⟩
            exact ⟨_, results_tmp rfl _ _ _, by rw [HG4.out]; rfl, fin⟩
          · have hne : ((str h).toList == (str root).toList) = false := by rw [str_toList, str_toList]; simp [he]
            have HG4 : Hid (checkOf l true pk pv key value true root = 241) := by rw [Hid, HG2.out, if_neg he]
            clear he HG2
            go_wp2_with fail
            refine ⟨by simp, .inl ⟨_, _, rfl, run_takeDeferred hDD, ?_⟩⟩
            exact ⟨_, results_tmp rfl _ _ _, by rw [HG4.out]; rfl, fin⟩
        case hstop =>
          intro D c pre W' _ _ h _
          exact h.elim
end Go.Proofs.YtmflbchiapdhbaaGreatDoor
