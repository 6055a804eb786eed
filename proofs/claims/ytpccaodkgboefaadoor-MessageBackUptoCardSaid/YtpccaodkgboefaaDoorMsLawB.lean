/-
  MessageBack, walked. (Unfinished: see NOTES.)
-/
import Derived.Test.YtpccaodkgboefaaDoorMMsI
import Derived.Test.YtpccaodkgboefaaDoorMMsH
import Derived.StillTailTactics
namespace Go.Proofs.YtpccaodkgboefaaDoor
open Go.RowKit

theorem unframed_enc {x : Req} (h : (encOf x).2 = 0) : ∃ p : List UInt8, unframed (encOf x).1 = (p, [], 0) ∧ framed p = ((encOf x).1, 0) ∧ ∃ c r, p = c :: r ∧ (c.toNat : Int) = x.kind := by
  obtain ⟨p, hp, he, _, h1, h2, h3⟩ := encOf_frame h
  refine ⟨p, ?_, ?_, ?_⟩
  · rw [he]
    have := pText_frame p [] 1048576 (by omega) (by omega)
    rw [List.append_nil] at this
    unfold unframed
    rw [this]
  · rw [he]
    unfold framed
    rw [if_neg (by omega)]
  · cases p with
    | nil => simp at h3
    | cons c r =>
      refine ⟨c, r, rfl, ?_⟩
      simp at h3
      rw [h3]
      have : x.kind.toNat < 256 := by omega
      simp [UInt8.toNat_ofNat']
      omega

theorem rowCells {w : World} {e : TypeId} {size n cap : Nat} {ao : Option Addr} {xs : List Value} (h : w.ownsRow 0 e size (.slice ao n cap) n xs) (hn : 0 < n) :
    ∃ g, ao = some ⟨g, 0, none⟩ ∧ ∀ k y, xs[k]? = some y → g < w.heap.size ∧ w.cell? ⟨g, k, none⟩ = some y := by
  obtain ⟨hl, ⟨-, h0⟩ | ⟨g, cap', cur, he, -, hg, -, -, -, ht⟩⟩ := h
  · omega
  · injection he with e1
    refine ⟨g, e1, fun k y hk => ⟨lt_of_block hg, ?_⟩⟩
    rw [cell_at hg]
    rw [← ht, List.getElem?_take] at hk
    split at hk
    · simpa using hk
    · cases hk
theorem ElemsAt.lift {B S : Nat → Prop} {w w' : World} (k : Keeps S w w') (hS : ∀ q, S q → ¬ B q) : ∀ {A : List Req} {vs : List Value}, ElemsAt B w A vs → ElemsAt B w' A vs
  | [], vs, h => by rw [ElemsAt] at h ⊢; exact h
  | y :: r, vs, h => by
    rw [ElemsAt] at h ⊢
    obtain ⟨d0, d1, d2, d3, d4, d5, d6, us, e, hy, hr⟩ := h
    exact ⟨d0, d1, d2, d3, d4, d5, d6, us, e, ReqAt.keeps k hS _ _ hy, ElemsAt.lift k hS hr⟩
theorem framesOf_drop {G : List Req} {j : Nat} {x : Req} (h : G[j]? = some x) : framesOf (G.drop j) = (encOf x).1 ++ framesOf (G.drop (j + 1)) := by
  obtain ⟨hj, rfl⟩ := List.getElem?_eq_some_iff.1 h
  unfold framesOf
  rw [List.drop_eq_getElem_cons hj, List.flatMap_cons]
theorem framesOf_drop_le (G : List Req) (j : Nat) : (framesOf (G.drop j)).length ≤ (framesOf G).length := by
  have h : framesOf G = framesOf (G.take j) ++ framesOf (G.drop j) := by
    unfold framesOf
    rw [← List.flatMap_append, List.take_append_drop]
  rw [h, List.length_append]
  omega

set_option maxRecDepth 100000 in
set_option maxHeartbeats 4000000 in
theorem back_any (L : List Req) (ao : Option Addr) (cap : Nat) (bh : List UInt8) (cut : Int) (w : World) (hl : Laid w) (hL : ReqsAt (fun q => q < w.heap.size) w L ao 0) (hwt : ∀ x ∈ L, wt x ≤ 300000000) (hlen : L.length ≤ 1048576) (hbh : bh.length ≤ 1048576)
    (hx : -9223372036854775808 ≤ cut) (hx2 : cut ≤ 9223372036854775807) :
    Calls Tryd.prog 3 #[.slice ao L.length cap, .string (str bh), .int .i64 cut] w fun e w' => e = .returned (.bool true) ∧ Fresh w w' := by
  have HL := hid hL
  have HW := hid hwt
  have hszb := str_size bh
  clear hL hwt
  go_enter Tryd.func3, Tryd.ntmps3
  go_wp2_with fail
  refine (addsUp_any L.length bh.length w (by omega) (by omega)).mono ?_
  rintro e w0 ⟨rfl, rfl⟩
  go_wp2_with fail
  refine (mknown_any w hl).mono ?_
  rintro e w1 ⟨rfl, f1⟩
  go_wp2_with fail
  go_loopw [8, 9, 10] (fun s va i wr => ∃ (n : Nat) (vs : List Value), i = .int .i64 (n : Int) ∧ n ≤ L.length ∧ n ≤ 12 ∧ s = .string (str (framesOf (goods (L.take n)))) ∧ wr.ownsRow 0 31 7 va (goods (L.take n)).length vs ∧ Hid (ElemsAt (fun q => q < w.heap.size) wr (goods (L.take n)) vs) ∧
      Hid ((framesOf (goods (L.take n))).length ≤ n * 1048586) ∧ Hid ((goods (L.take n)).length ≤ n) ∧ (∀ g, va.ownBlock = some g → w.heap.size ≤ g) ∧ Fresh w wr) (fun _ _ i _ => 12 - (intOf i).toNat)
  case atStart => exact ⟨0, [], rfl, by omega, by omega, rfl, World.ownsRow_nil _ _ _ _, rfl, by simp [Hid, framesOf, goods], by simp [Hid, goods], (fun g h => by cases h), f1⟩
  case round =>
    obtain ⟨n, vs, rfl, hn, hn12, rfl, hrow, HE, HFL, HGL, hown, fr⟩ := hrel
    by_cases h1 : n < L.length
    · by_cases h2 : n < 12
      · obtain ⟨x, hxn⟩ : ∃ x, L[n]? = some x := ⟨L[n], by simp⟩
        have hreq := (ReqsAt.keeps fr (fun _ h => h.elim) _ _ _ HL.out).get hxn
        obtain ⟨bb, off, c0, c1, c2, c3, c4, c5, c6, rfl, hbl, hbb, y0, y1, y2, y3, y4, y5, y6, hxa⟩ := hreq
        rw [Nat.zero_add] at y0 y1 y2 y3 y4 y5 y6
        have HXA := hid hxa
        obtain ⟨lx, ex, ax, capx, he, ⟨hl1, -⟩, ⟨he1, -⟩, -⟩ := hxa.parts
        obtain ⟨alx, clx, rfl, -⟩ := hl1.ints_
        obtain ⟨aex, cex, rfl, -⟩ := he1.texts
        clear hl1 he1 hxa
        simp only [Value.agg.injEq, Array.mk.injEq, List.cons.injEq, and_true] at he
        obtain ⟨rfl, rfl, rfl, rfl, rfl, rfl, rfl⟩ := he
        have hwx := HW.out x (List.mem_of_getElem? hxn)
        have henc := encode_any (fun q => q < w.heap.size) x _ wr (hl.fresh_ fr) HXA.out (fun g hg => Nat.lt_of_lt_of_le hg fr.size) (by omega) (by
          have h1 := fieldsOf_len (R := x) (wByte ([], 0) x.kind) (by omega)
          have h2 := wByte_len ([], 0) x.kind
          simp at h2
          omega)
        have hgs := goods_snoc hxn
        have HENC := hid henc
        have HGS := hid hgs
        clear henc hgs
        by_cases h0 : (encOf x).2 = 0
        · obtain ⟨p, hun, hfra, cc, rr, rfl, hck⟩ := unframed_enc h0
          obtain ⟨hpos, hle⟩ := encOf_first h0
          have hsh := fun c => decOf_short (R := x) c h0
          obtain ⟨fs, hfs⟩ : ∃ fs, (encOf x).1 = fs := ⟨_, rfl⟩
          have hgs := HGS.out
          rw [if_pos h0] at hgs
          rw [hfs] at hun hfra hpos hle hsh
          rw [h0, hfs] at HENC
          clear HGS
          have hplen : (cc :: rr).length ≤ 1048576 := by
            by_cases hq : 1048576 < (cc :: rr).length
            · unfold framed at hfra
              rw [if_pos hq] at hfra
              injection hfra with _ h
              cases h
            · omega
          have HSH := hid hsh
          clear hsh
          go_wp2_with fail
          refine HENC.out.mono ?_
          rintro e w5 ⟨rfl, f5⟩
          have F5 := fr.trans f5
          go_wp2_with fail
          have hu := unframe_any fs w5 (hl.fresh_ F5) (by omega)
          rw [hun] at hu
          refine hu.mono ?_
          rintro e w6 ⟨rfl, f6⟩
          clear hu
          go_wp2_with fail
          have hf := frame_any (cc :: rr) w6 (by omega)
          rw [hfra] at hf
          refine hf.mono ?_
          rintro e w7 ⟨rfl, f7⟩
          clear hf
          have F7 := F5.trans (f6.trans f7)
          have f57 := f5.trans (f6.trans f7)
          have z0 := (f57.cell (p := ⟨bb, off + n * 7, none⟩) (Nat.lt_of_lt_of_le hbl fr.size) (fun h => h)).trans y0
          have hff : ((str fs).toList == (str fs).toList) = true := by simp
          have hes : (str ([] : List UInt8)).toList.isEmpty = true := by rw [str_toList]; rfl
          have hpe : (str (cc :: rr)).toList.isEmpty = false := by rw [str_toList]; rfl
          have hkk : (x.kind != x.kind) = false := by simp
          have hszp := str_size (cc :: rr)
          have hwr : (wrap64 ((str (cc :: rr))[0]'(by rw [hszp]; simp)).toNat != x.kind) = false := by
            have e : ((str (cc :: rr))[0]'(by rw [hszp]; simp)) = cc := rfl
            rw [e, ← hck, IntWalk.wrap64_in _ ⟨by omega, by have := cc.toNat_lt; omega⟩]
            simp
          go_wp2_with fail
          go_quiet (fail)
          have hszf := str_size fs
          go_wp2_with fail
          refine (pick_any cut fs.length _ hpos (by omega) hx hx2).mono ?_
          rintro e w8 ⟨c, rfl, hc, rfl⟩
          have F8 := F7.drewN nq
          have hto := str_to fs c
          have hc2 : c ≤ fs.length := by omega
          go_wp2_with fail
          have hd := decode_any (fs.take c) (w7.drewN nq) (hl.fresh_ F8) (by rw [List.length_take]; omega)
          rw [HSH.out c hc] at hd
          refine hd.mono ?_
          rintro e w9 ⟨v9, bl9, rfl, f9, ho9, -, -⟩
          obtain ⟨al9, cl9, ae9, ce9, aq9, cq9, rfl⟩ := ho9.shape
          have fa : Fresh w9 (w9.alloc (.cells #[.int .i64 0, .int .i64 0, .int .i64 0, .int .i64 0, .slice al9 0 cl9, .slice ae9 0 ce9, .slice aq9 0 cq9] 31)) := (Keeps.refl _ _).alloc _
          have fw : Fresh wr w9 := (f57.drewN nq).trans f9
          have F9 := F8.trans f9
          have hcat := str_append' (framesOf (goods (L.take n))) fs
          have hsza := str_size (framesOf (goods (L.take n)))
          have hfl := HFL.out
          have hgl := HGL.out
          obtain ⟨wA, hwA⟩ : ∃ W, w9.alloc (.cells #[.int .i64 0, .int .i64 0, .int .i64 0, .int .i64 0, .slice al9 0 cl9, .slice ae9 0 ce9, .slice aq9 0 cq9] 31) = W := ⟨_, rfl⟩
          have hwA2 : w9.alloc (.cells #[.int .i64 noReq.kind, .int .i64 noReq.a, .int .i64 noReq.b, .int .i64 noReq.size, .slice al9 noReq.list.length cl9, .slice ae9 noReq.entries.length ce9, .slice aq9 noReq.asks.length cq9] 31) = wA := hwA
          rw [hwA] at fa
          have FA : Fresh w wA := F9.trans fa
          have fwA : Fresh wr wA := fw.trans fa
          have q0 := (fwA.cell (p := ⟨bb, off + n * 7, none⟩) (Nat.lt_of_lt_of_le hbl fr.size) (fun h => h)).trans y0
          have q1 := (fwA.cell (p := ⟨bb, off + n * 7 + 1, none⟩) (Nat.lt_of_lt_of_le hbl fr.size) (fun h => h)).trans y1
          have q2 := (fwA.cell (p := ⟨bb, off + n * 7 + 2, none⟩) (Nat.lt_of_lt_of_le hbl fr.size) (fun h => h)).trans y2
          have q3 := (fwA.cell (p := ⟨bb, off + n * 7 + 3, none⟩) (Nat.lt_of_lt_of_le hbl fr.size) (fun h => h)).trans y3
          have q4 := (fwA.cell (p := ⟨bb, off + n * 7 + 4, none⟩) (Nat.lt_of_lt_of_le hbl fr.size) (fun h => h)).trans y4
          have q5 := (fwA.cell (p := ⟨bb, off + n * 7 + 5, none⟩) (Nat.lt_of_lt_of_le hbl fr.size) (fun h => h)).trans y5
          have q6 := (fwA.cell (p := ⟨bb, off + n * 7 + 6, none⟩) (Nat.lt_of_lt_of_le hbl fr.size) (fun h => h)).trans y6
          have hrowA := ownsRow_keeps hrow fwA (fun _ _ h => h)
          obtain ⟨so, scap, rfl⟩ := ownsRow_slice hrow
          obtain ⟨i0, hi, h0i⟩ := Option.map_eq_some_iff.1 Tryd.infoReq
          simp only [Prod.mk.injEq] at h0i
          obtain ⟨hz0, hz1, hz2⟩ := h0i
          have HR := hid hrowA
          clear hd ho9 f9 fw hrow hrowA z0 y0 y1 y2 y3 y4 y5 y6 hes hpe hkk hwr HSH HENC
          go_wp2_with (at_builtin; refine wpList_pushN rfl (.tmp 122) (.tmp 127) 22 rfl 31 i0 _ 7 104 Tryd.underlying22 hi hz0 hz1 hz2 rfl (by omega) wA HR.out _ (by rfl) (by rfl) (by rfl) (by simp [Value.oneCell']) (by omega) (by unfold maxLen; omega) ?_)
          intro v4 w4 ha
          have hrow4 := ha.row
          have hown4 : ∀ g, v4.ownBlock = some g → w.heap.size ≤ g := fun g hg => by
            rcases ha.own g hg with h | h
            · exact hown g h
            · have := FA.size; omega
          have kA : Keeps (fun q => w.heap.size ≤ q) wr wA := fwA.mono fun _ _ h => h.elim
          have k4 : Keeps (fun q => w.heap.size ≤ q) wr w4 := kA.trans' ha.keeps fun i hi h => hown i h
          have F4 : Fresh w w4 := FA.trans' ha.keeps fun i hi h => by have := hown i h; omega
          have hE4 := ElemsAt.snoc (ReqAt.keeps k4 (fun q h hb => by have h : w.heap.size ≤ q := h; have hb : q < w.heap.size := hb; omega) _ _ HXA.out) (ElemsAt.lift k4 (fun q h hb => by have h : w.heap.size ≤ q := h; have hb : q < w.heap.size := hb; omega) HE.out)
          have hgl4 : (goods (L.take n) ++ [x]).length = (goods (L.take n)).length + 1 := by simp
          have hfl4 : (framesOf (goods (L.take n) ++ [x])).length = (framesOf (goods (L.take n))).length + fs.length := by rw [framesOf_snoc, List.length_append, hfs]
          clear ha
          go_wp2_with fail
          go_roundw
          case rel => exact ⟨n + 1, _, by go_num, by omega, by omega, by rw [hgs, framesOf_snoc, hfs], by rw [hgs, hgl4]; exact hrow4, by rw [hgs]; exact hE4, by rw [hgs]; show _ ≤ _; omega, by rw [hgs]; show _ ≤ _; omega, hown4, F4⟩
          case measure => simp [intOf]; omega
        · have hgs := HGS.out
          rw [if_neg h0, List.append_nil] at hgs
          have her : encOf x = ([], 170) ∨ encOf x = ([], 171) := by
            rcases encOf_errors x with h | h
            · exact absurd h h0
            · exact h
          have hnr := fun W (f : Fresh wr W) => ownsRow_keeps hrow f (fun _ _ h => h)
          have HNR := hid hnr
          clear hrow hnr
          rcases her with her | her
          · rw [her] at HENC
            have hes : (str ([] : List UInt8)).toList.isEmpty = true := by rw [str_toList]; rfl
            clear her h0 HGS
            go_wp2_with fail
            refine HENC.out.mono ?_
            rintro e w5 ⟨rfl, f5⟩
            go_wp2_with fail
            go_roundw
            case rel => exact ⟨n + 1, vs, by go_num, by omega, by omega, by rw [hgs], by rw [hgs]; exact HNR.out _ f5, by rw [hgs]; exact ElemsAt.keeps f5 HE.out, by rw [hgs]; exact Nat.le_trans HFL.out (Nat.mul_le_mul_right _ (by omega)), by rw [hgs]; exact Nat.le_trans HGL.out (by omega), hown, fr.trans f5⟩
            case measure => simp [intOf]; omega
          · rw [her] at HENC
            have hes : (str ([] : List UInt8)).toList.isEmpty = true := by rw [str_toList]; rfl
            clear her h0 HGS
            go_wp2_with fail
            refine HENC.out.mono ?_
            rintro e w5 ⟨rfl, f5⟩
            go_wp2_with fail
            go_roundw
            case rel => exact ⟨n + 1, vs, by go_num, by omega, by omega, by rw [hgs], by rw [hgs]; exact HNR.out _ f5, by rw [hgs]; exact ElemsAt.keeps f5 HE.out, by rw [hgs]; exact Nat.le_trans HFL.out (Nat.mul_le_mul_right _ (by omega)), by rw [hgs]; exact Nat.le_trans HGL.out (by omega), hown, fr.trans f5⟩
            case measure => simp [intOf]; omega
      · skip
        -- behind the first loop
        have hG : ∀ x ∈ goods (L.take n), (encOf x).2 = 0 ∧ x ∈ L := fun x hx => by
          simp [goods] at hx
          exact ⟨hx.2, List.mem_of_mem_take hx.1⟩
        obtain ⟨G, hGe⟩ : ∃ G, goods (L.take n) = G := ⟨_, rfl⟩
        rw [hGe] at hG hrow HE HFL HGL
        rw [hGe]
        have HG := hid hG
        clear hG hGe
        have hcat := str_append' (framesOf G) bh
        have hszs := str_size (framesOf G)
        have hfl := HFL.out
        have hgl := HGL.out
        obtain ⟨so, scap, rfl⟩ := ownsRow_slice hrow
        have HRW := hid (fun h => rowCells hrow h)
        clear hrow
        rename World => W2
        go_wp2_with fail
        go_loopw [8, 22] (fun s i wx => ∃ j : Nat, i = .int .i64 (j : Int) ∧ j ≤ G.length ∧ s = .string (str (framesOf (G.drop j) ++ bh)) ∧ Fresh W2 wx) (fun _ i _ => G.length - (intOf i).toNat)
        case atStart => exact ⟨0, rfl, by omega, by simp, Keeps.refl _ _⟩
        case round =>
          obtain ⟨j, rfl, hj, rfl, gr⟩ := hrel
          by_cases hlt : j < G.length
          · obtain ⟨x, hxj⟩ : ∃ x, G[j]? = some x := ⟨G[j], by simp⟩
            obtain ⟨hx0, hxL⟩ := HG.out x (List.mem_of_getElem? hxj)
            have hwx := HW.out x hxL
            obtain ⟨hpos, hle⟩ := encOf_first hx0
            have hfine := encOf_fine hx0 (by omega)
            have hfd := framesOf_drop hxj
            have hdl := framesOf_drop_le G (j + 1)
            have hback := decOf_back (R := x) (framesOf (G.drop (j + 1)) ++ bh) hx0
            obtain ⟨rs, hrs⟩ : ∃ rs, framesOf (G.drop (j + 1)) ++ bh = rs := ⟨_, rfl⟩
            have hrl : rs.length ≤ (framesOf G).length + bh.length := by rw [← hrs, List.length_append]; omega
            rw [hfd, List.append_assoc, hrs]
            rw [hrs] at hback
            obtain ⟨fs, hfs⟩ : ∃ fs, (encOf x).1 = fs := ⟨_, rfl⟩
            rw [hfs] at hback hpos hle ⊢
            obtain ⟨g, rfl, hcells⟩ := HRW.out (by omega)
            obtain ⟨c0, c1, c2, c3, c4, c5, c6, e0, e1, e2, e3, e4, e5, e6, hxa⟩ := HE.out.get hxj
            obtain ⟨hgw, y0⟩ := hcells _ _ e0
            obtain ⟨-, y1⟩ := hcells _ _ e1
            obtain ⟨-, y2⟩ := hcells _ _ e2
            obtain ⟨-, y3⟩ := hcells _ _ e3
            obtain ⟨-, y4⟩ := hcells _ _ e4
            obtain ⟨-, y5⟩ := hcells _ _ e5
            obtain ⟨-, y6⟩ := hcells _ _ e6
            rw [Nat.mul_comm] at y0 y1 y2 y3 y4 y5 y6
            clear e0 e1 e2 e3 e4 e5 e6 hcells
            have HXA := hid hxa
            obtain ⟨lx, ex, ax, capx, he, ⟨hl1, -⟩, ⟨he1, -⟩, -⟩ := hxa.parts
            obtain ⟨alx, clx, rfl, -⟩ := hl1.ints_
            obtain ⟨aex, cex, rfl, -⟩ := he1.texts
            clear hl1 he1 hxa
            simp only [Value.agg.injEq, Array.mk.injEq, List.cons.injEq, and_true] at he
            obtain ⟨rfl, rfl, rfl, rfl, rfl, rfl, rfl⟩ := he
            go_wp2_with fail
            have hd := decode_any (fs ++ rs) _ (hl.fresh_ (fr.trans gr)) (by rw [List.length_append]; omega)
            rw [hback] at hd
            refine hd.mono ?_
            rintro e w4 ⟨v4, bl4, rfl, f4, ho4, -, -⟩
            clear hd
            obtain ⟨al4, cl4, ae4, ce4, aq4, cq4, rfl⟩ := ho4.shape
            have fa : Fresh w4 (w4.alloc (.cells #[.int .i64 x.kind, .int .i64 x.a, .int .i64 x.b, .int .i64 x.size, .slice al4 x.list.length cl4, .slice ae4 x.entries.length ce4, .slice aq4 x.asks.length cq4] 31)) := (Keeps.refl _ _).alloc _
            have hb5 := heap_alloc_new w4 (.cells #[.int .i64 x.kind, .int .i64 x.a, .int .i64 x.b, .int .i64 x.size, .slice al4 x.list.length cl4, .slice ae4 x.entries.length ce4, .slice aq4 x.asks.length cq4] 31)
            obtain ⟨w5, hw5⟩ : ∃ W, w4.alloc (.cells #[.int .i64 x.kind, .int .i64 x.a, .int .i64 x.b, .int .i64 x.size, .slice al4 x.list.length cl4, .slice ae4 x.entries.length ce4, .slice aq4 x.asks.length cq4] 31) = W := ⟨_, rfl⟩
            obtain ⟨g4, hg4⟩ : ∃ g, w4.heap.size = g := ⟨_, rfl⟩
            rw [hw5] at fa hb5
            rw [hg4] at hb5
            have G5 : Fresh W2 w5 := gr.trans (f4.trans fa)
            have hcall := fun W (hW : Fresh w5 W) => sameRequest_self _ x (Nat.le_refl _) (fun q => q ∈ bl4) (fun q => q < w.heap.size) _ _ W (ReqOwn.at _ _ _ (ho4.fresh (fa.trans hW)) _ (fun _ h => h)) (HXA.out.fresh (G5.trans hW)) hfine
            have HC := hid hcall
            have HF := hid hfine
            have x0 := cell_at hb5 0
            have x1 := cell_at hb5 1
            have x2 := cell_at hb5 2
            have x3 := cell_at hb5 3
            have x4 := cell_at hb5 4
            have x5 := cell_at hb5 5
            have x6 := cell_at hb5 6
            simp at x0 x1 x2 x3 x4 x5 x6
            have q0 := (G5.cell (p := ⟨g, j * 7, none⟩) hgw (fun h => h)).trans y0
            have q1 := (G5.cell (p := ⟨g, j * 7 + 1, none⟩) hgw (fun h => h)).trans y1
            have q2 := (G5.cell (p := ⟨g, j * 7 + 2, none⟩) hgw (fun h => h)).trans y2
            have q3 := (G5.cell (p := ⟨g, j * 7 + 3, none⟩) hgw (fun h => h)).trans y3
            have q4 := (G5.cell (p := ⟨g, j * 7 + 4, none⟩) hgw (fun h => h)).trans y4
            have q5 := (G5.cell (p := ⟨g, j * 7 + 5, none⟩) hgw (fun h => h)).trans y5
            have q6 := (G5.cell (p := ⟨g, j * 7 + 6, none⟩) hgw (fun h => h)).trans y6
            have hszr := str_size rs
            have hszfr := str_size (fs ++ rs)
            rw [List.length_append] at hszfr
            have hj0 : (0 : Int) ≤ (j : Int) := by omega
            have hj1 : (j : Int) < (G.length : Int) := by omega
            clear hcall hfine y0 y1 y2 y3 y4 y5 y6 hb5 ho4 fa f4 hback hfd
            go_wp2_with fail
            go_still_tail 5, (by kernel_rfl)
            change wpList _ _ _ _ _ w5.drew
            have hdw : Fresh w5 w5.drew := (Keeps.refl _ _).drewN 1
            go_wp2_with fail
            refine (HC.out _ hdw).mono ?_
            rintro e w6 ⟨rfl, f6⟩
            clear x0 x1 x2 x3 x4 x5 x6 q0 q1 q2 q3 q4 q5 q6 HC
            have hge : ¬ ((rs.length : Int) ≥ ((fs.length + rs.length : Nat) : Int)) := by omega
            go_wp2_with fail
            go_roundw
            case rel => exact ⟨j + 1, by go_num, by omega, by rw [hrs], G5.trans (hdw.trans f6)⟩
            case measure => simp [intOf]; omega
          · obtain rfl : j = G.length := by omega
            have hend : framesOf (G.drop G.length) ++ bh = bh := by simp [framesOf]
            rw [hend]
            have hbb : ((str bh).toList == (str bh).toList) = true := by simp
            go_wp2_with fail
            go_ret
            exact ⟨rfl, fr.trans gr⟩
    · skip
      -- behind the first loop
      have hG : ∀ x ∈ goods (L.take n), (encOf x).2 = 0 ∧ x ∈ L := fun x hx => by
        simp [goods] at hx
        exact ⟨hx.2, List.mem_of_mem_take hx.1⟩
      obtain ⟨G, hGe⟩ : ∃ G, goods (L.take n) = G := ⟨_, rfl⟩
      rw [hGe] at hG hrow HE HFL HGL
      rw [hGe]
      have HG := hid hG
      clear hG hGe
      have hcat := str_append' (framesOf G) bh
      have hszs := str_size (framesOf G)
      have hfl := HFL.out
      have hgl := HGL.out
      obtain ⟨so, scap, rfl⟩ := ownsRow_slice hrow
      have HRW := hid (fun h => rowCells hrow h)
      clear hrow
      rename World => W2
      go_wp2_with fail
      go_loopw [8, 22] (fun s i wx => ∃ j : Nat, i = .int .i64 (j : Int) ∧ j ≤ G.length ∧ s = .string (str (framesOf (G.drop j) ++ bh)) ∧ Fresh W2 wx) (fun _ i _ => G.length - (intOf i).toNat)
      case atStart => exact ⟨0, rfl, by omega, by simp, Keeps.refl _ _⟩
      case round =>
        obtain ⟨j, rfl, hj, rfl, gr⟩ := hrel
        by_cases hlt : j < G.length
        · obtain ⟨x, hxj⟩ : ∃ x, G[j]? = some x := ⟨G[j], by simp⟩
          obtain ⟨hx0, hxL⟩ := HG.out x (List.mem_of_getElem? hxj)
          have hwx := HW.out x hxL
          obtain ⟨hpos, hle⟩ := encOf_first hx0
          have hfine := encOf_fine hx0 (by omega)
          have hfd := framesOf_drop hxj
          have hdl := framesOf_drop_le G (j + 1)
          have hback := decOf_back (R := x) (framesOf (G.drop (j + 1)) ++ bh) hx0
          obtain ⟨rs, hrs⟩ : ∃ rs, framesOf (G.drop (j + 1)) ++ bh = rs := ⟨_, rfl⟩
          have hrl : rs.length ≤ (framesOf G).length + bh.length := by rw [← hrs, List.length_append]; omega
          rw [hfd, List.append_assoc, hrs]
          rw [hrs] at hback
          obtain ⟨fs, hfs⟩ : ∃ fs, (encOf x).1 = fs := ⟨_, rfl⟩
          rw [hfs] at hback hpos hle ⊢
          obtain ⟨g, rfl, hcells⟩ := HRW.out (by omega)
          obtain ⟨c0, c1, c2, c3, c4, c5, c6, e0, e1, e2, e3, e4, e5, e6, hxa⟩ := HE.out.get hxj
          obtain ⟨hgw, y0⟩ := hcells _ _ e0
          obtain ⟨-, y1⟩ := hcells _ _ e1
          obtain ⟨-, y2⟩ := hcells _ _ e2
          obtain ⟨-, y3⟩ := hcells _ _ e3
          obtain ⟨-, y4⟩ := hcells _ _ e4
          obtain ⟨-, y5⟩ := hcells _ _ e5
          obtain ⟨-, y6⟩ := hcells _ _ e6
          rw [Nat.mul_comm] at y0 y1 y2 y3 y4 y5 y6
          clear e0 e1 e2 e3 e4 e5 e6 hcells
          have HXA := hid hxa
          obtain ⟨lx, ex, ax, capx, he, ⟨hl1, -⟩, ⟨he1, -⟩, -⟩ := hxa.parts
          obtain ⟨alx, clx, rfl, -⟩ := hl1.ints_
          obtain ⟨aex, cex, rfl, -⟩ := he1.texts
          clear hl1 he1 hxa
          simp only [Value.agg.injEq, Array.mk.injEq, List.cons.injEq, and_true] at he
          obtain ⟨rfl, rfl, rfl, rfl, rfl, rfl, rfl⟩ := he
          go_wp2_with fail
          have hd := decode_any (fs ++ rs) _ (hl.fresh_ (fr.trans gr)) (by rw [List.length_append]; omega)
          rw [hback] at hd
          refine hd.mono ?_
          rintro e w4 ⟨v4, bl4, rfl, f4, ho4, -, -⟩
          clear hd
          obtain ⟨al4, cl4, ae4, ce4, aq4, cq4, rfl⟩ := ho4.shape
          have fa : Fresh w4 (w4.alloc (.cells #[.int .i64 x.kind, .int .i64 x.a, .int .i64 x.b, .int .i64 x.size, .slice al4 x.list.length cl4, .slice ae4 x.entries.length ce4, .slice aq4 x.asks.length cq4] 31)) := (Keeps.refl _ _).alloc _
          have hb5 := heap_alloc_new w4 (.cells #[.int .i64 x.kind, .int .i64 x.a, .int .i64 x.b, .int .i64 x.size, .slice al4 x.list.length cl4, .slice ae4 x.entries.length ce4, .slice aq4 x.asks.length cq4] 31)
          obtain ⟨w5, hw5⟩ : ∃ W, w4.alloc (.cells #[.int .i64 x.kind, .int .i64 x.a, .int .i64 x.b, .int .i64 x.size, .slice al4 x.list.length cl4, .slice ae4 x.entries.length ce4, .slice aq4 x.asks.length cq4] 31) = W := ⟨_, rfl⟩
          obtain ⟨g4, hg4⟩ : ∃ g, w4.heap.size = g := ⟨_, rfl⟩
          rw [hw5] at fa hb5
          rw [hg4] at hb5
          have G5 : Fresh W2 w5 := gr.trans (f4.trans fa)
          have hcall := fun W (hW : Fresh w5 W) => sameRequest_self _ x (Nat.le_refl _) (fun q => q ∈ bl4) (fun q => q < w.heap.size) _ _ W (ReqOwn.at _ _ _ (ho4.fresh (fa.trans hW)) _ (fun _ h => h)) (HXA.out.fresh (G5.trans hW)) hfine
          have HC := hid hcall
          have HF := hid hfine
          have x0 := cell_at hb5 0
          have x1 := cell_at hb5 1
          have x2 := cell_at hb5 2
          have x3 := cell_at hb5 3
          have x4 := cell_at hb5 4
          have x5 := cell_at hb5 5
          have x6 := cell_at hb5 6
          simp at x0 x1 x2 x3 x4 x5 x6
          have q0 := (G5.cell (p := ⟨g, j * 7, none⟩) hgw (fun h => h)).trans y0
          have q1 := (G5.cell (p := ⟨g, j * 7 + 1, none⟩) hgw (fun h => h)).trans y1
          have q2 := (G5.cell (p := ⟨g, j * 7 + 2, none⟩) hgw (fun h => h)).trans y2
          have q3 := (G5.cell (p := ⟨g, j * 7 + 3, none⟩) hgw (fun h => h)).trans y3
          have q4 := (G5.cell (p := ⟨g, j * 7 + 4, none⟩) hgw (fun h => h)).trans y4
          have q5 := (G5.cell (p := ⟨g, j * 7 + 5, none⟩) hgw (fun h => h)).trans y5
          have q6 := (G5.cell (p := ⟨g, j * 7 + 6, none⟩) hgw (fun h => h)).trans y6
          have hszr := str_size rs
          have hszfr := str_size (fs ++ rs)
          rw [List.length_append] at hszfr
          have hj0 : (0 : Int) ≤ (j : Int) := by omega
          have hj1 : (j : Int) < (G.length : Int) := by omega
          clear hcall hfine y0 y1 y2 y3 y4 y5 y6 hb5 ho4 fa f4 hback hfd
          go_wp2_with fail
          go_still_tail 5, (by kernel_rfl)
          change wpList _ _ _ _ _ w5.drew
          have hdw : Fresh w5 w5.drew := (Keeps.refl _ _).drewN 1
          go_wp2_with fail
          refine (HC.out _ hdw).mono ?_
          rintro e w6 ⟨rfl, f6⟩
          clear x0 x1 x2 x3 x4 x5 x6 q0 q1 q2 q3 q4 q5 q6 HC
          have hge : ¬ ((rs.length : Int) ≥ ((fs.length + rs.length : Nat) : Int)) := by omega
          go_wp2_with fail
          go_roundw
          case rel => exact ⟨j + 1, by go_num, by omega, by rw [hrs], G5.trans (hdw.trans f6)⟩
          case measure => simp [intOf]; omega
        · obtain rfl : j = G.length := by omega
          have hend : framesOf (G.drop G.length) ++ bh = bh := by simp [framesOf]
          rw [hend]
          have hbb : ((str bh).toList == (str bh).toList) = true := by simp
          go_wp2_with fail
          go_ret
          exact ⟨rfl, fr.trans gr⟩
end Go.Proofs.YtpccaodkgboefaaDoor
