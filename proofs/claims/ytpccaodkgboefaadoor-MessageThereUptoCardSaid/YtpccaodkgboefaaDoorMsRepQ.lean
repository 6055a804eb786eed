/-
  Package message: DecodeReply.
-/
import Derived.Test.YtpccaodkgboefaaDoorMsRepP
import Derived.Test.YtpccaodkgboefaaDoorMsRepS
import Derived.Test.YtpccaodkgboefaaDoorMsDecode
namespace Go.Proofs.YtpccaodkgboefaaDoor
open Go.RowKit

def noRep : Rep := .mk 0 0 0 0 [] [] [] []
/-- a payload, as a reply to a kind: the kind that it names, the reply, what is left -/
def takeRep (k : Int) (p : List UInt8) : Nat × Rep × RSt :=
  let kk := rd pByte 0 (p, 0, 0)
  let zz := rd pByte 0 kk.2
  (kk.1, if zz.1 = 0 then rFlds (tableOf k) zz.2 (.mk (zz.1 : Nat) 0 0 0 [] [] [] []) else (.mk (zz.1 : Nat) 0 0 0 [] [] [] [], zz.2))
def fitsRep (k : Int) (q : Nat × Rep × RSt) (head : List UInt8) : Bool := decide ((q.1 : Int) = k ∧ (rDone q.2.2).1 = 0 ∧ (encRep k q.2.1).2 = 0 ∧ (encRep k q.2.1).1 = head)
def decRep (k : Int) (s : List UInt8) : Rep × List UInt8 × Int :=
  if k < 0 ∨ 12 < k then (noRep, [], 170)
  else if (unframedM s).2.2 ≠ 0 then (noRep, [], (unframedM s).2.2)
  else if fitsRep k (takeRep k (unframedM s).1) (s.take (s.length - (unframedM s).2.1.length)) then ((takeRep k (unframedM s).1).2.1, (unframedM s).2.1, 0) else (noRep, [], 173)

theorem rFlds_cons (f : Fld) (l : List Fld) (r : RSt) (R : Rep) : rFlds (f :: l) r R = rFlds l (rFld f r R).2 (rFld f r R).1 := rfl
theorem noRep_own (w : World) : RepOwn w noRep (.agg #[.int .i64 0, .int .i64 0, .int .i64 0, .int .i64 0, .string ⟨#[]⟩, .slice none 0 0, .slice none 0 0, .slice none 0 0]) [] := by
  rw [noRep, RepOwn]
  exact ⟨_, _, _, [], [], rfl, World.ownsRow_nil _ _ _ _, World.ownsRow_nil _ _ _ _, World.ownsRow_nil _ _ _ _, by rw [ReplsOwn]; exact ⟨rfl, rfl⟩, rfl⟩
/-- what DecodeReply leaves -/
def ToldR (w : World) (q : Rep × List UInt8 × Int) (e : Ending) (w' : World) : Prop :=
  ∃ v bl, e = .returned (.tuple #[v, .string (str q.2.1), .int .i64 q.2.2]) ∧ Fresh w w' ∧ RepOwn w' q.1 v bl ∧ bl.Nodup ∧ ∀ g ∈ bl, w.heap.size ≤ g

set_option maxRecDepth 100000 in
set_option maxHeartbeats 4000000 in
theorem decodeRep_any (k : Int) (s : List UInt8) (w : World) (hl : Laid w) (hs : s.length ≤ 9223372036854775807) :
    Calls Tryd.prog 15 #[.int .i64 k, .string (str s)] w fun e w' => ToldR w (decRep k s) e w' := by
  obtain ⟨X, hX⟩ : ∃ X, decRep k s = X := ⟨_, rfl⟩
  rw [hX]
  have HX0 := hid hX
  clear hX
  have hle := unframedM_le s
  have hu := fun W hW => munframed_any s W hW hs
  obtain ⟨p, hp⟩ : ∃ p, (unframedM s).1 = p := ⟨_, rfl⟩
  obtain ⟨rest, hr⟩ : ∃ r, (unframedM s).2.1 = r := ⟨_, rfl⟩
  obtain ⟨e0, he⟩ : ∃ e, (unframedM s).2.2 = e := ⟨_, rfl⟩
  have hD : X = if k < 0 ∨ 12 < k then (noRep, [], 170) else if e0 ≠ 0 then (noRep, [], e0) else if fitsRep k (takeRep k p) (s.take (s.length - rest.length)) then ((takeRep k p).2.1, rest, 0) else (noRep, [], 173) := by rw [← HX0.out, decRep, hp, hr, he]
  rw [hp, hr, he] at hu
  rw [hp, hr] at hle
  have HU := hid hu
  have HLE := hid hle
  have HD := hid hD
  have fa : Fresh w (w.alloc (.cells #[.int .i64 0, .int .i64 0, .int .i64 0, .int .i64 0, .string ⟨#[]⟩, .slice none 0 0, .slice none 0 0, .slice none 0 0] 42)) := (Keeps.refl _ _).alloc _
  have hb0 := heap_alloc_new w (.cells #[.int .i64 0, .int .i64 0, .int .i64 0, .int .i64 0, .string ⟨#[]⟩, .slice none 0 0, .slice none 0 0, .slice none 0 0] 42)
  have hla := hl.fresh_ fa
  clear hu hD hp hr he hle HX0
  obtain ⟨b4, hb4⟩ : ∃ b4, w.heap.size = b4 := ⟨_, rfl⟩
  have HB4 := hid hb4
  have T8F : ∀ {w7 : World}, Fresh w w7 → ∀ c0 c1 c2 c3 c4 c5 c6 c7 : Value, Fresh w ((((((((w7.setCell ⟨b4, 0, none⟩ c0).setCell ⟨b4, 1, none⟩ c1).setCell ⟨b4, 2, none⟩ c2).setCell ⟨b4, 3, none⟩ c3).setCell ⟨b4, 4, none⟩ c4).setCell ⟨b4, 5, none⟩ c5).setCell ⟨b4, 6, none⟩ c6).setCell ⟨b4, 7, none⟩ c7) := fun f c0 c1 c2 c3 c4 c5 c6 c7 => f.trans' (T8 c0 c1 c2 c3 c4 c5 c6 c7) (fun i hi (h : i = b4) => by omega)
  have HT8 : Hid (∀ {w7 : World}, Fresh w w7 → ∀ c0 c1 c2 c3 c4 c5 c6 c7 : Value, Fresh w ((((((((w7.setCell ⟨b4, 0, none⟩ c0).setCell ⟨b4, 1, none⟩ c1).setCell ⟨b4, 2, none⟩ c2).setCell ⟨b4, 3, none⟩ c3).setCell ⟨b4, 4, none⟩ c4).setCell ⟨b4, 5, none⟩ c5).setCell ⟨b4, 6, none⟩ c6).setCell ⟨b4, 7, none⟩ c7)) := @T8F
  clear T8F
  rw [hb4] at hb0
  clear hb4
  by_cases hk : k < 0 ∨ 12 < k
  · have hX2 : X = (noRep, [], 170) := by rw [HD.out, if_pos hk]
    have HX := hid hX2
    have f1 := hid fa
    have hb1 := hb0
    clear hX2 fa hla HU HD
    by_cases h0 : k < 0
    · go_enter Tryd.func15, Tryd.ntmps15
      go_upto_region 1 with fail
      rw [HB4.out]
      generalize w.alloc (.cells #[.int .i64 0, .int .i64 0, .int .i64 0, .int .i64 0, .string ⟨#[]⟩, .slice none 0 0, .slice none 0 0, .slice none 0 0] 42) = W0 at hb0 hb1 f1 ⊢
      have z0 := cell_at hb1 0
      have y0 := free_at hb1 0
      have z1 := cell_at hb1 1
      have y1 := free_at hb1 1
      have z2 := cell_at hb1 2
      have y2 := free_at hb1 2
      have z3 := cell_at hb1 3
      have y3 := free_at hb1 3
      have z4 := cell_at hb1 4
      have y4 := free_at hb1 4
      have z5 := cell_at hb1 5
      have y5 := free_at hb1 5
      have z6 := cell_at hb1 6
      have y6 := free_at hb1 6
      have z7 := cell_at hb1 7
      have y7 := free_at hb1 7
      simp at z0 z1 z2 z3 z4 z5 z6 z7
      go_wp2_with fail
      (try simp only [Exit.inBlock, Exit.then])
      refine bodyPost_ret (results_row3 rfl _ _ b4 42 _ (0, 0) _ rfl (by exact heap_setCell_at (heap_setCell_at (heap_setCell_at (heap_setCell_at (heap_setCell_at (heap_setCell_at (heap_setCell_at (heap_setCell_at hb1 0 _) 1 _) 2 _) 3 _) 4 _) 5 _) 6 _) 7 _) Tryd.underlying42 rfl (by kernel_rfl)) rfl ?_
      rw [HX.out]
      exact ⟨_, [], rfl, HT8.out f1.out _ _ _ _ _ _ _ _, noRep_own _, List.nodup_nil, fun g hg => by cases hg⟩
    · have h12 : 12 < k := by omega
      go_enter Tryd.func15, Tryd.ntmps15
      go_upto_region 1 with fail
      rw [HB4.out]
      generalize w.alloc (.cells #[.int .i64 0, .int .i64 0, .int .i64 0, .int .i64 0, .string ⟨#[]⟩, .slice none 0 0, .slice none 0 0, .slice none 0 0] 42) = W0 at hb0 hb1 f1 ⊢
      have z0 := cell_at hb1 0
      have y0 := free_at hb1 0
      have z1 := cell_at hb1 1
      have y1 := free_at hb1 1
      have z2 := cell_at hb1 2
      have y2 := free_at hb1 2
      have z3 := cell_at hb1 3
      have y3 := free_at hb1 3
      have z4 := cell_at hb1 4
      have y4 := free_at hb1 4
      have z5 := cell_at hb1 5
      have y5 := free_at hb1 5
      have z6 := cell_at hb1 6
      have y6 := free_at hb1 6
      have z7 := cell_at hb1 7
      have y7 := free_at hb1 7
      simp at z0 z1 z2 z3 z4 z5 z6 z7
      go_wp2_with fail
      (try simp only [Exit.inBlock, Exit.then])
      refine bodyPost_ret (results_row3 rfl _ _ b4 42 _ (0, 0) _ rfl (by exact heap_setCell_at (heap_setCell_at (heap_setCell_at (heap_setCell_at (heap_setCell_at (heap_setCell_at (heap_setCell_at (heap_setCell_at hb1 0 _) 1 _) 2 _) 3 _) 4 _) 5 _) 6 _) 7 _) Tryd.underlying42 rfl (by kernel_rfl)) rfl ?_
      rw [HX.out]
      exact ⟨_, [], rfl, HT8.out f1.out _ _ _ _ _ _ _ _, noRep_own _, List.nodup_nil, fun g hg => by cases hg⟩
  · have hk0 : ¬ k < 0 := by omega
    have hk12 : ¬ 12 < k := by omega
    have hX2 : X = if e0 ≠ 0 then (noRep, [], e0) else if fitsRep k (takeRep k p) (s.take (s.length - rest.length)) then ((takeRep k p).2.1, rest, 0) else (noRep, [], 173) := by rw [HD.out, if_neg hk]
    have HX := hid hX2
    clear hX2 HD hk
    go_enter Tryd.func15, Tryd.ntmps15
    go_wp2_with fail
    rw [HB4.out]
    generalize w.alloc (.cells #[.int .i64 0, .int .i64 0, .int .i64 0, .int .i64 0, .string ⟨#[]⟩, .slice none 0 0, .slice none 0 0, .slice none 0 0] 42) = W0 at hb0 fa hla ⊢
    refine (HU.out _ hla).mono ?_
    rintro e w1 ⟨rfl, f1⟩
    have hb1 := f1.at_ hb0 (fun h => h)
    have f01 : Fresh w w1 := fa.trans f1
    have hsz1 : b4 < w1.heap.size := lt_of_block hb1
    have F01 := hid f01
    clear hla HU fa f1 hb0 f01
    by_cases h0 : e0 = 0
    · subst h0
      have HX2 : Hid (X = if fitsRep k (takeRep k p) (s.take (s.length - rest.length)) then ((takeRep k p).2.1, rest, 0) else (noRep, [], 173)) := by rw [Hid, HX.out, if_neg (by simp)]
      have HNR := hid (fun W hW => newReader_any (str p) W hW (by rw [str_size]; have := HLE.out; omega))
      have HB1 := hid hb1
      have HL := hid hl
      clear HX hb1 hl
      go_wp2_with fail
      refine (HNR.out _ (HL.out.fresh_ F01.out)).mono ?_
      rintro e w2 ⟨b, rfl, f2, hbb, hr2⟩
      rw [str_data] at hr2
      have hb2 := f2.at_ HB1.out (fun h => h)
      have f3 : Fresh w2 (w2.alloc (.cells #[.int .i64 0, .int .i64 0, .int .i64 0, .int .i64 0, .string ⟨#[]⟩, .slice none 0 0, .slice none 0 0, .slice none 0 0] 42)) := (Keeps.refl _ _).alloc _
      have hb3 := f3.at_ hb2 (fun h => h)
      have hbo := heap_alloc_new w2 (.cells #[.int .i64 0, .int .i64 0, .int .i64 0, .int .i64 0, .string ⟨#[]⟩, .slice none 0 0, .slice none 0 0, .slice none 0 0] 42)
      have hr3 := hr2.fresh f3
      have hbn : b < w2.heap.size := (hr2.2.1 b rfl).2
      have f03 := (F01.out.trans f2).trans f3
      have hb12 : b4 < w2.heap.size := lt_of_block hb2
      have h12 := f2.size
      clear hr2 hb2 f2 HNR f3 HB1
      go_upto_region 8 with fail
      obtain ⟨bo, hboe⟩ : ∃ bo, w2.heap.size = bo := ⟨_, rfl⟩
      rw [hboe] at hbo hbn hb12 h12 ⊢
      generalize w2.alloc (.cells #[.int .i64 0, .int .i64 0, .int .i64 0, .int .i64 0, .string ⟨#[]⟩, .slice none 0 0, .slice none 0 0, .slice none 0 0] 42) = W3 at hbo hr3 f03 hb3 ⊢
      clear hboe
      have HC := hid (rbyte_any _ b _ W3 hr3)
      have X3 : XSt (fun q => q = b) W3 bo (fun q => q = b) W3 _ := XSt.start hbo (fun (h : bo = b) => by omega)
      have hw3 : bo < W3.heap.size := lt_of_block hbo
      have HX3 := hid X3
      have HF3 := hid f03
      have HB3 := hid hb3
      clear X3 f03 hb3 hbo hr3
      go_wp2_with fail
      refine HC.out.mono ?_
      rintro e w4 ⟨rfl, hA⟩
      obtain ⟨S4, X4, R4, g4, k4⟩ := HX3.out.acts hA
      obtain ⟨kk, hkk⟩ : ∃ kk, (rd pByte 0 (p, 0, 0)).1 = kk := ⟨_, rfl⟩
      obtain ⟨ra, hra⟩ : ∃ ra, (rd pByte 0 (p, 0, 0)).2 = ra := ⟨_, rfl⟩
      rw [hra] at R4
      rw [hkk]
      have HC4 := hid (rbyte_any _ b _ w4 R4)
      have HX4 := hid X4
      clear hA HC X4 R4 g4 k4 HX3
      go_wp2_with fail
      refine HC4.out.mono ?_
      rintro e w5 ⟨rfl, hA⟩
      obtain ⟨S5, X5, R5, g5, k5⟩ := HX4.out.acts hA
      obtain ⟨zz, hzz⟩ : ∃ kk, (rd pByte 0 ra).1 = kk := ⟨_, rfl⟩
      obtain ⟨rb, hrb⟩ : ∃ ra', (rd pByte 0 ra).2 = ra' := ⟨_, rfl⟩
      rw [hrb] at R5
      rw [hzz]
      have HLS : Hid (∀ q, S5 q → q < w5.heap.size) := fun q hq => (R5.2.1 q hq).2
      have c0 := cell_at X5.box 0
      have f0 := free_at X5.box 0
      simp at c0
      have hT : takeRep k p = (kk, if zz = 0 then rFlds (tableOf k) rb (.mk (zz : Nat) 0 0 0 [] [] [] []) else (.mk (zz : Nat) 0 0 0 [] [] [] [], rb)) := by
        unfold takeRep
        simp only
        rw [hkk, hra, hzz, hrb]
      have HT := hid hT
      have X6 : XSt (fun q => q = b) W3 bo S5 (w5.setCell ⟨bo, 0, none⟩ (.int .i64 (zz : Nat))) #[.int .i64 (zz : Nat), .int .i64 0, .int .i64 0, .int .i64 0, .string ⟨#[]⟩, .slice none 0 0, .slice none 0 0, .slice none 0 0] := X5.put 0 (.int .i64 (zz : Nat))
      have R6 := R5.keeps (XSt.putKeeps w5 bo 0 (.int .i64 (zz : Nat))) (fun q hq (e : q = bo) => X5.out (by rw [← e]; exact hq))
      have T6 : TakeR W3.heap.size S5 b bo (w5.setCell ⟨bo, 0, none⟩ (.int .i64 (zz : Nat))) rb (.mk (zz : Nat) 0 0 0 [] [] [] []) _ [] := ⟨R6, X6.box, RepOwn.join (World.ownsRow_nil _ _ _ _) (World.ownsRow_nil _ _ _ _) (cp := []) (b1 := []) (World.ownsRow_nil _ _ _ _) (by rw [ReplsOwn]; exact ⟨rfl, rfl⟩), List.nodup_nil, fun q hq => (by cases hq), X6.out⟩
      have HT6 := hid T6
      have HX6 := hid X6
      have e0 := cell_at X6.box 0
      simp at e0
      clear hT hA HC4 g5 k5 X5 R5 R6 T6 HX4 hkk hra hzz hrb
      by_cases hz : zz = 0
      · have hT2 : takeRep k p = (kk, rFlds (tableOf k) rb (.mk (zz : Nat) 0 0 0 [] [] [] [])) := by rw [HT.out, if_pos hz]
        have HT2 := hid hT2
        have hzb : ((zz : Int) == 0) = true := by rw [hz]; rfl
        have HTB := hid (fun W => mtable_any k ⟨by omega, by omega⟩ W)
        have HTL := hid (tableOf_len k)
        clear hT2 hz X6
        go_wp2_with fail
        refine (HTB.out _).mono ?_
        rintro e w7 ⟨tv, rfl, f7, ao, cap, rfl, hcells⟩
        have X7 := HX6.out.fresh f7
        have T7' : TakeR W3.heap.size S5 b bo w7 rb (.mk (zz : Nat) 0 0 0 [] [] [] []) _ [] := ⟨HT6.out.rep.fresh f7, f7.at_ HT6.out.box (fun h => h), RepOwn.fresh f7 HT6.out.own, HT6.out.nodup, HT6.out.new, HT6.out.out⟩
        have HX7 := hid X7
        have HT7 := hid T7'
        have HC := hid hcells
        clear X7 T7' hcells f7 c0 f0 e0 HTB HX6 HT6
        go_wp2_with fail
        go_loopw [48] (fun i wr => ∃ (m : Nat) (Sr : Nat → Prop) (r2 : RSt) (R2 : Rep) (cr : Array Value) (bl : List Nat), i = .int .i64 (m : Int) ∧ m ≤ (tableOf k).length ∧ XSt (fun q => q = b) W3 bo Sr wr cr ∧ TakeR W3.heap.size Sr b bo wr r2 R2 cr bl ∧ Hid (∃ cs7, XSt S5 w7 bo Sr wr cs7) ∧
            Hid (rFlds (tableOf k) rb (.mk (zz : Nat) 0 0 0 [] [] [] []) = rFlds ((tableOf k).drop m) r2 R2) ∧ Hid (SmallR R2) ∧ Hid (m = 0 → R2.replies = [] ∧ cr[7]? = some (.slice none 0 0))) (fun i _ => (tableOf k).length - (intOf i).toNat)
        case atStart => exact ⟨0, S5, rb, _, _, [], rfl, by omega, HX7.out, HT7.out, ⟨_, XSt.start HX7.out.box HX7.out.out⟩, rfl, by simp [Hid, SmallR, Rep.hashes, Rep.entries, Rep.root, Rep.replies, bulk, wtPs], fun _ => ⟨rfl, rfl⟩⟩
        case round =>
          obtain ⟨m, Sr, r2, R2, cr, bl, rfl, hm, Xr, Tr, HXX, HDD, HSM, HPP⟩ := hrel
          by_cases hlt : m < (tableOf k).length
          · obtain ⟨f, hf⟩ : ∃ f, (tableOf k)[m]? = some f := ⟨(tableOf k)[m], by simp⟩
            obtain ⟨bt, rfl, hbn', hbt⟩ := HC.out (by rintro h; rw [h] at hlt; simp at hlt)
            have hnt : bt ≠ bo := by
              rintro rfl
              have h2 := HX7.out.box
              rw [hbt] at h2
              injection h2 with h2
              injection h2 with _ h2
              revert h2
              decide
            have hst' : ¬ S5 bt := fun h => by
              have h1 := HLS.out bt h
              simp only [World.size_setCell] at hbn'
              omega
            obtain ⟨cs7, Xr7⟩ := HXX.out
            have hbtr := Xr7.keepBlock hbt hst' hnt
            have q0 := cell_at hbtr m
            rw [List.getElem?_toArray, List.getElem?_map, hf] at q0
            simp only [Option.map_some] at q0
            have hd : (tableOf k).drop m = f :: (tableOf k).drop (m + 1) := by
              obtain ⟨hm', rfl⟩ := List.getElem?_eq_some_iff.1 hf
              exact List.drop_eq_getElem_cons hm'
            have hD2 := HDD.out
            rw [hd, rFlds_cons] at hD2
            have hpf : f = .parts → R2.replies = [] ∧ cr[7]? = some (.slice none 0 0) := fun h => HPP.out (parts_first k (by rw [hf, h]))
            have HFD := hid (xfld_r f W3.heap.size Sr b bo r2 R2 cr bl wr Tr Xr.keeps.size hpf)
            have HSM2 : Hid (SmallR (rFld f r2 R2).1) := rFld_small f r2 R2 HSM.out (fun h => (hpf h).1)
            have hcf := callFld f
            have HD2 := hid hD2
            have HXr := hid Xr
            have HX7r := hid Xr7
            have hm4 : m < 4 := by have := HTL.out; omega
            have hfv : fldV f = .func (.func (fid f)) #[] #[] := rfl
            rw [hfv] at q0
            clear hD2 HDD hd hf hbt hbtr Xr hst' hnt hfv hpf Tr Xr7 HXX hbn'
            unfold aggR at HFD
            generalize fid f = ff at q0 hcf HFD
            go_wp2_with fail
            refine HFD.out.mono ?_
            rintro e w8 ⟨rfl, S8, cs8, bl8, X8, T8'⟩
            clear q0 hcf
            go_wp2_with fail
            go_roundw
            case rel => exact ⟨m + 1, S8, _, _, cs8, bl8, by go_num, by omega, HXr.out.after X8, T8', ⟨_, HX7r.out.after X8⟩, HD2, HSM2, fun h => by omega⟩
            case measure => simp [intOf]; omega
          · obtain rfl : m = (tableOf k).length := by omega
            have hD2 := HDD.out
            rw [List.drop_length] at hD2
            have hD3 : takeRep k p = (kk, R2, r2) := by rw [HT2.out, hD2]; rfl
            have HTK := hid hD3
            have HTR := hid Tr
            have HXR := hid Xr
            clear hD2 hD3 HDD Xr Tr HXX
            obtain ⟨al, cl, ae, ce, aq, cq, hsh⟩ := HTR.out.own.shape
            injection hsh with hsh
            have hbx : wr.heap[bo]? = some (.cells #[.int .i64 R2.status, .int .i64 R2.size, .int .i64 R2.a, .int .i64 R2.b, .string (str R2.root), .slice al R2.hashes.length cl, .slice ae R2.entries.length ce, .slice aq R2.replies.length cq] 42 (0, 0)) := by rw [← hsh]; exact HTR.out.box
            have hown : RepOwn wr R2 (.agg #[.int .i64 R2.status, .int .i64 R2.size, .int .i64 R2.a, .int .i64 R2.b, .string (str R2.root), .slice al R2.hashes.length cl, .slice ae R2.entries.length ce, .slice aq R2.replies.length cq]) bl := by rw [← hsh]; exact HTR.out.own
            have hbw := HXR.out.keepBlock HB3.out (fun (h : b4 = b) => by omega) (by omega)
            have fw : Fresh w wr := HF3.out.trans' HXR.out.keeps (fun q hq h => by
              have := HB4.out
              rcases h with h | h
              · have h : q = b := h; omega
              · omega)
            have hdn := rdone_any Sr b r2 wr (HL.out.fresh_ fw) HTR.out.rep
            have hnew : ∀ g ∈ bl, ¬ Sr g ∧ g ≠ bo ∧ W3.heap.size ≤ g := HTR.out.new
            have HNEW := hid hnew
            have HND : Hid (bl.Nodup) := HTR.out.nodup
            have HDN := hid hdn
            have HBX := hid hbx
            have HOWN := hid hown
            have HBW := hid hbw
            have HFW := hid fw
            clear hbx hown hbw fw hdn hnew hsh HTR
            go_wp2_with fail
            refine HDN.out.mono ?_
            rintro e w9 ⟨rfl, f9⟩
            have hbx9 := f9.at_ HBX.out (fun h => h)
            have x0 := cell_at hbx9 0
            have x1 := cell_at hbx9 1
            have x2 := cell_at hbx9 2
            have x3 := cell_at hbx9 3
            have x4 := cell_at hbx9 4
            have x5 := cell_at hbx9 5
            have x6 := cell_at hbx9 6
            have x7 := cell_at hbx9 7
            simp at x0 x1 x2 x3 x4 x5 x6 x7
            have he9 := encodeRep_any (fun g => g ∈ bl) k R2 _ w9 (HL.out.fresh_ (HFW.out.trans f9)) (RepOwn.at _ _ _ (RepOwn.fresh f9 HOWN.out) _ (fun _ h => h)) (fun g hg => RepOwn.there _ _ _ (RepOwn.fresh f9 HOWN.out) g hg) (by have := HSM.out.wt; omega)
            have HE9 := hid he9
            have F9 := hid f9
            clear he9 f9 hbx9
            go_wp2_with fail
            refine HE9.out.mono ?_
            rintro e w10 ⟨rfl, f10⟩
            have f9' := F9.out.trans f10
            have HB7 := hid (f9'.at_ HBW.out (fun h => h))
            have hb7 := HB7.out
            have hbx7 := f9'.at_ HBX.out (fun h => h)
            clear x0 x1 x2 x3 x4 x5 x6 x7
            have q0 := cell_at hbx7 0
            have q1 := cell_at hbx7 1
            have q2 := cell_at hbx7 2
            have q3 := cell_at hbx7 3
            have q4 := cell_at hbx7 4
            have q5 := cell_at hbx7 5
            have q6 := cell_at hbx7 6
            have q7 := cell_at hbx7 7
            simp at q0 q1 q2 q3 q4 q5 q6 q7
            have z0 := cell_at hb7 0
            have y0 := free_at hb7 0
            have z1 := cell_at hb7 1
            have y1 := free_at hb7 1
            have z2 := cell_at hb7 2
            have y2 := free_at hb7 2
            have z3 := cell_at hb7 3
            have y3 := free_at hb7 3
            have z4 := cell_at hb7 4
            have y4 := free_at hb7 4
            have z5 := cell_at hb7 5
            have y5 := free_at hb7 5
            have z6 := cell_at hb7 6
            have y6 := free_at hb7 6
            have z7 := cell_at hb7 7
            have y7 := free_at hb7 7
            simp at z0 z1 z2 z3 z4 z5 z6 z7
            have F10 := hid (HFW.out.trans f9')
            have HOW := hid (RepOwn.fresh f9' HOWN.out)
            clear hb7 hbx7 f9' f10
            obtain ⟨we, hwe⟩ : ∃ we, (rDone r2).1 = we := ⟨_, rfl⟩
            obtain ⟨wt2, hwt⟩ : ∃ we, (rDone r2).2 = we := ⟨_, rfl⟩
            obtain ⟨es, hes⟩ : ∃ es, (encRep k R2).1 = es := ⟨_, rfl⟩
            obtain ⟨ee, hee⟩ : ∃ ee, (encRep k R2).2 = ee := ⟨_, rfl⟩
            have hX2 : X = if (kk : Int) = k ∧ we = 0 ∧ ee = 0 ∧ es = s.take (s.length - rest.length) then (R2, rest, 0) else (noRep, [], 173) := by
              rw [HX2.out, HTK.out, fitsRep]
              simp only [hwe, hes, hee, decide_eq_true_eq]
            rw [hwe, hwt, hes, hee]
            clear hwe hwt hes hee
            have bad : ∀ (h : ¬ ((kk : Int) = k ∧ we = 0 ∧ ee = 0 ∧ es = s.take (s.length - rest.length))), X = (noRep, [], 173) := fun h => by rw [hX2, if_neg h]
            have HBAD := hid bad
            have HX5 := hid hX2
            clear bad hX2
            by_cases h1 : (kk : Int) = k
            · have hb1 : ((kk : Int) != k) = false := by rw [h1]; simp
              by_cases h2 : we = 0
              · have hb2 : (we != 0) = false := by rw [h2]; rfl
                by_cases h3 : ee = 0
                · have hb3 : (ee != 0) = false := by rw [h3]; rfl
                  obtain ⟨m9, hm9⟩ : ∃ m, rest.length = m := ⟨_, rfl⟩
                  obtain ⟨n9, hn9⟩ : ∃ n, s.length = n + m9 := ⟨s.length - m9, by have := HLE.out; omega⟩
                  have hss : (str s).size = n9 + m9 := by rw [str_size, hn9]
                  have hsr : (str rest).size = m9 := by rw [str_size, hm9]
                  have hnm : s.length - rest.length = n9 := by omega
                  have hex := str_to s n9
                  have hbn9 : n9 + m9 ≤ 9223372036854775807 := by omega
                  have htl : (str (s.take n9)).toList = s.take n9 := str_toList _
                  rw [hnm] at HX5 HBAD
                  clear hm9 hn9 hnm
                  by_cases h4 : es = s.take n9
                  · have HX := hid (show X = (R2, rest, 0) by rw [HX5.out, if_pos ⟨h1, h2, h3, h4⟩])
                    subst h4
                    subst h3
                    subst h2
                    clear h1
                    go_wp2_with fail
                    (try simp only [Exit.inBlock, Exit.then])
                    refine bodyPost_ret (results_row3 rfl _ _ b4 42 _ (0, 0) _ rfl (by exact heap_setCell_at (heap_setCell_at (heap_setCell_at (heap_setCell_at (heap_setCell_at (heap_setCell_at (heap_setCell_at (heap_setCell_at HB7.out 0 _) 1 _) 2 _) 3 _) 4 _) 5 _) 6 _) 7 _) Tryd.underlying42 rfl (by kernel_rfl)) rfl ?_
                    rw [HX.out]
                    exact ⟨_, bl, rfl, HT8.out F10.out _ _ _ _ _ _ _ _, RepOwn.keeps (T8 _ _ _ _ _ _ _ _) _ _ _ HOW.out (fun g hg (h : g = b4) => by have := (HNEW.out g hg).2.2; omega), HND.out, fun g hg => by have := (HNEW.out g hg).2.2; have := HB4.out; omega⟩
                  · have HX := hid (HBAD.out (fun h => h4 h.2.2.2))
                    have hte : (str es).toList = es := str_toList _
                    have hne : (es == s.take n9) = false := beq_eq_false_iff_ne.2 h4
                    subst h3
                    subst h2
                    clear h1
                    go_wp2_with fail
                    (try simp only [Exit.inBlock, Exit.then])
                    refine bodyPost_ret (results_row3 rfl _ _ b4 42 _ (0, 0) _ rfl (by exact heap_setCell_at (heap_setCell_at (heap_setCell_at (heap_setCell_at (heap_setCell_at (heap_setCell_at (heap_setCell_at (heap_setCell_at HB7.out 0 _) 1 _) 2 _) 3 _) 4 _) 5 _) 6 _) 7 _) Tryd.underlying42 rfl (by kernel_rfl)) rfl ?_
                    rw [HX.out]
                    exact ⟨_, [], rfl, HT8.out F10.out _ _ _ _ _ _ _ _, noRep_own _, List.nodup_nil, fun g hg => by cases hg⟩
                · have HX := hid (HBAD.out (fun h => h3 h.2.2.1))
                  have hb3 : (ee != 0) = true := bne_iff_ne.2 h3
                  subst h2
                  clear h1
                  go_wp2_with fail
                  (try simp only [Exit.inBlock, Exit.then])
                  refine bodyPost_ret (results_row3 rfl _ _ b4 42 _ (0, 0) _ rfl (by exact heap_setCell_at (heap_setCell_at (heap_setCell_at (heap_setCell_at (heap_setCell_at (heap_setCell_at (heap_setCell_at (heap_setCell_at HB7.out 0 _) 1 _) 2 _) 3 _) 4 _) 5 _) 6 _) 7 _) Tryd.underlying42 rfl (by kernel_rfl)) rfl ?_
                  rw [HX.out]
                  exact ⟨_, [], rfl, HT8.out F10.out _ _ _ _ _ _ _ _, noRep_own _, List.nodup_nil, fun g hg => by cases hg⟩
              · have HX := hid (HBAD.out (fun h => h2 h.2.1))
                have hb2 : (we != 0) = true := bne_iff_ne.2 h2
                clear h1
                go_wp2_with fail
                (try simp only [Exit.inBlock, Exit.then])
                refine bodyPost_ret (results_row3 rfl _ _ b4 42 _ (0, 0) _ rfl (by exact heap_setCell_at (heap_setCell_at (heap_setCell_at (heap_setCell_at (heap_setCell_at (heap_setCell_at (heap_setCell_at (heap_setCell_at HB7.out 0 _) 1 _) 2 _) 3 _) 4 _) 5 _) 6 _) 7 _) Tryd.underlying42 rfl (by kernel_rfl)) rfl ?_
                rw [HX.out]
                exact ⟨_, [], rfl, HT8.out F10.out _ _ _ _ _ _ _ _, noRep_own _, List.nodup_nil, fun g hg => by cases hg⟩
            · have HX := hid (HBAD.out (fun h => h1 h.1))
              have hb1 : ((kk : Int) != k) = true := bne_iff_ne.2 h1
              go_wp2_with fail
              (try simp only [Exit.inBlock, Exit.then])
              refine bodyPost_ret (results_row3 rfl _ _ b4 42 _ (0, 0) _ rfl (by exact heap_setCell_at (heap_setCell_at (heap_setCell_at (heap_setCell_at (heap_setCell_at (heap_setCell_at (heap_setCell_at (heap_setCell_at HB7.out 0 _) 1 _) 2 _) 3 _) 4 _) 5 _) 6 _) 7 _) Tryd.underlying42 rfl (by kernel_rfl)) rfl ?_
              rw [HX.out]
              exact ⟨_, [], rfl, HT8.out F10.out _ _ _ _ _ _ _ _, noRep_own _, List.nodup_nil, fun g hg => by cases hg⟩
      · have hT2 : takeRep k p = (kk, (.mk (zz : Nat) 0 0 0 [] [] [] []), rb) := by rw [HT.out, if_neg hz]
        have HTK := hid hT2
        have hzb : ((zz : Int) == 0) = false := by rw [beq_eq_false_iff_ne]; omega
        have HTR := HT6
        have HXR := HX6
        have HSM : Hid (SmallR (.mk (zz : Nat) 0 0 0 [] [] [] [])) := by simp [Hid, SmallR, Rep.hashes, Rep.entries, Rep.root, Rep.replies, bulk, wtPs]
        clear hT2 X6 HX6 HT6
        obtain ⟨al, cl, ae, ce, aq, cq, hsh⟩ := HTR.out.own.shape
        injection hsh with hsh
        have hbx : (w5.setCell ⟨bo, 0, none⟩ (.int .i64 (zz : Nat))).heap[bo]? = some (.cells #[.int .i64 (Rep.mk (zz : Nat) 0 0 0 [] [] [] []).status, .int .i64 (Rep.mk (zz : Nat) 0 0 0 [] [] [] []).size, .int .i64 (Rep.mk (zz : Nat) 0 0 0 [] [] [] []).a, .int .i64 (Rep.mk (zz : Nat) 0 0 0 [] [] [] []).b, .string (str (Rep.mk (zz : Nat) 0 0 0 [] [] [] []).root), .slice al (Rep.mk (zz : Nat) 0 0 0 [] [] [] []).hashes.length cl, .slice ae (Rep.mk (zz : Nat) 0 0 0 [] [] [] []).entries.length ce, .slice aq (Rep.mk (zz : Nat) 0 0 0 [] [] [] []).replies.length cq] 42 (0, 0)) := by rw [← hsh]; exact HTR.out.box
        have hown : RepOwn (w5.setCell ⟨bo, 0, none⟩ (.int .i64 (zz : Nat))) (Rep.mk (zz : Nat) 0 0 0 [] [] [] []) (.agg #[.int .i64 (Rep.mk (zz : Nat) 0 0 0 [] [] [] []).status, .int .i64 (Rep.mk (zz : Nat) 0 0 0 [] [] [] []).size, .int .i64 (Rep.mk (zz : Nat) 0 0 0 [] [] [] []).a, .int .i64 (Rep.mk (zz : Nat) 0 0 0 [] [] [] []).b, .string (str (Rep.mk (zz : Nat) 0 0 0 [] [] [] []).root), .slice al (Rep.mk (zz : Nat) 0 0 0 [] [] [] []).hashes.length cl, .slice ae (Rep.mk (zz : Nat) 0 0 0 [] [] [] []).entries.length ce, .slice aq (Rep.mk (zz : Nat) 0 0 0 [] [] [] []).replies.length cq]) ([] : List Nat) := by rw [← hsh]; exact HTR.out.own
        have hbw := HXR.out.keepBlock HB3.out (fun (h : b4 = b) => by omega) (by omega)
        have fw : Fresh w (w5.setCell ⟨bo, 0, none⟩ (.int .i64 (zz : Nat))) := HF3.out.trans' HXR.out.keeps (fun q hq h => by
          have := HB4.out
          rcases h with h | h
          · have h : q = b := h; omega
          · omega)
        have hdn := rdone_any S5 b rb (w5.setCell ⟨bo, 0, none⟩ (.int .i64 (zz : Nat))) (HL.out.fresh_ fw) HTR.out.rep
        have hnew : ∀ g ∈ ([] : List Nat), ¬ S5 g ∧ g ≠ bo ∧ W3.heap.size ≤ g := HTR.out.new
        have HNEW := hid hnew
        have HND : Hid (([] : List Nat).Nodup) := HTR.out.nodup
        have HDN := hid hdn
        have HBX := hid hbx
        have HOWN := hid hown
        have HBW := hid hbw
        have HFW := hid fw
        clear hbx hown hbw fw hdn hnew hsh HTR
        go_wp2_with fail
        refine HDN.out.mono ?_
        rintro e w9 ⟨rfl, f9⟩
        have hbx9 := f9.at_ HBX.out (fun h => h)
        have x0 := cell_at hbx9 0
        have x1 := cell_at hbx9 1
        have x2 := cell_at hbx9 2
        have x3 := cell_at hbx9 3
        have x4 := cell_at hbx9 4
        have x5 := cell_at hbx9 5
        have x6 := cell_at hbx9 6
        have x7 := cell_at hbx9 7
        simp at x0 x1 x2 x3 x4 x5 x6 x7
        have he9 := encodeRep_any (fun g => g ∈ ([] : List Nat)) k (Rep.mk (zz : Nat) 0 0 0 [] [] [] []) _ w9 (HL.out.fresh_ (HFW.out.trans f9)) (RepOwn.at _ _ _ (RepOwn.fresh f9 HOWN.out) _ (fun _ h => h)) (fun g hg => RepOwn.there _ _ _ (RepOwn.fresh f9 HOWN.out) g hg) (by have := HSM.out.wt; omega)
        have HE9 := hid he9
        have F9 := hid f9
        clear he9 f9 hbx9
        go_wp2_with fail
        refine HE9.out.mono ?_
        rintro e w10 ⟨rfl, f10⟩
        have f9' := F9.out.trans f10
        have HB7 := hid (f9'.at_ HBW.out (fun h => h))
        have hb7 := HB7.out
        have hbx7 := f9'.at_ HBX.out (fun h => h)
        clear x0 x1 x2 x3 x4 x5 x6 x7
        have q0 := cell_at hbx7 0
        have q1 := cell_at hbx7 1
        have q2 := cell_at hbx7 2
        have q3 := cell_at hbx7 3
        have q4 := cell_at hbx7 4
        have q5 := cell_at hbx7 5
        have q6 := cell_at hbx7 6
        have q7 := cell_at hbx7 7
        simp at q0 q1 q2 q3 q4 q5 q6 q7
        have z0 := cell_at hb7 0
        have y0 := free_at hb7 0
        have z1 := cell_at hb7 1
        have y1 := free_at hb7 1
        have z2 := cell_at hb7 2
        have y2 := free_at hb7 2
        have z3 := cell_at hb7 3
        have y3 := free_at hb7 3
        have z4 := cell_at hb7 4
        have y4 := free_at hb7 4
        have z5 := cell_at hb7 5
        have y5 := free_at hb7 5
        have z6 := cell_at hb7 6
        have y6 := free_at hb7 6
        have z7 := cell_at hb7 7
        have y7 := free_at hb7 7
        simp at z0 z1 z2 z3 z4 z5 z6 z7
        have F10 := hid (HFW.out.trans f9')
        have HOW := hid (RepOwn.fresh f9' HOWN.out)
        clear hb7 hbx7 f9' f10
        obtain ⟨we, hwe⟩ : ∃ we, (rDone rb).1 = we := ⟨_, rfl⟩
        obtain ⟨wt2, hwt⟩ : ∃ we, (rDone rb).2 = we := ⟨_, rfl⟩
        obtain ⟨es, hes⟩ : ∃ es, (encRep k (Rep.mk (zz : Nat) 0 0 0 [] [] [] [])).1 = es := ⟨_, rfl⟩
        obtain ⟨ee, hee⟩ : ∃ ee, (encRep k (Rep.mk (zz : Nat) 0 0 0 [] [] [] [])).2 = ee := ⟨_, rfl⟩
        have hX2 : X = if (kk : Int) = k ∧ we = 0 ∧ ee = 0 ∧ es = s.take (s.length - rest.length) then ((Rep.mk (zz : Nat) 0 0 0 [] [] [] []), rest, 0) else (noRep, [], 173) := by
          rw [HX2.out, HTK.out, fitsRep]
          simp only [hwe, hes, hee, decide_eq_true_eq]
        rw [hwe, hwt, hes, hee]
        clear hwe hwt hes hee
        have bad : ∀ (h : ¬ ((kk : Int) = k ∧ we = 0 ∧ ee = 0 ∧ es = s.take (s.length - rest.length))), X = (noRep, [], 173) := fun h => by rw [hX2, if_neg h]
        have HBAD := hid bad
        have HX5 := hid hX2
        clear bad hX2
        by_cases h1 : (kk : Int) = k
        · have hb1 : ((kk : Int) != k) = false := by rw [h1]; simp
          by_cases h2 : we = 0
          · have hb2 : (we != 0) = false := by rw [h2]; rfl
            by_cases h3 : ee = 0
            · have hb3 : (ee != 0) = false := by rw [h3]; rfl
              obtain ⟨m9, hm9⟩ : ∃ m, rest.length = m := ⟨_, rfl⟩
              obtain ⟨n9, hn9⟩ : ∃ n, s.length = n + m9 := ⟨s.length - m9, by have := HLE.out; omega⟩
              have hss : (str s).size = n9 + m9 := by rw [str_size, hn9]
              have hsr : (str rest).size = m9 := by rw [str_size, hm9]
              have hnm : s.length - rest.length = n9 := by omega
              have hex := str_to s n9
              have hbn9 : n9 + m9 ≤ 9223372036854775807 := by omega
              have htl : (str (s.take n9)).toList = s.take n9 := str_toList _
              rw [hnm] at HX5 HBAD
              clear hm9 hn9 hnm
              by_cases h4 : es = s.take n9
              · have HX := hid (show X = ((Rep.mk (zz : Nat) 0 0 0 [] [] [] []), rest, 0) by rw [HX5.out, if_pos ⟨h1, h2, h3, h4⟩])
                subst h4
                subst h3
                subst h2
                clear h1
                go_wp2_with fail
                (try simp only [Exit.inBlock, Exit.then])
                refine bodyPost_ret (results_row3 rfl _ _ b4 42 _ (0, 0) _ rfl (by exact heap_setCell_at (heap_setCell_at (heap_setCell_at (heap_setCell_at (heap_setCell_at (heap_setCell_at (heap_setCell_at (heap_setCell_at HB7.out 0 _) 1 _) 2 _) 3 _) 4 _) 5 _) 6 _) 7 _) Tryd.underlying42 rfl (by kernel_rfl)) rfl ?_
                rw [HX.out]
                exact ⟨_, ([] : List Nat), rfl, HT8.out F10.out _ _ _ _ _ _ _ _, RepOwn.keeps (T8 _ _ _ _ _ _ _ _) _ _ _ HOW.out (fun g hg (h : g = b4) => by have := (HNEW.out g hg).2.2; omega), HND.out, fun g hg => by have := (HNEW.out g hg).2.2; have := HB4.out; omega⟩
              · have HX := hid (HBAD.out (fun h => h4 h.2.2.2))
                have hte : (str es).toList = es := str_toList _
                have hne : (es == s.take n9) = false := beq_eq_false_iff_ne.2 h4
                subst h3
                subst h2
                clear h1
                go_wp2_with fail
                (try simp only [Exit.inBlock, Exit.then])
                refine bodyPost_ret (results_row3 rfl _ _ b4 42 _ (0, 0) _ rfl (by exact heap_setCell_at (heap_setCell_at (heap_setCell_at (heap_setCell_at (heap_setCell_at (heap_setCell_at (heap_setCell_at (heap_setCell_at HB7.out 0 _) 1 _) 2 _) 3 _) 4 _) 5 _) 6 _) 7 _) Tryd.underlying42 rfl (by kernel_rfl)) rfl ?_
                rw [HX.out]
                exact ⟨_, [], rfl, HT8.out F10.out _ _ _ _ _ _ _ _, noRep_own _, List.nodup_nil, fun g hg => by cases hg⟩
            · have HX := hid (HBAD.out (fun h => h3 h.2.2.1))
              have hb3 : (ee != 0) = true := bne_iff_ne.2 h3
              subst h2
              clear h1
              go_wp2_with fail
              (try simp only [Exit.inBlock, Exit.then])
              refine bodyPost_ret (results_row3 rfl _ _ b4 42 _ (0, 0) _ rfl (by exact heap_setCell_at (heap_setCell_at (heap_setCell_at (heap_setCell_at (heap_setCell_at (heap_setCell_at (heap_setCell_at (heap_setCell_at HB7.out 0 _) 1 _) 2 _) 3 _) 4 _) 5 _) 6 _) 7 _) Tryd.underlying42 rfl (by kernel_rfl)) rfl ?_
              rw [HX.out]
              exact ⟨_, [], rfl, HT8.out F10.out _ _ _ _ _ _ _ _, noRep_own _, List.nodup_nil, fun g hg => by cases hg⟩
          · have HX := hid (HBAD.out (fun h => h2 h.2.1))
            have hb2 : (we != 0) = true := bne_iff_ne.2 h2
            clear h1
            go_wp2_with fail
            (try simp only [Exit.inBlock, Exit.then])
            refine bodyPost_ret (results_row3 rfl _ _ b4 42 _ (0, 0) _ rfl (by exact heap_setCell_at (heap_setCell_at (heap_setCell_at (heap_setCell_at (heap_setCell_at (heap_setCell_at (heap_setCell_at (heap_setCell_at HB7.out 0 _) 1 _) 2 _) 3 _) 4 _) 5 _) 6 _) 7 _) Tryd.underlying42 rfl (by kernel_rfl)) rfl ?_
            rw [HX.out]
            exact ⟨_, [], rfl, HT8.out F10.out _ _ _ _ _ _ _ _, noRep_own _, List.nodup_nil, fun g hg => by cases hg⟩
        · have HX := hid (HBAD.out (fun h => h1 h.1))
          have hb1 : ((kk : Int) != k) = true := bne_iff_ne.2 h1
          go_wp2_with fail
          (try simp only [Exit.inBlock, Exit.then])
          refine bodyPost_ret (results_row3 rfl _ _ b4 42 _ (0, 0) _ rfl (by exact heap_setCell_at (heap_setCell_at (heap_setCell_at (heap_setCell_at (heap_setCell_at (heap_setCell_at (heap_setCell_at (heap_setCell_at HB7.out 0 _) 1 _) 2 _) 3 _) 4 _) 5 _) 6 _) 7 _) Tryd.underlying42 rfl (by kernel_rfl)) rfl ?_
          rw [HX.out]
          exact ⟨_, [], rfl, HT8.out F10.out _ _ _ _ _ _ _ _, noRep_own _, List.nodup_nil, fun g hg => by cases hg⟩
    · have hX2 : X = (noRep, [], e0) := by rw [HX.out, if_pos h0]
      have HX := hid hX2
      have hb : (e0 != 0) = true := bne_iff_ne.2 h0
      clear hX2
      have z0 := cell_at hb1 0
      have y0 := free_at hb1 0
      have z1 := cell_at hb1 1
      have y1 := free_at hb1 1
      have z2 := cell_at hb1 2
      have y2 := free_at hb1 2
      have z3 := cell_at hb1 3
      have y3 := free_at hb1 3
      have z4 := cell_at hb1 4
      have y4 := free_at hb1 4
      have z5 := cell_at hb1 5
      have y5 := free_at hb1 5
      have z6 := cell_at hb1 6
      have y6 := free_at hb1 6
      have z7 := cell_at hb1 7
      have y7 := free_at hb1 7
      simp at z0 z1 z2 z3 z4 z5 z6 z7
      go_wp2_with fail
      (try simp only [Exit.inBlock, Exit.then])
      refine bodyPost_ret (results_row3 rfl _ _ b4 42 _ (0, 0) _ rfl (by exact heap_setCell_at (heap_setCell_at (heap_setCell_at (heap_setCell_at (heap_setCell_at (heap_setCell_at (heap_setCell_at (heap_setCell_at hb1 0 _) 1 _) 2 _) 3 _) 4 _) 5 _) 6 _) 7 _) Tryd.underlying42 rfl (by kernel_rfl)) rfl ?_
      rw [HX.out]
      exact ⟨_, [], rfl, HT8.out F01.out _ _ _ _ _ _ _ _, noRep_own _, List.nodup_nil, fun g hg => by cases hg⟩
end Go.Proofs.YtpccaodkgboefaaDoor
