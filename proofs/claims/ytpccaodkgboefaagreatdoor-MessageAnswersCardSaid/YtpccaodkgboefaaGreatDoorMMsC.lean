/-
  Package message: framed, Encode; unframed.
  A request that was taken is small; what is laid down of a request is bounded by its weight.
-/
import Derived.Test.YtpccaodkgboefaaGreatDoorMsPlainW
import Derived.Test.YtpccaodkgboefaaGreatDoorMMsA
namespace Go.Proofs.YtpccaodkgboefaaGreatDoor
open Go.RowKit

theorem Laid.fresh_ {w w' : World} (h : Laid w) (f : Fresh w w') : Laid w' := h.keeps f (fun h => h)

set_option maxRecDepth 100000 in
set_option maxHeartbeats 1000000 in
theorem mframed_any (S : Nat → Prop) (b : Nat) (st : WSt) (w : World) (hl : Laid w) (h : WRep S w b st) (hlen : st.1.length ≤ 9223372036854775807) :
    Calls Tryz.prog 32 #[.pointer (some ⟨b, 0, none⟩)] w fun e w' => e = .returned (.tuple #[.string (str (framedW st).1), .int .i64 (framedW st).2]) ∧ Fresh w w' := by
  have hd := wdone_any S b st w hl h
  by_cases h0 : st.2 = 0
  · rw [if_pos h0, h0] at hd
    have hf := fun W => frame_any st.1 W hlen
    have hF : framedW st = if (framed st.1).2 ≠ 0 then ([], 174) else ((framed st.1).1, 0) := by unfold framedW; rw [if_neg (by omega)]
    rw [hF]
    obtain ⟨fs, hfs⟩ : ∃ fs, (framed st.1).1 = fs := ⟨_, rfl⟩
    obtain ⟨fe, hfe⟩ : ∃ fe, (framed st.1).2 = fe := ⟨_, rfl⟩
    rw [hfs, hfe] at hf ⊢
    have HD := hid hd
    have HFR := hid hf
    clear hd hf hF h h0 hfs hfe
    by_cases he : fe = 0
    · subst he
      rw [if_neg (by simp)]
      go_enter Tryz.func32, Tryz.ntmps32
      go_wp2_with fail
      refine HD.out.mono ?_
      rintro e w1 ⟨rfl, f1⟩
      go_wp2_with fail
      refine (HFR.out _).mono ?_
      rintro e w2 ⟨rfl, f2⟩
      go_wp2_with fail
      go_ret2
      exact ⟨rfl, f1.trans f2⟩
    · rw [if_pos he]
      have hb : (fe != 0) = true := bne_iff_ne.2 he
      go_enter Tryz.func32, Tryz.ntmps32
      go_wp2_with fail
      refine HD.out.mono ?_
      rintro e w1 ⟨rfl, f1⟩
      go_wp2_with fail
      refine (HFR.out _).mono ?_
      rintro e w2 ⟨rfl, f2⟩
      go_wp2_with fail
      go_ret2
      exact ⟨rfl, f1.trans f2⟩
  · have hF : framedW st = ([], 171) := by unfold framedW; rw [if_pos h0]
    rw [hF]
    have hb : (st.2 != 0) = true := bne_iff_ne.2 h0
    obtain ⟨q, hq⟩ : ∃ q, st.2 = q := ⟨_, rfl⟩
    rw [hq] at hd hb h0
    have HD := hid hd
    clear hd hF h hq
    go_enter Tryz.func32, Tryz.ntmps32
    go_wp2_with fail
    refine HD.out.mono ?_
    rintro e w1 ⟨rfl, f1⟩
    go_wp2_with fail
    go_ret2
    exact ⟨rfl, f1⟩

theorem partsOf_len : ∀ (l : List Req) (st : WSt), (∀ x ∈ l, x.list.length ≤ 9223372036854775807) → (partsOf st l).1.length ≤ st.1.length + wtAll l + 10
  | [], st, _ => by simp only [partsOf]; omega
  | x :: r, st, h => by
    rw [partsOf_cons]
    split
    · have := wNum_len st (-1); omega
    · rename_i hin
      have hin : inPart x.kind = true := by cases hq : inPart x.kind with
        | true => rfl
        | false => exact absurd hq hin
      have h1 := fieldsFlat_len (wByte st x.kind) hin (h x (by simp))
      have h2 := wByte_len st x.kind
      have h3 := partsOf_len r (fieldsFlat (wByte st x.kind) x) (fun y hy => h y (by simp [hy]))
      unfold wtAll
      omega

set_option maxRecDepth 100000 in
set_option maxHeartbeats 2000000 in
theorem encode_any (B : Nat → Prop) (R : Req) (v : Value) (w : World) (hl : Laid w) (hv : ReqAt B w R v) (hB : ∀ q, B q → q < w.heap.size) (hlen : wt R < 70368744177000) (hfl : (fieldsOf (wByte ([], 0) R.kind) R).1.length ≤ 9223372036854775807) :
    Calls Tryz.prog 9 #[v] w fun e w' => e = .returned (.tuple #[.string (str (encOf R).1), .int .i64 (encOf R).2]) ∧ Fresh w w' := by
  have hnw := newWriter_any
  have hpl := fun W hW => plain_any (SizeOf.sizeOf R) R (Nat.le_refl _) B v W hW
  have hv0 := hv
  obtain ⟨lv, ev, ao, cap, rfl, ⟨hl1, -⟩, ⟨he1, -⟩, -, -⟩ := hv.parts
  obtain ⟨al, cl, rfl, -⟩ := hl1.ints_
  obtain ⟨ae, ce, rfl, -⟩ := he1.texts
  obtain ⟨K, hK⟩ : ∃ K, R.kind = K := ⟨_, rfl⟩
  rw [hK] at hpl hv0 hfl
  rw [hK]
  have f0 : Fresh w (w.alloc (.cells #[.int .i64 K, .int .i64 R.a, .int .i64 R.b, .int .i64 R.size, .slice al R.list.length cl, .slice ae R.entries.length ce, .slice ao R.asks.length cap] 26)) := (Keeps.refl _ _).alloc _
  have hbox := heap_alloc_new w (.cells #[.int .i64 K, .int .i64 R.a, .int .i64 R.b, .int .i64 R.size, .slice al R.list.length cl, .slice ae R.entries.length ce, .slice ao R.asks.length cap] 26)
  obtain ⟨w1, hw1⟩ : ∃ w1, w.alloc (.cells #[.int .i64 K, .int .i64 R.a, .int .i64 R.b, .int .i64 R.size, .slice al R.list.length cl, .slice ae R.entries.length ce, .slice ao R.asks.length cap] 26) = w1 := ⟨_, rfl⟩
  obtain ⟨bx, hbx⟩ : ∃ bx, w.heap.size = bx := ⟨_, rfl⟩
  rw [hw1] at f0 hbox
  rw [hbx] at hbox
  have x0 := cell_at hbox 0
  have x1 := cell_at hbox 1
  have x2 := cell_at hbox 2
  have x3 := cell_at hbox 3
  have x4 := cell_at hbox 4
  have x5 := cell_at hbox 5
  have x6 := cell_at hbox 6
  simp at x0 x1 x2 x3 x4 x5 x6
  have hv1 := hv0.fresh f0
  have hl1 := hl.fresh_ f0
  have hE : encOf R = if K < 1 ∨ 12 < K then ([], 170) else if plainOf R = false then ([], 171) else framedW (fieldsOf (wByte ([], 0) K) R) := by unfold encOf; rw [hK]
  rw [hE]
  clear hE hv hv0 he1
  by_cases h1 : K < 1
  · rw [if_pos (.inl h1)]
    clear hpl hfl hlen
    go_enter Tryz.func9, Tryz.ntmps9
    go_wp2_with fail
    go_ret2
    exact ⟨rfl, f0⟩
  · by_cases h12 : 12 < K
    · rw [if_pos (.inr h12)]
      clear hpl hfl hlen
      go_enter Tryz.func9, Tryz.ntmps9
      go_wp2_with fail
      go_ret2
      exact ⟨rfl, f0⟩
    · rw [if_neg (by omega)]
      have HPL := hid hpl
      have HV1 := hid hv1
      have HBX := hid hbox
      clear hpl hv1 hbox
      cases hp : plainOf R with
      | false =>
        rw [if_pos rfl]
        clear hfl hlen
        go_enter Tryz.func9, Tryz.ntmps9
        go_wp2_with fail
        refine (HPL.out _ HV1.out).mono ?_
        rintro e w2 ⟨rfl, f2⟩
        rw [hp]
        go_wp2_with fail
        go_ret2
        exact ⟨rfl, f0.trans f2⟩
      | true =>
        rw [if_neg (by decide)]
        go_enter Tryz.func9, Tryz.ntmps9
        go_wp2_with fail
        refine (HPL.out _ HV1.out).mono ?_
        rintro e w2 ⟨rfl, f2⟩
        rw [hp]
        clear x0 x1 x2 x3 x4 x5 x6 hw1
        go_wp2_with fail
        refine (hnw _ (hl1.fresh_ f2)).mono ?_
        rintro e w3 ⟨b, rfl, f3, hb3, hw3⟩
        have f23 := f2.trans f3
        have hbox := f23.at_ HBX.out (fun h => h)
        have x0 := cell_at hbox 0
        simp at x0
        have hbw : w.heap.size ≤ b := by have := f0.size; have := f2.size; omega
        go_wp2_with fail
        refine (wbyte_any _ b _ K _ hw3 (by simp)).mono ?_
        rintro e w4 ⟨rfl, S4, g4, k4, hr4⟩
        have hnb : ∀ q, S4 q → w2.heap.size ≤ q := fun q hq => by
          rcases g4 q hq with h | h
          · have h : q = b := h; omega
          · have := f3.size; omega
        have k4' : Fresh w w4 := (f0.trans f23).trans' k4 (fun q hq h => by have h : q = b := h; omega)
        have hbox4 := k4.at_ hbox (fun h => by have h : bx = b := h; have := lt_of_block HBX.out; have := f2.size; omega)
        have y0 := cell_at hbox4 0
        have y1 := cell_at hbox4 1
        have y2 := cell_at hbox4 2
        have y3 := cell_at hbox4 3
        have y4 := cell_at hbox4 4
        have y5 := cell_at hbox4 5
        have y6 := cell_at hbox4 6
        simp at y0 y1 y2 y3 y4 y5 y6
        have hv4 : ReqAt B w4 R _ := ReqAt.keeps k4 (fun q hq hb => by have h : q = b := hq; have := hB q hb; omega) R _ (HV1.out.fresh f23)
        have hl4 := (hl1.fresh_ f23).lives hw3.2.1 k4
        have hwl := wByte_len ([], 0) K
        have hw1s := f0.size
        have hfa := fields_any B S4 b _ R _ w4 hr4 hv4 (fun q hq => Nat.lt_of_lt_of_le (hB q hq) k4'.size) (fun q hq hb => by have := hnb q hq; have := hB q hb; have := f2.size; omega) (by simp at hwl; omega)
        have HFA := hid hfa
        clear hfa x0 hbox hv4 HPL HV1 HBX
        go_wp2_with fail
        refine HFA.out.mono ?_
        rintro e w5 ⟨rfl, S5, g5, k5, hr5⟩
        have hl5 := hl4.lives hr4.2.1 k5
        have k5' : Fresh w w5 := k4'.trans' k5 (fun q hq h => by have := hnb q h; have := f2.size; omega)
        have hfr := mframed_any S5 b _ w5 hl5 hr5 hfl
        have HFR := hid hfr
        clear hfr y0 y1 y2 y3 y4 y5 y6 HFA hbox4
        go_wp2_with fail
        refine HFR.out.mono ?_
        rintro e w6 ⟨rfl, f6⟩
        go_wp2_with fail
        go_ret2
        exact ⟨rfl, k5'.trans f6⟩

/-- a frame's payload, and what stands behind it -/
def unframedM (s : List UInt8) : List UInt8 × List UInt8 × Int :=
  if (unframed s).2.2 = 0 then ((unframed s).1, (unframed s).2.1, 0) else if (unframed s).2.2 = 21 then ([], [], 172) else if (unframed s).2.2 = 22 then ([], [], 174) else ([], [], 173)
set_option maxRecDepth 100000 in
set_option maxHeartbeats 1000000 in
theorem munframed_any (s : List UInt8) (w : World) (hl : Laid w) (hs : s.length ≤ 9223372036854775807) :
    Calls Tryz.prog 46 #[.string (str s)] w fun e w' => e = .returned (.tuple #[.string (str (unframedM s).1), .string (str (unframedM s).2.1), .int .i64 (unframedM s).2.2]) ∧ Fresh w w' := by
  have hu := unframe_any s w hl hs
  have hM : unframedM s = if (unframed s).2.2 = 0 then ((unframed s).1, (unframed s).2.1, 0) else if (unframed s).2.2 = 21 then ([], [], 172) else if (unframed s).2.2 = 22 then ([], [], 174) else ([], [], 173) := rfl
  rw [hM]
  obtain ⟨p, hp⟩ : ∃ p, (unframed s).1 = p := ⟨_, rfl⟩
  obtain ⟨r, hr⟩ : ∃ r, (unframed s).2.1 = r := ⟨_, rfl⟩
  obtain ⟨e0, he⟩ : ∃ e, (unframed s).2.2 = e := ⟨_, rfl⟩
  rw [hp, hr, he] at hu ⊢
  have HU := hid hu
  clear hu hM hp hr he
  by_cases h0 : e0 = 0
  · subst h0
    rw [if_pos rfl]
    go_enter Tryz.func46, Tryz.ntmps46
    go_wp2_with fail
    refine HU.out.mono ?_
    rintro e w1 ⟨rfl, f1⟩
    go_wp2_with fail
    go_ret3
    exact ⟨rfl, f1⟩
  · rw [if_neg h0]
    by_cases h21 : e0 = 21
    · subst h21
      rw [if_pos rfl]
      go_enter Tryz.func46, Tryz.ntmps46
      go_wp2_with fail
      refine HU.out.mono ?_
      rintro e w1 ⟨rfl, f1⟩
      go_wp2_with fail
      go_ret3
      exact ⟨rfl, f1⟩
    · rw [if_neg h21]
      by_cases h22 : e0 = 22
      · subst h22
        rw [if_pos rfl]
        go_enter Tryz.func46, Tryz.ntmps46
        go_wp2_with fail
        refine HU.out.mono ?_
        rintro e w1 ⟨rfl, f1⟩
        go_wp2_with fail
        go_ret3
        exact ⟨rfl, f1⟩
      · rw [if_neg h22]
        go_enter Tryz.func46, Tryz.ntmps46
        go_wp2_with fail
        refine HU.out.mono ?_
        rintro e w1 ⟨rfl, f1⟩
        go_wp2_with fail
        go_ret3
        exact ⟨rfl, f1⟩
end Go.Proofs.YtpccaodkgboefaaGreatDoor

namespace Go.Proofs.YtpccaodkgboefaaGreatDoor
open Go.RowKit

theorem wText_len9 (st : WSt) (s : List UInt8) (most : Int) (hs : s.length ≤ 9223372036854775807) : (wText st s most).1.length ≤ st.1.length + (s.length + 10) := by
  unfold wText wRefuse
  split
  · simp
  · split
    · simp
    · have := digs_len10 (n := s.length) hs
      simp only [List.length_append]
      omega
theorem wTextsFold_len (most : Int) : ∀ (l : List (List UInt8)) (st : WSt), bulk l ≤ 9223372036854775807 → (l.foldl (fun st s => wText st s most) st).1.length ≤ st.1.length + bulk l
  | [], st, _ => by simp [bulk]
  | s :: r, st, h => by
    rw [bulk] at h
    have h1 := wText_len9 st s most (by omega)
    have h2 := wTextsFold_len most r (wText st s most) (by omega)
    rw [List.foldl_cons, bulk]
    omega
theorem wTexts_len (st : WSt) (l : List (List UInt8)) (many most : Int) (h : bulk l ≤ 9223372036854775807) : (wTexts st l many most).1.length ≤ st.1.length + 10 + bulk l := by
  unfold wTexts
  split
  · unfold wRefuse; simp; omega
  · split
    · unfold wRefuse; simp; omega
    · have h1 := wTextsFold_len most l (wNum st l.length) h
      have h2 := wNum_len st l.length
      omega
theorem fieldsFlat_len2 {R : Req} (st : WSt) (hl : R.list.length ≤ 9223372036854775807) (he : bulk R.entries ≤ 9223372036854775807) : (fieldsFlat st R).1.length ≤ st.1.length + wtF R := by
  unfold wtF fieldsFlat
  split
  · split
    · have h1 := wTexts_len (wNum st (-1)) R.entries 32 4096 he
      have h2 := wNum_len st (-1)
      omega
    · have h1 := wTexts_len st R.entries 32 4096 he
      omega
  split
  · have := mSize_len st R.size; omega
  split
  · have := mSize_len st R.a; have := mSize_len (mSize st R.a) R.b; have := mSize_len (mSize (mSize st R.a) R.b) R.size; omega
  split
  · have := mSize_len st R.a; have := mSize_len (mSize st R.a) R.size; omega
  split
  · have := mSize_len st R.a; omega
  split
  · have := mSize_len st R.size; have := mRising_len (mSize st R.size) R.list 256 hl; omega
  split
  · have := mRising_len st R.list 64 hl; omega
  · omega
theorem wtAll_mem : ∀ {l : List Req} {x : Req}, x ∈ l → wtF x ≤ wtAll l
  | [], x, h => by cases h
  | y :: r, x, h => by
    unfold wtAll
    rcases List.mem_cons.1 h with rfl | h
    · omega
    · have := wtAll_mem h; omega
theorem fieldsOf_len {R : Req} (st : WSt) (h : wt R ≤ 9223372036854775807) : (fieldsOf st R).1.length ≤ st.1.length + wt R := by
  unfold wt at h ⊢
  have hl : R.list.length ≤ 9223372036854775807 := by unfold wtF at h; omega
  have he : bulk R.entries ≤ 9223372036854775807 := by unfold wtF at h; omega
  unfold fieldsOf
  split
  · have h1 := wNum_len st (-1)
    have h2 : (wNum (if R.asks.length = 0 ∨ 64 < R.asks.length then wNum st (-1) else st) R.asks.length).1.length ≤ st.1.length + 20 := by
      have h3 := wNum_len (wNum st (-1)) R.asks.length
      have h4 := wNum_len st R.asks.length
      split <;> omega
    have h5 := partsOf_len R.asks (wNum (if R.asks.length = 0 ∨ 64 < R.asks.length then wNum st (-1) else st) R.asks.length) (fun x hx => by
      have := wtAll_mem hx
      unfold wtF at this
      omega)
    omega
  · have := fieldsFlat_len2 st hl he
    omega

theorem pElems_all {p : List UInt8 → Except Int (List UInt8 × List UInt8)} {m : Nat} (hp : ∀ l x l', p l = .ok (x, l') → x.length ≤ m) : ∀ (n : Nat) (l : List UInt8) (xs : List (List UInt8)) (l' : List UInt8), pElems p n l = .ok (xs, l') → xs.length = n ∧ bulk xs ≤ n * (m + 10)
  | 0, l, xs, l', h => by
    injection h with h
    injection h with h _
    subst h
    simp [bulk]
  | n + 1, l, xs, l', h => by
    rw [pElems] at h
    cases h1 : p l with
    | error e => rw [h1] at h; cases h
    | ok y =>
      rw [h1] at h
      simp only at h
      cases h2 : pElems p n y.2 with
      | error e => rw [h2] at h; cases h
      | ok z =>
        rw [h2] at h
        injection h with h
        injection h with h _
        subst h
        have h3 := pElems_all hp n _ _ _ h2
        have h4 := hp _ _ _ h1
        simp only [List.length_cons, bulk]
        rw [Nat.add_mul]
        omega
theorem pText_small {most : Int} {l x l' : List UInt8} (h : pText most l = .ok (x, l')) (hm : 0 ≤ most) : x.length ≤ most.toNat := by
  unfold pText at h
  cases h1 : pCount most l with
  | error e => rw [h1] at h; cases h
  | ok y =>
    rw [h1] at h
    simp only at h
    split at h
    · cases h
    · injection h with h
      injection h with h _
      subst h
      have := (pCount_le h1).2.2
      simp
      omega
theorem pTexts_small {many most : Int} {l : List UInt8} {xs : List (List UInt8)} {l' : List UInt8} (h : pTexts many most l = .ok (xs, l')) : (xs.length : Int) ≤ many ∧ bulk xs ≤ xs.length * (most.toNat + 10) := by
  unfold pTexts at h
  split at h
  · cases h
  · rename_i hn
    cases h1 : pCount many l with
    | error e => rw [h1] at h; cases h
    | ok y =>
      rw [h1] at h
      have h2 := pElems_all (fun l x l' h => pText_small h (by omega)) y.1 _ _ _ h
      have h3 := (pCount_le h1).2.2
      rw [h2.1]
      exact ⟨by omega, h2.2⟩
theorem pRiseN_length : ∀ (n : Nat) (last : Int) (l : List UInt8) (xs : List Int) (l' : List UInt8), pRiseN n last l = .ok (xs, l') → xs.length = n
  | 0, last, l, xs, l', h => by
    injection h with h
    injection h with h _
    subst h
    rfl
  | n + 1, last, l, xs, l', h => by
    rw [pRiseN] at h
    cases h1 : pNum 0 0 l with
    | error e => rw [h1] at h; cases h
    | ok y =>
      rw [h1] at h
      simp only at h
      split at h
      · cases h
      · cases h2 : pRiseN n (last + (y.1 + 1)) y.2 with
        | error e => rw [h2] at h; cases h
        | ok z =>
          rw [h2] at h
          injection h with h
          injection h with h _
          subst h
          simp [pRiseN_length n _ _ _ _ h2]
theorem pRising_small {many : Int} {l : List UInt8} {xs : List Int} {l' : List UInt8} (h : pRising many l = .ok (xs, l')) : (xs.length : Int) ≤ many := by
  unfold pRising at h
  split at h
  · cases h
  · cases h1 : pCount many l with
    | error e => rw [h1] at h; cases h
    | ok y =>
      rw [h1] at h
      have h2 := pRiseN_length y.1 _ _ _ _ h
      have h3 := (pCount_le h1).2.2
      omega
theorem rE_small (is : Bool) (r : RSt) : (rE is r).1.length ≤ 32 ∧ bulk (rE is r).1 ≤ 131392 := by
  unfold rE rd
  split
  · split
    · simp [bulk]
    · cases hp : pTexts 32 4096 r.1 with
      | error e => simp [bulk]
      | ok x =>
        have := pTexts_small hp
        have h1 : x.1.length ≤ 32 := by omega
        refine ⟨h1, ?_⟩
        have h2 := this.2
        have : x.1.length * ((4096 : Int).toNat + 10) ≤ 32 * 4106 := Nat.mul_le_mul h1 (by decide)
        show bulk x.1 ≤ _
        omega
  · simp [bulk]
theorem rL_small (is : Bool) (r : RSt) : (rL is r).1.length ≤ 256 := by
  unfold rL rd
  split
  · split
    · simp
    · cases hp : pRising 256 r.1 with
      | error e => simp
      | ok x =>
        have := pRising_small hp
        simp only
        omega
  · simp
theorem rRest_small (k : Int) (e : List (List UInt8)) (qs : List Req) (r : RSt) (h1 : e.length ≤ 32) (h2 : bulk e ≤ 131392) : wtF (rRest k e qs r).1 ≤ 140000 := by
  unfold rRest wtF
  simp only [Req.list, Req.entries]
  have := rL_small (whichOf k).list (rN (whichOf k).size (rN (whichOf k).b (rN (whichOf k).a r).2).2).2
  omega
theorem rReq_small : ∀ (n : Nat) (k : Int) (r : RSt), wtF (rReq n k r).1 ≤ 140000
  | 0, k, r => by
    show wtF (.mk k 0 0 0 [] [] []) ≤ _
    simp [wtF, Req.list, Req.entries, bulk]
  | n + 1, k, r => by
    rw [rReq_succ]
    unfold rReqF
    split
    · exact rRest_small _ _ _ _ (rE_small _ _).1 (rE_small _ _).2
    · split
      · exact rRest_small _ _ _ _ (by simp) (by simp [bulk])
      · exact rRest_small _ _ _ _ (by simp) (by simp [bulk])
theorem rAsks_small {F : Int → RSt → Req × RSt} (hF : ∀ k r, wtF (F k r).1 ≤ 140000) : ∀ (n : Nat) (r : RSt), wtAll (rAsks F n r).1 ≤ n * 140001
  | 0, r => by simp [rAsks, wtAll]
  | n + 1, r => by
    rw [rAsks]
    have h1 := hF ((rd pByte 0 r).1 : Nat) (rd pByte 0 r).2
    split
    · simp only [wtAll]
      omega
    · have h2 := rAsks_small hF n (F ((rd pByte 0 r).1 : Nat) (rd pByte 0 r).2).2
      simp only [wtAll]
      rw [Nat.add_mul]
      omega
theorem rReq_wt (n : Nat) (k : Int) (r : RSt) : wt (rReq n k r).1 ≤ 10000000 := by
  unfold wt
  have h0 := rReq_small n k r
  have h1 : wtAll (rReq n k r).1.asks ≤ 65 * 140001 := by
    cases n with
    | zero => exact Nat.zero_le _
    | succ n =>
      rw [rReq_succ]
      unfold rReqF
      split
      · exact Nat.zero_le _
      · split
        · show wtAll (rAsks _ _ _).1 ≤ _
          refine Nat.le_trans (rAsks_small (rReq_small n) _ _) (Nat.mul_le_mul_right _ ?_)
          omega
        · exact Nat.zero_le _
  omega
end Go.Proofs.YtpccaodkgboefaaGreatDoor
