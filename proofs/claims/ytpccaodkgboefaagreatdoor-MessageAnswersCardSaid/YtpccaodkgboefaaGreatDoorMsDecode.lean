/-
  Package message: Decode.
-/
import Derived.Test.YtpccaodkgboefaaGreatDoorMMsC
import Derived.Test.YtpccaodkgboefaaGreatDoorMsReadC
namespace Go.Proofs.YtpccaodkgboefaaGreatDoor
open Go.RowKit

def noReq : Req := .mk 0 0 0 0 [] [] []
/-- a payload, as a request -/
def takeOf (p : List UInt8) : Req × RSt := rReq (p.length + 1) ((rd pByte 0 (p, 0, 0)).1 : Nat) (rd pByte 0 (p, 0, 0)).2
/-- a request that was read: is it one? -/
def fitsOf (q : Req × RSt) (head : List UInt8) : Bool := decide ((rDone q.2).1 = 0 ∧ (encOf q.1).2 = 0 ∧ (encOf q.1).1 = head)
def decOf (s : List UInt8) : Req × List UInt8 × Int :=
  if (unframedM s).2.2 ≠ 0 then (noReq, [], (unframedM s).2.2)
  else if fitsOf (takeOf (unframedM s).1) (s.take (s.length - (unframedM s).2.1.length)) then ((takeOf (unframedM s).1).1, (unframedM s).2.1, 0) else (noReq, [], 173)

theorem unframedM_le (s : List UInt8) : (unframedM s).2.1.length ≤ s.length ∧ (unframedM s).1.length ≤ s.length := by
  unfold unframedM
  split
  · unfold unframed
    cases h : pText 1048576 s with
    | error e => simp
    | ok x =>
      refine ⟨takes_text _ _ _ _ h, ?_⟩
      show x.1.length ≤ _
      unfold pText at h
      cases h1 : pCount 1048576 s with
      | error e => rw [h1] at h; cases h
      | ok y =>
        rw [h1] at h
        simp only at h
        split at h
        · cases h
        · injection h with h
          have := takes_count 1048576 _ _ _ h1
          rw [← h]
          simp
          omega
  · split
    · simp
    · split <;> simp

theorem noReq_own (w : World) : ReqOwn w noReq (.agg #[.int .i64 0, .int .i64 0, .int .i64 0, .int .i64 0, .slice none 0 0, .slice none 0 0, .slice none 0 0]) [] := by
  rw [noReq, ReqOwn]
  exact ⟨_, _, _, [], [], rfl, World.ownsRow_nil _ _ _ _, World.ownsRow_nil _ _ _ _, World.ownsRow_nil _ _ _ _, by rw [ElemsOwn]; exact ⟨rfl, rfl⟩, rfl⟩
theorem results_row3 {P : Program} {fn : Func} {p t2 t3 : Tmp} {ty : TypeId} (h : fn.results = #[.cell p ty, .tmp t2, .tmp t3]) (tmps : Array Value) (w : World) (g : Nat) (t : TypeId) (cs : Array Value) (fr : Nat × Nat) (d : TypeDesc)
    (hp : tmps.getD p undef = .pointer (some ⟨g, 0, none⟩)) (hg : w.heap[g]? = some (.cells cs t fr))
    (hu : P.underlying ty = some d) (hd : (match d with | .struct _ | .array _ _ => true | _ => false) = true) (hi : (P.info? ty).map (·.size) = some cs.size) :
    (results fn tmps).run P w = .ok (.tuple #[.agg cs, tmps.getD t2 undef, tmps.getD t3 undef]) w := by
  have hp' : tmps[p]?.getD undef = .pointer (some ⟨g, 0, none⟩) := by simpa using hp
  simp [results, h, hp', asAddr, run_loadVar_row w g t ty cs fr d hg hu hd hi]
/-- what Decode leaves -/
def Told (w : World) (q : Req × List UInt8 × Int) (e : Ending) (w' : World) : Prop :=
  ∃ v bl, e = .returned (.tuple #[v, .string (str q.2.1), .int .i64 q.2.2]) ∧ Fresh w w' ∧ ReqOwn w' q.1 v bl ∧ bl.Nodup ∧ ∀ g ∈ bl, w.heap.size ≤ g

/-- seven stores into one block -/
theorem T7 {w : World} {g : Nat} (c0 c1 c2 c3 c4 c5 c6 : Value) : Keeps (fun q => q = g) w (((((((w.setCell ⟨g, 0, none⟩ c0).setCell ⟨g, 1, none⟩ c1).setCell ⟨g, 2, none⟩ c2).setCell ⟨g, 3, none⟩ c3).setCell ⟨g, 4, none⟩ c4).setCell ⟨g, 5, none⟩ c5).setCell ⟨g, 6, none⟩ c6) :=
  (((((((Keeps.refl (fun q => q = g) w).setCell (fun _ => rfl) _).setCell (fun _ => rfl) _).setCell (fun _ => rfl) _).setCell (fun _ => rfl) _).setCell (fun _ => rfl) _).setCell (fun _ => rfl) _).setCell (fun _ => rfl) _

set_option maxRecDepth 100000 in
set_option maxHeartbeats 2000000 in
theorem decode_any (s : List UInt8) (w : World) (hl : Laid w) (hs : s.length ≤ 9223372036854775807) :
    Calls Tryz.prog 15 #[.string (str s)] w fun e w' => Told w (decOf s) e w' := by
  have hle := unframedM_le s
  have hu := fun W hW => munframed_any s W hW hs
  have hD : decOf s = if (unframedM s).2.2 ≠ 0 then (noReq, [], (unframedM s).2.2) else if fitsOf (takeOf (unframedM s).1) (s.take (s.length - (unframedM s).2.1.length)) then ((takeOf (unframedM s).1).1, (unframedM s).2.1, 0) else (noReq, [], 173) := rfl
  rw [hD]
  obtain ⟨p, hp⟩ : ∃ p, (unframedM s).1 = p := ⟨_, rfl⟩
  obtain ⟨rest, hr⟩ : ∃ r, (unframedM s).2.1 = r := ⟨_, rfl⟩
  obtain ⟨e0, he⟩ : ∃ e, (unframedM s).2.2 = e := ⟨_, rfl⟩
  rw [hp, hr, he] at hu ⊢
  rw [hp, hr] at hle
  have hn0 : Fresh w (w.alloc (.cells zeroReq 26)) := (Keeps.refl _ _).alloc _
  have hb0 := heap_alloc_new w (.cells zeroReq 26)
  have hz0 : w.heap.size < (w.alloc (.cells zeroReq 26)).heap.size := by simp
  have hl0 := hl.fresh_ hn0
  generalize w.alloc (.cells zeroReq 26) = W0 at hn0 hb0 hz0 hl0
  have HU := hid hu
  have HLE := hid hle
  clear hu hD hp hr he hle
  by_cases h0 : e0 = 0
  · subst h0
    rw [if_neg (by simp)]
    have hnr := fun W hW => newReader_any (str p) W hW (by rw [str_size]; have := HLE.out; omega)
    have HNR := hid hnr
    obtain ⟨q, hq⟩ : ∃ q, takeOf p = q := ⟨_, rfl⟩
    rw [hq]
    obtain ⟨X, hX⟩ : ∃ X, (if fitsOf q (s.take (s.length - rest.length)) then (q.1, rest, (0 : Int)) else (noReq, [], 173)) = X := ⟨_, rfl⟩
    rw [hX]
    have HX := hid hX
    clear hX
    have HQ := hid hq
    have HDN := hid hn0
    clear hnr hq
    go_enter Tryz.func15, Tryz.ntmps15
    go_wp2_with fail
    refine (HU.out _ (hl.fresh_ ((Keeps.refl _ _).alloc _))).mono ?_
    rintro e w1 ⟨rfl, f1⟩
    have hb1 := f1.at_ (heap_alloc_new w (.cells zeroReq 26)) (fun h => h)
    have f01 : Fresh w w1 := ((Keeps.refl (fun _ => False) w).alloc _).trans f1
    have hsz1 : w.heap.size < w1.heap.size := lt_of_block hb1
    clear f1 hn0 hb0 hz0 hl0 HDN
    go_wp2_with fail
    refine (HNR.out _ (hl.fresh_ f01)).mono ?_
    rintro e w2 ⟨b, rfl, f2, hbb, hr2⟩
    rw [str_data] at hr2
    go_wp2_with fail
    refine (rbyte_any _ b _ _ hr2).mono ?_
    rintro e w3 ⟨rfl, S3, g3, k3, hr3⟩
    have f03 : Fresh w w3 := (f01.trans f2).trans' k3 (fun i hi (h : i = b) => by have := f01.size; omega)
    have hs3 : ∀ i, S3 i → w1.heap.size ≤ i := fun i hi => by
      rcases g3 i hi with h | h
      · have h : i = b := h; omega
      · have := f2.size; omega
    have hb3 := (k3.at_ (f2.at_ hb1 (fun h => h)) (fun (h : _ = b) => by omega))
    have hx : (rd pByte 0 (p, 0, 0)).2.1.length < p.length + 1 ∨ (((rd pByte 0 (p, 0, 0)).1 : Nat) : Int) = 0 := .inl (by have := rd_len takes_byte 0 (p, 0, 0); simp only at this; omega)
    have hmr := mread_any (p.length + 1) S3 b _ w3 _ hr3 hx
    rw [show rReq (p.length + 1) ((rd pByte 0 (p, 0, 0)).1 : Nat) (rd pByte 0 (p, 0, 0)).2 = q from HQ.out] at hmr
    have hsm : wt q.1 ≤ 10000000 := by rw [← HQ.out]; exact rReq_wt _ _ _
    have HMR := hid hmr
    have HSM := hid hsm
    have HB3 := hid hb3
    clear hmr hx hr2 hr3 hb1 hsm hb3
    go_wp2_with fail
    refine HMR.out.mono ?_
    rintro e w4 ⟨S4, bl, v, rfl, g4, k4, hr4, ho4, hnd, hbl⟩
    obtain ⟨al, cl, ae, ce, aq, cq, rfl⟩ := ho4.shape
    have hb4 := k4.at_ HB3.out (fun h => by have := hs3 _ h; omega)
    have f04 : Fresh w w4 := f03.trans' k4 (fun i hi h => by have := hs3 _ h; omega)
    have hs4 : ∀ i, S4 i → w1.heap.size ≤ i := fun i hi => by
      rcases g4 i hi with h | h
      · exact hs3 i h
      · have := k3.size; have := f2.size; omega
    have fa : Fresh w4 (w4.alloc (.cells #[.int .i64 q.1.kind, .int .i64 q.1.a, .int .i64 q.1.b, .int .i64 q.1.size, .slice al q.1.list.length cl, .slice ae q.1.entries.length ce, .slice aq q.1.asks.length cq] 26)) := (Keeps.refl _ _).alloc _
    have h9 := heap_alloc_new w4 (.cells #[.int .i64 q.1.kind, .int .i64 q.1.a, .int .i64 q.1.b, .int .i64 q.1.size, .slice al q.1.list.length cl, .slice ae q.1.entries.length ce, .slice aq q.1.asks.length cq] 26)
    have hdn := rdone_any S4 b q.2 _ (hl.fresh_ (f04.trans fa)) (hr4.fresh fa)
    have ho5 := ReqOwn.fresh fa ho4
    have H9 := hid h9
    have HDN := hid hdn
    have HO5 := hid ho5
    have HB4 := hid hb4
    have F05 := hid (f04.trans fa)
    have FA := hid fa
    have F04 := hid f04
    have hbl2 : ∀ g ∈ bl, w.heap.size < g := fun g hg => by have := (hbl g hg).2; have := k3.size; have := f2.size; omega
    have HBL := hid hbl2
    clear hb4 f04 hs4 fa h9 hdn ho5 ho4 hr4 hbl2
    go_wp2_with fail
    refine HDN.out.mono ?_
    rintro e w6 ⟨rfl, f6⟩
    have h96 := f6.at_ H9.out (fun h => h)
    have x0 := cell_at h96 0
    have x1 := cell_at h96 1
    have x2 := cell_at h96 2
    have x3 := cell_at h96 3
    have x4 := cell_at h96 4
    have x5 := cell_at h96 5
    have x6 := cell_at h96 6
    simp at x0 x1 x2 x3 x4 x5 x6
    have f06 := F05.out.trans f6
    have he6 := encode_any (fun g => g ∈ bl) q.1 _ w6 (hl.fresh_ f06) (ReqOwn.at _ _ _ (ReqOwn.fresh f6 HO5.out) _ (fun _ h => h)) (fun g hg => ReqOwn.there _ _ _ (ReqOwn.fresh f6 HO5.out) g hg) (by have := HSM.out; omega) (by
      have h1 := fieldsOf_len (R := q.1) (wByte ([], 0) q.1.kind) (by have := HSM.out; omega)
      have h2 := wByte_len ([], 0) q.1.kind
      have := HSM.out
      simp at h2
      omega)
    have HE6 := hid he6
    have F6 := hid f6
    clear f6 f06 he6
    go_wp2_with fail
    refine HE6.out.mono ?_
    rintro e w7 ⟨rfl, f7⟩
    have F07 := hid ((F05.out.trans F6.out).trans f7)
    have F57 := hid (F6.out.trans f7)
    have hb7 := F57.out.at_ (FA.out.at_ HB4.out (fun h => h)) (fun h => h)
    have HB7 := hid hb7
    have h97 := F57.out.at_ H9.out (fun h => h)
    have q0 := cell_at h97 0
    have q1 := cell_at h97 1
    have q2 := cell_at h97 2
    have q3 := cell_at h97 3
    have q4 := cell_at h97 4
    have q5 := cell_at h97 5
    have q6 := cell_at h97 6
    simp at q0 q1 q2 q3 q4 q5 q6
    have z0 := cell_at hb7 0
    have y0 := free_at hb7 0
    have z1 := cell_at hb7 1
    have y1 := free_at hb7 1
    have z2 := cell_at hb7 2
    have y2 := free_at hb7 2
    have z3 := cell_at hb7 3
    have y3 := free_at hb7 3
    have z4 := cell_at hb7 4
    have y4 := free_at hb7 4
    have z5 := cell_at hb7 5
    have y5 := free_at hb7 5
    have z6 := cell_at hb7 6
    have y6 := free_at hb7 6
    simp [zeroReq] at z0 z1 z2 z3 z4 z5 z6
    clear hb7 h97 x0 x1 x2 x3 x4 x5 x6 f7 h96
    have hT7 : ∀ c0 c1 c2 c3 c4 c5 c6 : Value, Fresh w (((((((w7.setCell ⟨w.heap.size, 0, none⟩ c0).setCell ⟨w.heap.size, 1, none⟩ c1).setCell ⟨w.heap.size, 2, none⟩ c2).setCell ⟨w.heap.size, 3, none⟩ c3).setCell ⟨w.heap.size, 4, none⟩ c4).setCell ⟨w.heap.size, 5, none⟩ c5).setCell ⟨w.heap.size, 6, none⟩ c6) := fun c0 c1 c2 c3 c4 c5 c6 => F07.out.trans' (T7 c0 c1 c2 c3 c4 c5 c6) (fun i hi (h : i = w.heap.size) => by omega)
    have HT7 := hid hT7
    clear hT7
    obtain ⟨we, hwe⟩ : ∃ we, (rDone q.2).1 = we := ⟨_, rfl⟩
    obtain ⟨wt2, hwt⟩ : ∃ we, (rDone q.2).2 = we := ⟨_, rfl⟩
    obtain ⟨es, hes⟩ : ∃ es, (encOf q.1).1 = es := ⟨_, rfl⟩
    obtain ⟨ee, hee⟩ : ∃ ee, (encOf q.1).2 = ee := ⟨_, rfl⟩
    have hfit : fitsOf q (s.take (s.length - rest.length)) = decide (we = 0 ∧ ee = 0 ∧ es = s.take (s.length - rest.length)) := by unfold fitsOf; rw [hwe, hes, hee]
    have hX2 := HX.out
    rw [hfit] at hX2
    rw [hwe, hwt, hes, hee]
    clear hfit hwe hwt hes hee
    by_cases h1 : we = 0
    · by_cases h2 : ee = 0
      · subst h1
        subst h2
        obtain ⟨m, hm⟩ : ∃ m, rest.length = m := ⟨_, rfl⟩
        obtain ⟨n, hn⟩ : ∃ n, s.length = n + m := ⟨s.length - m, by have := HLE.out; omega⟩
        have hss : (str s).size = n + m := by rw [str_size, hn]
        have hsr : (str rest).size = m := by rw [str_size, hm]
        have hnm : s.length - rest.length = n := by omega
        have hex := str_to s n
        have hbn : n + m ≤ 9223372036854775807 := by omega
        have htl : (str (s.take n)).toList = s.take n := str_toList _
        rw [hnm] at hX2
        clear hm hn hnm
        by_cases h3 : es = s.take n
        · have hX3 : Hid (X = (q.1, rest, 0)) := by rw [Hid, ← hX2, if_pos (by simp [h3])]
          clear hX2
          subst h3
          go_wp2_with fail
          (try simp only [Exit.inBlock, Exit.then])
          refine bodyPost_ret (results_row3 rfl _ _ w.heap.size 26 _ (0, 0) _ rfl (by exact heap_setCell_at (heap_setCell_at (heap_setCell_at (heap_setCell_at (heap_setCell_at (heap_setCell_at (heap_setCell_at HB7.out 0 _) 1 _) 2 _) 3 _) 4 _) 5 _) 6 _) Tryz.underlying26 rfl (by kernel_rfl)) rfl ?_
          rw [hX3.out]
          exact ⟨_, bl, rfl, HT7.out _ _ _ _ _ _ _, ReqOwn.keeps (T7 _ _ _ _ _ _ _) _ _ _ (ReqOwn.fresh F57.out HO5.out) (fun g hg (h : g = w.heap.size) => by have := HBL.out g hg; omega), hnd, fun g hg => Nat.le_of_lt (HBL.out g hg)⟩
        · have hX3 : Hid (X = (noReq, [], 173)) := by rw [Hid, ← hX2, if_neg (by simp [h3])]
          clear hX2
          have hte : (str es).toList = es := str_toList _
          have hne : (es == s.take n) = false := beq_eq_false_iff_ne.2 h3
          go_wp2_with fail
          (try simp only [Exit.inBlock, Exit.then])
          refine bodyPost_ret (results_row3 rfl _ _ w.heap.size 26 _ (0, 0) _ rfl (by exact heap_setCell_at (heap_setCell_at (heap_setCell_at (heap_setCell_at (heap_setCell_at (heap_setCell_at (heap_setCell_at HB7.out 0 _) 1 _) 2 _) 3 _) 4 _) 5 _) 6 _) Tryz.underlying26 rfl (by kernel_rfl)) rfl ?_
          rw [hX3.out]
          exact ⟨_, [], rfl, HT7.out _ _ _ _ _ _ _, noReq_own _, List.nodup_nil, fun g hg => by cases hg⟩
      · have hb1 : (we != 0) = false := by rw [h1]; rfl
        have hb2 : (ee != 0) = true := bne_iff_ne.2 h2
        have hX3 : Hid (X = (noReq, [], 173)) := by rw [Hid, ← hX2, if_neg (by simp [h2])]
        clear hX2
        subst h1
        go_wp2_with fail
        (try simp only [Exit.inBlock, Exit.then])
        refine bodyPost_ret (results_row3 rfl _ _ w.heap.size 26 _ (0, 0) _ rfl (by exact heap_setCell_at (heap_setCell_at (heap_setCell_at (heap_setCell_at (heap_setCell_at (heap_setCell_at (heap_setCell_at HB7.out 0 _) 1 _) 2 _) 3 _) 4 _) 5 _) 6 _) Tryz.underlying26 rfl (by kernel_rfl)) rfl ?_
        rw [hX3.out]
        exact ⟨_, [], rfl, HT7.out _ _ _ _ _ _ _, noReq_own _, List.nodup_nil, fun g hg => by cases hg⟩
    · have hb1 : (we != 0) = true := bne_iff_ne.2 h1
      have hX3 : Hid (X = (noReq, [], 173)) := by rw [Hid, ← hX2, if_neg (by simp [h1])]
      clear hX2
      go_wp2_with fail
      (try simp only [Exit.inBlock, Exit.then])
      refine bodyPost_ret (results_row3 rfl _ _ w.heap.size 26 _ (0, 0) _ rfl (by exact heap_setCell_at (heap_setCell_at (heap_setCell_at (heap_setCell_at (heap_setCell_at (heap_setCell_at (heap_setCell_at HB7.out 0 _) 1 _) 2 _) 3 _) 4 _) 5 _) 6 _) Tryz.underlying26 rfl (by kernel_rfl)) rfl ?_
      rw [hX3.out]
      exact ⟨_, [], rfl, HT7.out _ _ _ _ _ _ _, noReq_own _, List.nodup_nil, fun g hg => by cases hg⟩
  · rw [if_pos h0]
    have hb : (e0 != 0) = true := bne_iff_ne.2 h0
    go_enter Tryz.func15, Tryz.ntmps15
    go_wp2_with fail
    refine (HU.out _ (hl.fresh_ ((Keeps.refl _ _).alloc _))).mono ?_
    rintro e w1 ⟨rfl, f1⟩
    have hb1 := f1.at_ (heap_alloc_new w (.cells zeroReq 26)) (fun h => h)
    have z0 := cell_at hb1 0
    have z1 := cell_at hb1 1
    have z2 := cell_at hb1 2
    have z3 := cell_at hb1 3
    have z4 := cell_at hb1 4
    have z5 := cell_at hb1 5
    have z6 := cell_at hb1 6
    have y0 := free_at hb1 0
    have y1 := free_at hb1 1
    have y2 := free_at hb1 2
    have y3 := free_at hb1 3
    have y4 := free_at hb1 4
    have y5 := free_at hb1 5
    have y6 := free_at hb1 6
    simp [zeroReq] at z0 z1 z2 z3 z4 z5 z6
    go_wp2_with fail
    (try simp only [Exit.inBlock, Exit.then])
    refine bodyPost_ret (results_row3 rfl _ _ w.heap.size 26 _ (0, 0) _ rfl (by exact heap_setCell_at (heap_setCell_at (heap_setCell_at (heap_setCell_at (heap_setCell_at (heap_setCell_at (heap_setCell_at hb1 0 _) 1 _) 2 _) 3 _) 4 _) 5 _) 6 _) Tryz.underlying26 rfl (by kernel_rfl)) rfl ?_
    refine ⟨_, [], rfl, ?_, noReq_own _, List.nodup_nil, fun g hg => by cases hg⟩
    exact ((Keeps.refl (fun _ => False) w).alloc _).trans' ((f1.mono (S' := fun q => q = w.heap.size) (fun _ _ h => h.elim)).trans' (T7 _ _ _ _ _ _ _) (fun i hi h => h)) (fun i hi (h : i = w.heap.size) => by omega)
end Go.Proofs.YtpccaodkgboefaaGreatDoor
