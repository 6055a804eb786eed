/-
  Package message: any field of a reply, laid down.
  Package message: EncodeReply.
  A reply that was taken is small.
-/
import Derived.Test.YtpccaodkgboefaaGreatDoorMsRepG
import Derived.Test.YtpccaodkgboefaaGreatDoorMsRepH
namespace Go.Proofs.YtpccaodkgboefaaGreatDoor
open Go.RowKit

/-- a reply's struct at block br -/
def RepBox (B : Nat → Prop) (w : World) (br : Nat) (R : Rep) : Prop := ∃ cs, w.heap[br]? = some (.cells cs 48 (0, 0)) ∧ RepAt B w R (.agg cs)
theorem RepBox.cells {B : Nat → Prop} {w : World} {br : Nat} {R : Rep} (h : RepBox B w br R) : ∃ hv ev ap cp, w.heap[br]? = some (.cells #[.int .i64 R.status, .int .i64 R.size, .int .i64 R.a, .int .i64 R.b, .string (str R.root), hv, ev, .slice ap R.replies.length cp] 48 (0, 0)) ∧
    (ListAt w hv (texts R.hashes) ∧ Low B hv R.hashes) ∧ (ListAt w ev (texts R.entries) ∧ Low B ev R.entries) ∧ RepsAt B w R.replies ap 0 ∧ R.replies.length ≤ 9223372036854775807 := by
  obtain ⟨cs, hb, hr⟩ := h
  obtain ⟨hv, ev, ap, cp, he, h1, h2, h3, h4⟩ := hr.parts
  injection he with he
  subst he
  exact ⟨hv, ev, ap, cp, hb, h1, h2, h3, h4⟩
theorem RepBox.mk' {B : Nat → Prop} {w : World} {br : Nat} {z s a b : Int} {t : List UInt8} {h e : List (List UInt8)} {p : List Rep} {hv ev : Value} {ap : Option Addr} {cp : Nat}
    (hb : w.heap[br]? = some (.cells #[.int .i64 z, .int .i64 s, .int .i64 a, .int .i64 b, .string (str t), hv, ev, .slice ap p.length cp] 48 (0, 0)))
    (h1 : ListAt w hv (texts h) ∧ Low B hv h) (h2 : ListAt w ev (texts e) ∧ Low B ev e) (h3 : RepsAt B w p ap 0) (h4 : p.length ≤ 9223372036854775807) : RepBox B w br (.mk z s a b t h e p) :=
  ⟨_, hb, by rw [RepAt]; exact ⟨hv, ev, ap, cp, rfl, h1, h2, h3, h4⟩⟩

def wtR (R : Rep) : Nat := 33 * R.hashes.length + bulk R.entries + R.entries.length + R.root.length + wtPs R.replies
theorem mParts_len (st : WSt) (l : List Rep) : (mParts st l).1.length ≤ st.1.length + 20 + wtPs l := by
  unfold mParts
  have hf : ∀ (l : List Rep) (st : WSt), (l.foldl mPart st).1.length ≤ st.1.length + wtPs l := fun l => by
    induction l with
    | nil => intro st; simp [wtPs]
    | cons x r ih =>
      intro st
      have h1 := ih (mPart st x)
      have h2 := mPart_len st x
      rw [List.foldl_cons, wtPs]
      omega
  have h1 := hf l (wNum (if l.length = 0 ∨ 64 < l.length then wNum st (-1) else st) l.length)
  have h2 := wNum_len (if l.length = 0 ∨ 64 < l.length then wNum st (-1) else st) l.length
  have h3 := wNum_len st (-1)
  have h4 : (if l.length = 0 ∨ 64 < l.length then wNum st (-1) else st).1.length ≤ st.1.length + 10 := by split <;> omega
  omega
theorem mFld_len (f : Fld) (st : WSt) (R : Rep) (hw : wtR R ≤ 9223372036854775807) : (mFld f st R).1.1.length + wtR (mFld f st R).2 ≤ st.1.length + wtR R + 30 := by
  cases R with
  | mk z s a b t h e p =>
    unfold wtR at *
    simp only [Rep.hashes, Rep.entries, Rep.root, Rep.replies] at hw
    cases f
    all_goals simp only [mFld, Rep.hashes, Rep.entries, Rep.root, Rep.replies]
    · have := mSize_len st s; omega
    · have := mSize_len st a; omega
    · have h1 := wByte_len (if 1 < b then wNum st (-1) else st) b
      have h2 := wNum_len st (-1)
      have h3 : (if 1 < b then wNum st (-1) else st).1.length ≤ st.1.length + 10 := by split <;> omega
      omega
    · have := mRoot_len st t
      simp only [List.length_nil]
      omega
    · have := wHashes_len st h 32768
      simp only [List.length_nil]
      omega
    · have := wTexts_len st e 4096 1000 (by omega)
      simp only [List.length_nil, bulk]
      omega
    · have := mParts_len st p
      simp only [wtPs]
      omega
theorem listAt_nil (w : World) (f : List (List UInt8) → List Value) (hf : f [] = []) : ListAt w (.slice none 0 0) (f []) := .inl ⟨hf, none, 0, rfl⟩
theorem low_nil (B : Nat → Prop) (v : Value) {α : Type} : Low B v ([] : List α) := fun _ _ h => absurd rfl h

/-- what any field's method leaves -/
def FldDone (B : Nat → Prop) (S : Nat → Prop) (wb br : Nat) (w w' : World) (q : WSt × Rep) : Prop := ∃ S' cs, XSt S w br S' w' cs ∧ WRep S' w' wb q.1 ∧ RepBox B w' br q.2 ∧ ∀ g, S' g ∨ g = br → ¬ B g

set_option maxHeartbeats 1000000 in
theorem xfld_w (f : Fld) (B : Nat → Prop) (S : Nat → Prop) (wb br : Nat) (st : WSt) (R : Rep) (w : World) (hwr : WRep S w wb st) (hbx : RepBox B w br R) (ho : ¬ S br) (hB : ∀ q, B q → q < w.heap.size) (hSB : ∀ q, S q ∨ q = br → ¬ B q) (hlen : st.1.length + wtR R + 200 < 70368744177664) :
    Calls Tryz.prog (fid f) #[aggW wb br] w fun e' w' => e' = .returned (.tuple #[]) ∧ FldDone B S wb br w w' (mFld f st R) := by
  obtain ⟨hv, ev, ap, cp, hb, ⟨h1, l1⟩, ⟨h2, l2⟩, h3, h4⟩ := hbx.cells
  cases R with
  | mk z s a b t h e p =>
    simp only [Rep.status, Rep.size, Rep.a, Rep.b, Rep.root, Rep.hashes, Rep.entries, Rep.replies, wtR] at *
    have low : ∀ {S' : Nat → Prop} {w' : World} {cs : Array Value}, XSt S w br S' w' cs → ∀ g, S' g ∨ g = br → ¬ B g := fun hx g hg hb => by
      rcases hg with hg | hg
      · rcases hx.grows g hg with h | h
        · exact hSB g (.inl h) hb
        · have := hB g hb; omega
      · exact hSB g (.inr hg) hb
    have k1 : ∀ {S' : Nat → Prop} {w' : World} {cs : Array Value}, XSt S w br S' w' cs → ListAt w' hv (texts h) ∧ Low B hv h := fun hx => ⟨h1.keeps_if hx.keeps (fun g hg hn hs => hSB g hs (l1 g hg (fun e => hn (by rw [e]; rfl)))), l1⟩
    have k2 : ∀ {S' : Nat → Prop} {w' : World} {cs : Array Value}, XSt S w br S' w' cs → ListAt w' ev (texts e) ∧ Low B ev e := fun hx => ⟨h2.keeps_if hx.keeps (fun g hg hn hs => hSB g hs (l2 g hg (fun e => hn (by rw [e]; rfl)))), l2⟩
    have k3 : ∀ {S' : Nat → Prop} {w' : World} {cs : Array Value}, XSt S w br S' w' cs → RepsAt B w' p ap 0 := fun hx => RepsAt.keeps hx.keeps hSB p ap 0 h3
    have nl : ∀ w' : World, ListAt w' (.slice none 0 0) (texts []) ∧ Low B (.slice none 0 0) ([] : List (List UInt8)) := fun w' => ⟨listAt_nil w' texts rfl, low_nil _ _⟩
    cases f
    · refine (xsize_w S wb br st z s a b t hv ev _ w hwr hb ho (by omega)).mono ?_
      rintro e' w' ⟨rfl, S', X, W⟩
      exact ⟨rfl, S', _, X, W, RepBox.mk' X.box (k1 X) (k2 X) (k3 X) h4, low X⟩
    · refine (xa_w S wb br st z s a b t hv ev _ w hwr hb ho (by omega)).mono ?_
      rintro e' w' ⟨rfl, S', X, W⟩
      exact ⟨rfl, S', _, X, W, RepBox.mk' X.box (k1 X) (k2 X) (k3 X) h4, low X⟩
    · refine (xlast_w S wb br st z s a b t hv ev _ w hwr hb ho (by omega)).mono ?_
      rintro e' w' ⟨rfl, S', X, W⟩
      exact ⟨rfl, S', _, X, W, RepBox.mk' X.box (k1 X) (k2 X) (k3 X) h4, low X⟩
    · refine (xroot_w S wb br st z s a b t hv ev _ w hwr hb ho (by omega)).mono ?_
      rintro e' w' ⟨rfl, S', X, W⟩
      exact ⟨rfl, S', _, X, W, RepBox.mk' X.box (k1 X) (k2 X) (k3 X) h4, low X⟩
    · refine (xhashes_w S wb br st z s a b t hv ev _ w hwr hb ho h h1 (fun g hg hn hs => hSB g (.inl hs) (l1 g hg hn)) (by omega)).mono ?_
      rintro e' w' ⟨rfl, S', X, W⟩
      exact ⟨rfl, S', _, X, W, RepBox.mk' X.box (nl _) (k2 X) (k3 X) h4, low X⟩
    · refine (xtold_w S wb br st z s a b t hv ev _ w hwr hb ho e h2 (fun g hg hn hs => hSB g (.inl hs) (l2 g hg hn)) (by omega)).mono ?_
      rintro e' w' ⟨rfl, S', X, W⟩
      exact ⟨rfl, S', _, X, W, RepBox.mk' X.box (k1 X) (nl _) (k3 X) h4, low X⟩
    · refine (xparts_w B S wb br st z s a b t hv ev p ap cp w hwr hb ho h3 hB hSB h4 (by omega)).mono ?_
      rintro e' w' ⟨rfl, S', X, W⟩
      exact ⟨rfl, S', _, X, W, RepBox.mk' (p := []) X.box (k1 X) (k2 X) (by rw [RepsAt]; trivial) (by simp), low X⟩
end Go.Proofs.YtpccaodkgboefaaGreatDoor

namespace Go.Proofs.YtpccaodkgboefaaGreatDoor
open Go.RowKit

theorem RepBox.fresh {B : Nat → Prop} {w w' : World} {br : Nat} {R : Rep} (h : RepBox B w br R) (hk : Fresh w w') : RepBox B w' br R := by
  obtain ⟨cs, hb, hr⟩ := h
  exact ⟨cs, hk.at_ hb (fun h => h), hr.fresh hk⟩
theorem RepBox.keeps {B : Nat → Prop} {w w' : World} {br : Nat} {R : Rep} {T : Nat → Prop} (h : RepBox B w br R) (hk : Keeps T w w') (hT : ∀ q, T q → ¬ B q) (hb : ¬ T br) : RepBox B w' br R := by
  obtain ⟨cs, hb', hr⟩ := h
  exact ⟨cs, hk.at_ hb' hb, RepAt.keeps hk hT R _ hr⟩
theorem tableOf_len (k : Int) : (tableOf k).length ≤ 4 := by
  unfold tableOf
  repeat' split
  all_goals simp
theorem mFlds_cons (f : Fld) (l : List Fld) (st : WSt) (R : Rep) : mFlds (f :: l) st R = mFlds l (mFld f st R).1 (mFld f st R).2 := rfl
theorem mRest_eq (st : WSt) (R : Rep) : mRest st R = if R.size ≠ 0 ∨ R.a ≠ 0 ∨ R.b ≠ 0 ∨ R.root ≠ [] ∨ 0 < R.hashes.length ∨ 0 < R.entries.length ∨ 0 < R.replies.length then wNum st (-1) else st := by
  cases R
  rw [mRest, leftOver]
  simp only [decide_eq_true_eq, Rep.size, Rep.a, Rep.b, Rep.root, Rep.hashes, Rep.entries, Rep.replies]
  exact ite_congr rfl (fun _ => rfl) (fun _ => rfl)
set_option maxRecDepth 100000 in
theorem callFld (f : Fld) (cap : Array Value) (w : World) : (callFunc (fid f) cap).run Tryz.prog w = .ok (.enter (fid f) cap) w := by cases f <;> kernel_rfl
/-- rest, of a reply in a box -/
theorem xrest_box (B : Nat → Prop) (S : Nat → Prop) (wb br : Nat) (st : WSt) (R : Rep) (w : World) (hwr : WRep S w wb st) (hbx : RepBox B w br R) (ho : ¬ S br) (hlen : st.1.length < 70368744177664) :
    Calls Tryz.prog 56 #[aggW wb br] w fun e' w' => e' = .returned (.tuple #[]) ∧ ∃ S' cs, XSt S w br S' w' cs ∧ WRep S' w' wb (mRest st R) := by
  obtain ⟨hv, ev, ap, cp, hb, ⟨h1, l1⟩, ⟨h2, l2⟩, h3, h4⟩ := hbx.cells
  obtain ⟨ah, ch, rfl, -⟩ := h1.texts
  obtain ⟨ae, ce, rfl, -⟩ := h2.texts
  refine (xrest_w S wb br st _ _ _ _ _ _ _ _ w hwr hb ho _ _ _ ah ae ap ch ce cp rfl rfl rfl hlen).mono ?_
  rintro e' w' ⟨rfl, S', X, W⟩
  rw [mRest_eq]
  exact ⟨rfl, S', _, X, W⟩

set_option maxRecDepth 100000 in
set_option maxHeartbeats 4000000 in
theorem encodeRep_any (B : Nat → Prop) (k : Int) (R : Rep) (v : Value) (w : World) (hl : Laid w) (hv : RepAt B w R v) (hB : ∀ q, B q → q < w.heap.size) (hlen : wtR R + 1000 < 70368744177664) :
    Calls Tryz.prog 19 #[.int .i64 k, v] w fun e w' => e = .returned (.tuple #[.string (str (encRep k R).1), .int .i64 (encRep k R).2]) ∧ Fresh w w' := by
  obtain ⟨E, hE⟩ : ∃ E, encRep k R = E := ⟨_, rfl⟩
  rw [hE]
  have HE := hid hE
  clear hE
  have hnw := newWriter_any
  have hv0 := hv
  obtain ⟨hv', ev', ap, cp, rfl, ⟨h1, -⟩, ⟨h2, -⟩, -, -⟩ := hv.parts
  obtain ⟨ah, ch, rfl, -⟩ := h1.texts
  obtain ⟨ae, ce, rfl, -⟩ := h2.texts
  have f0 : Fresh w (w.alloc (.cells #[.int .i64 R.status, .int .i64 R.size, .int .i64 R.a, .int .i64 R.b, .string (str R.root), .slice ah R.hashes.length ch, .slice ae R.entries.length ce, .slice ap R.replies.length cp] 48)) := (Keeps.refl _ _).alloc _
  have hbox := heap_alloc_new w (.cells #[.int .i64 R.status, .int .i64 R.size, .int .i64 R.a, .int .i64 R.b, .string (str R.root), .slice ah R.hashes.length ch, .slice ae R.entries.length ce, .slice ap R.replies.length cp] 48)
  have hRB : RepBox B (w.alloc (.cells #[.int .i64 R.status, .int .i64 R.size, .int .i64 R.a, .int .i64 R.b, .string (str R.root), .slice ah R.hashes.length ch, .slice ae R.entries.length ce, .slice ap R.replies.length cp] 48)) w.heap.size R := ⟨_, hbox, hv0.fresh f0⟩
  by_cases hk : k < 0 ∨ 12 < k
  · have hE2 : E = ([], 170) := by rw [← HE.out, encRep, if_pos hk]
    have HE2 := hid hE2
    clear hE2 hnw hbox hRB
    by_cases h0 : k < 0
    · go_enter Tryz.func19, Tryz.ntmps19
      go_wp2_with fail
      go_ret2
      rw [HE2.out]
      exact ⟨rfl, f0⟩
    · have h12 : 12 < k := by omega
      go_enter Tryz.func19, Tryz.ntmps19
      go_wp2_with fail
      go_ret2
      rw [HE2.out]
      exact ⟨rfl, f0⟩
  · have hk0 : ¬ k < 0 := by omega
    have hk12 : ¬ 12 < k := by omega
    have hE2 : E = if k = 0 ∧ R.status = 0 then ([], 171) else framedW (mRest (if R.status = 0 then mFlds (tableOf k) (mStatus (wByte ([], 0) k) R.status) R else (mStatus (wByte ([], 0) k) R.status, R)).1 (if R.status = 0 then mFlds (tableOf k) (mStatus (wByte ([], 0) k) R.status) R else (mStatus (wByte ([], 0) k) R.status, R)).2) := by rw [← HE.out, encRep, if_neg hk]
    have HE2 := hid hE2
    have HNW := hid hnw
    have HRB := hid hRB
    have HB := hid hB
    have HL := hid hl
    have HV0 := hid hv0
    clear hE2 hnw hbox hRB hB hl hv hv0 h1 h2 hk
    go_enter Tryz.func19, Tryz.ntmps19
    go_wp2_with fail
    obtain ⟨br, hbr⟩ : ∃ br, w.heap.size = br := ⟨_, rfl⟩
    rw [hbr] at HRB ⊢
    have HBR := hid hbr
    generalize w.alloc (.cells #[.int .i64 R.status, .int .i64 R.size, .int .i64 R.a, .int .i64 R.b, .string (str R.root), .slice ah R.hashes.length ch, .slice ae R.entries.length ce, .slice ap R.replies.length cp] 48) = W0 at f0 HRB ⊢
    refine (HNW.out _ (HL.out.fresh_ f0)).mono ?_
    rintro e w1 ⟨b, rfl, f1, hb1, hw1⟩
    have hb0 : br < b := by
      obtain ⟨cs, hcs, -⟩ := HRB.out
      have := lt_of_block hcs
      omega
    clear HNW hbr
    go_wp2_with fail
    refine (wbyte_any _ b _ k _ hw1 (by simp)).mono ?_
    rintro e w2 ⟨rfl, S2, g2, k2, r2⟩
    have hs2 : ∀ q, S2 q → br < q := fun q hq => by
      rcases g2 q hq with h | h
      · have h : q = b := h; omega
      · have := lt_of_block HRB.out.choose_spec.1; have := f1.size; omega
    have hRB2 : RepBox B w2 br R := (HRB.out.fresh f1).keeps k2 (fun q hq hb => by have h : q = b := hq; have := HB.out q hb; have := HBR.out; omega) (fun h => by have h : br = b := h; omega)
    have f2 : Fresh w w2 := (f0.trans f1).trans' k2 (fun q hq h => by have h : q = b := h; have := HBR.out; omega)
    have z0 := cell_at hRB2.cells.choose_spec.choose_spec.choose_spec.choose_spec.1 0
    simp at z0
    have hl2 := wByte_len ([], 0) k
    simp at hl2
    have HMS := hid (mstatus_any S2 b (wByte ([], 0) k) R.status w2 r2 (by omega))
    have HRB2 := hid hRB2
    clear hw1 g2 k2 r2 hRB2 HRB
    go_wp2_with fail
    refine HMS.out.mono ?_
    rintro e w3 ⟨rfl, S3, g3, k3, r3⟩
    have hs3 : ∀ q, S3 q → br < q := fun q hq => by
      rcases g3 q hq with h | h
      · exact hs2 q h
      · have := lt_of_block HRB2.out.choose_spec.1; omega
    have hRB3 : RepBox B w3 br R := HRB2.out.keeps k3 (fun q hq hb => by have := hs2 q hq; have := HB.out q hb; have := HBR.out; omega) (fun h => by have := hs2 _ h; omega)
    have f3 : Fresh w w3 := f2.trans' k3 (fun q hq h => by have := hs2 q h; have := HBR.out; omega)
    have y0 := cell_at hRB3.cells.choose_spec.choose_spec.choose_spec.choose_spec.1 0
    simp at y0
    have hl3 := mStatus_len (wByte ([], 0) k) R.status
    obtain ⟨st1, hst1⟩ : ∃ st1, mStatus (wByte ([], 0) k) R.status = st1 := ⟨_, rfl⟩
    rw [hst1] at r3 hl3 HE2
    have HRB3 := hid hRB3
    have HR3 := hid r3
    have HS3 := hid hs3
    clear z0 HMS hRB3 g3 k3 r3 hst1 HRB2 hs2 hs3 f2 f0 f1
    have fa : Fresh w3 (w3.alloc (.cells #[.pointer (some ⟨b, 0, none⟩), .pointer none, .pointer (some ⟨br, 0, none⟩)] 87)) := (Keeps.refl _ _).alloc _
    have hbx := heap_alloc_new w3 (.cells #[.pointer (some ⟨b, 0, none⟩), .pointer none, .pointer (some ⟨br, 0, none⟩)] 87)
    have hsx : ¬ S3 w3.heap.size := fun h => by have := (HR3.out.2.1 _ h).2; omega
    have hnx : br < w3.heap.size := lt_of_block HRB3.out.choose_spec.1
    have HRB4 := hid (HRB3.out.fresh fa)
    have HR4 := hid (HR3.out.keeps fa (fun _ _ h => h))
    have y0' := cell_at HRB4.out.cells.choose_spec.choose_spec.choose_spec.choose_spec.1 0
    simp at y0'
    have F3 := hid f3
    have F4 := hid (f3.trans fa)
    have HBX := hid hbx
    have HSB : Hid (∀ q, S3 q ∨ q = br → ¬ B q) := fun q hq hb => by
      have := HB.out q hb
      have := HBR.out
      rcases hq with hq | hq
      · have := HS3.out q hq; omega
      · omega
    clear fa hbx f3
    have x0 := cell_at HBX.out 0
    have x1 := cell_at HBX.out 1
    have x2 := cell_at HBX.out 2
    simp at x0 x1 x2
    by_cases hs : R.status = 0
    · by_cases hk00 : k = 0
      · have hE3 : E = ([], 171) := by rw [HE2.out, if_pos ⟨hk00, hs⟩]
        have HE3 := hid hE3
        rw [hs] at y0
        have hkb : (k == 0) = true := by rw [hk00]; rfl
        clear hE3 x0 x1 x2 y0'
        go_wp2_with fail
        go_ret2
        rw [HE3.out]
        exact ⟨rfl, F3.out⟩
      · have hE3 : E = framedW (mRest (mFlds (tableOf k) st1 R).1 (mFlds (tableOf k) st1 R).2) := by rw [HE2.out, if_neg (fun h => hk00 h.1), if_pos hs]
        have HE3 := hid hE3
        rw [hs] at y0 y0'
        have hkb : (k == 0) = false := beq_eq_false_iff_ne.2 hk00
        have HTB := hid (fun W => mtable_any k ⟨by omega, by omega⟩ W)
        have HTL := hid (tableOf_len k)
        clear hE3
        go_wp2_with fail
        refine (HTB.out _).mono ?_
        rintro e w5 ⟨tv, rfl, f5, ao, cap, rfl, hcells⟩
        have fw5 : Fresh w w5 := F4.out.trans f5
        have hbx5 := f5.at_ HBX.out (fun h => h)
        have hR5 := HR4.out.keeps f5 (fun _ _ h => h)
        have hRB5 := HRB4.out.fresh f5
        obtain ⟨cs5, hcs5, -⟩ := hRB5.cells
        have HRB5 := hid hRB5
        have HR5 := hid hR5
        have HBX5 := hid hbx5
        have HC := hid hcells
        have FW5 := hid fw5
        have hsz5 := f5.size
        simp only [World.size_alloc] at hsz5
        have hX5 : XSt S3 w5 br S3 w5 _ := XSt.start HRB5.out.choose_spec.1 (fun h => by have := HS3.out _ h; omega)
        have HX5 := hid hX5
        clear hX5 hcs5 hcells hbx5 hR5 hRB5 fw5 f5 x0 x1 x2 y0 y0' HTB
        go_wp2_with fail
        go_loopw [39] (fun i wr => ∃ (m : Nat) (Sr : Nat → Prop) (sr : WSt) (Rr : Rep) (cr : Array Value), i = .int .i64 (m : Int) ∧ m ≤ (tableOf k).length ∧ XSt S3 w5 br Sr wr cr ∧ WRep Sr wr b sr ∧ RepBox B wr br Rr ∧ (∀ q, Sr q ∨ q = br → ¬ B q) ∧
            Hid (mFlds (tableOf k) st1 R = mFlds ((tableOf k).drop m) sr Rr) ∧ sr.1.length + wtR Rr ≤ 10 + wtR R + 30 * m) (fun i _ => (tableOf k).length - (intOf i).toNat)
        case atStart => exact ⟨0, S3, st1, R, _, rfl, by omega, HX5.out, HR5.out, HRB5.out, HSB.out, rfl, by omega⟩
        case round =>
          obtain ⟨m, Sr, sr, Rr, cr, rfl, hm, Xr, Rw, RBr, hsb', HD, hlr⟩ := hrel
          have hbxr := Xr.keepBlock HBX5.out hsx (by omega)
          have x0 := cell_at hbxr 0
          have x1 := cell_at hbxr 1
          have x2 := cell_at hbxr 2
          simp at x0 x1 x2
          by_cases hlt : m < (tableOf k).length
          · obtain ⟨f, hf⟩ : ∃ f, (tableOf k)[m]? = some f := ⟨(tableOf k)[m], by simp⟩
            obtain ⟨bt, rfl, hbn, hbt⟩ := HC.out (by rintro h; rw [h] at hlt; simp at hlt)
            have hbt5 := hbt
            have hm4 : m < 4 := by have := HTL.out; omega
            have hnt : bt ≠ br := by
              rintro rfl
              obtain ⟨cs6, h2, -⟩ := HRB5.out
              rw [hbt] at h2
              injection h2 with h2
              injection h2 with _ h2
              revert h2
              decide
            have hst' : ¬ S3 bt := fun h => by have := (HR4.out.2.1 _ h).2; omega
            have hbtr := Xr.keepBlock hbt hst' hnt
            have q0 := cell_at hbtr m
            rw [List.getElem?_toArray, List.getElem?_map, hf] at q0
            simp only [Option.map_some] at q0
            have hd : (tableOf k).drop m = f :: (tableOf k).drop (m + 1) := by
              obtain ⟨hm', rfl⟩ := List.getElem?_eq_some_iff.1 hf
              exact List.drop_eq_getElem_cons hm'
            have hD2 := HD.out
            rw [hd, mFlds_cons] at hD2
            have hfl := mFld_len f sr Rr (by omega)
            have HFD := hid (xfld_w f B Sr b br sr Rr wr Rw RBr Xr.out (fun q hq => by have := HB.out q hq; have := HBR.out; have := Xr.keeps.size; omega) hsb' (by have := HTL.out; omega))
            have hcf := callFld f
            have HD2 := hid hD2
            have HXr := hid Xr
            have hfv : fldV f = .func (.func (fid f)) #[] #[] := rfl
            rw [hfv] at q0
            clear hD2 HD hd hf hbt hbt5 hbtr hbxr Rw RBr hsb' Xr hst' hnt hfv
            unfold aggW at HFD
            generalize fid f = ff at q0 hcf HFD
            go_wp2_with fail
            refine HFD.out.mono ?_
            rintro e w7 ⟨rfl, S7, cs7, X7, R7, RB7, h7⟩
            clear x0 x1 x2 q0 hcf
            go_wp2_with fail
            go_roundw
            case rel => exact ⟨m + 1, S7, _, _, cs7, by go_num, by omega, HXr.out.after X7, R7, RB7, h7, HD2, by omega⟩
            case measure => simp [intOf]; omega
          · obtain rfl : m = (tableOf k).length := by omega
            have hD2 := HD.out
            rw [List.drop_length] at hD2
            have hD3 : mFlds (tableOf k) st1 R = (sr, Rr) := hD2
            have hE4 : E = framedW (mRest sr Rr) := by rw [HE3.out, hD3]
            have HE3 := hid hE4
            have HOUT := hid Xr.out
            have HSN : Hid (∀ q, Sr q → br < q) := fun q hq => by
              rcases Xr.grows q hq with h | h
              · exact HS3.out q h
              · omega
            have FW : Hid (Fresh w wr) := FW5.out.trans' Xr.keeps (fun q hq h => by
              have := HBR.out
              rcases h with h | h
              · have := HS3.out q h; omega
              · omega)
            have HRR := hid Rw
            have HRBr := hid RBr
            have hsl : sr.1.length < 70368744177000 := by have := HTL.out; omega
            clear hD2 hD3 hE4 HD Rw RBr hsb' hbxr Xr
            have HRS := hid (xrest_box B Sr b br sr Rr _ HRR.out HRBr.out HOUT.out (by omega))
            unfold aggW at HRS
            go_wp2_with fail
            refine HRS.out.mono ?_
            rintro e w8 ⟨rfl, S8, cs8, X8, R8⟩
            have f8 : Fresh w w8 := FW.out.trans' X8.keeps (fun q hq h => by
              have := HBR.out
              rcases h with h | h
              · have := HSN.out q h; omega
              · omega)
            have HFR := hid (mframed_any S8 b _ w8 (HL.out.fresh_ f8) R8 (by have := mRest_len sr Rr; omega))
            have F8 := hid f8
            clear f8 X8 R8 x0 x1 x2
            go_wp2_with fail
            refine HFR.out.mono ?_
            rintro e w9 ⟨rfl, f9⟩
            go_wp2_with fail
            go_ret2
            rw [HE3.out]
            exact ⟨rfl, F8.out.trans f9⟩

    · have hE3 : E = framedW (mRest st1 R) := by rw [HE2.out, if_neg (fun h => hs h.2), if_neg hs]
      have HE3 := hid hE3
      have hsb : (R.status == 0) = false := beq_eq_false_iff_ne.2 hs
      clear hE3
      by_cases hk00 : k = 0
      · have hkb : (k == 0) = true := by rw [hk00]; rfl
        have HOUT : Hid (¬ S3 br) := fun h => by have := HS3.out _ h; omega
        have HSN := HS3
        have FW := F4
        have HRS := hid (xrest_box B S3 b br st1 R _ HR4.out HRB4.out HOUT.out (by omega))
        unfold aggW at HRS
        go_wp2_with fail
        refine HRS.out.mono ?_
        rintro e w8 ⟨rfl, S8, cs8, X8, R8⟩
        have f8 : Fresh w w8 := FW.out.trans' X8.keeps (fun q hq h => by
          have := HBR.out
          rcases h with h | h
          · have := HSN.out q h; omega
          · omega)
        have HFR := hid (mframed_any S8 b _ w8 (HL.out.fresh_ f8) R8 (by have := mRest_len st1 R; omega))
        have F8 := hid f8
        clear f8 X8 R8 x0 x1 x2 y0 y0'
        go_wp2_with fail
        refine HFR.out.mono ?_
        rintro e w9 ⟨rfl, f9⟩
        go_wp2_with fail
        go_ret2
        rw [HE3.out]
        exact ⟨rfl, F8.out.trans f9⟩

      · have hkb : (k == 0) = false := beq_eq_false_iff_ne.2 hk00
        have HOUT : Hid (¬ S3 br) := fun h => by have := HS3.out _ h; omega
        have HSN := HS3
        have FW := F4
        have HRS := hid (xrest_box B S3 b br st1 R _ HR4.out HRB4.out HOUT.out (by omega))
        unfold aggW at HRS
        go_wp2_with fail
        refine HRS.out.mono ?_
        rintro e w8 ⟨rfl, S8, cs8, X8, R8⟩
        have f8 : Fresh w w8 := FW.out.trans' X8.keeps (fun q hq h => by
          have := HBR.out
          rcases h with h | h
          · have := HSN.out q h; omega
          · omega)
        have HFR := hid (mframed_any S8 b _ w8 (HL.out.fresh_ f8) R8 (by have := mRest_len st1 R; omega))
        have F8 := hid f8
        clear f8 X8 R8 x0 x1 x2 y0 y0'
        go_wp2_with fail
        refine HFR.out.mono ?_
        rintro e w9 ⟨rfl, f9⟩
        go_wp2_with fail
        go_ret2
        rw [HE3.out]
        exact ⟨rfl, F8.out.trans f9⟩

end Go.Proofs.YtpccaodkgboefaaGreatDoor

namespace Go.Proofs.YtpccaodkgboefaaGreatDoor
open Go.RowKit

theorem p32_small {l x l' : List UInt8} (h : p32 l = .ok (x, l')) : x.length ≤ 32 := by
  unfold p32 at h
  split at h
  · cases h
  · injection h with h
    injection h with h _
    subst h
    simp
    omega
theorem pHashes_small {many : Int} {l : List UInt8} {xs : List (List UInt8)} {l' : List UInt8} (h : pHashes many l = .ok (xs, l')) : (xs.length : Int) ≤ many := by
  unfold pHashes at h
  split at h
  · cases h
  · cases h1 : pCount many l with
    | error e => rw [h1] at h; cases h
    | ok y =>
      rw [h1] at h
      have h2 := pElems_all (m := 32) (fun l x l' h => p32_small h) y.1 _ _ _ h
      have h3 := (pCount_le h1).2.2
      rw [h2.1]
      omega
theorem rdHashes_small (r : RSt) : (rd (pHashes 32768) [] r).1.length ≤ 32768 := by
  unfold rd
  split
  · simp
  · cases hp : pHashes 32768 r.1 with
    | error e => simp
    | ok x =>
      have := pHashes_small hp
      show x.1.length ≤ _
      omega
theorem rdRaw_small (r : RSt) : (rd (pRaw 32) [] r).1.length ≤ 32 := by
  unfold rd
  split
  · simp
  · cases hp : pRaw 32 r.1 with
    | error e => simp
    | ok x =>
      show x.1.length ≤ _
      unfold pRaw at hp
      split at hp
      · cases hp
      · split at hp
        · cases hp
        · injection hp with hp
          rw [← hp]
          simp
          omega
theorem rdTexts_small (r : RSt) : (rd (pTexts 4096 1000) [] r).1.length ≤ 4096 ∧ bulk (rd (pTexts 4096 1000) [] r).1 ≤ 4136960 := by
  unfold rd
  split
  · simp [bulk]
  · cases hp : pTexts 4096 1000 r.1 with
    | error e => simp [bulk]
    | ok x =>
      have := pTexts_small hp
      have h1 : x.1.length ≤ 4096 := by omega
      refine ⟨h1, ?_⟩
      have h2 := this.2
      have : x.1.length * ((1000 : Int).toNat + 10) ≤ 4096 * 1010 := Nat.mul_le_mul h1 (by decide)
      show bulk x.1 ≤ _
      omega
theorem rPart_small (r : RSt) : wtP (rPart r).1 ≤ 1081476 := by
  have he : rPart r = if (rd pByte 0 r).1 = 0 then (if (rd pByte 0 (rd pByte 0 r).2).1 = 1 then (.mk ((rd pByte 0 r).1 : Nat) 0 0 0 (rd (pRaw 32) [] (rd pByte 0 (rd pByte 0 r).2).2).1 [] [] [], (rd (pRaw 32) [] (rd pByte 0 (rd pByte 0 r).2).2).2) else (.mk ((rd pByte 0 r).1 : Nat) 0 0 0 [] (rd (pHashes 32768) [] (rd pByte 0 (rd pByte 0 r).2).2).1 [] [], (rd (pHashes 32768) [] (rd pByte 0 (rd pByte 0 r).2).2).2)) else (.mk ((rd pByte 0 r).1 : Nat) 0 0 0 [] [] [] [], (rd pByte 0 r).2) := rfl
  rw [he]
  unfold wtP
  split
  · split
    · have := rdRaw_small (rd pByte 0 (rd pByte 0 r).2).2
      simp only [Rep.hashes, Rep.root, List.length_nil]
      omega
    · have := rdHashes_small (rd pByte 0 (rd pByte 0 r).2).2
      simp only [Rep.hashes, Rep.root, List.length_nil]
      omega
  · simp only [Rep.hashes, Rep.root, List.length_nil]
    omega
theorem rParts_small : ∀ (n : Nat) (r : RSt), wtPs (rParts n r).1 ≤ n * 1081476
  | 0, r => by simp [rParts, wtPs]
  | n + 1, r => by
    rw [rParts]
    split
    · simp [wtPs]
    · have h1 := rPart_small r
      have h2 := rParts_small n (rPart r).2
      simp only [wtPs]
      rw [Nat.add_mul]
      omega
/-- small in each of its fields -/
def SmallR (R : Rep) : Prop := R.hashes.length ≤ 32768 ∧ R.entries.length ≤ 4096 ∧ bulk R.entries ≤ 4136960 ∧ R.root.length ≤ 32 ∧ wtPs R.replies ≤ 70295940
theorem rFld_small (f : Fld) (r : RSt) (R : Rep) (h : SmallR R) (hp : f = .parts → R.replies = []) : SmallR (rFld f r R).1 := by
  cases R with
  | mk z s a b t hh e p =>
    obtain ⟨h1, h2, h3, h4, h5⟩ := h
    simp only [Rep.hashes, Rep.entries, Rep.root, Rep.replies] at *
    cases f
    · exact ⟨h1, h2, h3, h4, h5⟩
    · exact ⟨h1, h2, h3, h4, h5⟩
    · exact ⟨h1, h2, h3, h4, h5⟩
    · exact ⟨h1, h2, h3, rdRaw_small _, h5⟩
    · exact ⟨rdHashes_small _, h2, h3, h4, h5⟩
    · exact ⟨h1, (rdTexts_small _).1, (rdTexts_small _).2, h4, h5⟩
    · refine ⟨h1, h2, h3, h4, ?_⟩
      have := hp rfl
      subst this
      show wtPs ([] ++ (rParts _ _).1) ≤ _
      rw [List.nil_append]
      refine Nat.le_trans (rParts_small _ _) (Nat.le_trans (Nat.mul_le_mul_right _ (Nat.min_le_right _ 65)) (by decide))
theorem SmallR.wt {R : Rep} (h : SmallR R) : wtR R ≤ 100000000 := by
  obtain ⟨h1, h2, h3, h4, h5⟩ := h
  unfold wtR
  omega
/-- parts stand alone -/
theorem parts_first (k : Int) {m : Nat} (h : (tableOf k)[m]? = some .parts) : m = 0 := by
  have hl := tableOf_len k
  have hm : m < 4 := by
    have := (List.getElem?_eq_some_iff.1 h).1
    omega
  unfold tableOf at h
  repeat' split at h
  all_goals
    match m, hm with
    | 0, _ => rfl
    | 1, _ => simp at h
    | 2, _ => simp at h
    | 3, _ => simp at h
end Go.Proofs.YtpccaodkgboefaaGreatDoor
