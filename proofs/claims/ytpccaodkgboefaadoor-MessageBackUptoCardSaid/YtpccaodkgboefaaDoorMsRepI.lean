/-
  Package message: any field of a reply, laid down.
-/
import Derived.Test.YtpccaodkgboefaaDoorMsRepG
import Derived.Test.YtpccaodkgboefaaDoorMsRepH
namespace Go.Proofs.YtpccaodkgboefaaDoor
open Go.RowKit

/-- a reply's struct at block br -/
def RepBox (B : Nat → Prop) (w : World) (br : Nat) (R : Rep) : Prop := ∃ cs, w.heap[br]? = some (.cells cs 42 (0, 0)) ∧ RepAt B w R (.agg cs)
theorem RepBox.cells {B : Nat → Prop} {w : World} {br : Nat} {R : Rep} (h : RepBox B w br R) : ∃ hv ev ap cp, w.heap[br]? = some (.cells #[.int .i64 R.status, .int .i64 R.size, .int .i64 R.a, .int .i64 R.b, .string (str R.root), hv, ev, .slice ap R.replies.length cp] 42 (0, 0)) ∧
    (ListAt w hv (texts R.hashes) ∧ Low B hv R.hashes) ∧ (ListAt w ev (texts R.entries) ∧ Low B ev R.entries) ∧ RepsAt B w R.replies ap 0 ∧ R.replies.length ≤ 9223372036854775807 := by
  obtain ⟨cs, hb, hr⟩ := h
  obtain ⟨hv, ev, ap, cp, he, h1, h2, h3, h4⟩ := hr.parts
  injection he with he
  subst he
  exact ⟨hv, ev, ap, cp, hb, h1, h2, h3, h4⟩
theorem RepBox.mk' {B : Nat → Prop} {w : World} {br : Nat} {z s a b : Int} {t : List UInt8} {h e : List (List UInt8)} {p : List Rep} {hv ev : Value} {ap : Option Addr} {cp : Nat}
    (hb : w.heap[br]? = some (.cells #[.int .i64 z, .int .i64 s, .int .i64 a, .int .i64 b, .string (str t), hv, ev, .slice ap p.length cp] 42 (0, 0)))
    (h1 : ListAt w hv (texts h) ∧ Low B hv h) (h2 : ListAt w ev (texts e) ∧ Low B ev e) (h3 : RepsAt B w p ap 0) (h4 : p.length ≤ 9223372036854775807) : RepBox B w br (.mk z s a b t h e p) :=
  ⟨_, hb, by rw [RepAt]; exact ⟨hv, ev, ap, cp, rfl, h1, h2, h3, h4⟩⟩

def wtR (R : Rep) : Nat := 33 * R.hashes.length + bulk R.entries + R.entries.length + R.root.length + wtPs R.replies
theorem mParts_len (st : WSt) (l : List Rep) : (mParts st l).1.length ≤ st.1.length + 20 + wtPs l := by
  unfold mParts
  have hf : ∀ (l : List Rep) (st : WSt), (l.foldl mPart st).1.length ≤ st.1.length + wtPs l := fun l => by
    induction l with
    | nil => intro st; simp [wtPs]
    | cons x r ih =>
      intro st
      have h1 := ih (mPart st x)
      have h2 := mPart_len st x
      rw [List.foldl_cons, wtPs]
      omega
  have h1 := hf l (wNum (if l.length = 0 ∨ 64 < l.length then wNum st (-1) else st) l.length)
  have h2 := wNum_len (if l.length = 0 ∨ 64 < l.length then wNum st (-1) else st) l.length
  have h3 := wNum_len st (-1)
  have h4 : (if l.length = 0 ∨ 64 < l.length then wNum st (-1) else st).1.length ≤ st.1.length + 10 := by split <;> omega
  omega
theorem mFld_len (f : Fld) (st : WSt) (R : Rep) (hw : wtR R ≤ 9223372036854775807) : (mFld f st R).1.1.length + wtR (mFld f st R).2 ≤ st.1.length + wtR R + 30 := by
  cases R with
  | mk z s a b t h e p =>
    unfold wtR at *
    simp only [Rep.hashes, Rep.entries, Rep.root, Rep.replies] at hw
    cases f
    all_goals simp only [mFld, Rep.hashes, Rep.entries, Rep.root, Rep.replies]
    · have := mSize_len st s; omega
    · have := mSize_len st a; omega
    · have h1 := wByte_len (if 1 < b then wNum st (-1) else st) b
      have h2 := wNum_len st (-1)
      have h3 : (if 1 < b then wNum st (-1) else st).1.length ≤ st.1.length + 10 := by split <;> omega
      omega
    · have := mRoot_len st t
      simp only [List.length_nil]
      omega
    · have := wHashes_len st h 32768
      simp only [List.length_nil]
      omega
    · have := wTexts_len st e 4096 1000 (by omega)
      simp only [List.length_nil, bulk]
      omega
    · have := mParts_len st p
      simp only [wtPs]
      omega
theorem listAt_nil (w : World) (f : List (List UInt8) → List Value) (hf : f [] = []) : ListAt w (.slice none 0 0) (f []) := .inl ⟨hf, none, 0, rfl⟩
theorem low_nil (B : Nat → Prop) (v : Value) {α : Type} : Low B v ([] : List α) := fun _ _ h => absurd rfl h

/-- what any field's method leaves -/
def FldDone (B : Nat → Prop) (S : Nat → Prop) (wb br : Nat) (w w' : World) (q : WSt × Rep) : Prop := ∃ S' cs, XSt S w br S' w' cs ∧ WRep S' w' wb q.1 ∧ RepBox B w' br q.2 ∧ ∀ g, S' g ∨ g = br → ¬ B g

set_option maxHeartbeats 1000000 in
theorem xfld_w (f : Fld) (B : Nat → Prop) (S : Nat → Prop) (wb br : Nat) (st : WSt) (R : Rep) (w : World) (hwr : WRep S w wb st) (hbx : RepBox B w br R) (ho : ¬ S br) (hB : ∀ q, B q → q < w.heap.size) (hSB : ∀ q, S q ∨ q = br → ¬ B q) (hlen : st.1.length + wtR R + 200 < 70368744177664) :
    Calls Tryd.prog (fid f) #[aggW wb br] w fun e' w' => e' = .returned (.tuple #[]) ∧ FldDone B S wb br w w' (mFld f st R) := by
  obtain ⟨hv, ev, ap, cp, hb, ⟨h1, l1⟩, ⟨h2, l2⟩, h3, h4⟩ := hbx.cells
  cases R with
  | mk z s a b t h e p =>
    simp only [Rep.status, Rep.size, Rep.a, Rep.b, Rep.root, Rep.hashes, Rep.entries, Rep.replies, wtR] at *
    have low : ∀ {S' : Nat → Prop} {w' : World} {cs : Array Value}, XSt S w br S' w' cs → ∀ g, S' g ∨ g = br → ¬ B g := fun hx g hg hb => by
      rcases hg with hg | hg
      · rcases hx.grows g hg with h | h
        · exact hSB g (.inl h) hb
        · have := hB g hb; omega
      · exact hSB g (.inr hg) hb
    have k1 : ∀ {S' : Nat → Prop} {w' : World} {cs : Array Value}, XSt S w br S' w' cs → ListAt w' hv (texts h) ∧ Low B hv h := fun hx => ⟨h1.keeps_if hx.keeps (fun g hg hn hs => hSB g hs (l1 g hg (fun e => hn (by rw [e]; rfl)))), l1⟩
    have k2 : ∀ {S' : Nat → Prop} {w' : World} {cs : Array Value}, XSt S w br S' w' cs → ListAt w' ev (texts e) ∧ Low B ev e := fun hx => ⟨h2.keeps_if hx.keeps (fun g hg hn hs => hSB g hs (l2 g hg (fun e => hn (by rw [e]; rfl)))), l2⟩
    have k3 : ∀ {S' : Nat → Prop} {w' : World} {cs : Array Value}, XSt S w br S' w' cs → RepsAt B w' p ap 0 := fun hx => RepsAt.keeps hx.keeps hSB p ap 0 h3
    have nl : ∀ w' : World, ListAt w' (.slice none 0 0) (texts []) ∧ Low B (.slice none 0 0) ([] : List (List UInt8)) := fun w' => ⟨listAt_nil w' texts rfl, low_nil _ _⟩
    cases f
    · refine (xsize_w S wb br st z s a b t hv ev _ w hwr hb ho (by omega)).mono ?_
      rintro e' w' ⟨rfl, S', X, W⟩
      exact ⟨rfl, S', _, X, W, RepBox.mk' X.box (k1 X) (k2 X) (k3 X) h4, low X⟩
    · refine (xa_w S wb br st z s a b t hv ev _ w hwr hb ho (by omega)).mono ?_
      rintro e' w' ⟨rfl, S', X, W⟩
      exact ⟨rfl, S', _, X, W, RepBox.mk' X.box (k1 X) (k2 X) (k3 X) h4, low X⟩
    · refine (xlast_w S wb br st z s a b t hv ev _ w hwr hb ho (by omega)).mono ?_
      rintro e' w' ⟨rfl, S', X, W⟩
      exact ⟨rfl, S', _, X, W, RepBox.mk' X.box (k1 X) (k2 X) (k3 X) h4, low X⟩
    · refine (xroot_w S wb br st z s a b t hv ev _ w hwr hb ho (by omega)).mono ?_
      rintro e' w' ⟨rfl, S', X, W⟩
      exact ⟨rfl, S', _, X, W, RepBox.mk' X.box (k1 X) (k2 X) (k3 X) h4, low X⟩
    · refine (xhashes_w S wb br st z s a b t hv ev _ w hwr hb ho h h1 (fun g hg hn hs => hSB g (.inl hs) (l1 g hg hn)) (by omega)).mono ?_
      rintro e' w' ⟨rfl, S', X, W⟩
      exact ⟨rfl, S', _, X, W, RepBox.mk' X.box (nl _) (k2 X) (k3 X) h4, low X⟩
    · refine (xtold_w S wb br st z s a b t hv ev _ w hwr hb ho e h2 (fun g hg hn hs => hSB g (.inl hs) (l2 g hg hn)) (by omega)).mono ?_
      rintro e' w' ⟨rfl, S', X, W⟩
      exact ⟨rfl, S', _, X, W, RepBox.mk' X.box (k1 X) (nl _) (k3 X) h4, low X⟩
    · refine (xparts_w B S wb br st z s a b t hv ev p ap cp w hwr hb ho h3 hB hSB h4 (by omega)).mono ?_
      rintro e' w' ⟨rfl, S', X, W⟩
      exact ⟨rfl, S', _, X, W, RepBox.mk' (p := []) X.box (k1 X) (k2 X) (by rw [RepsAt]; trivial) (by simp), low X⟩
end Go.Proofs.YtpccaodkgboefaaDoor
