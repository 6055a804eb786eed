/-
  What is told as a request, or a reply, is laid down again as just these bytes; the document's examples. Plain.
  The laws' first calls, whose answers are fixed (message).
-/
import Derived.Test.YtpccaodkgboefaaGreatDoorMMsK
namespace Go.Proofs.YtpccaodkgboefaaGreatDoor
open Go.RowKit

theorem unframedM_rest (s : List UInt8) (h : (unframedM s).2.2 = 0) : (unframedM s).2.1 = s.drop (s.length - (unframedM s).2.1.length) := by
  unfold unframedM at h ⊢
  by_cases h0 : (unframed s).2.2 = 0
  · rw [if_pos h0]
    simp only
    unfold unframed at h0 ⊢
    cases hp : pText 1048576 s with
    | error e =>
      rw [hp] at h0
      exact absurd h0 (pText_error hp)
    | ok x => exact pText_drop hp
  · rw [if_neg h0] at h
    split at h
    · exact absurd h (by decide)
    · split at h
      · exact absurd h (by decide)
      · exact absurd h (by decide)
theorem take_rest (s : List UInt8) (h : (unframedM s).2.2 = 0) : s.take (s.length - (unframedM s).2.1.length) ++ (unframedM s).2.1 = s := by
  have := unframedM_rest s h
  generalize (unframedM s).2.1 = r at *
  conv => lhs; rhs; rw [this]
  exact List.take_append_drop _ _
theorem decOf_strict (s : List UInt8) (h : (decOf s).2.2 = 0) : (encOf (decOf s).1).2 = 0 ∧ (encOf (decOf s).1).1 ++ (decOf s).2.1 = s := by
  unfold decOf at h ⊢
  by_cases h0 : (unframedM s).2.2 = 0
  · rw [if_neg (by simpa using h0)] at h ⊢
    by_cases hf : fitsOf (takeOf (unframedM s).1) (s.take (s.length - (unframedM s).2.1.length)) = true
    · rw [if_pos hf]
      unfold fitsOf at hf
      rw [decide_eq_true_eq] at hf
      refine ⟨hf.2.1, ?_⟩
      show (encOf (takeOf (unframedM s).1).1).1 ++ (unframedM s).2.1 = s
      rw [hf.2.2]
      exact take_rest s h0
    · rw [if_neg hf] at h
      exact absurd h (by decide)
  · rw [if_pos h0] at h
    exact absurd h h0
theorem decRep_strict (k : Int) (s : List UInt8) (h : (decRep k s).2.2 = 0) : (encRep k (decRep k s).1).2 = 0 ∧ (encRep k (decRep k s).1).1 ++ (decRep k s).2.1 = s := by
  unfold decRep at h ⊢
  by_cases hk : k < 0 ∨ 12 < k
  · rw [if_pos hk] at h
    exact absurd h (by decide)
  · rw [if_neg hk] at h ⊢
    by_cases h0 : (unframedM s).2.2 = 0
    · rw [if_neg (by simpa using h0)] at h ⊢
      by_cases hf : fitsRep k (takeRep k (unframedM s).1) (s.take (s.length - (unframedM s).2.1.length)) = true
      · rw [if_pos hf]
        unfold fitsRep at hf
        rw [decide_eq_true_eq] at hf
        refine ⟨hf.2.2.1, ?_⟩
        show (encRep k (takeRep k (unframedM s).1).2.1).1 ++ (unframedM s).2.1 = s
        rw [hf.2.2.2]
        exact take_rest s h0
      · rw [if_neg hf] at h
        exact absurd h (by decide)
    · rw [if_pos h0] at h
      exact absurd h h0
theorem decOf_wt (s : List UInt8) : wt (decOf s).1 ≤ 10000000 := by
  have hz : wt noReq ≤ 10000000 := by decide
  unfold decOf
  split
  · exact hz
  · split
    · exact rReq_wt _ _ _
    · exact hz
theorem rFlds_small : ∀ (l : List Fld) (r : RSt) (R : Rep), SmallR R → (∀ m, l[m]? = some Fld.parts → m = 0) → (Fld.parts ∈ l → R.replies = []) → SmallR (rFlds l r R).1
  | [], r, R, h, _, _ => h
  | f :: l, r, R, h, h1, h2 => by
    rw [rFlds_cons]
    have hl : ∀ m, l[m]? ≠ some Fld.parts := fun m hm => by
      have := h1 (m + 1) (by simpa using hm)
      omega
    refine rFlds_small l _ _ (rFld_small f r R h (fun e => h2 (by rw [e]; simp))) (fun m hm => absurd hm (hl m)) (fun hm => ?_)
    obtain ⟨m, hm2, he⟩ := List.getElem_of_mem hm
    exact absurd (by rw [List.getElem?_eq_getElem hm2, he]) (hl m)
theorem decRep_wt (k : Int) (s : List UInt8) : wtR (decRep k s).1 ≤ 100000000 := by
  have hz0 : wtR noRep ≤ 100000000 := by decide
  unfold decRep
  split
  · exact hz0
  · split
    · exact hz0
    · split
      · refine SmallR.wt ?_
        have hz : ∀ z : Int, SmallR (.mk z 0 0 0 [] [] [] []) := fun z => by simp [SmallR, Rep.hashes, Rep.entries, Rep.root, Rep.replies, bulk, wtPs]
        show SmallR (takeRep k (unframedM s).1).2.1
        unfold takeRep
        simp only
        split
        · exact rFlds_small _ _ _ (hz _) (fun m hm => parts_first k hm) (fun _ => rfl)
        · exact hz _
      · exact hz0

def exReq : Req := .mk 4 3 0 300 [] [] []
def exRep : Rep := .mk 2 0 0 0 [] [] [] []
theorem ex_enc : encOf exReq = ([4, 4, 3, 172, 2], 0) := by kernel_rfl
theorem ex_dec : decOf [4, 4, 3, 172, 2, 120] = (exReq, [120], 0) := by kernel_rfl
theorem ex_encRep : encRep 2 exRep = ([2, 2, 2], 0) := by kernel_rfl
theorem ex_decRep : decRep 2 [2, 2, 2] = (exRep, [], 0) := by kernel_rfl
end Go.Proofs.YtpccaodkgboefaaGreatDoor

namespace Go.Proofs.YtpccaodkgboefaaGreatDoor
open Go.RowKit

theorem exReq_own (w : World) : ReqOwn w exReq (.agg #[.int .i64 4, .int .i64 3, .int .i64 0, .int .i64 300, .slice none 0 0, .slice none 0 0, .slice none 0 0]) [] := by
  rw [exReq, ReqOwn]
  exact ⟨_, _, _, [], [], rfl, World.ownsRow_nil _ _ _ _, World.ownsRow_nil _ _ _ _, World.ownsRow_nil _ _ _ _, by rw [ElemsOwn]; exact ⟨rfl, rfl⟩, rfl⟩
theorem exRep_own (w : World) : RepOwn w exRep (.agg #[.int .i64 2, .int .i64 0, .int .i64 0, .int .i64 0, .string ⟨#[]⟩, .slice none 0 0, .slice none 0 0, .slice none 0 0]) [] := by
  rw [exRep, RepOwn]
  exact ⟨_, _, _, [], [], rfl, World.ownsRow_nil _ _ _ _, World.ownsRow_nil _ _ _ _, World.ownsRow_nil _ _ _ _, by rw [ReplsOwn]; exact ⟨rfl, rfl⟩, rfl⟩

set_option maxRecDepth 100000 in
set_option maxHeartbeats 2000000 in
theorem mknown_any (w : World) (hl : Laid w) :
    Calls Tryz.prog 7 #[] w fun e w' => e = .returned (.bool true) ∧ Fresh w w' := by
  have h1 : ∀ W, Laid W → Calls Tryz.prog 9 #[.agg #[.int .i64 4, .int .i64 3, .int .i64 0, .int .i64 300, .slice none 0 0, .slice none 0 0, .slice none 0 0]] W fun e w' => e = .returned (.tuple #[.string (str [4, 4, 3, 172, 2]), .int .i64 0]) ∧ Fresh W w' := fun W hW => by
    have := encode_any (fun _ => False) exReq _ W hW (ReqOwn.at _ _ _ (exReq_own W) _ (fun _ h => by cases h)) (fun _ h => h.elim) (by decide) (by decide +kernel)
    rw [ex_enc] at this
    exact this
  have h2 : ∀ W, Laid W → Calls Tryz.prog 15 #[.string (str [4, 4, 3, 172, 2, 120])] W fun e w' => Told W (exReq, [120], 0) e w' := fun W hW => by
    have := decode_any [4, 4, 3, 172, 2, 120] W hW (by decide)
    rw [ex_dec] at this
    exact this
  have h3 : ∀ W, Laid W → Calls Tryz.prog 19 #[.int .i64 2, .agg #[.int .i64 2, .int .i64 0, .int .i64 0, .int .i64 0, .string ⟨#[]⟩, .slice none 0 0, .slice none 0 0, .slice none 0 0]] W fun e w' => e = .returned (.tuple #[.string (str [2, 2, 2]), .int .i64 0]) ∧ Fresh W w' := fun W hW => by
    have := encodeRep_any (fun _ => False) 2 exRep _ W hW (RepOwn.at _ _ _ (exRep_own W) _ (fun _ h => by cases h)) (fun _ h => h.elim) (by decide)
    rw [ex_encRep] at this
    exact this
  have h4 : ∀ W, Laid W → Calls Tryz.prog 24 #[.int .i64 2, .string (str [2, 2, 2])] W fun e w' => ToldR W (exRep, [], 0) e w' := fun W hW => by
    have := decodeRep_any 2 [2, 2, 2] W hW (by decide)
    rw [ex_decRep] at this
    exact this
  have hc : str [4, 4, 3, 172, 2] ++ (⟨#[120]⟩ : ByteArray) = str [4, 4, 3, 172, 2, 120] := by decide
  have t1 : (str [4, 4, 3, 172, 2]).toList = [4, 4, 3, 172, 2] := str_toList _
  have t2 : (str [2, 2, 2]).toList = [2, 2, 2] := str_toList _
  have t3 : (str [120]).toList = [120] := str_toList _
  have t4 : (str []).toList = [] := str_toList _
  have H1 := hid h1
  have H2 := hid h2
  have H3 := hid h3
  have H4 := hid h4
  clear h1 h2 h3 h4
  go_enter Tryz.func7, Tryz.ntmps7
  go_wp2_with fail
  refine (H1.out _ hl).mono ?_
  rintro e w1 ⟨rfl, f1⟩
  go_wp2_with fail
  refine (H2.out _ (hl.fresh_ f1)).mono ?_
  rintro e w2 ⟨v, bl, rfl, f2, ho2, -, -⟩
  obtain ⟨al, cl, ae, ce, aq, cq, rfl⟩ := ho2.shape
  have fa : Fresh w2 (w2.alloc (.cells #[.int .i64 exReq.kind, .int .i64 exReq.a, .int .i64 exReq.b, .int .i64 exReq.size, .slice al exReq.list.length cl, .slice ae exReq.entries.length ce, .slice aq exReq.asks.length cq] 26)) := (Keeps.refl _ _).alloc _
  have hb := heap_alloc_new w2 (.cells #[.int .i64 exReq.kind, .int .i64 exReq.a, .int .i64 exReq.b, .int .i64 exReq.size, .slice al exReq.list.length cl, .slice ae exReq.entries.length ce, .slice aq exReq.asks.length cq] 26)
  have fw := (f1.trans f2).trans fa
  have HB := hid hb
  have FW := hid fw
  clear ho2 fa hb fw f1 f2
  go_wp2_with fail
  refine (H3.out _ (hl.fresh_ FW.out)).mono ?_
  rintro e w3 ⟨rfl, f3⟩
  go_wp2_with fail
  refine (H4.out _ (hl.fresh_ (FW.out.trans f3))).mono ?_
  rintro e w4 ⟨v, bl, rfl, f4, ho4, -, -⟩
  obtain ⟨al4, cl4, ae4, ce4, aq4, cq4, rfl⟩ := ho4.shape
  have fb : Fresh w4 (w4.alloc (.cells #[.int .i64 exRep.status, .int .i64 exRep.size, .int .i64 exRep.a, .int .i64 exRep.b, .string (str exRep.root), .slice al4 exRep.hashes.length cl4, .slice ae4 exRep.entries.length ce4, .slice aq4 exRep.replies.length cq4] 48)) := (Keeps.refl _ _).alloc _
  have hb4 := heap_alloc_new w4 (.cells #[.int .i64 exRep.status, .int .i64 exRep.size, .int .i64 exRep.a, .int .i64 exRep.b, .string (str exRep.root), .slice al4 exRep.hashes.length cl4, .slice ae4 exRep.entries.length ce4, .slice aq4 exRep.replies.length cq4] 48)
  have hb3 := ((f3.trans f4).trans fb).at_ HB.out (fun h => h)
  have FZ := hid (((FW.out.trans f3).trans f4).trans fb)
  have x0 := (cell_at hb3 0).trans (show _ = some (.int .i64 4) from rfl)
  have x1 := (cell_at hb3 1).trans (show _ = some (.int .i64 3) from rfl)
  have x3 := (cell_at hb3 3).trans (show _ = some (.int .i64 300) from rfl)
  have y0 := (cell_at hb4 0).trans (show _ = some (.int .i64 2) from rfl)
  clear ho4 fb hb4 hb3 f3 f4
  go_wp2_with fail
  go_ret
  exact ⟨rfl, FZ.out⟩
end Go.Proofs.YtpccaodkgboefaaGreatDoor
