/-
  Package codec: the closures of a Reader's Texts and Hashes.
-/
import Derived.Test.YtpccaodkgboefaaGreatDoorCxWTexts
import Derived.Deep.RegionLaw
namespace Go.Proofs.YtpccaodkgboefaaGreatDoor
open Go.RowKit

/-- k things, one behind the other -/
def pElems (p : List UInt8 → Except Int (List UInt8 × List UInt8)) : Nat → List UInt8 → Except Int (List (List UInt8) × List UInt8)
  | 0, l => .ok ([], l)
  | k + 1, l => match p l with
    | .error e => .error e
    | .ok (x, l') => match pElems p k l' with
      | .error e => .error e
      | .ok (xs, l'') => .ok (x :: xs, l'')
def p32 (l : List UInt8) : Except Int (List UInt8 × List UInt8) := if l.length < 32 then .error 21 else .ok (l.take 32, l.drop 32)
def pTexts (many most : Int) (l : List UInt8) : Except Int (List (List UInt8) × List UInt8) :=
  if many < 0 ∨ most < 0 then .error 1 else match pCount many l with
  | .error e => .error e
  | .ok (n, l') => pElems (pText most) n l'
def pHashes (many : Int) (l : List UInt8) : Except Int (List (List UInt8) × List UInt8) :=
  if many < 0 then .error 1 else match pCount many l with
  | .error e => .error e
  | .ok (n, l') => pElems p32 n l'

theorem texts_snoc (l : List (List UInt8)) (x : List UInt8) : texts (l ++ [x]) = texts l ++ [Value.string (str x)] := by simp [texts]

theorem ahead_ok {p : List UInt8 → Except Int (List UInt8 × List UInt8)} {j : Nat} {l x l' : List UInt8} {acc : List (List UInt8)} (h : p l = .ok (x, l')) : ahead acc (pElems p (j + 1) l) = ahead (acc ++ [x]) (pElems p j l') := by
  simp only [pElems, h]
  rcases pElems p j l' with e | ⟨xs, l3⟩ <;> simp [ahead]
theorem ahead_error {p : List UInt8 → Except Int (List UInt8 × List UInt8)} {j : Nat} {l : List UInt8} {e : Int} {acc : List (List UInt8)} (h : p l = .error e) : ahead acc (pElems p (j + 1) l) = .error e := by
  simp only [pElems, h, ahead]

theorem Tryz.infoText : (Tryz.prog.info? 9).map (fun i => (i.zero, i.size, i.bytes)) = some (some (.string ⟨#[]⟩), 1, 16) := by kernel_rfl

set_option maxRecDepth 100000 in
set_option maxHeartbeats 2000000 in
theorem hashes_inner (S : Nat → Prop) (b : Nat) (r : RSt) (many : Int) (mb pb nb : Nat) (w : World) (h : RRep S w b r) (h0 : r.2.2 = 0) (hm : w.cell? ⟨mb, 0, none⟩ = some (.int .i64 many)) (hp : w.cell? ⟨pb, 0, none⟩ = some (.pointer (some ⟨b, 0, none⟩)))
    (hn : w.cell? ⟨nb, 0, none⟩ = some (.slice none 0 0)) (hf : w.frozen? ⟨nb, 0, none⟩ = false) (hnS : ¬ S nb) (hpS : ¬ S pb) (hpn : pb ≠ nb) (hlt : nb < w.heap.size) (hltp : pb < w.heap.size) (hb : many ≤ 1099511627776 ∨ r.1.length ≤ 1099511627776) :
    Calls Tryz.prog 144 #[.pointer (some ⟨mb, 0, none⟩), .pointer (some ⟨pb, 0, none⟩), .pointer (some ⟨nb, 0, none⟩)] w fun e w1 => e = .returned (.tuple #[]) ∧ ∃ r1 S1, Grows S S1 w w1 ∧ Keeps (fun k => S k ∨ k = nb) w w1 ∧ RRep S1 w1 b r1 ∧
      LeavesL 9 1 nb w.heap.size r (pHashes many r.1) texts r1 S1 w1 := by
  by_cases hneg : many < 0
  · have hP : Hid (pHashes many r.1 = .error 1) := by simp [Hid, pHashes, hneg]
    have H0 := hid h0
    clear h0
    go_enter Tryz.func144, Tryz.ntmps144
    go_wp2_with fail
    refine (rrefuse_any S b r 1 _ (by decide) h).mono ?_
    rintro e w1 ⟨rfl, S1, hg1, hk1, hr1⟩
    have hn1 := (hk1.cell (p := ⟨nb, 0, none⟩) hlt hnS).trans hn
    have hf1 := (hk1.frozen (p := ⟨nb, 0, none⟩) hlt hnS).trans hf
    go_wp2
    first | go_end0 | refine bodyPost_ret (results_none rfl _ _ _) rfl ?_
    refine ⟨rfl, _, S1, hg1, hk1.mono fun _ _ h => .inl h, hr1, ⟨_, _, _, hn1⟩, hf1, ?_⟩
    rw [hP.out]
    exact ⟨by simp [rRefuse, first, H0.out], by decide⟩
  · have hpos : 0 ≤ many := by omega
    have hPR : Hid (pHashes many r.1 = match pCount many r.1 with | .error e => .error e | .ok (n, l') => pElems p32 n l') := by rw [Hid, pHashes, if_neg hneg]
    have H0 := hid h0
    have HB := hid hb
    clear h0 hb
    obtain ⟨i0, hi, hz0, hz1, hz2⟩ := info_parts Tryz.infoText
    go_enter Tryz.func144, Tryz.ntmps144
    go_wp2_with fail
    refine (count_any S b r many _ h H0.out hpos).mono ?_
    rintro e w1 ⟨v, r1, rfl, hv, S1, hg1, hk1, hr1⟩
    have hp1 := (hk1.cell (p := ⟨pb, 0, none⟩) hltp hpS).trans hp
    have hn1 := (hk1.cell (p := ⟨nb, 0, none⟩) hlt hnS).trans hn
    have hf1 := (hk1.frozen (p := ⟨nb, 0, none⟩) hlt hnS).trans hf
    cases hq : pCount many r.1 with
    | error f =>
      rw [hq] at hv
      have hp2 := hPR.out
      rw [hq] at hp2
      obtain ⟨rfl, h1, h2⟩ := hv
      have HP : Hid (pHashes many r.1 = .error f) := hp2
      have H1 := hid h1
      clear hPR hp2 hq h1
      go_wp2
      refine wp_loop_rounds 1 ?_
      rw [rounds_succ]
      go_wp2
      go_end0
      refine ⟨rfl, r1, S1, hg1, hk1.mono fun _ _ h => .inl h, hr1, ⟨_, _, _, hn1⟩, hf1, ?_⟩
      rw [HP.out]
      exact ⟨H1.out, h2⟩
    | ok x =>
      obtain ⟨n, l'⟩ := x
      rw [hq] at hv
      have hle := pCount_le hq
      have hp2 := hPR.out
      rw [hq] at hp2
      simp only at hp2
      obtain ⟨rfl, rfl, h2⟩ := hv
      have HP : Hid (pHashes many r.1 = pElems p32 n l') := hp2
      have hst : LState 9 1 S w b nb pb S1 w1 (l', r.2.1 + (r.1.length - l'.length), 0) (.slice none 0 0) 0 (texts []) := ⟨hr1, hg1, hk1.mono fun _ _ h => .inl h, hn1, hf1, hp1, World.ownsRow_nil _ _ _ _, fun g hg => by cases hg⟩
      have hbd : n ≤ 1099511627776 ∨ r.1.length ≤ 1099511627776 := orl HB.out fun h => by omega
      have HBD := hid hbd
      clear hPR hq hp2 hbd hp1 hn1 hf1 hg1 hk1 hr1
      go_wp2
      go_loopw [3] (fun k wr => ∃ (j : Nat), k = .int .i64 (j : Int) ∧ j ≤ 4611686018427387904 ∧
        ((∃ (l2 : List UInt8) (t2 : Nat) (acc : List (List UInt8)) (S2 : Nat → Prop) (v : Value), Hid (pHashes many r.1 = ahead acc (pElems p32 j l2)) ∧ Hid (acc.length + j = n ∧ acc.length + l2.length ≤ r.1.length ∧ t2 + l2.length = r.2.1 + r.1.length) ∧
            LState 9 1 S w b nb pb S2 wr (l2, t2, 0) v acc.length (texts acc)) ∨
         (∃ (r2 : RSt) (acc : List (List UInt8)) (S2 : Nat → Prop) (v : Value), r2.2.2 ≠ 0 ∧ Hid (pHashes many r.1 = .error r2.2.2) ∧ LState 9 1 S w b nb pb S2 wr r2 v acc.length (texts acc)))) (fun k _ => (intOf k).toNat)
      case atStart =>
        refine ⟨n, rfl, hle.1, .inl ⟨l', _, [], S1, _, ?_, ⟨by simp, by simp; omega, by omega⟩, hst⟩⟩
        show _ = _
        rw [HP.out]
        cases pElems p32 n l' <;> rfl
      case round =>
        obtain ⟨j, rfl, hj, ⟨l2, t2, acc, S2, v, HR, HL, hs⟩ | ⟨r2, acc, S2, v, hne, HR, hs⟩⟩ := hrel
        · rcases j with _ | j
          · go_wp2
            go_end0
            have hL := HL.out
            have hend : pHashes many r.1 = .ok (acc, l2) := by rw [HR.out]; simp [pElems, ahead]
            have hrow := hs.row
            refine ⟨rfl, _, S2, hs.grows, hs.keeps, hs.rep, ?_, hs.frz, ?_⟩
            · obtain ⟨ao, cp, rfl⟩ := ownsRow_slice hs.row
              exact ⟨_, _, _, hs.cell⟩
            · rw [hend]
              exact ⟨by simp; omega, by omega, v, hs.cell, hs.row, fun g hg => ⟨(hs.own g hg).1, (hs.own g hg).2, (hs.row.lt g hg).2, by have := (hs.own g hg).2; omega⟩⟩
          · have c2 := hs.rep.fine rfl
            have hpc := hs.pcell
            have hc0 := hs.cell
            have hf0 := hs.frz
            obtain ⟨ao, cp, rfl⟩ := ownsRow_slice hs.row
            have hlen : acc.length + 1 ≤ 1099511627776 + 1 := by
              have hL := HL.out
              have := HBD.out
              omega
            by_cases h32 : l2.length < 32
            · have ht : Hid (rTake (l2, t2, 0) 32 = ([], rRefuse (l2, t2, 0) 21)) := by simp [Hid, rTake, h32]
              have HE : Hid (pHashes many r.1 = .error 21) := by rw [Hid, HR.out]; simp [pElems, p32, h32, ahead]
              go_wp2
              go_region_law (first | (refine step_push rfl (.tmp 22) (.tmp 25) 23 rfl 9 i0 (.string ⟨#[]⟩) 16 Tryz.underlying23 hi hz0 hz1 hz2 rfl _ hs3.row _ (by rfl) (by rfl) rfl (by omega) (by unfold maxLen; omega) ?_; intro v4 w4 ha; obtain ⟨ao4, cp4, rfl⟩ := ownsRow_slice ha.row; have c4 := (ha.keeps.cell (p := ⟨nb, 0, none⟩) (by simp only; have := hs3.keeps.size; omega) (fun e => by have := (hs3.own nb e).2; omega)).trans hs3.cell; have f4 := (ha.keeps.frozen (p := ⟨nb, 0, none⟩) (by simp only; have := hs3.keeps.size; omega) (fun e => by have := (hs3.own nb e).2; omega)).trans hs3.frz; have hs4 := hs3.push hnS hlt hltp hpn ha) | (go_simp; go_at_call 91; refine (rtake_any S2 b _ 32 _ (by omega) (by exact hs.rep)).mono ?_; rintro e w3 ⟨rfl, S3, hg3, hk3, hr3⟩; have hs3 := hs.call hnS hpS hlt hltp hg3 ⟨hk3.os, hk3.tape, hk3.output, hk3.size, hk3.block⟩ hr3; have hc3 := hs3.cell; have hn3 : nb < w3.heap.size := (by have := hs3.keeps.size; omega)))
              all_goals
                go_wp2
                go_roundw
                case rel =>
                  rw [ht.out] at hs4
                  exact ⟨j, by go_num, by omega, .inr ⟨rRefuse (l2, t2, 0) 21, acc ++ [[]], S3, _, (by show first 0 21 ≠ 0; decide), HE, by rw [texts_snoc, List.length_append]; exact hs4⟩⟩
                case measure => simp [intOf]
            · have ht : Hid (rTake (l2, t2, 0) 32 = (l2.take 32, (l2.drop 32, t2 + 32, 0))) := by simp [Hid, rTake, h32]
              have HE : Hid (pHashes many r.1 = ahead (acc ++ [l2.take 32]) (pElems p32 j (l2.drop 32))) := by
                rw [Hid, HR.out]; exact ahead_ok (by simp [p32, h32])
              go_wp2
              go_region_law (first | (refine step_push rfl (.tmp 22) (.tmp 25) 23 rfl 9 i0 (.string ⟨#[]⟩) 16 Tryz.underlying23 hi hz0 hz1 hz2 rfl _ hs3.row _ (by rfl) (by rfl) rfl (by omega) (by unfold maxLen; omega) ?_; intro v4 w4 ha; obtain ⟨ao4, cp4, rfl⟩ := ownsRow_slice ha.row; have c4 := (ha.keeps.cell (p := ⟨nb, 0, none⟩) (by simp only; have := hs3.keeps.size; omega) (fun e => by have := (hs3.own nb e).2; omega)).trans hs3.cell; have f4 := (ha.keeps.frozen (p := ⟨nb, 0, none⟩) (by simp only; have := hs3.keeps.size; omega) (fun e => by have := (hs3.own nb e).2; omega)).trans hs3.frz; have hs4 := hs3.push hnS hlt hltp hpn ha) | (go_simp; go_at_call 91; refine (rtake_any S2 b _ 32 _ (by omega) (by exact hs.rep)).mono ?_; rintro e w3 ⟨rfl, S3, hg3, hk3, hr3⟩; have hs3 := hs.call hnS hpS hlt hltp hg3 ⟨hk3.os, hk3.tape, hk3.output, hk3.size, hk3.block⟩ hr3; have hc3 := hs3.cell; have hn3 : nb < w3.heap.size := (by have := hs3.keeps.size; omega)))
              all_goals
                go_wp2
                go_roundw
                case rel =>
                  rw [ht.out] at hs4
                  refine ⟨j, by go_num, by omega, .inl ⟨l2.drop 32, t2 + 32, acc ++ [l2.take 32], S3, _, HE, ?_, by rw [texts_snoc, List.length_append]; exact hs4⟩⟩
                  show _ ∧ _ ∧ _
                  have hL := HL.out
                  simp only [List.length_append, List.length_drop, List.length_singleton]
                  omega
                case measure => simp [intOf]
        · obtain ⟨k1, c2⟩ := hs.rep.err hne
          have hpc := hs.pcell
          have HNE := hid hne
          clear hne
          rcases j with _ | j
          all_goals
            go_wp2
            go_end0
            refine ⟨rfl, r2, S2, hs.grows, hs.keeps, hs.rep, ?_, hs.frz, ?_⟩
            · obtain ⟨ao, cp, rfl⟩ := ownsRow_slice hs.row
              exact ⟨_, _, _, hs.cell⟩
            · rw [HR.out]
              exact ⟨rfl, HNE.out⟩
end Go.Proofs.YtpccaodkgboefaaGreatDoor
