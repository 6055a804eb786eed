/-
  Package codec: the closure of a Reader's Rising.
  Package codec: the Reader's Rising; what is left, what is told at the end; a new Reader, a new Writer.
  Package codec: what a Reader tells at its end; how much is left; a new Reader, a new Writer.
-/
import Derived.Test.YtpccaodkgboefaaGreatDoorMCxR
import Derived.Deep.RegionWith
namespace Go.Proofs.YtpccaodkgboefaaGreatDoor
open Go.RowKit

def ints (l : List Int) : List Value := l.map fun x => Value.int .i64 x

/-- k numbers that rise from behind 'last' -/
def pRiseN : Nat → Int → List UInt8 → Except Int (List Int × List UInt8)
  | 0, _, l => .ok ([], l)
  | k + 1, last, l => match pNum 0 0 l with
    | .error e => .error e
    | .ok (x, l') => if 4611686018427387904 - last - 1 < x then .error 20 else match pRiseN k (last + (x + 1)) l' with
      | .error e => .error e
      | .ok (xs, l'') => .ok ((last + (x + 1)) :: xs, l'')
def pRising (many : Int) (l : List UInt8) : Except Int (List Int × List UInt8) :=
  if many < 0 then .error 1 else match pCount many l with
  | .error e => .error e
  | .ok (n, l') => pRiseN n (-1) l'

/-- what was collected already, ahead of what is still to come -/
def ahead {α : Type} (acc : List α) : Except Int (List α × List UInt8) → Except Int (List α × List UInt8)
  | .error e => .error e
  | .ok (xs, l) => .ok (acc ++ xs, l)

/-- what a closure that collects a list leaves -/
def LeavesL {α : Type} (E : TypeId) (size : Nat) (nb base : Nat) (r : RSt) (p : Except Int (List α × List UInt8)) (enc : List α → List Value) (r1 : RSt) (S1 : Nat → Prop) (w1 : World) : Prop :=
  (∃ ao len cap, w1.cell? ⟨nb, 0, none⟩ = some (.slice ao len cap)) ∧ w1.frozen? ⟨nb, 0, none⟩ = false ∧ match p with
  | .error e => r1.2.2 = e ∧ e ≠ 0
  | .ok (xs, l) => r1 = (l, r.2.1 + (r.1.length - l.length), 0) ∧ l.length ≤ r.1.length ∧
      ∃ v, w1.cell? ⟨nb, 0, none⟩ = some v ∧ w1.ownsRow 0 E size v xs.length (enc xs) ∧ ∀ g, v.ownBlock = some g → ¬ S1 g ∧ base ≤ g ∧ g < w1.heap.size ∧ g ≠ nb

/-- the state of such a closure: the Reader, the list so far, the captured variables -/
structure LState (E : TypeId) (size : Nat) (S : Nat → Prop) (w : World) (b nb pb : Nat) (S2 : Nat → Prop) (wr : World) (r2 : RSt) (v : Value) (n : Nat) (xs : List Value) : Prop where
  rep : RRep S2 wr b r2
  grows : Grows S S2 w wr
  keeps : Keeps (fun k => S k ∨ k = nb) w wr
  cell : wr.cell? ⟨nb, 0, none⟩ = some v
  frz : wr.frozen? ⟨nb, 0, none⟩ = false
  pcell : wr.cell? ⟨pb, 0, none⟩ = some (.pointer (some ⟨b, 0, none⟩))
  row : wr.ownsRow 0 E size v n xs
  own : ∀ g, v.ownBlock = some g → ¬ S2 g ∧ w.heap.size ≤ g

section
variable {E : TypeId} {size : Nat} {S : Nat → Prop} {w : World} {b nb pb : Nat} {S2 : Nat → Prop} {wr : World} {r2 : RSt} {v : Value} {n : Nat} {xs : List Value}
theorem LState.notS2 (h : LState E size S w b nb pb S2 wr r2 v n xs) {k : Nat} (hk : ¬ S k) (hlt : k < w.heap.size) : ¬ S2 k := fun h2 => by
  rcases h.grows k h2 with h1 | h1
  · exact hk h1
  · omega
/-- a call on the Reader -/
theorem LState.call (h : LState E size S w b nb pb S2 wr r2 v n xs) (hnS : ¬ S nb) (hpS : ¬ S pb) (hlt : nb < w.heap.size) (hltp : pb < w.heap.size) {S3 : Nat → Prop} {w3 : World} {r3 : RSt} (hg3 : Grows S2 S3 wr w3) (hk3 : Keeps S2 wr w3) (hr3 : RRep S3 w3 b r3) :
    LState E size S w b nb pb S3 w3 r3 v n xs := by
  have hsz := h.keeps.size
  obtain ⟨S4, g1, g2, g3⟩ := Acts.afterT (R := fun S4 => S4 = S3) h.grows h.keeps ⟨S3, hg3, hk3, rfl⟩
  subst g3
  refine ⟨hr3, g1, g2, (hk3.cell (p := ⟨nb, 0, none⟩) (by simp only; omega) (h.notS2 hnS hlt)).trans h.cell, (hk3.frozen (p := ⟨nb, 0, none⟩) (by simp only; omega) (h.notS2 hnS hlt)).trans h.frz,
    (hk3.cell (p := ⟨pb, 0, none⟩) (by simp only; omega) (h.notS2 hpS hltp)).trans h.pcell, ownsRow_keeps h.row hk3 (fun g hg => (h.own g hg).1), fun g hg => ⟨fun h3 => ?_, (h.own g hg).2⟩⟩
  rcases hg3 g h3 with h4 | h4
  · exact (h.own g hg).1 h4
  · have := h.row.lt g hg; omega
/-- one more is collected, and stored -/
theorem LState.push (h : LState E size S w b nb pb S2 wr r2 v n xs) (hnS : ¬ S nb) (hlt : nb < w.heap.size) (hltp : pb < w.heap.size) (hpn : pb ≠ nb) {w4 : World} {v' : Value} {n' : Nat} {xs' : List Value} (ha : Appended E size wr w4 v v' n' xs') :
    LState E size S w b nb pb S2 (w4.setCell ⟨nb, 0, none⟩ v') r2 v' n' xs' := by
  have hsz := h.keeps.size
  have hnv : v.ownBlock ≠ some nb := fun e => by have := (h.own nb e).2; omega
  have hpv : v.ownBlock ≠ some pb := fun e => by have := (h.own pb e).2; omega
  have hn' : v'.ownBlock ≠ some nb := fun e => by
    rcases ha.own nb e with h1 | h1
    · exact hnv h1
    · omega
  have hc4 : w4.cell? ⟨nb, 0, none⟩ = some v := (ha.keeps.cell (p := ⟨nb, 0, none⟩) (by simp only; omega) hnv).trans h.cell
  have hr4 : RRep S2 w4 b r2 := h.rep.keeps ha.keeps fun k hk e => (h.own k e).1 hk
  refine ⟨hr4.keeps ((Keeps.refl (fun k => k = nb) w4).setCell (fun _ => rfl) _) (fun k hk e => by subst e; exact h.notS2 hnS hlt hk), fun k hk => ?_, ?_, World.cell?_setCell_same _ _ _ hc4, ?_, ?_, ownsRow_setCell_ne ha.row hn' _, fun g hg => ?_⟩
  · rcases h.grows k hk with h1 | h1
    · exact .inl h1
    · exact .inr ⟨h1.1, by have := ha.keeps.size; simp; omega⟩
  · exact (h.keeps.trans' ha.keeps fun i hi e => by have := (h.own i e).2; omega).setCell (fun _ => .inr rfl) _
  · rw [World.frozen?_setCell]; exact (ha.keeps.frozen (p := ⟨nb, 0, none⟩) (by simp only; omega) hnv).trans h.frz
  · rw [World.cell?_setCell_other _ _ _ _ (fun e => hpn (by injection e with e1; exact e1.symm))]
    exact (ha.keeps.cell (p := ⟨pb, 0, none⟩) (by simp only; omega) hpv).trans h.pcell
  · rcases ha.own g hg with h1 | h1
    · exact h.own g h1
    · exact ⟨fun h2 => by have := (h.rep.2.1 g h2).2; omega, by omega⟩
end

theorem Tryz.infoInt : (Tryz.prog.info? 3).map (fun i => (i.zero, i.size, i.bytes)) = some (some (.int .i64 0), 1, 8) := by kernel_rfl

set_option maxRecDepth 100000 in
set_option maxHeartbeats 2000000 in
theorem rising_inner (S : Nat → Prop) (b : Nat) (r : RSt) (many : Int) (mb pb nb : Nat) (w : World) (h : RRep S w b r) (h0 : r.2.2 = 0) (hm : w.cell? ⟨mb, 0, none⟩ = some (.int .i64 many)) (hp : w.cell? ⟨pb, 0, none⟩ = some (.pointer (some ⟨b, 0, none⟩)))
    (hn : w.cell? ⟨nb, 0, none⟩ = some (.slice none 0 0)) (hf : w.frozen? ⟨nb, 0, none⟩ = false) (hnS : ¬ S nb) (hpS : ¬ S pb) (hpn : pb ≠ nb) (hlt : nb < w.heap.size) (hltp : pb < w.heap.size) (hb : many ≤ 1099511627776 ∨ r.1.length ≤ 1099511627776) :
    Calls Tryz.prog 127 #[.pointer (some ⟨mb, 0, none⟩), .pointer (some ⟨pb, 0, none⟩), .pointer (some ⟨nb, 0, none⟩)] w fun e w1 => e = .returned (.tuple #[]) ∧ ∃ r1 S1, Grows S S1 w w1 ∧ Keeps (fun k => S k ∨ k = nb) w w1 ∧ RRep S1 w1 b r1 ∧
      LeavesL 3 1 nb w.heap.size r (pRising many r.1) ints r1 S1 w1 := by
  by_cases hneg : many < 0
  · have hP : Hid (pRising many r.1 = .error 1) := by simp [Hid, pRising, hneg]
    have H0 := hid h0
    clear h0
    go_enter Tryz.func127, Tryz.ntmps127
    go_wp2_with fail
    refine (rrefuse_any S b r 1 _ (by decide) h).mono ?_
    rintro e w1 ⟨rfl, S1, hg1, hk1, hr1⟩
    have hn1 := (hk1.cell (p := ⟨nb, 0, none⟩) hlt hnS).trans hn
    have hf1 := (hk1.frozen (p := ⟨nb, 0, none⟩) hlt hnS).trans hf
    go_wp2
    first | go_end0 | refine bodyPost_ret (results_none rfl _ _ _) rfl ?_
    refine ⟨rfl, _, S1, hg1, hk1.mono fun _ _ h => .inl h, hr1, ⟨_, _, _, hn1⟩, hf1, ?_⟩
    rw [hP.out]
    exact ⟨by simp [rRefuse, first, H0.out], by decide⟩
  · have hpos : 0 ≤ many := by omega
    have hPR : Hid (pRising many r.1 = match pCount many r.1 with | .error e => .error e | .ok (n, l') => pRiseN n (-1) l') := by rw [Hid, pRising, if_neg hneg]
    have H0 := hid h0
    have HB := hid hb
    clear h0 hb
    obtain ⟨i0, hi, hz0, hz1, hz2⟩ := info_parts Tryz.infoInt
    go_enter Tryz.func127, Tryz.ntmps127
    go_wp2_with fail
    refine (count_any S b r many _ h H0.out hpos).mono ?_
    rintro e w1 ⟨v, r1, rfl, hv, S1, hg1, hk1, hr1⟩
    have hp1 := (hk1.cell (p := ⟨pb, 0, none⟩) hltp hpS).trans hp
    have hn1 := (hk1.cell (p := ⟨nb, 0, none⟩) hlt hnS).trans hn
    have hf1 := (hk1.frozen (p := ⟨nb, 0, none⟩) hlt hnS).trans hf
    cases hq : pCount many r.1 with
    | error f =>
      rw [hq] at hv
      have hp2 := hPR.out
      rw [hq] at hp2
      obtain ⟨rfl, h1, h2⟩ := hv
      have HP : Hid (pRising many r.1 = .error f) := hp2
      have H1 := hid h1
      clear hPR hp2 hq h1
      go_wp2
      refine wp_loop_rounds 1 ?_
      rw [rounds_succ]
      go_wp2
      go_end0
      refine ⟨rfl, r1, S1, hg1, hk1.mono fun _ _ h => .inl h, hr1, ⟨_, _, _, hn1⟩, hf1, ?_⟩
      rw [HP.out]
      exact ⟨H1.out, h2⟩
    | ok x =>
      obtain ⟨n, l'⟩ := x
      rw [hq] at hv
      have hle := pCount_le hq
      have hp2 := hPR.out
      rw [hq] at hp2
      simp only at hp2
      obtain ⟨rfl, rfl, h2⟩ := hv
      have HP : Hid (pRising many r.1 = pRiseN n (-1) l') := hp2
      have hst : LState 3 1 S w b nb pb S1 w1 (l', r.2.1 + (r.1.length - l'.length), 0) (.slice none 0 0) 0 (ints []) := ⟨hr1, hg1, hk1.mono fun _ _ h => .inl h, hn1, hf1, hp1, World.ownsRow_nil _ _ _ _, fun g hg => by cases hg⟩
      have hbd : n ≤ 1099511627776 ∨ r.1.length ≤ 1099511627776 := orl HB.out fun h => by omega
      have HBD := hid hbd
      clear hPR hq hp2 hbd hp1 hn1 hf1 hg1 hk1 hr1
      go_wp2
      go_loopw [3, 4] (fun last k wr => ∃ (j : Nat) (lastv : Int), k = .int .i64 (j : Int) ∧ last = .int .i64 lastv ∧ -1 ≤ lastv ∧ lastv ≤ 4611686018427387904 ∧ j ≤ 4611686018427387904 ∧
        ((∃ (l2 : List UInt8) (t2 : Nat) (acc : List Int) (S2 : Nat → Prop) (v : Value), Hid (pRising many r.1 = ahead acc (pRiseN j lastv l2)) ∧ Hid (acc.length + j = n ∧ acc.length + l2.length ≤ r.1.length ∧ t2 + l2.length = r.2.1 + r.1.length) ∧
            LState 3 1 S w b nb pb S2 wr (l2, t2, 0) v acc.length (ints acc)) ∨
         (∃ (r2 : RSt) (acc : List Int) (S2 : Nat → Prop) (v : Value), r2.2.2 ≠ 0 ∧ Hid (pRising many r.1 = .error r2.2.2) ∧ LState 3 1 S w b nb pb S2 wr r2 v acc.length (ints acc)))) (fun _ k _ => (intOf k).toNat)
      case atStart =>
        refine ⟨n, -1, rfl, rfl, by omega, by omega, hle.1, .inl ⟨l', _, [], S1, _, ?_, ⟨by simp, by simp; omega, by omega⟩, hst⟩⟩
        show _ = _
        rw [HP.out]
        cases pRiseN n (-1) l' <;> rfl
      case round =>
        obtain ⟨j, lastv, rfl, rfl, hlo, hhi, hj, ⟨l2, t2, acc, S2, v, HR, HL, hs⟩ | ⟨r2, acc, S2, v, hne, HR, hs⟩⟩ := hrel
        · rcases j with _ | j
          · go_wp2
            go_end0
            have hL := HL.out
            have hend : pRising many r.1 = .ok (acc, l2) := by rw [HR.out]; simp [pRiseN, ahead]
            have hrow := hs.row
            refine ⟨rfl, _, S2, hs.grows, hs.keeps, hs.rep, ?_, hs.frz, ?_⟩
            · obtain ⟨ao, cp, rfl⟩ := ownsRow_slice hs.row
              exact ⟨_, _, _, hs.cell⟩
            · rw [hend]
              exact ⟨by simp; omega, by omega, v, hs.cell, hs.row, fun g hg => ⟨(hs.own g hg).1, (hs.own g hg).2, (hs.row.lt g hg).2, by have := (hs.own g hg).2; omega⟩⟩
          · have c2 := hs.rep.fine rfl
            have hpc := hs.pcell
            go_wp2_with fail
            refine (num_any S2 b _ _ hs.rep rfl).mono ?_
            rintro e w3 ⟨vx, r3, rfl, hP3, S3, hg3, hk3, hr3⟩
            have hs3 := hs.call hnS hpS hlt hltp hg3 hk3 hr3
            obtain ⟨ao, cp, rfl⟩ := ownsRow_slice hs3.row
            have hpc3 := hs3.pcell
            have hc3 := hs3.cell
            have hf3 := hs3.frz
            have hlen : acc.length + 1 ≤ 1099511627776 + 1 := by
              have hL := HL.out
              have := HBD.out
              omega
            cases hqn : pNum 0 0 l2 with
            | error f =>
              simp only [hqn] at hP3
              obtain ⟨rfl, h31, h32⟩ := hP3
              have HE : Hid (pRising many r.1 = .error f) := by rw [Hid, HR.out]; simp [pRiseN, hqn, ahead]
              have H31 := hid h31
              clear h31 hqn
              by_cases hl62 : lastv = 4611686018427387904
              · have hlt62 : 4611686018427387904 - lastv - 1 < 0 := by omega
                have HL62 := hid hl62
                clear hl62
                go_wp2_with fail
                refine (rrefuse_any S3 b r3 20 _ (by decide) hr3).mono ?_
                rintro e w4 ⟨rfl, S4, hg4, hk4, hr4⟩
                have hs4 := hs3.call hnS hpS hlt hltp hg4 hk4 hr4
                go_wp2
                first | go_end0 | refine bodyPost_ret (results_none rfl _ _ _) rfl ?_
                refine ⟨rfl, _, S4, hs4.grows, hs4.keeps, hs4.rep, ⟨_, _, _, hs4.cell⟩, hs4.frz, ?_⟩
                rw [HE.out]
                exact ⟨by simp [rRefuse, first, H31.out, h32], h32⟩
              · have hlt62 : ¬ 4611686018427387904 - lastv - 1 < 0 := by omega
                have hle62 : lastv + 1 ≤ 4611686018427387904 := by omega
                go_wp2_with (at_builtin; refine wpList_push rfl (.tmp 37) (.tmp 39) 22 rfl 3 i0 (.int .i64 0) 8 Tryz.underlying22 hi hz0 hz1 hz2 rfl w3 hs3.row _ (by rfl) (by rfl) rfl (by omega) (by unfold maxLen; omega) ?_)
                intro v4 w4 ha
                obtain ⟨ao4, cp4, rfl⟩ := ownsRow_slice ha.row
                have c4 := (ha.keeps.cell (p := ⟨nb, 0, none⟩) (by simp only; have := hs3.keeps.size; omega) (fun e => by have := (hs3.own nb e).2; omega)).trans hs3.cell
                have f4 := (ha.keeps.frozen (p := ⟨nb, 0, none⟩) (by simp only; have := hs3.keeps.size; omega) (fun e => by have := (hs3.own nb e).2; omega)).trans hs3.frz
                have hs4 := hs3.push hnS hlt hltp hpn ha
                go_wp2
                go_roundw
                case rel => exact ⟨j, lastv + 1, by go_num, by go_num, by omega, by omega, by omega, .inr ⟨r3, acc ++ [lastv + 1], S3, _, by rw [H31.out]; exact h32, by rw [H31.out]; exact HE, by simpa [ints] using hs4⟩⟩
                case measure => simp [intOf]
            | ok y =>
              obtain ⟨x, l3⟩ := y
              have hx62 := (pNum_le _ _ _ _ _ hqn).1
              have hl3 := (pNum_le _ _ _ _ _ hqn).2
              simp only [hqn] at hP3
              obtain ⟨rfl, rfl, h32⟩ := hP3
              by_cases hxl : 4611686018427387904 - lastv - 1 < x
              · have HE : Hid (pRising many r.1 = .error 20) := by rw [Hid, HR.out]; simp only [pRiseN, hqn]; rw [if_pos hxl]; rfl
                clear hqn
                go_wp2_with fail
                refine (rrefuse_any S3 b _ 20 _ (by decide) hr3).mono ?_
                rintro e w4 ⟨rfl, S4, hg4, hk4, hr4⟩
                have hs4 := hs3.call hnS hpS hlt hltp hg4 hk4 hr4
                go_wp2
                first | go_end0 | refine bodyPost_ret (results_none rfl _ _ _) rfl ?_
                refine ⟨rfl, _, S4, hs4.grows, hs4.keeps, hs4.rep, ⟨_, _, _, hs4.cell⟩, hs4.frz, ?_⟩
                rw [HE.out]
                exact ⟨by simp [rRefuse, first], by decide⟩
              · have HE : Hid (pRising many r.1 = ahead (acc ++ [lastv + (x + 1)]) (pRiseN j (lastv + (x + 1)) l3)) := by
                  rw [Hid, HR.out]; simp only [pRiseN, hqn]; rw [if_neg hxl]
                  cases pRiseN j (lastv + (x + 1)) l3 <;> simp [ahead]
                clear hqn
                have hle62 : lastv + ((x : Int) + 1) ≤ 4611686018427387904 := by omega
                go_wp2_with (at_builtin; refine wpList_push rfl (.tmp 37) (.tmp 39) 22 rfl 3 i0 (.int .i64 0) 8 Tryz.underlying22 hi hz0 hz1 hz2 rfl w3 hs3.row _ (by rfl) (by rfl) rfl (by omega) (by unfold maxLen; omega) ?_)
                intro v4 w4 ha
                obtain ⟨ao4, cp4, rfl⟩ := ownsRow_slice ha.row
                have c4 := (ha.keeps.cell (p := ⟨nb, 0, none⟩) (by simp only; have := hs3.keeps.size; omega) (fun e => by have := (hs3.own nb e).2; omega)).trans hs3.cell
                have f4 := (ha.keeps.frozen (p := ⟨nb, 0, none⟩) (by simp only; have := hs3.keeps.size; omega) (fun e => by have := (hs3.own nb e).2; omega)).trans hs3.frz
                have hs4 := hs3.push hnS hlt hltp hpn ha
                go_wp2
                go_roundw
                case rel =>
                  refine ⟨j, lastv + (x + 1), by go_num, by go_num, by omega, by omega, by omega, .inl ⟨l3, _, acc ++ [lastv + (x + 1)], S3, _, HE, ?_, by simpa [ints] using hs4⟩⟩
                  show _ ∧ _ ∧ _
                  have hL := HL.out
                  simp at *
                  omega
                case measure => simp [intOf]
        · obtain ⟨k1, c2⟩ := hs.rep.err hne
          have hpc := hs.pcell
          have HNE := hid hne
          clear hne
          rcases j with _ | j
          all_goals
            go_wp2
            go_end0
            refine ⟨rfl, r2, S2, hs.grows, hs.keeps, hs.rep, ?_, hs.frz, ?_⟩
            · obtain ⟨ao, cp, rfl⟩ := ownsRow_slice hs.row
              exact ⟨_, _, _, hs.cell⟩
            · rw [HR.out]
              exact ⟨rfl, HNE.out⟩
end Go.Proofs.YtpccaodkgboefaaGreatDoor

namespace Go.Proofs.YtpccaodkgboefaaGreatDoor
open Go.RowKit

/-- what a method leaves that hands out a list: the list is new memory, which the Reader does not own -/
def Hands {α : Type} (E : TypeId) (size : Nat) (S : Nat → Prop) (b : Nat) (w w' : World) (q : List α × RSt) (enc : List α → List Value) (e : Ending) : Prop :=
  ∃ v S', e = .returned v ∧ Grows S S' w w' ∧ Keeps S w w' ∧ RRep S' w' b q.2 ∧ w'.ownsRow 0 E size v q.1.length (enc q.1) ∧ ∀ g, v.ownBlock = some g → ¬ S' g ∧ w.heap.size ≤ g

theorem hands_end {α : Type} {E : TypeId} {size : Nat} {S S1 S2 : Nat → Prop} {b nb : Nat} {w W w1 w2 : World} {r r1 : RSt} {p : List UInt8 → Except Int (List α × List UInt8)} {enc : List α → List Value} (h0 : r.2.2 = 0) (henc : enc [] = [])
    (hW : Fresh w W) (hnb : w.heap.size ≤ nb) (hl : LeavesL E size nb W.heap.size r (p r.1) enc r1 S1 w1) (hsame : r1.2.2 = 0 → S2 = S1 ∧ w2 = w1) (hg : Grows S S2 W w2) (hk : Keeps (fun k => S k ∨ k = nb) W w2) (hr : RRep S2 w2 b (rBack r r1)) :
    (r1.2.2 ≠ 0 → Hands E size S b w w2 (rd p [] r) enc (.returned (.slice none 0 0))) ∧ (r1.2.2 = 0 → ∃ v, w2.cell? ⟨nb, 0, none⟩ = some v ∧ (∃ ao len cap, v = .slice ao len cap) ∧ Hands E size S b w w2 (rd p [] r) enc (.returned v)) := by
  have hsz := hW.size
  have hg' : Grows S S2 w w2 := fun k hk => orr (hg k hk) fun h => ⟨by omega, h.2⟩
  have hk' : Keeps S w w2 := (hW.mono fun _ _ h => h.elim).trans' hk fun i hi h => by
    rcases h with h | h
    · exact h
    · omega
  obtain ⟨_, _, hl⟩ := hl
  refine ⟨fun h1 => ?_, fun h1 => ?_⟩
  · cases hp : p r.1 with
    | error f =>
      rw [hp] at hl
      have hrd : rd p [] r = ([], (r.1, r.2.1, f)) := by unfold rd; rw [if_neg (by simpa using h0), hp]
      rw [hrd]
      refine ⟨_, S2, rfl, hg', hk', ?_, by simp only [henc]; exact World.ownsRow_nil _ _ _ _, fun g hg => by cases hg⟩
      simp only [rBack] at hr
      rw [if_neg h1, hl.1] at hr
      exact hr
    | ok x =>
      rw [hp] at hl
      exact absurd (by rw [hl.1]) h1
  · cases hp : p r.1 with
    | error f =>
      rw [hp] at hl
      exact absurd (hl.1.symm.trans h1) hl.2
    | ok x =>
      obtain ⟨xs, l⟩ := x
      rw [hp] at hl
      obtain ⟨hr1, hle, v, hc, hrow, hown⟩ := hl
      obtain ⟨rfl, rfl⟩ := hsame h1
      have hrd : rd p [] r = (xs, (l, r.2.1 + (r.1.length - l.length), 0)) := by unfold rd; rw [if_neg (by simpa using h0), hp]
      rw [hrd]
      obtain ⟨ao, cp, hv⟩ := ownsRow_slice hrow
      refine ⟨v, hc, ⟨_, _, _, hv⟩, v, S2, rfl, hg', hk', ?_, hrow, fun g hg => ⟨(hown g hg).1, by have := (hown g hg).2.1; omega⟩⟩
      simp only [rBack] at hr
      rw [if_pos h1, hr1] at hr
      exact hr

set_option maxRecDepth 100000 in
set_option maxHeartbeats 1000000 in
theorem rrising_any (S : Nat → Prop) (b : Nat) (r : RSt) (n : Int) (w : World) (h : RRep S w b r) (hb : n ≤ 1099511627776 ∨ r.1.length ≤ 1099511627776) :
    Calls Tryz.prog 88 #[.pointer (some ⟨b, 0, none⟩), .int .i64 n] w fun e w' => Hands 3 1 S b w w' (rd (pRising n) [] r) ints e := by
  have hmf := makeFunc_run Tryz.prog
  have hnot : ∀ (x : Bool) (w : World), (Op.unary .not (.bool x)).run Tryz.prog w = .ok (.bool (!x)) w := fun _ _ => rfl
  have hbl := h.cells.choose_spec.2.2.2.2.2.2.1
  by_cases h0 : r.2.2 = 0
  · have H0 := hid h0
    have HB := hid hb
    clear h0 hb
    go_enter Tryz.func88, Tryz.ntmps88
    go_wp2_with fail
    refine (read_any S (fun k => k = w.heap.size + 1 + 1) b r 127 _ _ (fun r1 S1 w1 => LeavesL 3 1 (w.heap.size + 1 + 1) (w.heap.size + 1 + 1 + 1) r (pRising n r.1) ints r1 S1 w1) (((h.boxed _).boxed _).boxed _) H0.out (by intro w0; kernel_rfl) ?hc).mono ?_
    case hc =>
      intro nq
      refine (rising_inner S b r n (w.heap.size + 1) w.heap.size (w.heap.size + 1 + 1) _ ((((h.boxed _).boxed _).boxed _).keeps ((Keeps.refl (fun _ => False) _).drewN nq) (fun _ _ h => h)) H0.out (by exact (cells3n w _ _ _ _ _ _ _ 0).2.1) (by exact (cells3n w _ _ _ _ _ _ _ 0).1) (by exact (cells3n w _ _ _ _ _ _ _ 0).2.2.1) (by exact (cells3n w _ _ _ _ _ _ _ 0).2.2.2.2.2) (h.notNew (by omega)) (h.notNew (by omega)) (by omega) (by simp) (by simp; omega) HB.out).mono ?_
      rintro e w1 ⟨rfl, r1, S1, a1, a2, a3, a4⟩
      exact ⟨rfl, r1, S1, a1, ⟨a2.os, a2.tape, a2.output, a2.size, a2.block⟩, a3, by simpa using a4⟩
    rintro e w2 ⟨r1, w1, S0, S1, hl, hsame0, rfl, hg1, hk1, hr1, hsame⟩
    have he := hands_end (W := ((w.alloc _).alloc _).alloc _) H0.out rfl ((((Keeps.refl _ w).alloc _).alloc _).alloc _) (by omega) (by simpa using hl) hsame0 hg1 hk1 hr1
    by_cases h1 : r1.2.2 = 0
    · obtain ⟨v, hc, ⟨ao, len, cap, rfl⟩, hh⟩ := he.2 h1
      have hd : decide (r1.2.2 = 0) = true := decide_eq_true h1
      have HH := hid hh
      clear he hl hsame0 hsame hr1 hh h1
      go_wp2
      go_ret
      exact HH.out
    · have hh := he.1 h1
      have hd : decide (r1.2.2 = 0) = false := decide_eq_false h1
      have HH := hid hh
      clear he hl hsame0 hsame hr1 hh h1
      go_wp2
      go_ret
      exact HH.out
  · have HQ : Hid (rd (pRising n) [] r = ([], r)) := by simp [Hid, rd, h0]
    go_enter Tryz.func88, Tryz.ntmps88
    go_wp2_with fail
    refine (read_wrong S b r _ _ (((h.boxed _).boxed _).boxed _) h0).mono ?_
    rintro e w2 ⟨rfl, rfl⟩
    go_wp2
    go_ret
    rw [HQ.out]
    exact ⟨_, S, rfl, fun _ h => .inl h, (((Keeps.refl _ w).alloc _).alloc _).alloc _, ((h.boxed _).boxed _).boxed _, World.ownsRow_nil _ _ _ _, fun g hg => by cases hg⟩
end Go.Proofs.YtpccaodkgboefaaGreatDoor

namespace Go.Proofs.YtpccaodkgboefaaGreatDoor
open Go.RowKit

set_option maxRecDepth 100000 in
set_option maxHeartbeats 400000 in
theorem rleft_any (S : Nat → Prop) (b : Nat) (r : RSt) (w : World) (h : RRep S w b r) :
    Calls Tryz.prog 135 #[.pointer (some ⟨b, 0, none⟩)] w fun e w' => e = .returned (.int .i64 (r.1.length : Int)) ∧ w = w' := by
  obtain ⟨ev, c0, c1, c2, f0, f1, f2, hbl, he, hle⟩ := h.cells
  have hsz := str_size r.1
  go_enter Tryz.func135, Tryz.ntmps135
  go_wp2
  go_ret
  exact ⟨rfl, rfl⟩

set_option maxRecDepth 100000 in
set_option maxHeartbeats 400000 in
theorem newReader_any (s : ByteArray) (w : World) (hl : Laid w) (hs : s.size ≤ 9223372036854775807) :
    Calls Tryz.prog 47 #[.string s] w fun e w' => ∃ b, e = .returned (.pointer (some ⟨b, 0, none⟩)) ∧ Fresh w w' ∧ w.heap.size ≤ b ∧ RRep (fun k => k = b) w' b (s.data.toList, 0, 0) := by
  have hg := World.block_lt_of_cell? w _ hl
  simp only at hg
  go_enter Tryz.func47, Tryz.ntmps47
  go_wp2
  go_ret
  refine ⟨w.heap.size, rfl, (Keeps.refl _ _).alloc _, Nat.le_refl _, rfl, fun k hk => ?_, by simp; omega, .nilIface, heap_size_alloc _ _, .inl ⟨rfl, rfl⟩⟩
  subst hk
  simp; omega

set_option maxRecDepth 100000 in
set_option maxHeartbeats 400000 in
theorem newWriter_any (w : World) (hl : Laid w) :
    Calls Tryz.prog 29 #[] w fun e w' => ∃ b, e = .returned (.pointer (some ⟨b, 0, none⟩)) ∧ Fresh w w' ∧ w.heap.size ≤ b ∧ WRep (fun k => k = b) w' b ([], 0) := by
  have hg := World.block_lt_of_cell? w _ hl
  simp only at hg
  go_enter Tryz.func29, Tryz.ntmps29
  go_wp2
  go_ret
  refine ⟨w.heap.size, rfl, (Keeps.refl _ _).alloc _, Nat.le_refl _, rfl, fun k hk => ?_, .slice none 0 0, .nilIface, heap_size_alloc _ _, World.ownsRow_nil _ _ _ _, fun g hg => (by cases hg), .inl ⟨rfl, rfl⟩⟩
  subst hk
  simp; omega

def rDone (r : RSt) : Int × Nat := (if r.2.2 ≠ 0 then r.2.2 else if r.1 ≠ [] then 24 else 0, r.2.1)

set_option maxRecDepth 100000 in
set_option maxHeartbeats 1000000 in
theorem rdone_any (S : Nat → Prop) (b : Nat) (r : RSt) (w : World) (hl : Laid w) (h : RRep S w b r) :
    Calls Tryz.prog 50 #[.pointer (some ⟨b, 0, none⟩)] w fun e w' => e = .returned (.tuple #[.int .i64 (rDone r).1, .int .i64 ((rDone r).2 : Int)]) ∧ Fresh w w' := by
  obtain ⟨ev, c0, c1, c2, f0, f1, f2, hbl, he, hle⟩ := h.cells
  by_cases h0 : r.2.2 = 0
  · have hc := h.fine h0
    by_cases h1 : r.1 = []
    · have hs : (str r.1).toList = [] := by rw [str_toList, h1]
      have HD : Hid (rDone r = (0, r.2.1)) := by simp [Hid, rDone, h0, h1]
      clear he c2 h0 h1
      go_enter Tryz.func50, Tryz.ntmps50
      go_wp2
      go_quiet (fail)
      go_wp2
      go_ret2
      rw [HD.out]
      exact ⟨rfl, (Keeps.refl _ _).drewN _⟩
    · have hs : (str r.1).toList.isEmpty = false := by rw [str_toList]; cases hr : r.1 with | nil => exact absurd hr h1 | cons _ _ => rfl
      have hs' : ¬ (str r.1).toList = [] := by rw [str_toList]; exact h1
      have HD : Hid (rDone r = (24, r.2.1)) := by simp [Hid, rDone, h0, h1]
      clear he c2 h0 h1
      go_enter Tryz.func50, Tryz.ntmps50
      go_wp2
      go_quiet (fail)
      go_wp2
      go_ret2
      rw [HD.out]
      exact ⟨rfl, (Keeps.refl _ _).drewN _⟩
  · obtain ⟨k, hev⟩ := h.err h0
    have HD : Hid (rDone r = (r.2.2, r.2.1)) := by simp [Hid, rDone, h0]
    have hev2 : ev = .iface 133 (.pointer (some ⟨k, 0, none⟩)) := by rw [c2] at hev; exact Option.some.inj hev
    subst hev2
    have HE := hid he
    clear he h0 hev
    go_enter Tryz.func50, Tryz.ntmps50
    go_wp2
    go_region_with (go_at_call 92; refine (told_any S _ r.2.2 _ (by exact hl) (by exact HE.out)).mono ?_; rintro e1 w1 ⟨rfl, hf⟩; have k1 : w1.cell? ⟨b, 1, none⟩ = some (.int .i64 (r.2.1 : Int)) := (hf.cell (p := ⟨b, 1, none⟩) hbl (fun h => h)).trans c1)
    all_goals
      go_wp2
      go_ret2
      rw [HD.out]
      exact ⟨rfl, hf.os, hf.tape, hf.output, hf.size, hf.block⟩
end Go.Proofs.YtpccaodkgboefaaGreatDoor
