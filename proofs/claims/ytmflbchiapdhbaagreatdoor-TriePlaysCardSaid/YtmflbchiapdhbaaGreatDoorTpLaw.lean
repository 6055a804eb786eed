/-
  TriePlays: the law's walk.
-/
import Derived.Test.YtmflbchiapdhbaaGreatDoorTpPlayB
import Derived.Test.YtmflbchiapdhbaaGreatDoorTpPlayC
import Derived.Test.YtmflbchiapdhbaaGreatDoorTpPlayG
import Derived.Test.YtmflbchiapdhbaaGreatDoorTpPlayE
import Derived.Test.YtmflbchiapdhbaaGreatDoorTpSettle
import Derived.Test.YtmflbchiapdhbaaGreatDoorTrKnown
import Derived.Test.YtmflbchiapdhbaaGreatDoorTrOps
namespace Go.Proofs.YtmflbchiapdhbaaGreatDoor
open Go.RowKit

theorem play_any (B ob N M : Nat) (w : World) (h : After B w ob N M) (hM : M ≤ 900) (hN : N ≤ 900) (hd : Dig w) (hgB : 3 ≤ B)
    (oo kb : Bool) (ok : Int) (key val : List UInt8) (hkey : key.length ≤ 9223372036854775807) (hval : val.length ≤ 9223372036854775807) :
    Calls Tryz.prog 7 #[.pointer (some ⟨ob, 0, none⟩), .agg #[.bool oo, .bool kb, .int .i64 ok, .string (str key), .string (str val)]] w fun e w' => e = .returned (.bool true) ∧ After B w' ob (N + 2) (M + 1) ∧ Keeps (fun q => B ≤ q) w w' := by
  obtain ⟨c, kp, m, y, t, n, dv, L, lv, fv, wv, A, F, Wv, C, h, hh, hn⟩ := h.all
  by_cases o1 : ok = 1
  · subst o1; exact play_set B ob N M c w kp m y n t dv L lv fv wv A F Wv C h hh hn hM hN hd hgB oo kb key val hkey hval
  by_cases o2 : ok = 2
  · subst o2; exact play_remove B ob N M c w kp m y n t dv L lv fv wv A F Wv C h hh hn hM hN hd hgB oo kb key val hkey hval
  by_cases o3 : ok = 3
  · subst o3; exact play_get B ob N M c w kp m y n t dv L lv fv wv A F Wv C h hh hn hM hN hd hgB oo kb key val hkey hval
  by_cases o4 : ok = 4
  · subst o4; exact play_keys B ob N M c w kp m y n t dv L lv fv wv A F Wv C h hh hn hM hN hd hgB oo kb key val hkey hval
  by_cases o5 : ok = 5
  · subst o5; exact play_root B ob N M c w kp m y n t dv L lv fv wv A F Wv C h hh hn hM hN hd hgB oo kb key val hkey hval
  by_cases o6 : ok = 6
  · subst o6; exact play_prove B ob N M c w kp m y n t dv L lv fv wv A F Wv C h hh hn hM hN hd hgB oo kb key val hkey hval
  by_cases o7 : ok = 7
  · subst o7; exact play_clone B ob N M c w kp m y n t dv L lv fv wv A F Wv C h hh hn hM hN hd hgB oo kb key val hkey hval
  exact play_other B ob N M c w kp m y n t dv L lv fv wv A F Wv C h hh hn hM hN hd hgB oo kb key val hkey hval ok o1 o2 o3 o4 o5 o6 o7

/-- the world as it is made -/
theorem After.begin {w wb : World} {B m0 m1 y0 y1 : Nat} (hB : B ≤ m0) (h01 : m0 < m1) (h12 : m1 < y0) (h23 : y0 < y1) (hob : y1 < wb.heap.size) (hg : 3 ≤ B) (a0 : Map wb m0 .none 0) (a1 : Map wb m1 .none 0) (d0 : DocAt wb y0 (.slice none 0 0) []) (d1 : DocAt wb y1 (.slice none 0 0) [])
    (hw : wb.alloc (.cells #[.pointer (some ⟨m0, 0, none⟩), .pointer (some ⟨m1, 0, none⟩), .pointer (some ⟨y0, 0, none⟩), .pointer (some ⟨y1, 0, none⟩), .slice none 0 0, .slice none 0 0, .slice none 0 0, .bool false] 33) = w) : After B w wb.heap.size 0 0 := by
  subst hw
  have f : Fresh wb (wb.alloc (.cells #[.pointer (some ⟨m0, 0, none⟩), .pointer (some ⟨m1, 0, none⟩), .pointer (some ⟨y0, 0, none⟩), .pointer (some ⟨y1, 0, none⟩), .slice none 0 0, .slice none 0 0, .slice none 0 0, .bool false] 33)) := (Keeps.refl _ _).alloc _
  have two : ∀ {P : Nat → Prop}, P 0 → P 1 → ∀ k, k < 2 → P k := fun h0 h1 k hk => by
    have h2 : k = 0 ∨ k = 1 := by omega
    rcases h2 with rfl | rfl
    · exact h0
    · exact h1
  let c : Nat → Nat := fun g => if g = wb.heap.size then 1 else if g = m0 then 6 else if g = m1 then 7 else if g = y0 then 8 else if g = y1 then 9 else 0
  have hb := heap_alloc_new wb (.cells #[.pointer (some ⟨m0, 0, none⟩), .pointer (some ⟨m1, 0, none⟩), .pointer (some ⟨y0, 0, none⟩), .pointer (some ⟨y1, 0, none⟩), .slice none 0 0, .slice none 0 0, .slice none 0 0, .bool false] 33)
  have e0 : c m0 = 6 := by show (if m0 = wb.heap.size then 1 else if m0 = m0 then 6 else _) = 6; rw [if_neg (by omega), if_pos rfl]
  have e1 : c m1 = 7 := by show (if m1 = wb.heap.size then 1 else if m1 = m0 then 6 else if m1 = m1 then 7 else _) = 7; rw [if_neg (by omega), if_neg (by omega), if_pos rfl]
  have e2 : c y0 = 8 := by show (if y0 = wb.heap.size then 1 else if y0 = m0 then 6 else if y0 = m1 then 7 else if y0 = y0 then 8 else _) = 8; rw [if_neg (by omega), if_neg (by omega), if_neg (by omega), if_pos rfl]
  have e3 : c y1 = 9 := by show (if y1 = wb.heap.size then 1 else if y1 = m0 then 6 else if y1 = m1 then 7 else if y1 = y0 then 8 else if y1 = y1 then 9 else 0) = 9; rw [if_neg (by omega), if_neg (by omega), if_neg (by omega), if_neg (by omega), if_pos rfl]
  refine After.of (c := c) (m := fun k => if k = 0 then m0 else m1) (y := fun k => if k = 0 then y0 else y1) (t := fun _ => .none) (n := fun _ => 0) (dv := fun _ => .slice none 0 0) (L := fun _ => []) (A := []) (F := []) (Wv := []) (C := []) (kp := false) (lv := .slice none 0 0) (fv := .slice none 0 0) (wv := .slice none 0 0)
    ⟨hb, if_pos rfl, two (a0.fresh f) (a1.fresh f), two e0 e1, two (by show 3 ≤ m0; omega) (by show 3 ≤ m1; omega), two (d0.fresh f) (d1.fresh f), two ⟨e2, fun _ h => nomatch h⟩ ⟨e3, fun _ h => nomatch h⟩, ⟨World.ownsRow_nil _ _ _ _, (fun _ h => nomatch h), fun m v hv => by simp at hv⟩,
      ⟨World.ownsRow_nil _ _ _ _, (fun _ h => nomatch h), World.ownsRow_nil _ _ _ _, (fun _ h => nomatch h), rfl, rfl, fun j v l hv _ => by simp at hv, fun j v l hv _ => by simp at hv⟩, fun g hg => ?_, ?_, ⟨0, rfl, Nat.le_refl _⟩, fun l hl => by cases hl⟩ (fun _ _ => has_none) (fun _ _ => Nat.le_refl _)
  · show (if g = wb.heap.size then 1 else if g = m0 then 6 else if g = m1 then 7 else if g = y0 then 8 else if g = y1 then 9 else 0) = 0
    rw [if_neg (by omega), if_neg (by omega), if_neg (by omega), if_neg (by omega), if_neg (by omega)]
  · simp; omega

set_option maxRecDepth 100000 in
set_option maxHeartbeats 8000000 in
theorem playslaw_any (v : Value) (N : Nat) (w : World) (h1 : OpsAt w v N) (hd : Dig w) (hN : N ≤ 9223372036854775807) :
    Calls Tryz.prog 3 #[v] w fun e w' => e = .returned (.bool true) ∧ Fresh w w' := by
  obtain ⟨ao, cap, rfl, hi⟩ := h1
  have HI := hid hi
  clear hi
  go_enter Tryz.func3, Tryz.ntmps3
  go_wp2_with fail
  refine (known_any _ hd).mono ?_
  rintro e w1 ⟨rfl, f1⟩
  go_wp2_with fail
  refine (new_map w1).mono ?_
  rintro e w2 ⟨rfl, f2, hm0⟩
  go_wp2_with fail
  refine (new_map w2).mono ?_
  rintro e w3 ⟨rfl, f3, hm1⟩
  go_wp2_with fail
  refine (dnewmap_any w3).mono ?_
  rintro e w4 ⟨rfl, f4, hy0⟩
  go_wp2_with fail
  refine (dnewmap_any w4).mono ?_
  rintro e w5 ⟨rfl, f5, hy1⟩
  have hgl := hd.room
  have HDG := hid fun W (k : Keeps (fun q => w.heap.size ≤ q) w W) => hd.keepsOut (k.mono fun q _ e => .inr e) hgl hgl
  have hA := After.begin (B := w.heap.size) f1.size hm0.lt hm1.lt (lt_of_block hy0.box) (lt_of_block hy1.box) hgl (hm0.fresh ((f3.trans f4).trans f5)) (hm1.fresh (f4.trans f5)) (hy0.fresh f5) hy1 rfl
  have f05 : Keeps (fun q => w.heap.size ≤ q) w (w5.alloc (.cells #[.pointer (some ⟨w1.heap.size, 0, none⟩), .pointer (some ⟨w2.heap.size, 0, none⟩), .pointer (some ⟨w3.heap.size, 0, none⟩), .pointer (some ⟨w4.heap.size, 0, none⟩), .slice none 0 0, .slice none 0 0, .slice none 0 0, .bool false] 33)) := (((((f1.trans f2).trans f3).trans f4).trans f5).mono fun _ _ h => h.elim).alloc _
  have hbx := heap_alloc_new w5 (.cells #[.pointer (some ⟨w1.heap.size, 0, none⟩), .pointer (some ⟨w2.heap.size, 0, none⟩), .pointer (some ⟨w3.heap.size, 0, none⟩), .pointer (some ⟨w4.heap.size, 0, none⟩), .slice none 0 0, .slice none 0 0, .slice none 0 0, .bool false] 33)
  have b0 := (cell_at hbx 0).trans (show _ = some (Value.pointer (some ⟨w1.heap.size, 0, none⟩)) from rfl)
  have b1 := (cell_at hbx 1).trans (show _ = some (Value.pointer (some ⟨w2.heap.size, 0, none⟩)) from rfl)
  have HA := hid hA
  have HF := hid f05
  clear hA f05 hbx f1 f2 f3 f4 f5 hm0 hm1 hy0 hy1 hd
  go_wp2_with fail
  obtain ⟨ob, hob⟩ : ∃ ob, w5.heap.size = ob := ⟨_, rfl⟩
  rw [hob] at HA ⊢
  clear b0 b1 hob
  go_loopw [5] (fun i wr => ∃ k : Nat, i = .int .i64 (k : Int) ∧ k ≤ 100 ∧ k ≤ N ∧ After w.heap.size wr ob (2 * k) k ∧ Keeps (fun q => w.heap.size ≤ q) w wr) (fun i _ => 100 - (intOf i).toNat)
  case atStart => exact ⟨0, rfl, by omega, by omega, HA.out, HF.out⟩
  case round =>
    clear HA HF
    obtain ⟨k, rfl, hk, hkN, ha, kr⟩ := hrel
    by_cases hlt : k < N
    · by_cases h100 : k < 100
      · obtain ⟨bb, off, hao, hbb, o, hkl, hvl, e0, e1, e2, e3, e4⟩ := HI.out k hlt
        have tr : ∀ (p : Addr) (v : Value), p.block < w.heap.size → w.cell? p = some v → wr.cell? p = some v := fun p v hp h => (kr.cell hp (fun h => by omega)).trans h
        replace e0 := tr _ _ hbb e0
        replace e1 := tr _ _ hbb e1
        replace e2 := tr _ _ hbb e2
        replace e3 := tr _ _ hbb e3
        replace e4 := tr _ _ hbb e4
        subst hao
        obtain ⟨oo, kb, okk, key, val⟩ := o
        simp only at e0 e1 e2 e3 e4 hkl hvl
        have HP := hid (play_any w.heap.size ob (2 * k) k wr ha (by omega) (by omega) (HDG.out wr kr) hgl oo kb okk key val hkl hvl)
        have HKR := hid kr
        clear tr ha kr
        go_wp2_with fail
        refine HP.out.mono ?_
        rintro e w2 ⟨rfl, ha2, k2⟩
        obtain ⟨c, kp, m, y, t, n, dv, L, lv, fv, wv, A, F, Wv, C, h, hh, hn⟩ := ha2.all
        have HKP := hid (kept_any _ ob _ c w2 kp m y n t dv L lv fv wv A F Wv C h (by omega))
        have HAF := hid fun W (f : Fresh w2 W) => After.of (h.fresh f) hh hn
        have HK2 := hid (HKR.out.trans k2)
        clear ha2 k2 h hh hn e0 e1 e2 e3 e4 HP
        go_wp2_with fail
        refine HKP.out.mono ?_
        rintro e w3 ⟨rfl, f3⟩
        have HA3 := hid (HAF.out w3 f3)
        have HK3 := hid (HK2.out.trans (f3.mono fun _ _ h => h.elim))
        clear f3 HKP
        go_wp2_with fail
        go_roundw
        case rel => exact ⟨k + 1, by go_num, by omega, by omega, HA3.out, HK3.out⟩
        case measure => simp [intOf]; omega
      · obtain ⟨c, kp, m, y, t, n, dv, L, lv, fv, wv, A, F, Wv, C, h, hh, hn⟩ := ha.all
        have HST := hid (settled_any _ ob _ c wr kp m y n t dv L lv fv wv A F Wv C h (by omega))
        have HH := hid h
        have HHAS := hid hh
        have HNN := hid hn
        have HKR := hid kr
        clear ha h hh hn kr
        go_wp2_with fail
        refine HST.out.mono ?_
        rintro e w4 ⟨rfl, G, c', av, A', hs⟩
        have hmap : ∀ j, j < 2 → Map w4 (m j) (t j) (n j) := fun j hj => (HH.out.map j hj).keeps hs.keeps (fun e => by
          have := HH.out.cmap j hj
          rcases e with e | e | ⟨a, e⟩ | ⟨a, e⟩
          · omega
          · omega
          · unfold fcol at e; omega
          · unfold gcol at e; omega)
        have off : ∀ g j, c g = 8 + j → j < 2 → ¬ (c g = 1 ∨ c g = 2 ∨ (∃ a, c g = fcol a) ∨ ∃ a, c g = gcol a) := fun g j hc hj e => by
          rcases e with e | e | ⟨a, e⟩ | ⟨a, e⟩
          · omega
          · omega
          · unfold fcol at e; omega
          · unfold gcol at e; omega
        have hdoc : ∀ j, j < 2 → DocAt w4 (y j) (dv j) (L j) := fun j hj => (HH.out.doc j hj).keeps hs.keeps (off _ j (HH.out.cdoc j hj).1 hj) (fun g hg => off g j ((HH.out.cdoc j hj).2 g hg) hj)
        have hln : ∀ j, j < 2 → (L j).length ≤ 1000000 := fun j hj => by
          have h1 := (HHAS.out j hj).len (HH.out.map j hj).good
          have h2 := (HH.out.map j hj).count
          have h3 := HNN.out j hj
          omega
        have HR0 := hid fun W (f : Fresh w4 W) => root_any (m 0) (t 0) (n 0) W ((hmap 0 (by omega)).fresh f).at_
        have HR1 := hid fun W (f : Fresh w4 W) => root_any (m 1) (t 1) (n 1) W ((hmap 1 (by omega)).fresh f).at_
        have HQ0 := hid fun W (f : Fresh w4 W) => droot_any (y 0) (dv 0) (L 0) (t 0) W ((hdoc 0 (by omega)).fresh f) (hln 0 (by omega)) (hmap 0 (by omega)).good (HHAS.out 0 (by omega))
        have HQ1 := hid fun W (f : Fresh w4 W) => droot_any (y 1) (dv 1) (L 1) (t 1) W ((hdoc 1 (by omega)).fresh f) (hln 1 (by omega)) (hmap 1 (by omega)).good (HHAS.out 1 (by omega))
        have p0 : w4.drew.cell? ⟨ob, 0, none⟩ = _ := (cell_at hs.box 0).trans (show _ = some (Value.pointer (some ⟨m 0, 0, none⟩)) from rfl)
        have p1 : w4.drew.cell? ⟨ob, 1, none⟩ = _ := (cell_at hs.box 1).trans (show _ = some (Value.pointer (some ⟨m 1, 0, none⟩)) from rfl)
        have p2 : w4.drew.cell? ⟨ob, 2, none⟩ = _ := (cell_at hs.box 2).trans (show _ = some (Value.pointer (some ⟨y 0, 0, none⟩)) from rfl)
        have p3 : w4.drew.cell? ⟨ob, 3, none⟩ = _ := (cell_at hs.box 3).trans (show _ = some (Value.pointer (some ⟨y 1, 0, none⟩)) from rfl)
        have hb : ob < w4.drew.heap.size := lt_of_block hs.box
        have f : Fresh w4 w4.drew := (Keeps.refl _ _).drew
        have HKS := hid (HKR.out.trans (hs.keeps.mono fun q hq e => by
          apply Classical.byContradiction
          intro hn
          have hz := HH.out.low q (by omega)
          rcases e with e | e | ⟨a, e⟩ | ⟨a, e⟩
          · omega
          · omega
          · unfold fcol at e; omega
          · unfold gcol at e; omega))
        clear hs hmap hdoc hln off HST HH HHAS HNN HKR
        generalize (t 0).hash = h0 at HR0 HQ0
        generalize (t 1).hash = h1 at HR1 HQ1
        have hq0 : ((str h0).toList == (str h0).toList) = true := by simp
        have hq1 : ((str h1).toList == (str h1).toList) = true := by simp
        go_wp2_with fail
        refine wp_region_keep 32 (fun w' => w'.cell? ⟨ob, 0, none⟩ = some (.pointer (some ⟨m 0, 0, none⟩)) ∧ w'.cell? ⟨ob, 1, none⟩ = some (.pointer (some ⟨m 1, 0, none⟩)) ∧ w'.cell? ⟨ob, 2, none⟩ = some (.pointer (some ⟨y 0, 0, none⟩)) ∧ w'.cell? ⟨ob, 3, none⟩ = some (.pointer (some ⟨y 1, 0, none⟩))) (fun _ => True) (fun _ => true) (by kernel_rfl) (by kernel_rfl) ?_
        (try (change wpKeep _ _ _ _ _ _ _ _ _ _ (World.drew _)))
        refine wpKeep_takeT (i := 0) (oi := ⟨some 62, _, _, _, _, _⟩) (v := ?_) rfl (by kernel_rfl) (by kernel_rfl) (by kernel_rfl) (by kernel_rfl) (fun _ _ _ h => h) (Or.inl ⟨by rfl, ?_⟩) ⟨p0, p1, p2, p3⟩ (fun _ => trivial) ?_
        rotate_left
        · intro w' hT
          obtain ⟨t1, t2, t3, t4⟩ := hT
          go_simp
          (try rw [if_pos (by omega)])
          (try with_reducible rfl)
        rotate_left
        (try simp only [Act.put, List.setIfInBounds_toArray, List.set_cons_zero, List.set_cons_succ])
        refine wpKeep_takeT (i := 1) (oi := ⟨some 63, _, _, _, _, _⟩) (v := ?_) rfl (by kernel_rfl) (by kernel_rfl) (by kernel_rfl) (by kernel_rfl) (fun _ _ _ h => h) (Or.inl ⟨by rfl, ?_⟩) ⟨p0, p1, p2, p3⟩ (fun _ => trivial) ?_
        rotate_left
        · intro w' hT
          obtain ⟨t1, t2, t3, t4⟩ := hT
          go_simp
          (try rw [if_pos (by omega)])
          (try with_reducible rfl)
        rotate_left
        (try simp only [Act.put, List.setIfInBounds_toArray, List.set_cons_zero, List.set_cons_succ])
        refine wpKeep_takeT (i := 2) (oi := ⟨some 64, _, _, _, _, _⟩) (v := ?_) rfl (by kernel_rfl) (by kernel_rfl) (by kernel_rfl) (by kernel_rfl) (fun _ _ _ h => h) (Or.inl ⟨by rfl, ?_⟩) ⟨p0, p1, p2, p3⟩ (fun _ => trivial) ?_
        rotate_left
        · intro w' hT
          obtain ⟨t1, t2, t3, t4⟩ := hT
          go_simp
          (try rw [if_pos (by omega)])
          (try with_reducible rfl)
        rotate_left
        (try simp only [Act.put, List.setIfInBounds_toArray, List.set_cons_zero, List.set_cons_succ])
        refine wpKeep_takeT (i := 3) (oi := ⟨some 65, _, _, _, _, _⟩) (v := ?_) rfl (by kernel_rfl) (by kernel_rfl) (by kernel_rfl) (by kernel_rfl) (fun _ _ _ h => h) (Or.inl ⟨by rfl, ?_⟩) ⟨p0, p1, p2, p3⟩ (fun _ => trivial) ?_
        rotate_left
        · intro w' hT
          obtain ⟨t1, t2, t3, t4⟩ := hT
          go_simp
          (try rw [if_pos (by omega)])
          (try with_reducible rfl)
        rotate_left
        (try simp only [Act.put, List.setIfInBounds_toArray, List.set_cons_zero, List.set_cons_succ])
        refine wpKeep_takeT (i := 4) (oi := ⟨some 66, _, _, _, _, _⟩) (v := ?_) rfl (by kernel_rfl) (by kernel_rfl) (by kernel_rfl) (by kernel_rfl) (fun _ _ _ h => h) (Or.inl ⟨by rfl, ?_⟩) ⟨p0, p1, p2, p3⟩ (fun _ => trivial) ?_
        rotate_left
        · intro w' hT
          obtain ⟨t1, t2, t3, t4⟩ := hT
          go_simp
          (try rw [if_pos (by omega)])
          (try with_reducible rfl)
        rotate_left
        (try simp only [Act.put, List.setIfInBounds_toArray, List.set_cons_zero, List.set_cons_succ])
        refine wpKeep_takeT (i := 5) (oi := ⟨some 67, _, _, _, _, _⟩) (v := ?_) rfl (by kernel_rfl) (by kernel_rfl) (by kernel_rfl) (by kernel_rfl) (fun _ _ _ h => h) (Or.inl ⟨by rfl, ?_⟩) ⟨p0, p1, p2, p3⟩ (fun _ => trivial) ?_
        rotate_left
        · intro w' hT
          obtain ⟨t1, t2, t3, t4⟩ := hT
          go_simp
          (try rw [if_pos (by omega)])
          (try with_reducible rfl)
        rotate_left
        (try simp only [Act.put, List.setIfInBounds_toArray, List.set_cons_zero, List.set_cons_succ])
        refine wpKeep_takeT (i := 6) (oi := ⟨some 68, _, _, _, _, _⟩) (v := ?_) rfl (by kernel_rfl) (by kernel_rfl) (by kernel_rfl) (by kernel_rfl) (fun _ _ _ h => h) (Or.inl ⟨by rfl, ?_⟩) ⟨p0, p1, p2, p3⟩ (fun _ => trivial) ?_
        rotate_left
        · intro w' hT
          obtain ⟨t1, t2, t3, t4⟩ := hT
          go_simp
          (try rw [if_pos (by omega)])
          (try with_reducible rfl)
        rotate_left
        (try simp only [Act.put, List.setIfInBounds_toArray, List.set_cons_zero, List.set_cons_succ])
        refine wpKeep_takeT (i := 8) (oi := ⟨some 70, _, _, _, _, _⟩) (v := ?_) rfl (by kernel_rfl) (by kernel_rfl) (by kernel_rfl) (by kernel_rfl) (fun _ _ _ h => h) (Or.inl ⟨by rfl, ?_⟩) ⟨p0, p1, p2, p3⟩ (fun _ => trivial) ?_
        rotate_left
        · intro w' hT
          obtain ⟨t1, t2, t3, t4⟩ := hT
          go_simp
          (try rw [if_pos (by omega)])
          (try with_reducible rfl)
        rotate_left
        (try simp only [Act.put, List.setIfInBounds_toArray, List.set_cons_zero, List.set_cons_succ])
        refine wpKeep_takeT (i := 9) (oi := ⟨some 71, _, _, _, _, _⟩) (v := ?_) rfl (by kernel_rfl) (by kernel_rfl) (by kernel_rfl) (by kernel_rfl) (fun _ _ _ h => h) (Or.inl ⟨by rfl, ?_⟩) ⟨p0, p1, p2, p3⟩ (fun _ => trivial) ?_
        rotate_left
        · intro w' hT
          obtain ⟨t1, t2, t3, t4⟩ := hT
          go_simp
          (try rw [if_pos (by omega)])
          (try with_reducible rfl)
        rotate_left
        (try simp only [Act.put, List.setIfInBounds_toArray, List.set_cons_zero, List.set_cons_succ])
        refine wpKeep_takeT (i := 10) (oi := ⟨some 72, _, _, _, _, _⟩) (v := ?_) rfl (by kernel_rfl) (by kernel_rfl) (by kernel_rfl) (by kernel_rfl) (fun _ _ _ h => h) (Or.inl ⟨by rfl, ?_⟩) ⟨p0, p1, p2, p3⟩ (fun _ => trivial) ?_
        rotate_left
        · intro w' hT
          obtain ⟨t1, t2, t3, t4⟩ := hT
          go_simp
          (try rw [if_pos (by omega)])
          (try with_reducible rfl)
        rotate_left
        (try simp only [Act.put, List.setIfInBounds_toArray, List.set_cons_zero, List.set_cons_succ])
        refine wpKeep_takeT (i := 11) (oi := ⟨some 73, _, _, _, _, _⟩) (v := ?_) rfl (by kernel_rfl) (by kernel_rfl) (by kernel_rfl) (by kernel_rfl) (fun _ _ _ h => h) (Or.inl ⟨by rfl, ?_⟩) ⟨p0, p1, p2, p3⟩ (fun _ => trivial) ?_
        rotate_left
        · intro w' hT
          obtain ⟨t1, t2, t3, t4⟩ := hT
          go_simp
          (try rw [if_pos (by omega)])
          (try with_reducible rfl)
        rotate_left
        (try simp only [Act.put, List.setIfInBounds_toArray, List.set_cons_zero, List.set_cons_succ])
        refine wpKeep_takeT (i := 12) (oi := ⟨some 74, _, _, _, _, _⟩) (v := ?_) rfl (by kernel_rfl) (by kernel_rfl) (by kernel_rfl) (by kernel_rfl) (fun _ _ _ h => h) (Or.inl ⟨by rfl, ?_⟩) ⟨p0, p1, p2, p3⟩ (fun _ => trivial) ?_
        rotate_left
        · intro w' hT
          obtain ⟨t1, t2, t3, t4⟩ := hT
          go_simp
          (try rw [if_pos (by omega)])
          (try with_reducible rfl)
        rotate_left
        (try simp only [Act.put, List.setIfInBounds_toArray, List.set_cons_zero, List.set_cons_succ])
        refine wpKeep_ready (rs := [7]) (by kernel_rfl) (by simp) ?_
        refine AllKeep.cons (o := ⟨some 69, _, _, _, _, _⟩) rfl (fun K hK => ?_) AllKeep.nil
        go_simp
        go_at_call 10
        refine (HR0.out _ f).mono ?_
        rintro e wx1 ⟨rfl, f0⟩
        have f := f.trans f0
        have p0 := (f0.cell (p := ⟨ob, 0, none⟩) hb (fun h => h)).trans p0
        have p1 := (f0.cell (p := ⟨ob, 1, none⟩) hb (fun h => h)).trans p1
        have p2 := (f0.cell (p := ⟨ob, 2, none⟩) hb (fun h => h)).trans p2
        have p3 := (f0.cell (p := ⟨ob, 3, none⟩) hb (fun h => h)).trans p3
        have hb := Nat.lt_of_lt_of_le hb f0.size
        clear f0
        refine hK.out _ _ ⟨p0, p1, p2, p3⟩ (fun _ => trivial) ?_
        clear hK K
        (try simp only [Act.put, List.setIfInBounds_toArray, List.set_cons_zero, List.set_cons_succ])
        refine wpKeep_ready (rs := [13]) (by kernel_rfl) (by simp) ?_
        refine AllKeep.cons (o := ⟨some 75, _, _, _, _, _⟩) rfl (fun K hK => ?_) AllKeep.nil
        go_simp
        go_at_call 11
        refine (HQ0.out _ f).mono ?_
        rintro e wx2 ⟨rfl, f0⟩
        have f := f.trans f0
        have p0 := (f0.cell (p := ⟨ob, 0, none⟩) hb (fun h => h)).trans p0
        have p1 := (f0.cell (p := ⟨ob, 1, none⟩) hb (fun h => h)).trans p1
        have p2 := (f0.cell (p := ⟨ob, 2, none⟩) hb (fun h => h)).trans p2
        have p3 := (f0.cell (p := ⟨ob, 3, none⟩) hb (fun h => h)).trans p3
        have hb := Nat.lt_of_lt_of_le hb f0.size
        clear f0
        refine hK.out _ _ ⟨p0, p1, p2, p3⟩ (fun _ => trivial) ?_
        clear hK K
        (try simp only [Act.put, List.setIfInBounds_toArray, List.set_cons_zero, List.set_cons_succ])
        refine wpKeep_takeT (i := 14) (oi := ⟨some 76, _, _, _, _, _⟩) (v := ?_) rfl (by kernel_rfl) (by kernel_rfl) (by kernel_rfl) (by kernel_rfl) (fun _ _ _ h => h) (Or.inl ⟨by rfl, ?_⟩) ⟨p0, p1, p2, p3⟩ (fun _ => trivial) ?_
        rotate_left
        · intro w' hT
          obtain ⟨t1, t2, t3, t4⟩ := hT
          go_simp
          (try rw [if_pos (by omega)])
          (try with_reducible rfl)
        rotate_left
        (try simp only [Act.put, List.setIfInBounds_toArray, List.set_cons_zero, List.set_cons_succ])
        refine wpKeep_takeT (i := 15) (oi := ⟨some 77, _, _, _, _, _⟩) (v := ?_) rfl (by kernel_rfl) (by kernel_rfl) (by kernel_rfl) (by kernel_rfl) (fun _ _ _ h => h) (Or.inl ⟨by rfl, ?_⟩) ⟨p0, p1, p2, p3⟩ (fun _ => trivial) ?_
        rotate_left
        · intro w' hT
          obtain ⟨t1, t2, t3, t4⟩ := hT
          go_simp
          (try rw [if_pos (by omega)])
          (try with_reducible rfl)
        rotate_left
        (try simp only [Act.put, List.setIfInBounds_toArray, List.set_cons_zero, List.set_cons_succ])
        refine wpKeep_takeT (i := 16) (oi := ⟨some 78, _, _, _, _, _⟩) (v := ?_) rfl (by kernel_rfl) (by kernel_rfl) (by kernel_rfl) (by kernel_rfl) (fun _ _ _ h => h) (Or.inl ⟨by rfl, ?_⟩) ⟨p0, p1, p2, p3⟩ (fun _ => trivial) ?_
        rotate_left
        · intro w' hT
          obtain ⟨t1, t2, t3, t4⟩ := hT
          go_simp
          (try rw [if_pos (by omega)])
          (try with_reducible rfl)
        rotate_left
        (try simp only [Act.put, List.setIfInBounds_toArray, List.set_cons_zero, List.set_cons_succ])
        refine wpKeep_takeT (i := 17) (oi := ⟨some 79, _, _, _, _, _⟩) (v := ?_) rfl (by kernel_rfl) (by kernel_rfl) (by kernel_rfl) (by kernel_rfl) (fun _ _ _ h => h) (Or.inl ⟨by rfl, ?_⟩) ⟨p0, p1, p2, p3⟩ (fun _ => trivial) ?_
        rotate_left
        · intro w' hT
          obtain ⟨t1, t2, t3, t4⟩ := hT
          go_simp
          (try rw [if_pos (by omega)])
          (try with_reducible rfl)
        rotate_left
        (try simp only [Act.put, List.setIfInBounds_toArray, List.set_cons_zero, List.set_cons_succ])
        refine wpKeep_takeT (i := 18) (oi := ⟨some 80, _, _, _, _, _⟩) (v := ?_) rfl (by kernel_rfl) (by kernel_rfl) (by kernel_rfl) (by kernel_rfl) (fun _ _ _ h => h) (Or.inl ⟨by rfl, ?_⟩) ⟨p0, p1, p2, p3⟩ (fun _ => trivial) ?_
        rotate_left
        · intro w' hT
          obtain ⟨t1, t2, t3, t4⟩ := hT
          go_simp
          (try rw [if_pos (by omega)])
          (try with_reducible rfl)
        rotate_left
        (try simp only [Act.put, List.setIfInBounds_toArray, List.set_cons_zero, List.set_cons_succ])
        refine wpKeep_takeT (i := 19) (oi := ⟨some 81, _, _, _, _, _⟩) (v := ?_) rfl (by kernel_rfl) (by kernel_rfl) (by kernel_rfl) (by kernel_rfl) (fun _ _ _ h => h) (Or.inl ⟨by rfl, ?_⟩) ⟨p0, p1, p2, p3⟩ (fun _ => trivial) ?_
        rotate_left
        · intro w' hT
          obtain ⟨t1, t2, t3, t4⟩ := hT
          go_simp
          (try rw [if_pos (by omega)])
          (try with_reducible rfl)
        rotate_left
        (try simp only [Act.put, List.setIfInBounds_toArray, List.set_cons_zero, List.set_cons_succ])
        refine wpKeep_takeT (i := 20) (oi := ⟨some 82, _, _, _, _, _⟩) (v := ?_) rfl (by kernel_rfl) (by kernel_rfl) (by kernel_rfl) (by kernel_rfl) (fun _ _ _ h => h) (Or.inl ⟨by rfl, ?_⟩) ⟨p0, p1, p2, p3⟩ (fun _ => trivial) ?_
        rotate_left
        · intro w' hT
          obtain ⟨t1, t2, t3, t4⟩ := hT
          go_simp
          (try rw [if_pos (by omega)])
          (try with_reducible rfl)
        rotate_left
        (try simp only [Act.put, List.setIfInBounds_toArray, List.set_cons_zero, List.set_cons_succ])
        refine wpKeep_takeT (i := 21) (oi := ⟨some 83, _, _, _, _, _⟩) (v := ?_) rfl (by kernel_rfl) (by kernel_rfl) (by kernel_rfl) (by kernel_rfl) (fun _ _ _ h => h) (Or.inl ⟨by rfl, ?_⟩) ⟨p0, p1, p2, p3⟩ (fun _ => trivial) ?_
        rotate_left
        · intro w' hT
          obtain ⟨t1, t2, t3, t4⟩ := hT
          go_simp
          (try rw [if_pos (by omega)])
          (try with_reducible rfl)
        rotate_left
        (try simp only [Act.put, List.setIfInBounds_toArray, List.set_cons_zero, List.set_cons_succ])
        refine wpKeep_takeT (i := 23) (oi := ⟨some 85, _, _, _, _, _⟩) (v := ?_) rfl (by kernel_rfl) (by kernel_rfl) (by kernel_rfl) (by kernel_rfl) (fun _ _ _ h => h) (Or.inl ⟨by rfl, ?_⟩) ⟨p0, p1, p2, p3⟩ (fun _ => trivial) ?_
        rotate_left
        · intro w' hT
          obtain ⟨t1, t2, t3, t4⟩ := hT
          go_simp
          (try rw [if_pos (by omega)])
          (try with_reducible rfl)
        rotate_left
        (try simp only [Act.put, List.setIfInBounds_toArray, List.set_cons_zero, List.set_cons_succ])
        refine wpKeep_takeT (i := 24) (oi := ⟨some 86, _, _, _, _, _⟩) (v := ?_) rfl (by kernel_rfl) (by kernel_rfl) (by kernel_rfl) (by kernel_rfl) (fun _ _ _ h => h) (Or.inl ⟨by rfl, ?_⟩) ⟨p0, p1, p2, p3⟩ (fun _ => trivial) ?_
        rotate_left
        · intro w' hT
          obtain ⟨t1, t2, t3, t4⟩ := hT
          go_simp
          (try rw [if_pos (by omega)])
          (try with_reducible rfl)
        rotate_left
        (try simp only [Act.put, List.setIfInBounds_toArray, List.set_cons_zero, List.set_cons_succ])
        refine wpKeep_takeT (i := 25) (oi := ⟨some 87, _, _, _, _, _⟩) (v := ?_) rfl (by kernel_rfl) (by kernel_rfl) (by kernel_rfl) (by kernel_rfl) (fun _ _ _ h => h) (Or.inl ⟨by rfl, ?_⟩) ⟨p0, p1, p2, p3⟩ (fun _ => trivial) ?_
        rotate_left
        · intro w' hT
          obtain ⟨t1, t2, t3, t4⟩ := hT
          go_simp
          (try rw [if_pos (by omega)])
          (try with_reducible rfl)
        rotate_left
        (try simp only [Act.put, List.setIfInBounds_toArray, List.set_cons_zero, List.set_cons_succ])
        refine wpKeep_takeT (i := 26) (oi := ⟨some 88, _, _, _, _, _⟩) (v := ?_) rfl (by kernel_rfl) (by kernel_rfl) (by kernel_rfl) (by kernel_rfl) (fun _ _ _ h => h) (Or.inl ⟨by rfl, ?_⟩) ⟨p0, p1, p2, p3⟩ (fun _ => trivial) ?_
        rotate_left
        · intro w' hT
          obtain ⟨t1, t2, t3, t4⟩ := hT
          go_simp
          (try rw [if_pos (by omega)])
          (try with_reducible rfl)
        rotate_left
        (try simp only [Act.put, List.setIfInBounds_toArray, List.set_cons_zero, List.set_cons_succ])
        refine wpKeep_takeT (i := 27) (oi := ⟨some 89, _, _, _, _, _⟩) (v := ?_) rfl (by kernel_rfl) (by kernel_rfl) (by kernel_rfl) (by kernel_rfl) (fun _ _ _ h => h) (Or.inl ⟨by rfl, ?_⟩) ⟨p0, p1, p2, p3⟩ (fun _ => trivial) ?_
        rotate_left
        · intro w' hT
          obtain ⟨t1, t2, t3, t4⟩ := hT
          go_simp
          (try rw [if_pos (by omega)])
          (try with_reducible rfl)
        rotate_left
        (try simp only [Act.put, List.setIfInBounds_toArray, List.set_cons_zero, List.set_cons_succ])
        refine wpKeep_ready (rs := [22]) (by kernel_rfl) (by simp) ?_
        refine AllKeep.cons (o := ⟨some 84, _, _, _, _, _⟩) rfl (fun K hK => ?_) AllKeep.nil
        go_simp
        go_at_call 10
        refine (HR1.out _ f).mono ?_
        rintro e wx3 ⟨rfl, f0⟩
        have f := f.trans f0
        have p0 := (f0.cell (p := ⟨ob, 0, none⟩) hb (fun h => h)).trans p0
        have p1 := (f0.cell (p := ⟨ob, 1, none⟩) hb (fun h => h)).trans p1
        have p2 := (f0.cell (p := ⟨ob, 2, none⟩) hb (fun h => h)).trans p2
        have p3 := (f0.cell (p := ⟨ob, 3, none⟩) hb (fun h => h)).trans p3
        have hb := Nat.lt_of_lt_of_le hb f0.size
        clear f0
        refine hK.out _ _ ⟨p0, p1, p2, p3⟩ (fun _ => trivial) ?_
        clear hK K
        (try simp only [Act.put, List.setIfInBounds_toArray, List.set_cons_zero, List.set_cons_succ])
        refine wpKeep_ready (rs := [28]) (by kernel_rfl) (by simp) ?_
        refine AllKeep.cons (o := ⟨some 90, _, _, _, _, _⟩) rfl (fun K hK => ?_) AllKeep.nil
        go_simp
        go_at_call 11
        refine (HQ1.out _ f).mono ?_
        rintro e wx4 ⟨rfl, f0⟩
        have f := f.trans f0
        have p0 := (f0.cell (p := ⟨ob, 0, none⟩) hb (fun h => h)).trans p0
        have p1 := (f0.cell (p := ⟨ob, 1, none⟩) hb (fun h => h)).trans p1
        have p2 := (f0.cell (p := ⟨ob, 2, none⟩) hb (fun h => h)).trans p2
        have p3 := (f0.cell (p := ⟨ob, 3, none⟩) hb (fun h => h)).trans p3
        have hb := Nat.lt_of_lt_of_le hb f0.size
        clear f0
        refine hK.out _ _ ⟨p0, p1, p2, p3⟩ (fun _ => trivial) ?_
        clear hK K
        (try simp only [Act.put, List.setIfInBounds_toArray, List.set_cons_zero, List.set_cons_succ])
        refine wpKeep_takeT (i := 29) (oi := ⟨some 91, _, _, _, _, _⟩) (v := ?_) rfl (by kernel_rfl) (by kernel_rfl) (by kernel_rfl) (by kernel_rfl) (fun _ _ _ h => h) (Or.inl ⟨by rfl, ?_⟩) ⟨p0, p1, p2, p3⟩ (fun _ => trivial) ?_
        rotate_left
        · intro w' hT
          obtain ⟨t1, t2, t3, t4⟩ := hT
          go_simp
          (try rw [if_pos (by omega)])
          (try with_reducible rfl)
        rotate_left
        (try simp only [Act.put, List.setIfInBounds_toArray, List.set_cons_zero, List.set_cons_succ])
        refine wpKeep_takeT (i := 30) (oi := ⟨some 92, _, _, _, _, _⟩) (v := ?_) rfl (by kernel_rfl) (by kernel_rfl) (by kernel_rfl) (by kernel_rfl) (fun _ _ _ h => h) (Or.inl ⟨by rfl, ?_⟩) ⟨p0, p1, p2, p3⟩ (fun _ => trivial) ?_
        rotate_left
        · intro w' hT
          obtain ⟨t1, t2, t3, t4⟩ := hT
          go_simp
          (try rw [if_pos (by omega)])
          (try with_reducible rfl)
        rotate_left
        (try simp only [Act.put, List.setIfInBounds_toArray, List.set_cons_zero, List.set_cons_succ])
        refine wpKeep_takeT (i := 31) (oi := ⟨some 2, _, _, _, _, _⟩) (v := ?_) rfl (by kernel_rfl) (by kernel_rfl) (by kernel_rfl) (by kernel_rfl) (fun _ _ _ h => h) (Or.inl ⟨by rfl, ?_⟩) ⟨p0, p1, p2, p3⟩ (fun _ => trivial) ?_
        rotate_left
        · intro w' hT
          obtain ⟨t1, t2, t3, t4⟩ := hT
          go_simp
          (try rw [if_pos (by omega)])
          (try with_reducible rfl)
        rotate_left
        (try simp only [Act.put, List.setIfInBounds_toArray, List.set_cons_zero, List.set_cons_succ])
        refine wpKeep_done (by kernel_rfl) ?_ _
        clear p0 p1 p2 p3
        go_wp2_with fail
        go_ret
        exact ⟨by first | rfl | simp, (HKS.out.trans (f.mono fun _ _ h => h.elim)).mono fun q hq e => by omega⟩
    · obtain ⟨c, kp, m, y, t, n, dv, L, lv, fv, wv, A, F, Wv, C, h, hh, hn⟩ := ha.all
      have HST := hid (settled_any _ ob _ c wr kp m y n t dv L lv fv wv A F Wv C h (by omega))
      have HH := hid h
      have HHAS := hid hh
      have HNN := hid hn
      have HKR := hid kr
      clear ha h hh hn kr
      go_wp2_with fail
      refine HST.out.mono ?_
      rintro e w4 ⟨rfl, G, c', av, A', hs⟩
      have hmap : ∀ j, j < 2 → Map w4 (m j) (t j) (n j) := fun j hj => (HH.out.map j hj).keeps hs.keeps (fun e => by
        have := HH.out.cmap j hj
        rcases e with e | e | ⟨a, e⟩ | ⟨a, e⟩
        · omega
        · omega
        · unfold fcol at e; omega
        · unfold gcol at e; omega)
      have off : ∀ g j, c g = 8 + j → j < 2 → ¬ (c g = 1 ∨ c g = 2 ∨ (∃ a, c g = fcol a) ∨ ∃ a, c g = gcol a) := fun g j hc hj e => by
        rcases e with e | e | ⟨a, e⟩ | ⟨a, e⟩
        · omega
        · omega
        · unfold fcol at e; omega
        · unfold gcol at e; omega
      have hdoc : ∀ j, j < 2 → DocAt w4 (y j) (dv j) (L j) := fun j hj => (HH.out.doc j hj).keeps hs.keeps (off _ j (HH.out.cdoc j hj).1 hj) (fun g hg => off g j ((HH.out.cdoc j hj).2 g hg) hj)
      have hln : ∀ j, j < 2 → (L j).length ≤ 1000000 := fun j hj => by
        have h1 := (HHAS.out j hj).len (HH.out.map j hj).good
        have h2 := (HH.out.map j hj).count
        have h3 := HNN.out j hj
        omega
      have HR0 := hid fun W (f : Fresh w4 W) => root_any (m 0) (t 0) (n 0) W ((hmap 0 (by omega)).fresh f).at_
      have HR1 := hid fun W (f : Fresh w4 W) => root_any (m 1) (t 1) (n 1) W ((hmap 1 (by omega)).fresh f).at_
      have HQ0 := hid fun W (f : Fresh w4 W) => droot_any (y 0) (dv 0) (L 0) (t 0) W ((hdoc 0 (by omega)).fresh f) (hln 0 (by omega)) (hmap 0 (by omega)).good (HHAS.out 0 (by omega))
      have HQ1 := hid fun W (f : Fresh w4 W) => droot_any (y 1) (dv 1) (L 1) (t 1) W ((hdoc 1 (by omega)).fresh f) (hln 1 (by omega)) (hmap 1 (by omega)).good (HHAS.out 1 (by omega))
      have p0 : w4.drew.cell? ⟨ob, 0, none⟩ = _ := (cell_at hs.box 0).trans (show _ = some (Value.pointer (some ⟨m 0, 0, none⟩)) from rfl)
      have p1 : w4.drew.cell? ⟨ob, 1, none⟩ = _ := (cell_at hs.box 1).trans (show _ = some (Value.pointer (some ⟨m 1, 0, none⟩)) from rfl)
      have p2 : w4.drew.cell? ⟨ob, 2, none⟩ = _ := (cell_at hs.box 2).trans (show _ = some (Value.pointer (some ⟨y 0, 0, none⟩)) from rfl)
      have p3 : w4.drew.cell? ⟨ob, 3, none⟩ = _ := (cell_at hs.box 3).trans (show _ = some (Value.pointer (some ⟨y 1, 0, none⟩)) from rfl)
      have hb : ob < w4.drew.heap.size := lt_of_block hs.box
      have f : Fresh w4 w4.drew := (Keeps.refl _ _).drew
      have HKS := hid (HKR.out.trans (hs.keeps.mono fun q hq e => by
        apply Classical.byContradiction
        intro hn
        have hz := HH.out.low q (by omega)
        rcases e with e | e | ⟨a, e⟩ | ⟨a, e⟩
        · omega
        · omega
        · unfold fcol at e; omega
        · unfold gcol at e; omega))
      clear hs hmap hdoc hln off HST HH HHAS HNN HKR
      generalize (t 0).hash = h0 at HR0 HQ0
      generalize (t 1).hash = h1 at HR1 HQ1
      have hq0 : ((str h0).toList == (str h0).toList) = true := by simp
      have hq1 : ((str h1).toList == (str h1).toList) = true := by simp
      go_wp2_with fail
      refine wp_region_keep 32 (fun w' => w'.cell? ⟨ob, 0, none⟩ = some (.pointer (some ⟨m 0, 0, none⟩)) ∧ w'.cell? ⟨ob, 1, none⟩ = some (.pointer (some ⟨m 1, 0, none⟩)) ∧ w'.cell? ⟨ob, 2, none⟩ = some (.pointer (some ⟨y 0, 0, none⟩)) ∧ w'.cell? ⟨ob, 3, none⟩ = some (.pointer (some ⟨y 1, 0, none⟩))) (fun _ => True) (fun _ => true) (by kernel_rfl) (by kernel_rfl) ?_
      (try (change wpKeep _ _ _ _ _ _ _ _ _ _ (World.drew _)))
      refine wpKeep_takeT (i := 0) (oi := ⟨some 62, _, _, _, _, _⟩) (v := ?_) rfl (by kernel_rfl) (by kernel_rfl) (by kernel_rfl) (by kernel_rfl) (fun _ _ _ h => h) (Or.inl ⟨by rfl, ?_⟩) ⟨p0, p1, p2, p3⟩ (fun _ => trivial) ?_
      rotate_left
      · intro w' hT
        obtain ⟨t1, t2, t3, t4⟩ := hT
        go_simp
        (try rw [if_pos (by omega)])
        (try with_reducible rfl)
      rotate_left
      (try simp only [Act.put, List.setIfInBounds_toArray, List.set_cons_zero, List.set_cons_succ])
      refine wpKeep_takeT (i := 1) (oi := ⟨some 63, _, _, _, _, _⟩) (v := ?_) rfl (by kernel_rfl) (by kernel_rfl) (by kernel_rfl) (by kernel_rfl) (fun _ _ _ h => h) (Or.inl ⟨by rfl, ?_⟩) ⟨p0, p1, p2, p3⟩ (fun _ => trivial) ?_
      rotate_left
      · intro w' hT
        obtain ⟨t1, t2, t3, t4⟩ := hT
        go_simp
        (try rw [if_pos (by omega)])
        (try with_reducible rfl)
      rotate_left
      (try simp only [Act.put, List.setIfInBounds_toArray, List.set_cons_zero, List.set_cons_succ])
      refine wpKeep_takeT (i := 2) (oi := ⟨some 64, _, _, _, _, _⟩) (v := ?_) rfl (by kernel_rfl) (by kernel_rfl) (by kernel_rfl) (by kernel_rfl) (fun _ _ _ h => h) (Or.inl ⟨by rfl, ?_⟩) ⟨p0, p1, p2, p3⟩ (fun _ => trivial) ?_
      rotate_left
      · intro w' hT
        obtain ⟨t1, t2, t3, t4⟩ := hT
        go_simp
        (try rw [if_pos (by omega)])
        (try with_reducible rfl)
      rotate_left
      (try simp only [Act.put, List.setIfInBounds_toArray, List.set_cons_zero, List.set_cons_succ])
      refine wpKeep_takeT (i := 3) (oi := ⟨some 65, _, _, _, _, _⟩) (v := ?_) rfl (by kernel_rfl) (by kernel_rfl) (by kernel_rfl) (by kernel_rfl) (fun _ _ _ h => h) (Or.inl ⟨by rfl, ?_⟩) ⟨p0, p1, p2, p3⟩ (fun _ => trivial) ?_
      rotate_left
      · intro w' hT
        obtain ⟨t1, t2, t3, t4⟩ := hT
        go_simp
        (try rw [if_pos (by omega)])
        (try with_reducible rfl)
      rotate_left
      (try simp only [Act.put, List.setIfInBounds_toArray, List.set_cons_zero, List.set_cons_succ])
      refine wpKeep_takeT (i := 4) (oi := ⟨some 66, _, _, _, _, _⟩) (v := ?_) rfl (by kernel_rfl) (by kernel_rfl) (by kernel_rfl) (by kernel_rfl) (fun _ _ _ h => h) (Or.inl ⟨by rfl, ?_⟩) ⟨p0, p1, p2, p3⟩ (fun _ => trivial) ?_
      rotate_left
      · intro w' hT
        obtain ⟨t1, t2, t3, t4⟩ := hT
        go_simp
        (try rw [if_pos (by omega)])
        (try with_reducible rfl)
      rotate_left
      (try simp only [Act.put, List.setIfInBounds_toArray, List.set_cons_zero, List.set_cons_succ])
      refine wpKeep_takeT (i := 5) (oi := ⟨some 67, _, _, _, _, _⟩) (v := ?_) rfl (by kernel_rfl) (by kernel_rfl) (by kernel_rfl) (by kernel_rfl) (fun _ _ _ h => h) (Or.inl ⟨by rfl, ?_⟩) ⟨p0, p1, p2, p3⟩ (fun _ => trivial) ?_
      rotate_left
      · intro w' hT
        obtain ⟨t1, t2, t3, t4⟩ := hT
        go_simp
        (try rw [if_pos (by omega)])
        (try with_reducible rfl)
      rotate_left
      (try simp only [Act.put, List.setIfInBounds_toArray, List.set_cons_zero, List.set_cons_succ])
      refine wpKeep_takeT (i := 6) (oi := ⟨some 68, _, _, _, _, _⟩) (v := ?_) rfl (by kernel_rfl) (by kernel_rfl) (by kernel_rfl) (by kernel_rfl) (fun _ _ _ h => h) (Or.inl ⟨by rfl, ?_⟩) ⟨p0, p1, p2, p3⟩ (fun _ => trivial) ?_
      rotate_left
      · intro w' hT
        obtain ⟨t1, t2, t3, t4⟩ := hT
        go_simp
        (try rw [if_pos (by omega)])
        (try with_reducible rfl)
      rotate_left
      (try simp only [Act.put, List.setIfInBounds_toArray, List.set_cons_zero, List.set_cons_succ])
      refine wpKeep_takeT (i := 8) (oi := ⟨some 70, _, _, _, _, _⟩) (v := ?_) rfl (by kernel_rfl) (by kernel_rfl) (by kernel_rfl) (by kernel_rfl) (fun _ _ _ h => h) (Or.inl ⟨by rfl, ?_⟩) ⟨p0, p1, p2, p3⟩ (fun _ => trivial) ?_
      rotate_left
      · intro w' hT
        obtain ⟨t1, t2, t3, t4⟩ := hT
        go_simp
        (try rw [if_pos (by omega)])
        (try with_reducible rfl)
      rotate_left
      (try simp only [Act.put, List.setIfInBounds_toArray, List.set_cons_zero, List.set_cons_succ])
      refine wpKeep_takeT (i := 9) (oi := ⟨some 71, _, _, _, _, _⟩) (v := ?_) rfl (by kernel_rfl) (by kernel_rfl) (by kernel_rfl) (by kernel_rfl) (fun _ _ _ h => h) (Or.inl ⟨by rfl, ?_⟩) ⟨p0, p1, p2, p3⟩ (fun _ => trivial) ?_
      rotate_left
      · intro w' hT
        obtain ⟨t1, t2, t3, t4⟩ := hT
        go_simp
        (try rw [if_pos (by omega)])
        (try with_reducible rfl)
      rotate_left
      (try simp only [Act.put, List.setIfInBounds_toArray, List.set_cons_zero, List.set_cons_succ])
      refine wpKeep_takeT (i := 10) (oi := ⟨some 72, _, _, _, _, _⟩) (v := ?_) rfl (by kernel_rfl) (by kernel_rfl) (by kernel_rfl) (by kernel_rfl) (fun _ _ _ h => h) (Or.inl ⟨by rfl, ?_⟩) ⟨p0, p1, p2, p3⟩ (fun _ => trivial) ?_
      rotate_left
      · intro w' hT
        obtain ⟨t1, t2, t3, t4⟩ := hT
        go_simp
        (try rw [if_pos (by omega)])
        (try with_reducible rfl)
      rotate_left
      (try simp only [Act.put, List.setIfInBounds_toArray, List.set_cons_zero, List.set_cons_succ])
      refine wpKeep_takeT (i := 11) (oi := ⟨some 73, _, _, _, _, _⟩) (v := ?_) rfl (by kernel_rfl) (by kernel_rfl) (by kernel_rfl) (by kernel_rfl) (fun _ _ _ h => h) (Or.inl ⟨by rfl, ?_⟩) ⟨p0, p1, p2, p3⟩ (fun _ => trivial) ?_
      rotate_left
      · intro w' hT
        obtain ⟨t1, t2, t3, t4⟩ := hT
        go_simp
        (try rw [if_pos (by omega)])
        (try with_reducible rfl)
      rotate_left
      (try simp only [Act.put, List.setIfInBounds_toArray, List.set_cons_zero, List.set_cons_succ])
      refine wpKeep_takeT (i := 12) (oi := ⟨some 74, _, _, _, _, _⟩) (v := ?_) rfl (by kernel_rfl) (by kernel_rfl) (by kernel_rfl) (by kernel_rfl) (fun _ _ _ h => h) (Or.inl ⟨by rfl, ?_⟩) ⟨p0, p1, p2, p3⟩ (fun _ => trivial) ?_
      rotate_left
      · intro w' hT
        obtain ⟨t1, t2, t3, t4⟩ := hT
        go_simp
        (try rw [if_pos (by omega)])
        (try with_reducible rfl)
      rotate_left
      (try simp only [Act.put, List.setIfInBounds_toArray, List.set_cons_zero, List.set_cons_succ])
      refine wpKeep_ready (rs := [7]) (by kernel_rfl) (by simp) ?_
      refine AllKeep.cons (o := ⟨some 69, _, _, _, _, _⟩) rfl (fun K hK => ?_) AllKeep.nil
      go_simp
      go_at_call 10
      refine (HR0.out _ f).mono ?_
      rintro e wx1 ⟨rfl, f0⟩
      have f := f.trans f0
      have p0 := (f0.cell (p := ⟨ob, 0, none⟩) hb (fun h => h)).trans p0
      have p1 := (f0.cell (p := ⟨ob, 1, none⟩) hb (fun h => h)).trans p1
      have p2 := (f0.cell (p := ⟨ob, 2, none⟩) hb (fun h => h)).trans p2
      have p3 := (f0.cell (p := ⟨ob, 3, none⟩) hb (fun h => h)).trans p3
      have hb := Nat.lt_of_lt_of_le hb f0.size
      clear f0
      refine hK.out _ _ ⟨p0, p1, p2, p3⟩ (fun _ => trivial) ?_
      clear hK K
      (try simp only [Act.put, List.setIfInBounds_toArray, List.set_cons_zero, List.set_cons_succ])
      refine wpKeep_ready (rs := [13]) (by kernel_rfl) (by simp) ?_
      refine AllKeep.cons (o := ⟨some 75, _, _, _, _, _⟩) rfl (fun K hK => ?_) AllKeep.nil
      go_simp
      go_at_call 11
      refine (HQ0.out _ f).mono ?_
      rintro e wx2 ⟨rfl, f0⟩
      have f := f.trans f0
      have p0 := (f0.cell (p := ⟨ob, 0, none⟩) hb (fun h => h)).trans p0
      have p1 := (f0.cell (p := ⟨ob, 1, none⟩) hb (fun h => h)).trans p1
      have p2 := (f0.cell (p := ⟨ob, 2, none⟩) hb (fun h => h)).trans p2
      have p3 := (f0.cell (p := ⟨ob, 3, none⟩) hb (fun h => h)).trans p3
      have hb := Nat.lt_of_lt_of_le hb f0.size
      clear f0
      refine hK.out _ _ ⟨p0, p1, p2, p3⟩ (fun _ => trivial) ?_
      clear hK K
      (try simp only [Act.put, List.setIfInBounds_toArray, List.set_cons_zero, List.set_cons_succ])
      refine wpKeep_takeT (i := 14) (oi := ⟨some 76, _, _, _, _, _⟩) (v := ?_) rfl (by kernel_rfl) (by kernel_rfl) (by kernel_rfl) (by kernel_rfl) (fun _ _ _ h => h) (Or.inl ⟨by rfl, ?_⟩) ⟨p0, p1, p2, p3⟩ (fun _ => trivial) ?_
      rotate_left
      · intro w' hT
        obtain ⟨t1, t2, t3, t4⟩ := hT
        go_simp
        (try rw [if_pos (by omega)])
        (try with_reducible rfl)
      rotate_left
      (try simp only [Act.put, List.setIfInBounds_toArray, List.set_cons_zero, List.set_cons_succ])
      refine wpKeep_takeT (i := 15) (oi := ⟨some 77, _, _, _, _, _⟩) (v := ?_) rfl (by kernel_rfl) (by kernel_rfl) (by kernel_rfl) (by kernel_rfl) (fun _ _ _ h => h) (Or.inl ⟨by rfl, ?_⟩) ⟨p0, p1, p2, p3⟩ (fun _ => trivial) ?_
      rotate_left
      · intro w' hT
        obtain ⟨t1, t2, t3, t4⟩ := hT
        go_simp
        (try rw [if_pos (by omega)])
        (try with_reducible rfl)
      rotate_left
      (try simp only [Act.put, List.setIfInBounds_toArray, List.set_cons_zero, List.set_cons_succ])
      refine wpKeep_takeT (i := 16) (oi := ⟨some 78, _, _, _, _, _⟩) (v := ?_) rfl (by kernel_rfl) (by kernel_rfl) (by kernel_rfl) (by kernel_rfl) (fun _ _ _ h => h) (Or.inl ⟨by rfl, ?_⟩) ⟨p0, p1, p2, p3⟩ (fun _ => trivial) ?_
      rotate_left
      · intro w' hT
        obtain ⟨t1, t2, t3, t4⟩ := hT
        go_simp
        (try rw [if_pos (by omega)])
        (try with_reducible rfl)
      rotate_left
      (try simp only [Act.put, List.setIfInBounds_toArray, List.set_cons_zero, List.set_cons_succ])
      refine wpKeep_takeT (i := 17) (oi := ⟨some 79, _, _, _, _, _⟩) (v := ?_) rfl (by kernel_rfl) (by kernel_rfl) (by kernel_rfl) (by kernel_rfl) (fun _ _ _ h => h) (Or.inl ⟨by rfl, ?_⟩) ⟨p0, p1, p2, p3⟩ (fun _ => trivial) ?_
      rotate_left
      · intro w' hT
        obtain ⟨t1, t2, t3, t4⟩ := hT
        go_simp
        (try rw [if_pos (by omega)])
        (try with_reducible rfl)
      rotate_left
      (try simp only [Act.put, List.setIfInBounds_toArray, List.set_cons_zero, List.set_cons_succ])
      refine wpKeep_takeT (i := 18) (oi := ⟨some 80, _, _, _, _, _⟩) (v := ?_) rfl (by kernel_rfl) (by kernel_rfl) (by kernel_rfl) (by kernel_rfl) (fun _ _ _ h => h) (Or.inl ⟨by rfl, ?_⟩) ⟨p0, p1, p2, p3⟩ (fun _ => trivial) ?_
      rotate_left
      · intro w' hT
        obtain ⟨t1, t2, t3, t4⟩ := hT
        go_simp
        (try rw [if_pos (by omega)])
        (try with_reducible rfl)
      rotate_left
      (try simp only [Act.put, List.setIfInBounds_toArray, List.set_cons_zero, List.set_cons_succ])
      refine wpKeep_takeT (i := 19) (oi := ⟨some 81, _, _, _, _, _⟩) (v := ?_) rfl (by kernel_rfl) (by kernel_rfl) (by kernel_rfl) (by kernel_rfl) (fun _ _ _ h => h) (Or.inl ⟨by rfl, ?_⟩) ⟨p0, p1, p2, p3⟩ (fun _ => trivial) ?_
      rotate_left
      · intro w' hT
        obtain ⟨t1, t2, t3, t4⟩ := hT
        go_simp
        (try rw [if_pos (by omega)])
        (try with_reducible rfl)
      rotate_left
      (try simp only [Act.put, List.setIfInBounds_toArray, List.set_cons_zero, List.set_cons_succ])
      refine wpKeep_takeT (i := 20) (oi := ⟨some 82, _, _, _, _, _⟩) (v := ?_) rfl (by kernel_rfl) (by kernel_rfl) (by kernel_rfl) (by kernel_rfl) (fun _ _ _ h => h) (Or.inl ⟨by rfl, ?_⟩) ⟨p0, p1, p2, p3⟩ (fun _ => trivial) ?_
      rotate_left
      · intro w' hT
        obtain ⟨t1, t2, t3, t4⟩ := hT
        go_simp
        (try rw [if_pos (by omega)])
        (try with_reducible rfl)
      rotate_left
      (try simp only [Act.put, List.setIfInBounds_toArray, List.set_cons_zero, List.set_cons_succ])
      refine wpKeep_takeT (i := 21) (oi := ⟨some 83, _, _, _, _, _⟩) (v := ?_) rfl (by kernel_rfl) (by kernel_rfl) (by kernel_rfl) (by kernel_rfl) (fun _ _ _ h => h) (Or.inl ⟨by rfl, ?_⟩) ⟨p0, p1, p2, p3⟩ (fun _ => trivial) ?_
      rotate_left
      · intro w' hT
        obtain ⟨t1, t2, t3, t4⟩ := hT
        go_simp
        (try rw [if_pos (by omega)])
        (try with_reducible rfl)
      rotate_left
      (try simp only [Act.put, List.setIfInBounds_toArray, List.set_cons_zero, List.set_cons_succ])
      refine wpKeep_takeT (i := 23) (oi := ⟨some 85, _, _, _, _, _⟩) (v := ?_) rfl (by kernel_rfl) (by kernel_rfl) (by kernel_rfl) (by kernel_rfl) (fun _ _ _ h => h) (Or.inl ⟨by rfl, ?_⟩) ⟨p0, p1, p2, p3⟩ (fun _ => trivial) ?_
      rotate_left
      · intro w' hT
        obtain ⟨t1, t2, t3, t4⟩ := hT
        go_simp
        (try rw [if_pos (by omega)])
        (try with_reducible rfl)
      rotate_left
      (try simp only [Act.put, List.setIfInBounds_toArray, List.set_cons_zero, List.set_cons_succ])
      refine wpKeep_takeT (i := 24) (oi := ⟨some 86, _, _, _, _, _⟩) (v := ?_) rfl (by kernel_rfl) (by kernel_rfl) (by kernel_rfl) (by kernel_rfl) (fun _ _ _ h => h) (Or.inl ⟨by rfl, ?_⟩) ⟨p0, p1, p2, p3⟩ (fun _ => trivial) ?_
      rotate_left
      · intro w' hT
        obtain ⟨t1, t2, t3, t4⟩ := hT
        go_simp
        (try rw [if_pos (by omega)])
        (try with_reducible rfl)
      rotate_left
      (try simp only [Act.put, List.setIfInBounds_toArray, List.set_cons_zero, List.set_cons_succ])
      refine wpKeep_takeT (i := 25) (oi := ⟨some 87, _, _, _, _, _⟩) (v := ?_) rfl (by kernel_rfl) (by kernel_rfl) (by kernel_rfl) (by kernel_rfl) (fun _ _ _ h => h) (Or.inl ⟨by rfl, ?_⟩) ⟨p0, p1, p2, p3⟩ (fun _ => trivial) ?_
      rotate_left
      · intro w' hT
        obtain ⟨t1, t2, t3, t4⟩ := hT
        go_simp
        (try rw [if_pos (by omega)])
        (try with_reducible rfl)
      rotate_left
      (try simp only [Act.put, List.setIfInBounds_toArray, List.set_cons_zero, List.set_cons_succ])
      refine wpKeep_takeT (i := 26) (oi := ⟨some 88, _, _, _, _, _⟩) (v := ?_) rfl (by kernel_rfl) (by kernel_rfl) (by kernel_rfl) (by kernel_rfl) (fun _ _ _ h => h) (Or.inl ⟨by rfl, ?_⟩) ⟨p0, p1, p2, p3⟩ (fun _ => trivial) ?_
      rotate_left
      · intro w' hT
        obtain ⟨t1, t2, t3, t4⟩ := hT
        go_simp
        (try rw [if_pos (by omega)])
        (try with_reducible rfl)
      rotate_left
      (try simp only [Act.put, List.setIfInBounds_toArray, List.set_cons_zero, List.set_cons_succ])
      refine wpKeep_takeT (i := 27) (oi := ⟨some 89, _, _, _, _, _⟩) (v := ?_) rfl (by kernel_rfl) (by kernel_rfl) (by kernel_rfl) (by kernel_rfl) (fun _ _ _ h => h) (Or.inl ⟨by rfl, ?_⟩) ⟨p0, p1, p2, p3⟩ (fun _ => trivial) ?_
      rotate_left
      · intro w' hT
        obtain ⟨t1, t2, t3, t4⟩ := hT
        go_simp
        (try rw [if_pos (by omega)])
        (try with_reducible rfl)
      rotate_left
      (try simp only [Act.put, List.setIfInBounds_toArray, List.set_cons_zero, List.set_cons_succ])
      refine wpKeep_ready (rs := [22]) (by kernel_rfl) (by simp) ?_
      refine AllKeep.cons (o := ⟨some 84, _, _, _, _, _⟩) rfl (fun K hK => ?_) AllKeep.nil
      go_simp
      go_at_call 10
      refine (HR1.out _ f).mono ?_
      rintro e wx3 ⟨rfl, f0⟩
      have f := f.trans f0
      have p0 := (f0.cell (p := ⟨ob, 0, none⟩) hb (fun h => h)).trans p0
      have p1 := (f0.cell (p := ⟨ob, 1, none⟩) hb (fun h => h)).trans p1
      have p2 := (f0.cell (p := ⟨ob, 2, none⟩) hb (fun h => h)).trans p2
      have p3 := (f0.cell (p := ⟨ob, 3, none⟩) hb (fun h => h)).trans p3
      have hb := Nat.lt_of_lt_of_le hb f0.size
      clear f0
      refine hK.out _ _ ⟨p0, p1, p2, p3⟩ (fun _ => trivial) ?_
      clear hK K
      (try simp only [Act.put, List.setIfInBounds_toArray, List.set_cons_zero, List.set_cons_succ])
      refine wpKeep_ready (rs := [28]) (by kernel_rfl) (by simp) ?_
      refine AllKeep.cons (o := ⟨some 90, _, _, _, _, _⟩) rfl (fun K hK => ?_) AllKeep.nil
      go_simp
      go_at_call 11
      refine (HQ1.out _ f).mono ?_
      rintro e wx4 ⟨rfl, f0⟩
      have f := f.trans f0
      have p0 := (f0.cell (p := ⟨ob, 0, none⟩) hb (fun h => h)).trans p0
      have p1 := (f0.cell (p := ⟨ob, 1, none⟩) hb (fun h => h)).trans p1
      have p2 := (f0.cell (p := ⟨ob, 2, none⟩) hb (fun h => h)).trans p2
      have p3 := (f0.cell (p := ⟨ob, 3, none⟩) hb (fun h => h)).trans p3
      have hb := Nat.lt_of_lt_of_le hb f0.size
      clear f0
      refine hK.out _ _ ⟨p0, p1, p2, p3⟩ (fun _ => trivial) ?_
      clear hK K
      (try simp only [Act.put, List.setIfInBounds_toArray, List.set_cons_zero, List.set_cons_succ])
      refine wpKeep_takeT (i := 29) (oi := ⟨some 91, _, _, _, _, _⟩) (v := ?_) rfl (by kernel_rfl) (by kernel_rfl) (by kernel_rfl) (by kernel_rfl) (fun _ _ _ h => h) (Or.inl ⟨by rfl, ?_⟩) ⟨p0, p1, p2, p3⟩ (fun _ => trivial) ?_
      rotate_left
      · intro w' hT
        obtain ⟨t1, t2, t3, t4⟩ := hT
        go_simp
        (try rw [if_pos (by omega)])
        (try with_reducible rfl)
      rotate_left
      (try simp only [Act.put, List.setIfInBounds_toArray, List.set_cons_zero, List.set_cons_succ])
      refine wpKeep_takeT (i := 30) (oi := ⟨some 92, _, _, _, _, _⟩) (v := ?_) rfl (by kernel_rfl) (by kernel_rfl) (by kernel_rfl) (by kernel_rfl) (fun _ _ _ h => h) (Or.inl ⟨by rfl, ?_⟩) ⟨p0, p1, p2, p3⟩ (fun _ => trivial) ?_
      rotate_left
      · intro w' hT
        obtain ⟨t1, t2, t3, t4⟩ := hT
        go_simp
        (try rw [if_pos (by omega)])
        (try with_reducible rfl)
      rotate_left
      (try simp only [Act.put, List.setIfInBounds_toArray, List.set_cons_zero, List.set_cons_succ])
      refine wpKeep_takeT (i := 31) (oi := ⟨some 2, _, _, _, _, _⟩) (v := ?_) rfl (by kernel_rfl) (by kernel_rfl) (by kernel_rfl) (by kernel_rfl) (fun _ _ _ h => h) (Or.inl ⟨by rfl, ?_⟩) ⟨p0, p1, p2, p3⟩ (fun _ => trivial) ?_
      rotate_left
      · intro w' hT
        obtain ⟨t1, t2, t3, t4⟩ := hT
        go_simp
        (try rw [if_pos (by omega)])
        (try with_reducible rfl)
      rotate_left
      (try simp only [Act.put, List.setIfInBounds_toArray, List.set_cons_zero, List.set_cons_succ])
      refine wpKeep_done (by kernel_rfl) ?_ _
      clear p0 p1 p2 p3
      go_wp2_with fail
      go_ret
      exact ⟨by first | rfl | simp, (HKS.out.trans (f.mono fun _ _ h => h.elim)).mono fun q hq e => by omega⟩
end Go.Proofs.YtmflbchiapdhbaaGreatDoor
