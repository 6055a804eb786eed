/-
  The document's trie map: Prove.
-/
import Derived.Test.YtmflbchiapdhbaaGreatDoorTdHash
import Derived.Test.YtmflbchiapdhbaaGreatDoorMMsF
namespace Go.Proofs.YtmflbchiapdhbaaGreatDoor
open Go.RowKit

theorem set4 {w : World} {g : Nat} {a b c d : Value} {e : TypeId} (h : w.heap[g]? = some (.cells #[a, b, c, d] e (0, 0))) (x y z u : Value) : ((((w.setCell ⟨g, 0, none⟩ x).setCell ⟨g, 1, none⟩ y).setCell ⟨g, 2, none⟩ z).setCell ⟨g, 3, none⟩ u).heap[g]? = some (.cells #[x, y, z, u] e (0, 0)) :=
  heap_setCell_at (heap_setCell_at (heap_setCell_at (heap_setCell_at h 0 x) 1 y) 2 z) 3 u
theorem keep4 (w : World) (g : Nat) (x y z u : Value) : Keeps (fun q => q = g) w ((((w.setCell ⟨g, 0, none⟩ x).setCell ⟨g, 1, none⟩ y).setCell ⟨g, 2, none⟩ z).setCell ⟨g, 3, none⟩ u) :=
  ((((Keeps.refl (fun q => q = g) w).setCell (p := ⟨g, 0, none⟩) (fun _ => rfl) x).setCell (p := ⟨g, 1, none⟩) (fun _ => rfl) y).setCell (p := ⟨g, 2, none⟩) (fun _ => rfl) z).setCell (p := ⟨g, 3, none⟩) (fun _ => rfl) u
def lookC (sv : Value) : Obj := .cells #[sv, .bool false, .string ⟨#[]⟩, .string ⟨#[]⟩] 43
set_option maxRecDepth 100000 in
set_option maxHeartbeats 2000000 in
theorem dprove_long (p : Value) (key : List UInt8) (w : World) (hlong : 200 < key.length) (hk : key.length ≤ 9223372036854775807) :
    Calls Tryz.prog 27 #[p, .string (str key)] w fun e w' => e = .returned (.tuple #[lookupVal (.slice none 0 0) (false, [], []), .int .i64 242]) ∧ Fresh w w' := by
  have hsz := str_size key
  have h1 : (200 : Int) < (key.length : Int) := by omega
  go_enter Tryz.func27, Tryz.ntmps27
  go_wp2_with fail
  exact bodyPost_ret (v := .tuple #[.agg #[.slice none 0 0, .bool false, .string ⟨#[]⟩, .string ⟨#[]⟩], .int .i64 242]) (by simp [results, Tryz.results27, go_sem, Result.andThen]) rfl ⟨rfl, (Keeps.refl _ _).alloc _⟩

set_option maxRecDepth 100000 in
set_option maxHeartbeats 8000000 in
theorem dprove_any (y : Nat) (dv : Value) (L : List Ent) (t : Tr) (key : List UInt8) (w : World) (h : DocAt w y dv L) (hl : L.length ≤ 1000000) (hk : key.length ≤ 200) (hg : Tr.Good (fun _ => 0) 0 t) (hh : Has t L) :
    Calls Tryz.prog 27 #[.pointer (some ⟨y, 0, none⟩), .string (str key)] w fun e w' => ∃ v, e = .returned (.tuple #[lookupVal v (t.dig (sha key) 0).1.told, .int .i64 0]) ∧ Fresh w w' ∧ OwnTexts w.heap.size w' v (t.dig (sha key) 0).2 := by
  obtain ⟨i0, hi, hz0, hz1, hz2⟩ := info_parts Tryz.infoText
  have hdeep := Good.deep hg (sha key)
  have hsz := str_size key
  have h1 : ¬ (200 : Int) < (key.length : Int) := by omega
  have HS1 := hid fun W => refsum_any key W (by omega)
  have hk32 : (sha key).length = 32 := sha_len _
  obtain ⟨K1, hK1⟩ : ∃ K1, sha key = K1 := ⟨_, rfl⟩
  rw [hK1] at HS1 hdeep hk32 ⊢
  have hat := h.row.at_
  have HLT := hid fun g hg => (h.row.lt g hg).2
  have c0 := (cell_at h.box 0).trans (show _ = some dv from rfl)
  have HAT := hid hat
  have HG := hid hg
  have HH := hid hh
  have HL := hid hl
  have HDEEP := hid hdeep
  have HK32 := hid hk32
  obtain ⟨ao, cap, rfl, -⟩ := hat
  have f0 : Fresh w (w.alloc (lookC (.slice none 0 0))) := (Keeps.refl _ _).alloc _
  have hyl := lt_of_block h.box
  have c0' := (f0.cell (p := ⟨y, 0, none⟩) hyl (fun h => h)).trans c0
  unfold lookC at c0'
  have hgl : w.heap.size < (w.alloc (lookC (.slice none 0 0))).heap.size := by simp
  obtain ⟨W0, hW0⟩ : ∃ W0, w.alloc (.cells #[.slice none 0 0, .bool false, .string ⟨#[]⟩, .string ⟨#[]⟩] 43) = W0 := ⟨_, rfl⟩
  have hW1 : w.alloc (lookC (.slice none 0 0)) = W0 := hW0
  have hres0 : W0.heap[w.heap.size]? = some (lookC (.slice none 0 0)) := by rw [← hW1]; exact heap_alloc_new w _
  rw [hW1] at f0 hgl
  rw [hW0] at c0'
  have HW0 := hid hW0
  obtain ⟨rb, hrb⟩ : ∃ rb, w.heap.size = rb := ⟨_, rfl⟩
  have hrb2 : rb < W0.heap.size := by omega
  have hrb3 : w.heap.size ≤ rb := by omega
  rw [hrb] at hres0
  have HRB := hid hrb
  clear h hl hg hh hdeep hk32 hK1 hW0 hW1 hgl hrb
  go_enter Tryz.func27, Tryz.ntmps27
  go_wp2_with fail
  rw [HW0.out, HRB.out]
  refine (HS1.out _).mono ?_
  rintro e w1 ⟨rfl, f1⟩
  have hres := f1.at_ hres0 (fun h => h)
  have fr1 := f0.trans f1
  have c1 := (f1.cell (p := ⟨y, 0, none⟩) (by have := f0.size; exact Nat.lt_of_lt_of_le hyl this) (fun h => h)).trans c0'
  clear c0 c0' hres0
  go_wp2_with fail
  have f2 : Fresh w1 (w1.alloc (lookC (.slice none 0 0))) := (Keeps.refl _ _).alloc _
  have hbox2 := heap_alloc_new w1 (lookC (.slice none 0 0))
  have hres2 := f2.at_ hres (fun h => h)
  have fr2 := fr1.trans f2
  have hat2 := HAT.out.fresh fr2
  obtain ⟨pb, hpb⟩ : ∃ pb, w1.heap.size = pb := ⟨_, rfl⟩
  have hpb1 : rb < pb := by have := lt_of_block hres; omega
  rw [hpb] at hbox2 ⊢
  obtain ⟨W2, hW2⟩ : ∃ W2, w1.alloc (.cells #[.slice none 0 0, .bool false, .string ⟨#[]⟩, .string ⟨#[]⟩] 43) = W2 := ⟨_, rfl⟩
  have hW3 : w1.alloc (lookC (.slice none 0 0)) = W2 := hW2
  rw [hW3] at f2 hbox2 hres2 fr2 hat2
  rw [hW2]
  have hpb2 : w.heap.size ≤ pb := by omega
  have hne : pb ≠ rb := by omega
  have HA2 : Hid (∀ g, (Value.slice ao L.length cap).ownBlock = some g → g ≠ pb ∧ g ≠ rb ∧ (Value.slice none 0 0).ownBlock ≠ some g) := fun g hg => by
    have := HLT.out g hg
    exact ⟨by omega, by omega, fun h => nomatch h⟩
  clear hW2 hW3 hpb c1 hres fr1 f1
  go_loopw [7, 9] (fun lv dd wr => ∃ (d : Nat) (t' : Tr) (L' : List Ent) (p : Nat → Nat) (acc : List (List UInt8)) (sv : Value), dd = .int .i64 (d : Int) ∧ ThingsAt wr lv L' ∧ Hid (L'.length ≤ 1000000) ∧ Hid (Tr.Good p d t') ∧ Hid (HasAt p d t' L') ∧ Hid ((t.dig K1 0).1 = (t'.dig K1 d).1) ∧ Hid ((t.dig K1 0).2 = acc ++ (t'.dig K1 d).2) ∧ Hid (acc.length = d) ∧ wr.heap[pb]? = some (lookC sv) ∧ wr.heap[rb]? = some (lookC (.slice none 0 0)) ∧ Hid (OwnTexts w.heap.size wr sv acc) ∧ Hid (sv.ownBlock ≠ some pb ∧ sv.ownBlock ≠ some rb) ∧ Hid (∀ g, lv.ownBlock = some g → g ≠ pb ∧ g ≠ rb ∧ sv.ownBlock ≠ some g) ∧ Fresh w wr) (fun _ dd _ => 256 - (intOf dd).toNat)
  case atStart => exact ⟨0, t, L, fun _ => 0, [], .slice none 0 0, rfl, hat2, HL.out, HG.out, HH.out, rfl, rfl, rfl, hbox2, hres2, ⟨World.ownsRow_nil _ _ _ _, fun _ h => nomatch h⟩, ⟨(fun h => nomatch h), (fun h => nomatch h)⟩, HA2.out, fr2⟩
  case round =>
    clear hat2 fr2 hres2 hbox2 f2
    obtain ⟨d, t', L', p, acc, sv, rfl, hth, HL2, HG2, HH2, HD1, HD2, HAL, hbx, hrs, HSV, HSN, HAP, fr⟩ := hrel
    obtain ⟨ao', cap', rfl, hc⟩ := id hth
    obtain ⟨so, scap, rfl⟩ := ownsRow_slice HSV.out.1
    unfold lookC at hbx hrs
    have s0 := (cell_at hbx 0).trans (show _ = some (Value.slice so acc.length scap) from rfl)
    have s1 := (cell_at hbx 1).trans (show _ = some (Value.bool false) from rfl)
    have s2 := (cell_at hbx 2).trans (show _ = some (Value.string ⟨#[]⟩) from rfl)
    have s3 := (cell_at hbx 3).trans (show _ = some (Value.string ⟨#[]⟩) from rfl)
    have z0 := free_at hbx 0
    have z1 := free_at hbx 1
    have z2 := free_at hbx 2
    have z3 := free_at hbx 3
    have q0 := (cell_at hrs 0).trans (show _ = some (Value.slice none 0 0) from rfl)
    have q1 := (cell_at hrs 1).trans (show _ = some (Value.bool false) from rfl)
    have q2 := (cell_at hrs 2).trans (show _ = some (Value.string ⟨#[]⟩) from rfl)
    have q3 := (cell_at hrs 3).trans (show _ = some (Value.string ⟨#[]⟩) from rfl)
    have y0 := free_at hrs 0
    have y1 := free_at hrs 1
    have y2 := free_at hrs 2
    have y3 := free_at hrs 3
    have bl := lt_of_block hbx
    cases t' with
    | none =>
      have hL0 := HH2.out.none_
      subst hL0
      have hD1 : Hid ((t.dig K1 0).1 = .none) := HD1.out
      have hD2 : Hid ((t.dig K1 0).2 = acc) := by rw [Hid, HD2.out]; simp [Tr.dig]
      simp only [List.length_nil]
      go_wp2_with fail
      have hW := set4 hrs (.slice so acc.length scap) (.bool false) (.string ⟨#[]⟩) (.string ⟨#[]⟩)
      have hk4 := keep4 wr rb (.slice so acc.length scap) (.bool false) (.string ⟨#[]⟩) (.string ⟨#[]⟩)
      have hS := ownsRow_keeps HSV.out.1 hk4 (fun g hg e => HSN.out.2 (by rw [← e]; exact hg))
      have hfr := fr.trans' hk4 (fun i hi e => by omega)
      generalize ((((wr.setCell ⟨rb, 0, none⟩ (.slice so acc.length scap)).setCell ⟨rb, 1, none⟩ (.bool false)).setCell ⟨rb, 2, none⟩ (.string ⟨#[]⟩)).setCell ⟨rb, 3, none⟩ (.string ⟨#[]⟩)) = W at hW hS hfr ⊢
      have d0 := cell_at hW 0
      have d1 := cell_at hW 1
      have d2 := cell_at hW 2
      have d3 := cell_at hW 3
      simp at d0 d1 d2 d3
      refine bodyPost_ret (v := .tuple #[.agg #[.slice so acc.length scap, .bool false, .string ⟨#[]⟩, .string ⟨#[]⟩], .int .i64 0]) (by simp [results, Tryz.results27, go_sem, d0, d1, d2, d3, Result.andThen]) rfl ⟨.slice so acc.length scap, by rw [hD1.out]; rfl, hfr, by rw [hD2.out]; exact ⟨hS, HSV.out.2⟩⟩
    | leaf kk sm key0 val0 =>
      have hL0 := HH2.out.leaf_ HG2.out
      subst hL0
      have hD1 : Hid ((t.dig K1 0).1 = .leaf kk sm key0 val0) := HD1.out
      have hD2 : Hid ((t.dig K1 0).2 = acc) := by rw [Hid, HD2.out]; simp [Tr.dig]
      obtain ⟨bb, rfl, hbb, -, -, x2, x3⟩ := hc 0 _ rfl
      have hkk : sha key0 = kk := HG2.out.1.1.symm
      simp only [Nat.zero_mul, Nat.zero_add] at x2 x3
      rw [hkk] at x2
      have hbp : ¬ bb = pb := (HAP.out bb rfl).1
      have hbp2 : ¬ pb = bb := fun e => hbp e.symm
      have hpr : ¬ rb = pb := fun e => hne e.symm
      clear hkk hc
      simp only [List.length_cons, List.length_nil]
      go_wp2_with fail
      have kp : Keeps (fun q => q = pb) wr (((wr.setCell ⟨pb, 1, none⟩ (.bool true)).setCell ⟨pb, 2, none⟩ (.string (str kk))).setCell ⟨pb, 3, none⟩ (.string (str (sha val0)))) := (((Keeps.refl (fun q => q = pb) wr).setCell (p := ⟨pb, 1, none⟩) (fun _ => rfl) _).setCell (p := ⟨pb, 2, none⟩) (fun _ => rfl) _).setCell (p := ⟨pb, 3, none⟩) (fun _ => rfl) _
      have hrs3 := kp.at_ hrs (fun e => hne e.symm)
      have hrow3 := ownsRow_keeps HSV.out.1 kp (fun g hg e => HSN.out.1 (by rw [← e]; exact hg))
      have fr3 := fr.trans' kp (fun i hi e => by omega)
      generalize (((wr.setCell ⟨pb, 1, none⟩ (.bool true)).setCell ⟨pb, 2, none⟩ (.string (str kk))).setCell ⟨pb, 3, none⟩ (.string (str (sha val0)))) = W3 at hrs3 hrow3 fr3 ⊢
      have hW := set4 hrs3 (.slice so acc.length scap) (.bool true) (.string (str kk)) (.string (str (sha val0)))
      have hk4 := keep4 W3 rb (.slice so acc.length scap) (.bool true) (.string (str kk)) (.string (str (sha val0)))
      have hS := ownsRow_keeps hrow3 hk4 (fun g hg e => HSN.out.2 (by rw [← e]; exact hg))
      have hfr := fr3.trans' hk4 (fun i hi e => by omega)
      generalize ((((W3.setCell ⟨rb, 0, none⟩ (.slice so acc.length scap)).setCell ⟨rb, 1, none⟩ (.bool true)).setCell ⟨rb, 2, none⟩ (.string (str kk))).setCell ⟨rb, 3, none⟩ (.string (str (sha val0)))) = W at hW hS hfr ⊢
      have d0 := cell_at hW 0
      have d1 := cell_at hW 1
      have d2 := cell_at hW 2
      have d3 := cell_at hW 3
      simp at d0 d1 d2 d3
      refine bodyPost_ret (v := .tuple #[.agg #[.slice so acc.length scap, .bool true, .string (str kk), .string (str (sha val0))], .int .i64 0]) (by simp [results, Tryz.results27, go_sem, d0, d1, d2, d3, Result.andThen]) rfl ⟨.slice so acc.length scap, by rw [hD1.out]; rfl, hfr, by rw [hD2.out]; exact ⟨hS, HSV.out.2⟩⟩
    | fork l r sm =>
      by_cases hbit : bitAt K1 d = 0
      · have hB : Hid (bitAt K1 d = 0) := hbit
        have hD1 : Hid ((t.dig K1 0).1 = (l.dig K1 (d + 1)).1) := by rw [Hid, HD1.out, Tr.dig, if_pos hbit]
        have hD2 : Hid ((t.dig K1 0).2 = (acc ++ [r.hash]) ++ (l.dig K1 (d + 1)).2) := by rw [Hid, HD2.out, Tr.dig, if_pos hbit, List.append_assoc]; rfl
        obtain ⟨h256, hsum, hgl, hgr, -, -⟩ := HG2.out
        have h2 := HH2.out.fork_ HG2.out
        have hdl : d < 256 := h256
        have hn2 : ¬ (L'.length : Int) ≤ 1 := by omega
        have hn1 : (1 : Int) < (L'.length : Int) := by omega
        have hw1 : IntKind.i64.wrap ((d : Int) + 1) = ((d + 1 : Nat) : Int) := by rw [IntKind.wrap_i64]; omega
        have len : ∀ b, (sideL d b L').length ≤ 1000000 := fun b => Nat.le_trans (List.length_filter_le _ _) HL2.out
        have HNX := hid (And.intro hgl (And.intro (HH2.out.side0) (len 0)))
        have HSIDE := hid fun W (hW : ThingsAt W (.slice ao' L'.length cap') L') => dside_any _ L' d 1 W hW HL2.out hdl (by omega)
        have HSIDE2 := hid fun W (hW : ThingsAt W (.slice ao' L'.length cap') L') => dside_any _ L' d 0 W hW HL2.out hdl (by omega)
        have HHASH : Hid (∀ W v', OwnThings W v' (sideL d 1 L') → Calls Tryz.prog 33 #[v', .int .i64 (IntKind.i64.wrap ((d : Int) + 1))] W fun e w' => e = .returned (.string (str r.hash)) ∧ Fresh W w') := fun W v' ho => by
          rw [hw1]
          exact dhash_any r (d + 1) _ _ v' W hgr HH2.out.side1 ho.at_ (len 1)
        have HBIT := hid fun W => refbit_any K1 d W (by rw [HK32.out]; omega) (by rw [HK32.out]; omega)
        rw [hB.out] at HBIT
        clear hc hw1 hsum hgl hgr h256 len h2 hbit
        go_wp2_with fail
        refine (HBIT.out _).mono ?_
        rintro e wq ⟨rfl, rfl⟩
        go_wp2_with fail
        refine wp_region_keep 14 (fun w' => Keeps (fun q => q = pb ∨ (Value.slice so acc.length scap).ownBlock = some q) wr w') (fun w' => w'.cell? ⟨pb, 0, none⟩ = some (.slice so acc.length scap) ∧ w'.frozen? ⟨pb, 0, none⟩ = false) (fun j => !(j == 13)) (by kernel_rfl) (by kernel_rfl) ?_
        (try (change wpKeep _ _ _ _ _ _ _ _ _ _ (World.drew _)))
        refine wpKeep_takeT (i := 0) (oi := ⟨some 29, _, _, _, _, _⟩) (v := ?_) rfl (by kernel_rfl) (by kernel_rfl) (by kernel_rfl) (by kernel_rfl) (fun _ _ _ h => h) (Or.inl ⟨by rfl, ?_⟩) (Keeps.refl _ _).drew (fun _ => ⟨s0, z0⟩) ?_
        rotate_left
        · intro w' hT
          go_simp
          (try rw [if_pos (by omega)])
          (try with_reducible rfl)
        rotate_left
        (try simp only [Act.put, List.setIfInBounds_toArray, List.set_cons_zero, List.set_cons_succ])
        refine wpKeep_take (i := 1) (oi := ⟨some 30, _, _, _, _, _⟩) (v := ?_) rfl (by kernel_rfl) (by kernel_rfl) (by kernel_rfl) (by kernel_rfl) (fun _ _ _ h => h) (Or.inl ⟨by rfl, ?_⟩) ⟨(Keeps.refl _ _).drew, ⟨s0, z0⟩⟩ ?_
        rotate_left
        · intro w' hT
          have hS0 := hT.2
          replace hT := hT.1
          go_simp
          (try rw [if_pos (by omega)])
          (try with_reducible rfl)
        rotate_left
        (try simp only [Act.put, List.setIfInBounds_toArray, List.set_cons_zero, List.set_cons_succ])
        refine wpKeep_takeT (i := 2) (oi := ⟨some 31, _, _, _, _, _⟩) (v := ?_) rfl (by kernel_rfl) (by kernel_rfl) (by kernel_rfl) (by kernel_rfl) (fun _ _ _ h => h) (Or.inl ⟨by rfl, ?_⟩) (Keeps.refl _ _).drew (fun _ => ⟨s0, z0⟩) ?_
        rotate_left
        · intro w' hT
          go_simp
          (try rw [if_pos (by omega)])
          (try with_reducible rfl)
        rotate_left
        (try simp only [Act.put, List.setIfInBounds_toArray, List.set_cons_zero, List.set_cons_succ])
        refine wpKeep_takeT (i := 3) (oi := ⟨some 32, _, _, _, _, _⟩) (v := ?_) rfl (by kernel_rfl) (by kernel_rfl) (by kernel_rfl) (by kernel_rfl) (fun _ _ _ h => h) (Or.inl ⟨by rfl, ?_⟩) (Keeps.refl _ _).drew (fun _ => ⟨s0, z0⟩) ?_
        rotate_left
        · intro w' hT
          go_simp
          (try rw [if_pos (by omega)])
          (try with_reducible rfl)
        rotate_left
        (try simp only [Act.put, List.setIfInBounds_toArray, List.set_cons_zero, List.set_cons_succ])
        refine wpKeep_takeT (i := 4) (oi := ⟨some 33, _, _, _, _, _⟩) (v := ?_) rfl (by kernel_rfl) (by kernel_rfl) (by kernel_rfl) (by kernel_rfl) (fun _ _ _ h => h) (Or.inl ⟨by rfl, ?_⟩) (Keeps.refl _ _).drew (fun _ => ⟨s0, z0⟩) ?_
        rotate_left
        · intro w' hT
          go_simp
          (try rw [if_pos (by omega)])
          (try with_reducible rfl)
        rotate_left
        (try simp only [Act.put, List.setIfInBounds_toArray, List.set_cons_zero, List.set_cons_succ])
        refine wpKeep_takeT (i := 5) (oi := ⟨some 34, _, _, _, _, _⟩) (v := ?_) rfl (by kernel_rfl) (by kernel_rfl) (by kernel_rfl) (by kernel_rfl) (fun _ _ _ h => h) (Or.inl ⟨by rfl, ?_⟩) (Keeps.refl _ _).drew (fun _ => ⟨s0, z0⟩) ?_
        rotate_left
        · intro w' hT
          go_simp
          (try rw [if_pos (by omega)])
          (try with_reducible rfl)
        rotate_left
        (try simp only [Act.put, List.setIfInBounds_toArray, List.set_cons_zero, List.set_cons_succ])
        refine wpKeep_takeT (i := 7) (oi := ⟨some 36, _, _, _, _, _⟩) (v := ?_) rfl (by kernel_rfl) (by kernel_rfl) (by kernel_rfl) (by kernel_rfl) (fun _ _ _ h => h) (Or.inl ⟨by rfl, ?_⟩) (Keeps.refl _ _).drew (fun _ => ⟨s0, z0⟩) ?_
        rotate_left
        · intro w' hT
          go_simp
          (try rw [if_pos (by omega)])
          (try with_reducible rfl)
        rotate_left
        (try simp only [Act.put, List.setIfInBounds_toArray, List.set_cons_zero, List.set_cons_succ])
        refine wpKeep_takeT (i := 8) (oi := ⟨some 37, _, _, _, _, _⟩) (v := ?_) rfl (by kernel_rfl) (by kernel_rfl) (by kernel_rfl) (by kernel_rfl) (fun _ _ _ h => h) (Or.inl ⟨by rfl, ?_⟩) (Keeps.refl _ _).drew (fun _ => ⟨s0, z0⟩) ?_
        rotate_left
        · intro w' hT
          go_simp
          (try rw [if_pos (by omega)])
          (try with_reducible rfl)
        rotate_left
        (try simp only [Act.put, List.setIfInBounds_toArray, List.set_cons_zero, List.set_cons_succ])
        refine wpKeep_ready (rs := [6]) (by kernel_rfl) (by simp) ?_
        refine AllKeep.cons (o := ⟨some 35, _, _, _, _, _⟩) rfl (fun K hK => ?_) AllKeep.nil
        go_simp
        go_at_call 52
        refine (HSIDE.out _ (hth.fresh (Keeps.refl (fun _ => False) wr).drew)).mono ?_
        rintro e w5 ⟨v5, rfl, fa5, ho5, hn5⟩
        obtain ⟨a5, c5, rfl⟩ := ownsRow_slice ho5
        have f5 : Fresh wr w5 := (Keeps.refl (fun _ => False) wr).drew.trans fa5
        have s05 := (f5.cell (p := ⟨pb, 0, none⟩) bl (fun h => h)).trans s0
        have z05 := (f5.frozen (p := ⟨pb, 0, none⟩) bl (fun h => h)).trans z0
        refine hK.out _ _ (f5.mono fun _ _ h => h.elim) (fun _ => ⟨s05, z05⟩) ?_
        clear hK K
        (try simp only [Act.put, List.setIfInBounds_toArray, List.set_cons_zero, List.set_cons_succ])
        refine wpKeep_ready (rs := [9]) (by kernel_rfl) (by simp) ?_
        refine AllKeep.cons (o := ⟨some 38, _, _, _, _, _⟩) rfl (fun K hK => ?_) AllKeep.nil
        go_simp
        go_at_call 33
        refine (HHASH.out _ _ ho5).mono ?_
        rintro e w6 ⟨rfl, fa6⟩
        have f6 := f5.trans fa6
        have s06 := (f6.cell (p := ⟨pb, 0, none⟩) bl (fun h => h)).trans s0
        have z06 := (f6.frozen (p := ⟨pb, 0, none⟩) bl (fun h => h)).trans z0
        refine hK.out _ _ (f6.mono fun _ _ h => h.elim) (fun _ => ⟨s06, z06⟩) ?_
        clear hK K
        (try simp only [Act.put, List.setIfInBounds_toArray, List.set_cons_zero, List.set_cons_succ])
        refine wpKeep_ready (rs := [10]) (by kernel_rfl) (by simp) ?_
        refine AllKeep.cons (o := ⟨some 39, _, _, _, _, _⟩) rfl (fun K hK => ?_) AllKeep.nil
        go_simp
        have f7 := f6.alloc (.cells #[.string (str r.hash)] 9)
        have s07 := (f7.cell (p := ⟨pb, 0, none⟩) bl (fun h => h)).trans s0
        have z07 := (f7.frozen (p := ⟨pb, 0, none⟩) bl (fun h => h)).trans z0
        refine hK.out _ _ (f7.mono fun _ _ h => h.elim) (fun _ => ⟨s07, z07⟩) ?_
        clear hK K
        (try simp only [Act.put, List.setIfInBounds_toArray, List.set_cons_zero, List.set_cons_succ])
        refine wpKeep_ready (rs := [11]) (by kernel_rfl) (by simp) ?_
        refine AllKeep.cons (o := ⟨some 40, _, _, _, _, _⟩) rfl (fun K hK => ?_) AllKeep.nil
        refine step_push rfl (.tmp 30) (.tmp 39) 41 rfl 9 i0 (.string ⟨#[]⟩) 16 Tryz.underlying41 hi hz0 hz1 hz2 rfl w6 (ownsRow_keeps HSV.out.1 f6 (fun _ _ h => h)) (.string (str r.hash)) (by rfl) (by rfl) rfl (by have := HAL.out; omega) (by have := HAL.out; unfold maxLen; omega) ?_
        intro v8 w8 ha8
        obtain ⟨a8, c8, rfl⟩ := ownsRow_slice ha8.row
        have k8 : Keeps (fun q => q = pb ∨ (Value.slice so acc.length scap).ownBlock = some q) wr w8 := (f6.mono fun _ _ h => h.elim).trans (ha8.keeps.mono fun _ _ h => .inr h)
        have s08 := (ha8.keeps.cell (p := ⟨pb, 0, none⟩) (Nat.lt_of_lt_of_le bl f6.size) HSN.out.1).trans s06
        have z08 := (ha8.keeps.frozen (p := ⟨pb, 0, none⟩) (Nat.lt_of_lt_of_le bl f6.size) HSN.out.1).trans z06
        refine hK.out _ _ k8 (fun _ => ⟨s08, z08⟩) ?_
        clear hK K
        (try simp only [Act.put, List.setIfInBounds_toArray, List.set_cons_zero, List.set_cons_succ])
        refine wpKeep_takeT (i := 12) (oi := ⟨some 41, _, _, _, _, _⟩) (v := ?_) rfl (by kernel_rfl) (by kernel_rfl) (by kernel_rfl) (by kernel_rfl) (fun _ _ _ h => h) (Or.inl ⟨by rfl, ?_⟩) k8 (fun _ => ⟨s08, z08⟩) ?_
        rotate_left
        · intro w' hT
          go_simp
          (try rw [if_pos (by omega)])
          (try with_reducible rfl)
        rotate_left
        (try simp only [Act.put, List.setIfInBounds_toArray, List.set_cons_zero, List.set_cons_succ])
        refine wpKeep_ready (rs := [13]) (by kernel_rfl) (by simp) ?_
        refine AllKeep.cons (o := ⟨none, _, _, _, _, _⟩) rfl (fun K hK => ?_) AllKeep.nil
        go_simp
        refine hK.out _ _ (k8.setCell (p := ⟨pb, 0, none⟩) (fun _ => .inl rfl) _) (not_early (by kernel_rfl)) ?_
        clear hK K
        (try simp only [Act.put, List.setIfInBounds_toArray, List.set_cons_zero, List.set_cons_succ])
        refine wpKeep_done (by kernel_rfl) ?_ _
        have bx8 := ha8.keeps.at_ (f6.at_ hbx (fun h => h)) HSN.out.1
        have hnx : ∀ g, (Value.slice a8 (acc.length + 1) c8).ownBlock = some g → (Value.slice so acc.length scap).ownBlock = some g ∨ wr.heap.size ≤ g := fun g hg => (ha8.own g hg).imp (fun h => h) (fun h => by have := f6.size; omega)
        have hpb8 : (Value.slice a8 (acc.length + 1) c8).ownBlock ≠ some pb := fun e => (hnx pb e).elim HSN.out.1 (fun h => by omega)
        have hrb8 : (Value.slice a8 (acc.length + 1) c8).ownBlock ≠ some rb := fun e => (hnx rb e).elim HSN.out.2 (fun h => by have := lt_of_block hrs; omega)
        have bx9 := heap_setCell_at bx8 0 (.slice a8 (acc.length + 1) c8)
        have k9 : Keeps (fun q => q = pb ∨ (Value.slice so acc.length scap).ownBlock = some q) wr (w8.setCell ⟨pb, 0, none⟩ (.slice a8 (acc.length + 1) c8)) := k8.setCell (p := ⟨pb, 0, none⟩) (fun _ => .inl rfl) _
        have hrs9 := k9.at_ hrs (fun e => e.elim (fun e => hne e.symm) HSN.out.2)
        have hth9 := hth.keeps k9 (fun g hg e => e.elim (HAP.out g hg).1 (HAP.out g hg).2.2)
        have hrow9 := ownsRow_setCell_ne ha8.row (a := ⟨pb, 0, none⟩) hpb8 (.slice a8 (acc.length + 1) c8)
        have fr9 : Fresh w (w8.setCell ⟨pb, 0, none⟩ (.slice a8 (acc.length + 1) c8)) := fr.trans' k9 (fun i hi e => e.elim (fun e => by omega) (fun e => by have := HSV.out.2 i e; omega))
        have hsz9 : wr.heap.size ≤ (w8.setCell ⟨pb, 0, none⟩ (.slice a8 (acc.length + 1) c8)).heap.size := k9.size
        have HNX2 := hid hnx
        have hal9 : (acc.length : Int) ≤ 1000000 := by have := HAL.out; omega
        clear s0 s1 s2 s3 z0 z1 z2 z3 q0 q1 q2 q3 y0 y1 y2 y3 s05 z05 s06 z06 s07 z07 s08 z08 ho5 hn5 fa5 fa6 f5 f6 f7 k8 k9 ha8 bx8 hnx
        generalize w8.setCell ⟨pb, 0, none⟩ (.slice a8 (acc.length + 1) c8) = w9 at bx9 hrs9 hth9 hrow9 fr9 hsz9 ⊢
        go_wp2_with fail
        refine (HSIDE2.out _ hth9).mono ?_
        rintro e w10 ⟨v10, rfl, f10, ho10, hn10⟩
        obtain ⟨a10, c10, rfl⟩ := ownsRow_slice ho10
        have bx10 := f10.at_ bx9 (fun h => h)
        have hrs10 := f10.at_ hrs9 (fun h => h)
        have hrow10 := ownsRow_keeps hrow9 f10 (fun _ _ h => h)
        have fr10 := fr9.trans f10
        have HO10 := hid ho10
        have hpl := lt_of_block bx9
        have hrl := lt_of_block hrs9
        have hrw9 := hid hrow9
        clear ho10 hth9 hrow9 bx9 hrs9
        go_wp2_with fail
        go_roundw
        case rel => exact ⟨d + 1, l, sideL d 0 L', sideOf p d 0, acc ++ [r.hash], .slice a8 (acc.length + 1) c8, by go_num, HO10.out.at_, HNX.out.2.2, HNX.out.1, HNX.out.2.1, hD1, hD2, by rw [Hid, List.length_append, HAL.out]; rfl, bx10, hrs10, ⟨by rw [texts_snoc, List.length_append]; exact hrow10, fun g hg => (HNX2.out g hg).elim (HSV.out.2 g) (fun h => by have := fr.size; omega)⟩, ⟨hpb8, hrb8⟩, fun g hg => by
          have := hn10 g hg
          exact ⟨by omega, by omega, fun e => by have := (hrw9.out.lt g e).2; omega⟩, fr10⟩
        case measure => simp [intOf]; omega
      · have hB : Hid (bitAt K1 d = 1) := bit_one hbit
        have hD1 : Hid ((t.dig K1 0).1 = (r.dig K1 (d + 1)).1) := by rw [Hid, HD1.out, Tr.dig, if_neg hbit]
        have hD2 : Hid ((t.dig K1 0).2 = (acc ++ [l.hash]) ++ (r.dig K1 (d + 1)).2) := by rw [Hid, HD2.out, Tr.dig, if_neg hbit, List.append_assoc]; rfl
        obtain ⟨h256, hsum, hgl, hgr, -, -⟩ := HG2.out
        have h2 := HH2.out.fork_ HG2.out
        have hdl : d < 256 := h256
        have hn2 : ¬ (L'.length : Int) ≤ 1 := by omega
        have hn1 : (1 : Int) < (L'.length : Int) := by omega
        have hw1 : IntKind.i64.wrap ((d : Int) + 1) = ((d + 1 : Nat) : Int) := by rw [IntKind.wrap_i64]; omega
        have len : ∀ b, (sideL d b L').length ≤ 1000000 := fun b => Nat.le_trans (List.length_filter_le _ _) HL2.out
        have HNX := hid (And.intro hgr (And.intro (HH2.out.side1) (len 1)))
        have HSIDE := hid fun W (hW : ThingsAt W (.slice ao' L'.length cap') L') => dside_any _ L' d 0 W hW HL2.out hdl (by omega)
        have HSIDE2 := hid fun W (hW : ThingsAt W (.slice ao' L'.length cap') L') => dside_any _ L' d 1 W hW HL2.out hdl (by omega)
        have HHASH : Hid (∀ W v', OwnThings W v' (sideL d 0 L') → Calls Tryz.prog 33 #[v', .int .i64 (IntKind.i64.wrap ((d : Int) + 1))] W fun e w' => e = .returned (.string (str l.hash)) ∧ Fresh W w') := fun W v' ho => by
          rw [hw1]
          exact dhash_any l (d + 1) _ _ v' W hgl HH2.out.side0 ho.at_ (len 0)
        have HBIT := hid fun W => refbit_any K1 d W (by rw [HK32.out]; omega) (by rw [HK32.out]; omega)
        rw [hB.out] at HBIT
        clear hc hw1 hsum hgl hgr h256 len h2 hbit
        go_wp2_with fail
        refine (HBIT.out _).mono ?_
        rintro e wq ⟨rfl, rfl⟩
        go_wp2_with fail
        refine wp_region_keep 14 (fun w' => Keeps (fun q => q = pb ∨ (Value.slice so acc.length scap).ownBlock = some q) wr w') (fun w' => w'.cell? ⟨pb, 0, none⟩ = some (.slice so acc.length scap) ∧ w'.frozen? ⟨pb, 0, none⟩ = false) (fun j => !(j == 13)) (by kernel_rfl) (by kernel_rfl) ?_
        (try (change wpKeep _ _ _ _ _ _ _ _ _ _ (World.drew _)))
        refine wpKeep_takeT (i := 0) (oi := ⟨some 29, _, _, _, _, _⟩) (v := ?_) rfl (by kernel_rfl) (by kernel_rfl) (by kernel_rfl) (by kernel_rfl) (fun _ _ _ h => h) (Or.inl ⟨by rfl, ?_⟩) (Keeps.refl _ _).drew (fun _ => ⟨s0, z0⟩) ?_
        rotate_left
        · intro w' hT
          go_simp
          (try rw [if_pos (by omega)])
          (try with_reducible rfl)
        rotate_left
        (try simp only [Act.put, List.setIfInBounds_toArray, List.set_cons_zero, List.set_cons_succ])
        refine wpKeep_take (i := 1) (oi := ⟨some 30, _, _, _, _, _⟩) (v := ?_) rfl (by kernel_rfl) (by kernel_rfl) (by kernel_rfl) (by kernel_rfl) (fun _ _ _ h => h) (Or.inl ⟨by rfl, ?_⟩) ⟨(Keeps.refl _ _).drew, ⟨s0, z0⟩⟩ ?_
        rotate_left
        · intro w' hT
          have hS0 := hT.2
          replace hT := hT.1
          go_simp
          (try rw [if_pos (by omega)])
          (try with_reducible rfl)
        rotate_left
        (try simp only [Act.put, List.setIfInBounds_toArray, List.set_cons_zero, List.set_cons_succ])
        refine wpKeep_takeT (i := 2) (oi := ⟨some 31, _, _, _, _, _⟩) (v := ?_) rfl (by kernel_rfl) (by kernel_rfl) (by kernel_rfl) (by kernel_rfl) (fun _ _ _ h => h) (Or.inl ⟨by rfl, ?_⟩) (Keeps.refl _ _).drew (fun _ => ⟨s0, z0⟩) ?_
        rotate_left
        · intro w' hT
          go_simp
          (try rw [if_pos (by omega)])
          (try with_reducible rfl)
        rotate_left
        (try simp only [Act.put, List.setIfInBounds_toArray, List.set_cons_zero, List.set_cons_succ])
        refine wpKeep_takeT (i := 3) (oi := ⟨some 32, _, _, _, _, _⟩) (v := ?_) rfl (by kernel_rfl) (by kernel_rfl) (by kernel_rfl) (by kernel_rfl) (fun _ _ _ h => h) (Or.inl ⟨by rfl, ?_⟩) (Keeps.refl _ _).drew (fun _ => ⟨s0, z0⟩) ?_
        rotate_left
        · intro w' hT
          go_simp
          (try rw [if_pos (by omega)])
          (try with_reducible rfl)
        rotate_left
        (try simp only [Act.put, List.setIfInBounds_toArray, List.set_cons_zero, List.set_cons_succ])
        refine wpKeep_takeT (i := 4) (oi := ⟨some 33, _, _, _, _, _⟩) (v := ?_) rfl (by kernel_rfl) (by kernel_rfl) (by kernel_rfl) (by kernel_rfl) (fun _ _ _ h => h) (Or.inl ⟨by rfl, ?_⟩) (Keeps.refl _ _).drew (fun _ => ⟨s0, z0⟩) ?_
        rotate_left
        · intro w' hT
          go_simp
          (try rw [if_pos (by omega)])
          (try with_reducible rfl)
        rotate_left
        (try simp only [Act.put, List.setIfInBounds_toArray, List.set_cons_zero, List.set_cons_succ])
        refine wpKeep_takeT (i := 5) (oi := ⟨some 34, _, _, _, _, _⟩) (v := ?_) rfl (by kernel_rfl) (by kernel_rfl) (by kernel_rfl) (by kernel_rfl) (fun _ _ _ h => h) (Or.inl ⟨by rfl, ?_⟩) (Keeps.refl _ _).drew (fun _ => ⟨s0, z0⟩) ?_
        rotate_left
        · intro w' hT
          go_simp
          (try rw [if_pos (by omega)])
          (try with_reducible rfl)
        rotate_left
        (try simp only [Act.put, List.setIfInBounds_toArray, List.set_cons_zero, List.set_cons_succ])
        refine wpKeep_takeT (i := 7) (oi := ⟨some 36, _, _, _, _, _⟩) (v := ?_) rfl (by kernel_rfl) (by kernel_rfl) (by kernel_rfl) (by kernel_rfl) (fun _ _ _ h => h) (Or.inl ⟨by rfl, ?_⟩) (Keeps.refl _ _).drew (fun _ => ⟨s0, z0⟩) ?_
        rotate_left
        · intro w' hT
          go_simp
          (try rw [if_pos (by omega)])
          (try with_reducible rfl)
        rotate_left
        (try simp only [Act.put, List.setIfInBounds_toArray, List.set_cons_zero, List.set_cons_succ])
        refine wpKeep_takeT (i := 8) (oi := ⟨some 37, _, _, _, _, _⟩) (v := ?_) rfl (by kernel_rfl) (by kernel_rfl) (by kernel_rfl) (by kernel_rfl) (fun _ _ _ h => h) (Or.inl ⟨by rfl, ?_⟩) (Keeps.refl _ _).drew (fun _ => ⟨s0, z0⟩) ?_
        rotate_left
        · intro w' hT
          go_simp
          (try rw [if_pos (by omega)])
          (try with_reducible rfl)
        rotate_left
        (try simp only [Act.put, List.setIfInBounds_toArray, List.set_cons_zero, List.set_cons_succ])
        refine wpKeep_ready (rs := [6]) (by kernel_rfl) (by simp) ?_
        refine AllKeep.cons (o := ⟨some 35, _, _, _, _, _⟩) rfl (fun K hK => ?_) AllKeep.nil
        go_simp
        go_at_call 52
        refine (HSIDE.out _ (hth.fresh (Keeps.refl (fun _ => False) wr).drew)).mono ?_
        rintro e w5 ⟨v5, rfl, fa5, ho5, hn5⟩
        obtain ⟨a5, c5, rfl⟩ := ownsRow_slice ho5
        have f5 : Fresh wr w5 := (Keeps.refl (fun _ => False) wr).drew.trans fa5
        have s05 := (f5.cell (p := ⟨pb, 0, none⟩) bl (fun h => h)).trans s0
        have z05 := (f5.frozen (p := ⟨pb, 0, none⟩) bl (fun h => h)).trans z0
        refine hK.out _ _ (f5.mono fun _ _ h => h.elim) (fun _ => ⟨s05, z05⟩) ?_
        clear hK K
        (try simp only [Act.put, List.setIfInBounds_toArray, List.set_cons_zero, List.set_cons_succ])
        refine wpKeep_ready (rs := [9]) (by kernel_rfl) (by simp) ?_
        refine AllKeep.cons (o := ⟨some 38, _, _, _, _, _⟩) rfl (fun K hK => ?_) AllKeep.nil
        go_simp
        go_at_call 33
        refine (HHASH.out _ _ ho5).mono ?_
        rintro e w6 ⟨rfl, fa6⟩
        have f6 := f5.trans fa6
        have s06 := (f6.cell (p := ⟨pb, 0, none⟩) bl (fun h => h)).trans s0
        have z06 := (f6.frozen (p := ⟨pb, 0, none⟩) bl (fun h => h)).trans z0
        refine hK.out _ _ (f6.mono fun _ _ h => h.elim) (fun _ => ⟨s06, z06⟩) ?_
        clear hK K
        (try simp only [Act.put, List.setIfInBounds_toArray, List.set_cons_zero, List.set_cons_succ])
        refine wpKeep_ready (rs := [10]) (by kernel_rfl) (by simp) ?_
        refine AllKeep.cons (o := ⟨some 39, _, _, _, _, _⟩) rfl (fun K hK => ?_) AllKeep.nil
        go_simp
        have f7 := f6.alloc (.cells #[.string (str l.hash)] 9)
        have s07 := (f7.cell (p := ⟨pb, 0, none⟩) bl (fun h => h)).trans s0
        have z07 := (f7.frozen (p := ⟨pb, 0, none⟩) bl (fun h => h)).trans z0
        refine hK.out _ _ (f7.mono fun _ _ h => h.elim) (fun _ => ⟨s07, z07⟩) ?_
        clear hK K
        (try simp only [Act.put, List.setIfInBounds_toArray, List.set_cons_zero, List.set_cons_succ])
        refine wpKeep_ready (rs := [11]) (by kernel_rfl) (by simp) ?_
        refine AllKeep.cons (o := ⟨some 40, _, _, _, _, _⟩) rfl (fun K hK => ?_) AllKeep.nil
        refine step_push rfl (.tmp 30) (.tmp 39) 41 rfl 9 i0 (.string ⟨#[]⟩) 16 Tryz.underlying41 hi hz0 hz1 hz2 rfl w6 (ownsRow_keeps HSV.out.1 f6 (fun _ _ h => h)) (.string (str l.hash)) (by rfl) (by rfl) rfl (by have := HAL.out; omega) (by have := HAL.out; unfold maxLen; omega) ?_
        intro v8 w8 ha8
        obtain ⟨a8, c8, rfl⟩ := ownsRow_slice ha8.row
        have k8 : Keeps (fun q => q = pb ∨ (Value.slice so acc.length scap).ownBlock = some q) wr w8 := (f6.mono fun _ _ h => h.elim).trans (ha8.keeps.mono fun _ _ h => .inr h)
        have s08 := (ha8.keeps.cell (p := ⟨pb, 0, none⟩) (Nat.lt_of_lt_of_le bl f6.size) HSN.out.1).trans s06
        have z08 := (ha8.keeps.frozen (p := ⟨pb, 0, none⟩) (Nat.lt_of_lt_of_le bl f6.size) HSN.out.1).trans z06
        refine hK.out _ _ k8 (fun _ => ⟨s08, z08⟩) ?_
        clear hK K
        (try simp only [Act.put, List.setIfInBounds_toArray, List.set_cons_zero, List.set_cons_succ])
        refine wpKeep_takeT (i := 12) (oi := ⟨some 41, _, _, _, _, _⟩) (v := ?_) rfl (by kernel_rfl) (by kernel_rfl) (by kernel_rfl) (by kernel_rfl) (fun _ _ _ h => h) (Or.inl ⟨by rfl, ?_⟩) k8 (fun _ => ⟨s08, z08⟩) ?_
        rotate_left
        · intro w' hT
          go_simp
          (try rw [if_pos (by omega)])
          (try with_reducible rfl)
        rotate_left
        (try simp only [Act.put, List.setIfInBounds_toArray, List.set_cons_zero, List.set_cons_succ])
        refine wpKeep_ready (rs := [13]) (by kernel_rfl) (by simp) ?_
        refine AllKeep.cons (o := ⟨none, _, _, _, _, _⟩) rfl (fun K hK => ?_) AllKeep.nil
        go_simp
        refine hK.out _ _ (k8.setCell (p := ⟨pb, 0, none⟩) (fun _ => .inl rfl) _) (not_early (by kernel_rfl)) ?_
        clear hK K
        (try simp only [Act.put, List.setIfInBounds_toArray, List.set_cons_zero, List.set_cons_succ])
        refine wpKeep_done (by kernel_rfl) ?_ _
        have bx8 := ha8.keeps.at_ (f6.at_ hbx (fun h => h)) HSN.out.1
        have hnx : ∀ g, (Value.slice a8 (acc.length + 1) c8).ownBlock = some g → (Value.slice so acc.length scap).ownBlock = some g ∨ wr.heap.size ≤ g := fun g hg => (ha8.own g hg).imp (fun h => h) (fun h => by have := f6.size; omega)
        have hpb8 : (Value.slice a8 (acc.length + 1) c8).ownBlock ≠ some pb := fun e => (hnx pb e).elim HSN.out.1 (fun h => by omega)
        have hrb8 : (Value.slice a8 (acc.length + 1) c8).ownBlock ≠ some rb := fun e => (hnx rb e).elim HSN.out.2 (fun h => by have := lt_of_block hrs; omega)
        have bx9 := heap_setCell_at bx8 0 (.slice a8 (acc.length + 1) c8)
        have k9 : Keeps (fun q => q = pb ∨ (Value.slice so acc.length scap).ownBlock = some q) wr (w8.setCell ⟨pb, 0, none⟩ (.slice a8 (acc.length + 1) c8)) := k8.setCell (p := ⟨pb, 0, none⟩) (fun _ => .inl rfl) _
        have hrs9 := k9.at_ hrs (fun e => e.elim (fun e => hne e.symm) HSN.out.2)
        have hth9 := hth.keeps k9 (fun g hg e => e.elim (HAP.out g hg).1 (HAP.out g hg).2.2)
        have hrow9 := ownsRow_setCell_ne ha8.row (a := ⟨pb, 0, none⟩) hpb8 (.slice a8 (acc.length + 1) c8)
        have fr9 : Fresh w (w8.setCell ⟨pb, 0, none⟩ (.slice a8 (acc.length + 1) c8)) := fr.trans' k9 (fun i hi e => e.elim (fun e => by omega) (fun e => by have := HSV.out.2 i e; omega))
        have hsz9 : wr.heap.size ≤ (w8.setCell ⟨pb, 0, none⟩ (.slice a8 (acc.length + 1) c8)).heap.size := k9.size
        have HNX2 := hid hnx
        have hal9 : (acc.length : Int) ≤ 1000000 := by have := HAL.out; omega
        clear s0 s1 s2 s3 z0 z1 z2 z3 q0 q1 q2 q3 y0 y1 y2 y3 s05 z05 s06 z06 s07 z07 s08 z08 ho5 hn5 fa5 fa6 f5 f6 f7 k8 k9 ha8 bx8 hnx
        generalize w8.setCell ⟨pb, 0, none⟩ (.slice a8 (acc.length + 1) c8) = w9 at bx9 hrs9 hth9 hrow9 fr9 hsz9 ⊢
        go_wp2_with fail
        refine (HSIDE2.out _ hth9).mono ?_
        rintro e w10 ⟨v10, rfl, f10, ho10, hn10⟩
        obtain ⟨a10, c10, rfl⟩ := ownsRow_slice ho10
        have bx10 := f10.at_ bx9 (fun h => h)
        have hrs10 := f10.at_ hrs9 (fun h => h)
        have hrow10 := ownsRow_keeps hrow9 f10 (fun _ _ h => h)
        have fr10 := fr9.trans f10
        have HO10 := hid ho10
        have hpl := lt_of_block bx9
        have hrl := lt_of_block hrs9
        have hrw9 := hid hrow9
        clear ho10 hth9 hrow9 bx9 hrs9
        go_wp2_with fail
        go_roundw
        case rel => exact ⟨d + 1, r, sideL d 1 L', sideOf p d 1, acc ++ [l.hash], .slice a8 (acc.length + 1) c8, by go_num, HO10.out.at_, HNX.out.2.2, HNX.out.1, HNX.out.2.1, hD1, hD2, by rw [Hid, List.length_append, HAL.out]; rfl, bx10, hrs10, ⟨by rw [texts_snoc, List.length_append]; exact hrow10, fun g hg => (HNX2.out g hg).elim (HSV.out.2 g) (fun h => by have := fr.size; omega)⟩, ⟨hpb8, hrb8⟩, fun g hg => by
          have := hn10 g hg
          exact ⟨by omega, by omega, fun e => by have := (hrw9.out.lt g e).2; omega⟩, fr10⟩
        case measure => simp [intOf]; omega
end Go.Proofs.YtmflbchiapdhbaaGreatDoor
