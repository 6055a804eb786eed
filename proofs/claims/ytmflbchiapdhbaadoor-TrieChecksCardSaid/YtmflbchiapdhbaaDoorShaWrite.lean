/-
  The program's Hasher: Write.
-/
import Derived.Test.YtmflbchiapdhbaaDoorShaCopy
import Derived.Test.YtmflbchiapdhbaaDoorShaPBlock
namespace Go.Proofs.YtmflbchiapdhbaaDoor
open Go.RowKit

set_option maxRecDepth 100000 in
set_option maxHeartbeats 2000000 in
theorem write_any (t : List UInt8) (v : Eight) (rest s : List UInt8) (g : Nat) (w : World) (hT : TabLaid w) (hgn : 3 ≤ g) (hH : Hashed t v rest) (hv : v.ok) (hlen : t.length + s.length ≤ 70368744177664)
    (hg : w.heap[g]? = some (.cells (hcells v rest (t.length : Int)) 102 (0, 0))) :
    Calls Tryd.prog 36 #[.pointer (some ⟨g, 0, none⟩), .string (str s)] w fun e w' => e = .returned (.tuple #[]) ∧ Keeps (fun k => k = g) w w' ∧
      ∃ v' rest', Hashed (t ++ s) v' rest' ∧ v'.ok ∧ w'.heap[g]? = some (.cells (hcells v' rest' ((t ++ s).length : Int)) 102 (0, 0)) := by
  have hglt := lt_of_block hg
  go_enter Tryd.func36, Tryd.ntmps36
  go_wp2_with fail
  go_loopw [1] (fun s' wr => ∃ (p r : List UInt8) (v : Eight) (rest : List UInt8), s' = .string (str r) ∧ s = p ++ r ∧ Hashed (t ++ p) v rest ∧ v.ok ∧ wr.heap[g]? = some (.cells (hcells v rest ((t ++ p).length : Int)) 102 (0, 0)) ∧ Keeps (fun k => k = g) w wr) (fun s' _ => match s' with | .string b => b.size | _ => 0)
  case atStart => exact ⟨[], s, v, rest, rfl, rfl, by simpa using hH, hv, by simpa using hg, Keeps.refl _ _⟩
  case round =>
    clear hH hv hg
    obtain ⟨p, r, v, rest, rfl, hs, hH, hv, hg, hk⟩ := hrel
    have hszr := str_size r
    by_cases hpos : 0 < r.length
    · obtain ⟨N, hN⟩ : ∃ N, N = (t ++ p).length := ⟨_, rfl⟩
      obtain ⟨a, ha⟩ : ∃ a, a = N % 64 := ⟨_, rfl⟩
      obtain ⟨m, hm⟩ : ∃ m, m = Nat.min r.length (64 - a) := ⟨_, rfl⟩
      have hr64 := hH.at_
      have ha64 : a < 64 := by omega
      have hm1 : m ≤ r.length := by rw [hm]; exact Nat.min_le_left _ _
      have hm2 : m ≤ 64 - a := by rw [hm]; exact Nat.min_le_right _ _
      have hm0 : 0 < m := by rw [hm]; exact Nat.lt_min.2 ⟨hpos, by omega⟩
      have hNb : N + r.length ≤ 70368744177664 := by rw [hN]; rw [hs] at hlen; simp at hlen ⊢; omega
      have hml : (r.take m).length = m := by simp; omega
      have cn : wr.cell? ⟨g, 72, none⟩ = some (.int .i64 (N : Int)) := by rw [cell_at hg, hcells_many hr64, hN]
      have hsl := slice_rest wr g a ha64
      have hcopy := copy_part (P := Tryd.prog) wr 53 9 3 5 g (8 + a) (64 - a) (64 - a) r (hcells v rest (N : Int)) 102 m hm.symm Tryd.underlying53 Tryd.sizeByte (by rw [hN]; exact hg) (by rw [hcells_size hr64]; omega)
      have hcc := hcells_copy (v := v) (n := (N : Int)) (p := r.take m) (a := a) hr64 (by omega)
      rw [hml] at hcc
      rw [hcc] at hcopy
      have hext : (str r).extract m r.length = str (r.drop m) := str_from r m
      have hamod : (N : Int) % 64 = (a : Int) := by omega
      have hs2 : s = (p ++ r.take m) ++ r.drop m := by rw [hs]; simp
      have hk2 : (keptOf rest a (r.take m)).length = 64 := keptOf_len hr64 (by omega)
      have hkw : Keeps (fun k => k = g) w (wr.setRow g (hcells v (keptOf rest a (r.take m)) (N : Int))) := hk.trans (setRow_keeps _)
      have hgw : (wr.setRow g (hcells v (keptOf rest a (r.take m)) (N : Int))).heap[g]? = some (.cells (hcells v (keptOf rest a (r.take m)) (N : Int)) 102 (0, 0)) := setRow_heap _ _ _ _ _ _ hg
      obtain ⟨w2, hw2⟩ : ∃ w2, w2 = wr.setRow g (hcells v (keptOf rest a (r.take m)) (N : Int)) := ⟨_, rfl⟩
      rw [← hw2] at hcopy hkw hgw
      have cn2 : w2.cell? ⟨g, 72, none⟩ = some (.int .i64 (N : Int)) := by rw [cell_at hgw, hcells_many hk2]
      have fn2 := free_at hgw 72
      have haN : a = (t ++ p).length % 64 := by rw [ha, hN]
      have HAN := hid haN
      have HN := hid hN
      clear hm hcc hw2 ha haN hN
      have hgs : (w2.setCell ⟨g, 72, none⟩ (.int .i64 ((N : Int) + (m : Int)))).heap[g]? = some (.cells (hcells v (keptOf rest a (r.take m)) ((N : Int) + (m : Int))) 102 (0, 0)) := by
        have := heap_setCell_at hgw 72 (.int .i64 ((N : Int) + (m : Int)))
        rwa [hcells_setn hk2] at this
      have hks : Keeps (fun k => k = g) w (w2.setCell ⟨g, 72, none⟩ (.int .i64 ((N : Int) + (m : Int)))) := Keeps.setCell (S := fun k => k = g) hkw (p := ⟨g, 72, none⟩) (fun _ => rfl) _
      have hNm : (((t ++ (p ++ r.take m)).length : Nat) : Int) = (N : Int) + (m : Int) := by rw [← List.append_assoc, List.length_append, ← HN.out, hml]; omega
      have hdl : (r.drop m).length < r.length := by simp; omega
      have hszd := str_size (r.drop m)
      by_cases hfull : a + m = 64
      · have hq : ((a : Int) + (m : Int) == 64) = true := by simp; omega
        have hfl := hH.full (p := r.take m) (by rw [← HAN.out, hml]; exact hfull)
        rw [← HAN.out, List.append_assoc] at hfl
        have HFL := hid hfl
        have HNM := hid hNm
        clear hfl hNm hgw
        go_wp2_with (at_builtin; refine wpList_copy_to wr rfl (.tmp 18) (.tmp 19) 53 9 rfl _ _ rfl rfl hcopy ?_)
        go_still_tail 6, (by kernel_rfl)
        change wpList _ _ _ _ _ (w2.setCell ⟨g, 72, none⟩ (.int .i64 ((N : Int) + (m : Int)))).drew
        have hgs2 : (w2.setCell ⟨g, 72, none⟩ (.int .i64 ((N : Int) + (m : Int)))).drew.heap[g]? = some (.cells (hcells v (keptOf rest a (r.take m)) ((N : Int) + (m : Int))) 102 (0, 0)) := hgs
        have hks2 := hks.drew
        clear hgs hks
        generalize (w2.setCell ⟨g, 72, none⟩ (.int .i64 ((N : Int) + (m : Int)))).drew = w3 at *
        have hT3 := hT.keeps hks2 (by omega)
        go_wp2_with fail
        refine (pblock_any v hv _ hk2 _ g w3 hT3 hgn hgs2).mono ?_
        rintro e w4 ⟨rfl, hk4, hg4⟩
        go_wp2
        go_roundw
        case rel => exact ⟨p ++ r.take m, r.drop m, _, _, rfl, hs2, HFL.out, Eight.add_ok _ _, by rw [HNM.out]; exact hg4, hks2.trans hk4⟩
        case measure => simp only [hszd, hszr]; exact hdl
      · have hq : ((a : Int) + (m : Int) == 64) = false := by simp; omega
        have hpt := hH.part (p := r.take m) (by rw [← HAN.out, hml]; omega)
        rw [← HAN.out, List.append_assoc] at hpt
        have HPT := hid hpt
        have HNM := hid hNm
        clear hpt hNm hgw
        go_wp2_with (at_builtin; refine wpList_copy_to wr rfl (.tmp 18) (.tmp 19) 53 9 rfl _ _ rfl rfl hcopy ?_)
        go_roundw
        case rel => exact ⟨p ++ r.take m, r.drop m, v, _, rfl, hs2, HPT.out, hv, by rw [HNM.out]; exact hgs, hks⟩
        case measure => simp only [hszd, hszr]; exact hdl
    · have hr0 : r = [] := List.eq_nil_of_length_eq_zero (by omega)
      subst hr0
      rw [List.append_nil] at hs
      subst hs
      go_wp2
      go_end0
      exact ⟨rfl, hk, v, rest, hH, hv, hg⟩
end Go.Proofs.YtmflbchiapdhbaaDoor
