/-
  The document's trie: Check.
-/
import Derived.Test.YtmflbchiapdhbaaDoorTrPlain
import Derived.Deep.RegionLaw
namespace Go.Proofs.YtmflbchiapdhbaaDoor
open Go.RowKit

theorem climb_at (k : List UInt8) (l : List (List UInt8)) (h : List UInt8) (n : Nat) (s : List UInt8) (hs : l[n]? = some s) : climb k n (l.drop n) h = rung k n s (climb k (n + 1) (l.drop (n + 1)) h) := by
  rw [drop_cons hs]; rfl

set_option maxRecDepth 100000 in
set_option maxHeartbeats 4000000 in
theorem refcheck_any (v : Value) (l : List (List UInt8)) (pt : Bool) (pk pv key value : List UInt8) (there : Bool) (root : List UInt8) (w : World) (hl : TextsAt w v l) (hpk : pk.length ≤ 9223372036854775807) (hpv : pv.length ≤ 9223372036854775807) (hkey : key.length ≤ 9223372036854775807) (hval : value.length ≤ 9223372036854775807) (hll : l.length ≤ 9223372036854775807) (hs : ∀ s ∈ l, s.length ≤ 9223372036854775807) :
    Calls Tryd.prog 10 #[.agg #[v, .bool pt, .string (str pk), .string (str pv)], .string (str key), .string (str value), .bool there, .string (str root)] w fun e w' => e = .returned (.int .i64 (checkOf l pt pk pv key value there root)) ∧ Fresh w w' := by
  have hskey := str_size key
  have hsval := str_size value
  by_cases h200 : 200 < key.length
  · have hF : Hid (checkOf l pt pk pv key value there root = 242) := by simp [Hid, checkOf, tooLong, h200]
    go_enter Tryd.func10, Tryd.ntmps10
    go_wp2_with fail
    go_ret
    exact ⟨by rw [hF.out]; rfl, (Keeps.refl _ _).alloc _⟩
  by_cases h1000 : there = true ∧ 1000 < value.length
  · obtain ⟨rfl, h1000⟩ := h1000
    have hF : Hid (checkOf l pt pk pv key value true root = 242) := by simp [Hid, checkOf, tooLong, h1000]
    go_enter Tryd.func10, Tryd.ntmps10
    go_wp2_with fail
    go_ret
    exact ⟨by rw [hF.out]; rfl, (Keeps.refl _ _).alloc _⟩
  have hC : Hid (checkOf l pt pk pv key value there root = if fits l pt pk pv key value there = false then 240
      else if climb (sha key) 0 l (ground pt pk pv) = root then 0 else 241) := by
    have : tooLong key value there = false := by
      cases there <;> simp [tooLong] at h1000 ⊢ <;> omega
    simp [Hid, checkOf, this]
  have H32 : Hid (fits l pt pk pv key value there = true → ∀ s ∈ l, s.length = 32) := fun h => every32_mem (by
    simp only [fits, formOf, Bool.and_eq_true] at h
    exact h.1.1.2)
  obtain ⟨ao, cap, rfl, hc⟩ := hl
  have f1 : Fresh w (w.alloc (.cells #[.slice ao l.length cap, .bool pt, .string (str pk), .string (str pv)] 24)) := (Keeps.refl _ _).alloc _
  have hb1 := heap_alloc_new w (.cells #[.slice ao l.length cap, .bool pt, .string (str pk), .string (str pv)] 24)
  have hsum := refsum_any key (w.alloc (.cells #[.slice ao l.length cap, .bool pt, .string (str pk), .string (str pv)] 24)) (by omega)
  have HS := hid hs
  have HC := hid hc
  clear hs hc
  have hsk := sha_len key
  obtain ⟨k, hk⟩ : ∃ k, sha key = k := ⟨_, rfl⟩
  have HK := hid hk
  rw [hk] at hsum hsk
  have hform := fun w1 hl1 => refform_any (.slice ao l.length cap) l pt pk pv k w1 hl1 hsk hpk hpv hll HS.out
  clear hk
  have HFORM := hid hform
  have HSUM := hid hsum
  clear hform hsum
  go_enter Tryd.func10, Tryd.ntmps10
  cases there
  · clear h1000
    go_wp2_with fail
    refine HSUM.out.mono ?_
    rintro e w1 ⟨rfl, fa⟩
    have fr := f1.trans fa
    have hb := fa.at_ hb1 (fun h => h)
    clear f1 hb1 fa HSUM
    have c0 := cell_at hb 0
    have c1 := cell_at hb 1
    have c2 := cell_at hb 2
    have c3 := cell_at hb 3
    simp at c0 c1 c2 c3
    go_wp2_with fail
    refine (HFORM.out w1 ⟨ao, cap, rfl, fun j s hj => by
      obtain ⟨bb, off, e1, e2, e3⟩ := HC.out j s hj
      exact ⟨bb, off, e1, Nat.lt_of_lt_of_le e2 fr.size, (fr.cell (p := ⟨bb, off + j, none⟩) e2 (fun h => h)).trans e3⟩⟩).mono ?_
    rintro e w2 ⟨rfl, fa⟩
    have frb := fr.trans fa
    have hb := fa.at_ hb (fun h => h)
    clear fa fr c0 c1 c2 c3 HFORM
    have c0 := cell_at hb 0
    have c1 := cell_at hb 1
    have c2 := cell_at hb 2
    have c3 := cell_at hb 3
    simp at c0 c1 c2 c3
    cases hfo : formOf l pt pk pv k
    · have hF : Hid (checkOf l pt pk pv key value false root = 240) := by
        rw [Hid, hC.out, if_pos]
        simp only [fits, HK.out, hfo, Bool.false_and]
      clear hC
      go_wp2_with fail
      go_ret
      exact ⟨by rw [hF.out]; rfl, frb⟩
    · cases pt
      · have HG : Hid (checkOf l false pk pv key value false root = if climb k 0 l (ground false pk pv) = root then 0 else 241) := by
          rw [Hid, hC.out, if_neg]
          · rw [HK.out]
          · simp only [fits, HK.out, hfo]; simp
        have HL32 : Hid (∀ s ∈ l, s.length = 32) := hid (H32.out (by simp only [fits, HK.out, hfo]; simp))
        have HLEN : Hid (l.length ≤ 256) := by simp only [formOf, Bool.and_eq_true, decide_eq_true_eq] at hfo; exact hfo.1.1
        clear hC H32 hfo
        go_wp2_with fail
        go_quiet (fail)
        have frb := frb.drewN nq
        have hb : (w2.drewN nq).heap[w.heap.size]? = _ := hb
        clear c0 c1 c2 c3
        generalize w2.drewN nq = w4 at frb hb ⊢
        have c0 := cell_at hb 0
        have c1 := cell_at hb 1
        have c2 := cell_at hb 2
        have c3 := cell_at hb 3
        simp at c0 c1 c2 c3
        go_wp2_with fail
        refine (noughts_any _).mono ?_
        rintro e w3 ⟨rfl, fa⟩
        have frc := frb.trans fa
        have hb := fa.at_ hb (fun h => h)
        clear fa frb c0 c1 c2 c3
        have c0 := cell_at hb 0
        have c1 := cell_at hb 1
        have c2 := cell_at hb 2
        have c3 := cell_at hb 3
        simp at c0 c1 c2 c3
        have hcat := str_cat
        go_wp2_with fail
        have frd := frc
        clear frc
        obtain ⟨g, hg⟩ : ∃ g, nought32 = g := ⟨_, rfl⟩
        have hgl : g.length = 32 := by subst hg; first | exact sha_len _ | simp [nought32]
        have HG2 : Hid (checkOf l false pk pv key value false root = if climb k 0 l g = root then 0 else 241) := by rw [Hid, HG.out, ← hg]; try rfl
        clear HG
        rw [hg]
        clear hg
        go_loopw [13, 14] (fun hv i wr => ∃ (n : Nat), hv = .string (str (climb k n (l.drop n) g)) ∧ i = .int .i64 ((n : Int) - 1) ∧ n ≤ l.length ∧ wr.heap[w.heap.size]? = some (.cells #[.slice ao l.length cap, .bool false, .string (str pk), .string (str pv)] 24 (0, 0)) ∧ Fresh w wr) (fun _ i _ => (intOf i + 1).toNat)
        case atStart => exact ⟨l.length, by rw [List.drop_length]; rfl, rfl, Nat.le_refl _, hb, frd⟩
        case round =>
          obtain ⟨n, rfl, rfl, hn, hb, hf⟩ := hrel
          clear c0 c1 c2 c3 frd
          have c0 := cell_at hb 0
          have c1 := cell_at hb 1
          have c2 := cell_at hb 2
          have c3 := cell_at hb 3
          simp at c0 c1 c2 c3
          have hcl := climb_length k (l.drop n) g hgl n
          cases n with
          | zero =>
            have HG3 : Hid (checkOf l false pk pv key value false root = if climb k 0 (l.drop 0) g = root then 0 else 241) := by rw [Hid, HG2.out, List.drop_zero]
            obtain ⟨h, hh⟩ : ∃ h, climb k 0 (l.drop 0) g = h := ⟨_, rfl⟩
            rw [hh] at HG3 ⊢
            clear hh HG2 hcl
            by_cases he : h = root
            · have hne : ((str h).toList == (str root).toList) = true := by rw [he]; simp
              have HG4 : Hid (checkOf l false pk pv key value false root = 0) := by rw [Hid, HG3.out, if_pos he]
              clear he HG3
              go_wp2_with fail
              go_ret
              exact ⟨by rw [HG4.out]; rfl, hf⟩
            · have hne : ((str h).toList == (str root).toList) = false := by rw [str_toList, str_toList]; simp [he]
              have HG4 : Hid (checkOf l false pk pv key value false root = 241) := by rw [Hid, HG3.out, if_neg he]
              clear he HG3
              go_wp2_with fail
              go_ret
              exact ⟨by rw [HG4.out]; rfl, hf⟩
          | succ m =>
            obtain ⟨s, hs⟩ : ∃ s, l[m]? = some s := ⟨l[m], by first | (simp; omega) | simp⟩
            have hs32 := HL32.out s (List.mem_of_getElem? hs)
            have HCL := hid (climb_at k l g m s hs)
            obtain ⟨bb, off, hao, hbb, hcw⟩ := HC.out m s hs
            have hcell := (hf.cell (p := ⟨bb, off + m, none⟩) hbb (fun h => h)).trans hcw
            obtain ⟨h, hh⟩ : ∃ h, climb k (m + 1) (l.drop (m + 1)) g = h := ⟨_, rfl⟩
            have hmi : (((m + 1 : Nat) : Int) - 1) = (m : Int) := by omega
            rw [hh] at HCL hcl ⊢
            rw [hmi]
            clear hh hmi hs hcw
            subst hao
            have hls := HLEN.out
            have hsh := str_size h
            have hss := str_size s
            have hs1 : (str (3 :: h)).size = h.length + 1 := str_size _
            have hs2 : (str (3 :: s)).size = s.length + 1 := str_size _
            have e1 : (⟨#[3]⟩ : ByteArray) = str [3] := rfl
            have hov1 : ¬ 9223372036854775807 < 1 + h.length := by omega
            have hov2 : ¬ 9223372036854775807 < h.length + 1 + s.length := by omega
            have hov3 : ¬ 9223372036854775807 < 1 + s.length := by omega
            have hov4 : ¬ 9223372036854775807 < s.length + 1 + h.length := by omega
            have HB3 : Hid ((3 :: (h ++ s)).length ≤ 70368744177664) := by simp [Hid]; omega
            have HB4 : Hid ((3 :: (s ++ h)).length ≤ 70368744177664) := by simp [Hid]; omega
            clear hcl
            go_wp2_with fail
            refine (refbit_any k m _ (by omega) (by omega)).mono ?_
            rintro e w5 ⟨rfl, rfl⟩
            clear hls
            by_cases hbit : bitAt k m = 0
            · have hbi : ((bitAt k m : Int) == 0) = true := by rw [hbit]; rfl
              have hR : Hid (climb k m (l.drop m) g = sha (3 :: (h ++ s))) := by rw [Hid, HCL.out, rung, if_pos hbit]
              clear hbit HCL
              go_wp2_with fail
              refine (refsum_any (3 :: (h ++ s)) _ HB3.out).mono ?_
              rintro e w6 ⟨rfl, fa⟩
              have frd := hf.trans fa
              have hb := fa.at_ hb (fun h => h)
              clear fa hf
              go_wp2
              go_roundw
              case rel => exact ⟨m, by rw [hR.out], by try rfl, by omega, hb, frd⟩
              case measure => simp [intOf] <;> omega
            · have hbn : (bitAt k m : Int) ≠ 0 := by omega
              have hbi : ((bitAt k m : Int) == 0) = false := by simp [hbit]
              clear hbn
              have hR : Hid (climb k m (l.drop m) g = sha (3 :: (s ++ h))) := by rw [Hid, HCL.out, rung, if_neg hbit]
              clear hbit HCL
              go_wp2_with fail
              refine (refsum_any (3 :: (s ++ h)) _ HB4.out).mono ?_
              rintro e w6 ⟨rfl, fa⟩
              have frd := hf.trans fa
              have hb := fa.at_ hb (fun h => h)
              clear fa hf
              go_wp2
              go_roundw
              case rel => exact ⟨m, by rw [hR.out], by try rfl, by omega, hb, frd⟩
              case measure => simp [intOf] <;> omega
      · by_cases hpkk : pk = k
        · have hne : ((str pk).toList == (str k).toList) = true := by rw [hpkk]; simp
          have hF : Hid (checkOf l true pk pv key value false root = 240) := by
            rw [Hid, hC.out, if_pos]
            simp only [fits, HK.out, hfo, decide_eq_true hpkk]; simp
          clear hC hpkk
          go_wp2_with fail
          go_quiet (fail)
          have frb := frb.drewN nq
          have hb : (w2.drewN nq).heap[w.heap.size]? = _ := hb
          clear c0 c1 c2 c3
          generalize w2.drewN nq = w4 at frb hb ⊢
          have c0 := cell_at hb 0
          have c1 := cell_at hb 1
          have c2 := cell_at hb 2
          have c3 := cell_at hb 3
          simp at c0 c1 c2 c3
          go_wp2_with fail
          go_ret
          exact ⟨by rw [hF.out]; rfl, frb⟩
        · have hne : ((str pk).toList == (str k).toList) = false := by rw [str_toList, str_toList]; simp [hpkk]
          have hfi : fits l true pk pv key value false = true := by simp only [fits, HK.out, hfo, decide_eq_false hpkk]; simp
          have HG : Hid (checkOf l true pk pv key value false root = if climb k 0 l (ground true pk pv) = root then 0 else 241) := by
            rw [Hid, hC.out, if_neg, HK.out]
            rw [hfi]; simp
          have HL32 : Hid (∀ s ∈ l, s.length = 32) := hid (H32.out hfi)
          have HLEN : Hid (l.length ≤ 256) := by simp only [formOf, Bool.and_eq_true, decide_eq_true_eq] at hfo; exact hfo.1.1
          have HPK : Hid (pk.length = 32 ∧ pv.length = 32) := by simp [formOf] at hfo; exact ⟨hfo.2.1.1, hfo.2.1.2⟩
          clear hC H32 hfo hpkk hfi
          go_wp2_with fail
          go_quiet (fail)
          have frb := frb.drewN nq
          have hb : (w2.drewN nq).heap[w.heap.size]? = _ := hb
          clear c0 c1 c2 c3
          generalize w2.drewN nq = w4 at frb hb ⊢
          have c0 := cell_at hb 0
          have c1 := cell_at hb 1
          have c2 := cell_at hb 2
          have c3 := cell_at hb 3
          simp at c0 c1 c2 c3
          go_wp2_with fail
          refine (noughts_any _).mono ?_
          rintro e w3 ⟨rfl, fa⟩
          have frc := frb.trans fa
          have hb := fa.at_ hb (fun h => h)
          clear fa frb c0 c1 c2 c3
          have c0 := cell_at hb 0
          have c1 := cell_at hb 1
          have c2 := cell_at hb 2
          have c3 := cell_at hb 3
          simp at c0 c1 c2 c3
          have hcat := str_cat
          have hov1 : ¬ 9223372036854775807 < 1 + pk.length := by have := HPK.out.1; omega
          have hov2 : ¬ 9223372036854775807 < pk.length + 1 + pv.length := by have := HPK.out.1; have := HPK.out.2; omega
          have hs1 := str_size pk
          have hs2 := str_size pv
          have hs3 : (str (2 :: pk)).size = pk.length + 1 := str_size _
          have e1 : (⟨#[2]⟩ : ByteArray) = str [2] := rfl
          go_wp2_with fail
          refine (refsum_any (2 :: (pk ++ pv)) _ (by have := HPK.out.1; have := HPK.out.2; simp; omega)).mono ?_
          rintro e w4 ⟨rfl, fa⟩
          have frd := frc.trans fa
          have hb := fa.at_ hb (fun h => h)
          clear fa frc c0 c1 c2 c3 hov1 hov2 hs1 hs2 hs3 e1
          have c0 := cell_at hb 0
          have c1 := cell_at hb 1
          have c2 := cell_at hb 2
          have c3 := cell_at hb 3
          simp at c0 c1 c2 c3
          go_wp2_with fail
          obtain ⟨g, hg⟩ : ∃ g, sha (2 :: (pk ++ pv)) = g := ⟨_, rfl⟩
          have hgl : g.length = 32 := by subst hg; first | exact sha_len _ | simp [nought32]
          have HG2 : Hid (checkOf l true pk pv key value false root = if climb k 0 l g = root then 0 else 241) := by rw [Hid, HG.out, ← hg]; try rfl
          clear HG
          rw [hg]
          clear hg
          go_loopw [13, 14] (fun hv i wr => ∃ (n : Nat), hv = .string (str (climb k n (l.drop n) g)) ∧ i = .int .i64 ((n : Int) - 1) ∧ n ≤ l.length ∧ wr.heap[w.heap.size]? = some (.cells #[.slice ao l.length cap, .bool true, .string (str pk), .string (str pv)] 24 (0, 0)) ∧ Fresh w wr) (fun _ i _ => (intOf i + 1).toNat)
          case atStart => exact ⟨l.length, by rw [List.drop_length]; rfl, rfl, Nat.le_refl _, hb, frd⟩
          case round =>
            obtain ⟨n, rfl, rfl, hn, hb, hf⟩ := hrel
            clear c0 c1 c2 c3 frd
            have c0 := cell_at hb 0
            have c1 := cell_at hb 1
            have c2 := cell_at hb 2
            have c3 := cell_at hb 3
            simp at c0 c1 c2 c3
            have hcl := climb_length k (l.drop n) g hgl n
            cases n with
            | zero =>
              have HG3 : Hid (checkOf l true pk pv key value false root = if climb k 0 (l.drop 0) g = root then 0 else 241) := by rw [Hid, HG2.out, List.drop_zero]
              obtain ⟨h, hh⟩ : ∃ h, climb k 0 (l.drop 0) g = h := ⟨_, rfl⟩
              rw [hh] at HG3 ⊢
              clear hh HG2 hcl
              by_cases he : h = root
              · have hne : ((str h).toList == (str root).toList) = true := by rw [he]; simp
                have HG4 : Hid (checkOf l true pk pv key value false root = 0) := by rw [Hid, HG3.out, if_pos he]
                clear he HG3
                go_wp2_with fail
                go_ret
                exact ⟨by rw [HG4.out]; rfl, hf⟩
              · have hne : ((str h).toList == (str root).toList) = false := by rw [str_toList, str_toList]; simp [he]
                have HG4 : Hid (checkOf l true pk pv key value false root = 241) := by rw [Hid, HG3.out, if_neg he]
                clear he HG3
                go_wp2_with fail
                go_ret
                exact ⟨by rw [HG4.out]; rfl, hf⟩
            | succ m =>
              obtain ⟨s, hs⟩ : ∃ s, l[m]? = some s := ⟨l[m], by first | (simp; omega) | simp⟩
              have hs32 := HL32.out s (List.mem_of_getElem? hs)
              have HCL := hid (climb_at k l g m s hs)
              obtain ⟨bb, off, hao, hbb, hcw⟩ := HC.out m s hs
              have hcell := (hf.cell (p := ⟨bb, off + m, none⟩) hbb (fun h => h)).trans hcw
              obtain ⟨h, hh⟩ : ∃ h, climb k (m + 1) (l.drop (m + 1)) g = h := ⟨_, rfl⟩
              have hmi : (((m + 1 : Nat) : Int) - 1) = (m : Int) := by omega
              rw [hh] at HCL hcl ⊢
              rw [hmi]
              clear hh hmi hs hcw
              subst hao
              have hls := HLEN.out
              have hsh := str_size h
              have hss := str_size s
              have hs1 : (str (3 :: h)).size = h.length + 1 := str_size _
              have hs2 : (str (3 :: s)).size = s.length + 1 := str_size _
              have e1 : (⟨#[3]⟩ : ByteArray) = str [3] := rfl
              have hov1 : ¬ 9223372036854775807 < 1 + h.length := by omega
              have hov2 : ¬ 9223372036854775807 < h.length + 1 + s.length := by omega
              have hov3 : ¬ 9223372036854775807 < 1 + s.length := by omega
              have hov4 : ¬ 9223372036854775807 < s.length + 1 + h.length := by omega
              have HB3 : Hid ((3 :: (h ++ s)).length ≤ 70368744177664) := by simp [Hid]; omega
              have HB4 : Hid ((3 :: (s ++ h)).length ≤ 70368744177664) := by simp [Hid]; omega
              clear hcl
              go_wp2_with fail
              refine (refbit_any k m _ (by omega) (by omega)).mono ?_
              rintro e w5 ⟨rfl, rfl⟩
              clear hls
              by_cases hbit : bitAt k m = 0
              · have hbi : ((bitAt k m : Int) == 0) = true := by rw [hbit]; rfl
                have hR : Hid (climb k m (l.drop m) g = sha (3 :: (h ++ s))) := by rw [Hid, HCL.out, rung, if_pos hbit]
                clear hbit HCL
                go_wp2_with fail
                refine (refsum_any (3 :: (h ++ s)) _ HB3.out).mono ?_
                rintro e w6 ⟨rfl, fa⟩
                have frd := hf.trans fa
                have hb := fa.at_ hb (fun h => h)
                clear fa hf
                go_wp2
                go_roundw
                case rel => exact ⟨m, by rw [hR.out], by try rfl, by omega, hb, frd⟩
                case measure => simp [intOf] <;> omega
              · have hbn : (bitAt k m : Int) ≠ 0 := by omega
                have hbi : ((bitAt k m : Int) == 0) = false := by simp [hbit]
                clear hbn
                have hR : Hid (climb k m (l.drop m) g = sha (3 :: (s ++ h))) := by rw [Hid, HCL.out, rung, if_neg hbit]
                clear hbit HCL
                go_wp2_with fail
                refine (refsum_any (3 :: (s ++ h)) _ HB4.out).mono ?_
                rintro e w6 ⟨rfl, fa⟩
                have frd := hf.trans fa
                have hb := fa.at_ hb (fun h => h)
                clear fa hf
                go_wp2
                go_roundw
                case rel => exact ⟨m, by rw [hR.out], by try rfl, by omega, hb, frd⟩
                case measure => simp [intOf] <;> omega

  · have h1000 : ¬ 1000 < value.length := fun h => h1000 ⟨rfl, h⟩
    go_wp2_with fail
    refine HSUM.out.mono ?_
    rintro e w1 ⟨rfl, fa⟩
    have fr := f1.trans fa
    have hb := fa.at_ hb1 (fun h => h)
    clear f1 hb1 fa HSUM
    have c0 := cell_at hb 0
    have c1 := cell_at hb 1
    have c2 := cell_at hb 2
    have c3 := cell_at hb 3
    simp at c0 c1 c2 c3
    go_wp2_with fail
    refine (HFORM.out w1 ⟨ao, cap, rfl, fun j s hj => by
      obtain ⟨bb, off, e1, e2, e3⟩ := HC.out j s hj
      exact ⟨bb, off, e1, Nat.lt_of_lt_of_le e2 fr.size, (fr.cell (p := ⟨bb, off + j, none⟩) e2 (fun h => h)).trans e3⟩⟩).mono ?_
    rintro e w2 ⟨rfl, fa⟩
    have frb := fr.trans fa
    have hb := fa.at_ hb (fun h => h)
    clear fa fr c0 c1 c2 c3 HFORM
    have c0 := cell_at hb 0
    have c1 := cell_at hb 1
    have c2 := cell_at hb 2
    have c3 := cell_at hb 3
    simp at c0 c1 c2 c3
    cases hfo : formOf l pt pk pv k
    · have hF : Hid (checkOf l pt pk pv key value true root = 240) := by
        rw [Hid, hC.out, if_pos]
        simp only [fits, HK.out, hfo, Bool.false_and]
      clear hC
      go_wp2_with fail
      go_ret
      exact ⟨by rw [hF.out]; rfl, frb⟩
    · cases pt
      · have hF : Hid (checkOf l false pk pv key value true root = 240) := by
          rw [Hid, hC.out, if_pos]
          simp only [fits, HK.out, hfo]; simp
        clear hC
        go_wp2_with fail
        go_quiet (fail)
        have frb := frb.drewN nq
        have hb : (w2.drewN nq).heap[w.heap.size]? = _ := hb
        clear c0 c1 c2 c3
        generalize w2.drewN nq = w4 at frb hb ⊢
        have c0 := cell_at hb 0
        have c1 := cell_at hb 1
        have c2 := cell_at hb 2
        have c3 := cell_at hb 3
        simp at c0 c1 c2 c3
        go_wp2_with fail
        go_ret
        exact ⟨by rw [hF.out]; rfl, frb⟩
      · by_cases hpkk : pk = k
        · obtain ⟨sv, hsv⟩ : ∃ sv, sha value = sv := ⟨_, rfl⟩
          have hsumv := fun w5 => refsum_any value w5 (by omega)
          rw [hsv] at hsumv
          have HSV := hid hsumv
          have HSVE := hid hsv
          clear hsumv
          have hne : ((str pk).toList == (str k).toList) = true := by rw [hpkk]; simp
          by_cases hpvv : pv = sv
          · have hne2 : ((str pv).toList == (str sv).toList) = true := by rw [hpvv]; simp
            have hfi : fits l true pk pv key value true = true := by simp only [fits, HK.out, hfo, hsv, decide_eq_true hpkk, decide_eq_true hpvv]; simp
            have HG : Hid (checkOf l true pk pv key value true root = if climb k 0 l (ground true pk pv) = root then 0 else 241) := by
              rw [Hid, hC.out, if_neg, HK.out]
              rw [hfi]; simp
            have HL32 : Hid (∀ s ∈ l, s.length = 32) := hid (H32.out hfi)
            have HLEN : Hid (l.length ≤ 256) := by simp only [formOf, Bool.and_eq_true, decide_eq_true_eq] at hfo; exact hfo.1.1
            have HPK : Hid (pk.length = 32 ∧ pv.length = 32) := by simp [formOf] at hfo; exact ⟨hfo.2.1.1, hfo.2.1.2⟩
            clear hC H32 hfo hpkk hfi hpvv hsv
            have frd := frb.drew
            have hbd : w2.drew.heap[w.heap.size]? = _ := hb
            go_wp2_with fail
            go_region_law (first | (go_simp; go_at_call 29; refine (HSV.out _).mono ?_; rintro e w5 ⟨rfl, fa⟩; have frc := frd.trans fa; have hb := fa.at_ hbd (fun h => h); have d0 := cell_at hb 0; have d1 := cell_at hb 1; have d2 := cell_at hb 2; have d3 := cell_at hb 3; simp at d0 d1 d2 d3))
            all_goals
              clear c0 c1 c2 c3 frb frd hbd
              have frb := frc
              have c0 := d0
              have c1 := d1
              have c2 := d2
              have c3 := d3
              clear frc d0 d1 d2 d3
              go_wp2_with fail
              refine (noughts_any _).mono ?_
              rintro e w3 ⟨rfl, fa⟩
              have frc := frb.trans fa
              have hb := fa.at_ hb (fun h => h)
              clear fa frb c0 c1 c2 c3
              have c0 := cell_at hb 0
              have c1 := cell_at hb 1
              have c2 := cell_at hb 2
              have c3 := cell_at hb 3
              simp at c0 c1 c2 c3
              have hcat := str_cat
              have hov1 : ¬ 9223372036854775807 < 1 + pk.length := by have := HPK.out.1; omega
              have hov2 : ¬ 9223372036854775807 < pk.length + 1 + pv.length := by have := HPK.out.1; have := HPK.out.2; omega
              have hs1 := str_size pk
              have hs2 := str_size pv
              have hs3 : (str (2 :: pk)).size = pk.length + 1 := str_size _
              have e1 : (⟨#[2]⟩ : ByteArray) = str [2] := rfl
              go_wp2_with fail
              refine (refsum_any (2 :: (pk ++ pv)) _ (by have := HPK.out.1; have := HPK.out.2; simp; omega)).mono ?_
              rintro e w4 ⟨rfl, fa⟩
              have frd := frc.trans fa
              have hb := fa.at_ hb (fun h => h)
              clear fa frc c0 c1 c2 c3 hov1 hov2 hs1 hs2 hs3 e1
              have c0 := cell_at hb 0
              have c1 := cell_at hb 1
              have c2 := cell_at hb 2
              have c3 := cell_at hb 3
              simp at c0 c1 c2 c3
              go_wp2_with fail
              obtain ⟨g, hg⟩ : ∃ g, sha (2 :: (pk ++ pv)) = g := ⟨_, rfl⟩
              have hgl : g.length = 32 := by subst hg; first | exact sha_len _ | simp [nought32]
              have HG2 : Hid (checkOf l true pk pv key value true root = if climb k 0 l g = root then 0 else 241) := by rw [Hid, HG.out, ← hg]; try rfl
              clear HG
              rw [hg]
              clear hg
              go_loopw [13, 14] (fun hv i wr => ∃ (n : Nat), hv = .string (str (climb k n (l.drop n) g)) ∧ i = .int .i64 ((n : Int) - 1) ∧ n ≤ l.length ∧ wr.heap[w.heap.size]? = some (.cells #[.slice ao l.length cap, .bool true, .string (str pk), .string (str pv)] 24 (0, 0)) ∧ Fresh w wr) (fun _ i _ => (intOf i + 1).toNat)
              case atStart => exact ⟨l.length, by rw [List.drop_length]; rfl, rfl, Nat.le_refl _, hb, frd⟩
              case round =>
                obtain ⟨n, rfl, rfl, hn, hb, hf⟩ := hrel
                clear c0 c1 c2 c3 frd
                have c0 := cell_at hb 0
                have c1 := cell_at hb 1
                have c2 := cell_at hb 2
                have c3 := cell_at hb 3
                simp at c0 c1 c2 c3
                have hcl := climb_length k (l.drop n) g hgl n
                cases n with
                | zero =>
                  have HG3 : Hid (checkOf l true pk pv key value true root = if climb k 0 (l.drop 0) g = root then 0 else 241) := by rw [Hid, HG2.out, List.drop_zero]
                  obtain ⟨h, hh⟩ : ∃ h, climb k 0 (l.drop 0) g = h := ⟨_, rfl⟩
                  rw [hh] at HG3 ⊢
                  clear hh HG2 hcl
                  by_cases he : h = root
                  · have hne : ((str h).toList == (str root).toList) = true := by rw [he]; simp
                    have HG4 : Hid (checkOf l true pk pv key value true root = 0) := by rw [Hid, HG3.out, if_pos he]
                    clear he HG3
                    go_wp2_with fail
                    go_ret
                    exact ⟨by rw [HG4.out]; rfl, hf⟩
                  · have hne : ((str h).toList == (str root).toList) = false := by rw [str_toList, str_toList]; simp [he]
                    have HG4 : Hid (checkOf l true pk pv key value true root = 241) := by rw [Hid, HG3.out, if_neg he]
                    clear he HG3
                    go_wp2_with fail
                    go_ret
                    exact ⟨by rw [HG4.out]; rfl, hf⟩
                | succ m =>
                  obtain ⟨s, hs⟩ : ∃ s, l[m]? = some s := ⟨l[m], by first | (simp; omega) | simp⟩
                  have hs32 := HL32.out s (List.mem_of_getElem? hs)
                  have HCL := hid (climb_at k l g m s hs)
                  obtain ⟨bb, off, hao, hbb, hcw⟩ := HC.out m s hs
                  have hcell := (hf.cell (p := ⟨bb, off + m, none⟩) hbb (fun h => h)).trans hcw
                  obtain ⟨h, hh⟩ : ∃ h, climb k (m + 1) (l.drop (m + 1)) g = h := ⟨_, rfl⟩
                  have hmi : (((m + 1 : Nat) : Int) - 1) = (m : Int) := by omega
                  rw [hh] at HCL hcl ⊢
                  rw [hmi]
                  clear hh hmi hs hcw
                  subst hao
                  have hls := HLEN.out
                  have hsh := str_size h
                  have hss := str_size s
                  have hs1 : (str (3 :: h)).size = h.length + 1 := str_size _
                  have hs2 : (str (3 :: s)).size = s.length + 1 := str_size _
                  have e1 : (⟨#[3]⟩ : ByteArray) = str [3] := rfl
                  have hov1 : ¬ 9223372036854775807 < 1 + h.length := by omega
                  have hov2 : ¬ 9223372036854775807 < h.length + 1 + s.length := by omega
                  have hov3 : ¬ 9223372036854775807 < 1 + s.length := by omega
                  have hov4 : ¬ 9223372036854775807 < s.length + 1 + h.length := by omega
                  have HB3 : Hid ((3 :: (h ++ s)).length ≤ 70368744177664) := by simp [Hid]; omega
                  have HB4 : Hid ((3 :: (s ++ h)).length ≤ 70368744177664) := by simp [Hid]; omega
                  clear hcl
                  go_wp2_with fail
                  refine (refbit_any k m _ (by omega) (by omega)).mono ?_
                  rintro e w5 ⟨rfl, rfl⟩
                  clear hls
                  by_cases hbit : bitAt k m = 0
                  · have hbi : ((bitAt k m : Int) == 0) = true := by rw [hbit]; rfl
                    have hR : Hid (climb k m (l.drop m) g = sha (3 :: (h ++ s))) := by rw [Hid, HCL.out, rung, if_pos hbit]
                    clear hbit HCL
                    go_wp2_with fail
                    refine (refsum_any (3 :: (h ++ s)) _ HB3.out).mono ?_
                    rintro e w6 ⟨rfl, fa⟩
                    have frd := hf.trans fa
                    have hb := fa.at_ hb (fun h => h)
                    clear fa hf
                    go_wp2
                    go_roundw
                    case rel => exact ⟨m, by rw [hR.out], by try rfl, by omega, hb, frd⟩
                    case measure => simp [intOf] <;> omega
                  · have hbn : (bitAt k m : Int) ≠ 0 := by omega
                    have hbi : ((bitAt k m : Int) == 0) = false := by simp [hbit]
                    clear hbn
                    have hR : Hid (climb k m (l.drop m) g = sha (3 :: (s ++ h))) := by rw [Hid, HCL.out, rung, if_neg hbit]
                    clear hbit HCL
                    go_wp2_with fail
                    refine (refsum_any (3 :: (s ++ h)) _ HB4.out).mono ?_
                    rintro e w6 ⟨rfl, fa⟩
                    have frd := hf.trans fa
                    have hb := fa.at_ hb (fun h => h)
                    clear fa hf
                    go_wp2
                    go_roundw
                    case rel => exact ⟨m, by rw [hR.out], by try rfl, by omega, hb, frd⟩
                    case measure => simp [intOf] <;> omega

          · have hne2 : ((str pv).toList == (str sv).toList) = false := by rw [str_toList, str_toList]; simp [hpvv]
            have hF : Hid (checkOf l true pk pv key value true root = 240) := by
              rw [Hid, hC.out, if_pos]
              simp only [fits, HK.out, hfo, hsv, decide_eq_false hpvv]; simp
            clear hC hpkk hpvv H32 hsv
            have frd := frb.drew
            have hbd : w2.drew.heap[w.heap.size]? = _ := hb
            go_wp2_with fail
            go_region_law (first | (go_simp; go_at_call 29; refine (HSV.out _).mono ?_; rintro e w5 ⟨rfl, fa⟩; have frc := frd.trans fa; have hb := fa.at_ hbd (fun h => h); have d0 := cell_at hb 0; have d1 := cell_at hb 1; have d2 := cell_at hb 2; have d3 := cell_at hb 3; simp at d0 d1 d2 d3))
            all_goals
              clear c0 c1 c2 c3 frb frd hbd
              go_wp2_with fail
              go_ret
              exact ⟨by rw [hF.out]; rfl, frc⟩
        · have hne : ((str pk).toList == (str k).toList) = false := by rw [str_toList, str_toList]; simp [hpkk]
          have hF : Hid (checkOf l true pk pv key value true root = 240) := by
            rw [Hid, hC.out, if_pos]
            simp only [fits, HK.out, hfo, decide_eq_false hpkk]; simp
          clear hC hpkk
          go_wp2_with fail
          go_quiet (fail)
          have frb := frb.drewN nq
          have hb : (w2.drewN nq).heap[w.heap.size]? = _ := hb
          clear c0 c1 c2 c3
          generalize w2.drewN nq = w4 at frb hb ⊢
          have c0 := cell_at hb 0
          have c1 := cell_at hb 1
          have c2 := cell_at hb 2
          have c3 := cell_at hb 3
          simp at c0 c1 c2 c3
          go_wp2_with fail
          go_ret
          exact ⟨by rw [hF.out]; rfl, frb⟩
end Go.Proofs.YtmflbchiapdhbaaDoor
