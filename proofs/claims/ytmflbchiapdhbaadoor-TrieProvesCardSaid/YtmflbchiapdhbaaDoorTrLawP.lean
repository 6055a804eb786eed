/-
  TrieProves: the law's walk.
-/
import Derived.Test.YtmflbchiapdhbaaDoorMTrG
import Derived.Test.YtmflbchiapdhbaaDoorTrProveN
import Derived.Test.YtmflbchiapdhbaaDoorTrKnown
import Derived.Test.YtmflbchiapdhbaaDoorTrCheck
namespace Go.Proofs.YtmflbchiapdhbaaDoor
open Go.RowKit

theorem with_same {t : Tr} (hg : Tr.Good (fun _ => 0) 0 t) (key : List UInt8) (h : t.has (sha key) = true) : (t.added key (t.got (sha key))).hash = t.hash := by
  obtain ⟨key0, he⟩ := has_leaf hg (sha key) h
  exact put_hash key _ _ key0 _ (sha key) t 0 _ hg he
theorem with_cut {t : Tr} (hg : Tr.Good (fun _ => 0) 0 t) (key value : List UInt8) (hkey : key.length ≤ 200) (hval : value.length ≤ 1000) (h : t.has (sha key) = false) : Tr.cut (sha key) 0 (t.added key value) = (t, true) :=
  put_cut (leafOk_of key value hkey hval) t 0 _ (by omega) hg (fun i hi => by omega) (hasnt_leaf (sha key) h)

set_option maxRecDepth 100000 in
set_option maxHeartbeats 8000000 in
theorem provelaw_any (v1 v2 : Value) (l1 l2 : List (List UInt8)) (key other root : List UInt8) (w : World) (h1 : TextsAt w v1 l1) (h2 : TextsAt w v2 l2) (hd : Dig w) (hl1 : l1.length ≤ 9223372036854775807) (hl2 : l2.length ≤ 9223372036854775807) (hs1 : ∀ s ∈ l1, s.length ≤ 9223372036854775807) (hs2 : ∀ s ∈ l2, s.length ≤ 9223372036854775807) (hkey : key.length ≤ 9223372036854775807) (hother : other.length ≤ 9223372036854775807) :
    Calls Tryd.prog 4 #[v1, v2, .string (str key), .string (str other), .string (str root)] w fun e w' => e = .returned (.bool true) ∧ Fresh w w' := by
  have hszk := str_size key
  have hszo := str_size other
  go_enter Tryd.func4, Tryd.ntmps4
  go_wp2_with fail
  refine (known_any _ hd).mono ?_
  rintro e w1 ⟨rfl, f1⟩
  go_wp2_with fail
  refine (lawfilled_any v1 v2 l1 l2 w1 (h1.fresh f1) (h2.fresh f1) (hd.fresh f1) hl1 hl2 hs1 hs2).mono ?_
  rintro e w2 ⟨b, rfl, hb, ⟨t, many, hm, hg⟩, f2⟩
  have fr := f1.trans f2
  have hbw : w.heap.size ≤ b := Nat.le_trans f1.size hb
  have hbg : 3 ≤ b := Nat.le_trans hd.room hbw
  have hdr := hd.fresh fr
  clear h1 h2 hs1 hs2 hl1 hl2 f1 f2 hb
  by_cases hlong : 200 < key.length
  · go_wp2_with fail
    refine (prove_long b key _ hlong hkey).mono ?_
    rintro e w3 ⟨rfl, fa⟩
    simp only [lookupVal]
    go_wp2_with fail
    go_ret
    exact ⟨rfl, (fr.trans fa).alloc _⟩
  · have hk2 : key.length ≤ 200 := by omega
    clear hkey
    have hright := own_right hg hk2
    have hwrong := own_wrong hg hk2
    have hoth := fun ho hh hn => own_other (t := t) hk2 other t.hash ho hh hn
    have hgot := got_short hg (sha key)
    have hsame := with_same hg key
    have hcut := with_cut hg key (t.got (sha key)) hk2 hgot
    have hwg := with_good hg hk2 hgot
    have hprove := prove_any b t many key w2 hm hg hdr hk2
    have hsides := dig_sides (sha key) t 0 _ hg
    have hdeep := Good.deep hg (sha key)
    have htold : (t.dig (sha key) 0).1.told.2.1.length ≤ 32 ∧ (t.dig (sha key) 0).1.told.2.2.length ≤ 32 := by
      have := dig_leaf (sha key) t 0 _ hg (fun i hi => by omega)
      generalize (t.dig (sha key) 0).1 = node at this ⊢
      cases node with
      | none => simp [Tr.told]
      | fork => simp [Tr.told]
      | leaf kk sm k0 v0 => exact ⟨by rw [Tr.told, (this kk sm k0 v0 rfl).1.len]; omega, by rw [Tr.told, sha_len]; omega⟩
    obtain ⟨k, hk⟩ : ∃ k, sha key = k := ⟨_, rfl⟩
    have hroot1 := fun W (hW : MapAt W b t many) => root_any b t many W hW
    have hget := fun W (hW : MapAt W b t many) (hD : Dig W) => get_any b t many key W hW hD hk2 (by rw [hk] at hdeep ⊢; exact hdeep)
    obtain ⟨sides, hse⟩ : ∃ sides, (t.dig (sha key) 0).2 = sides := ⟨_, rfl⟩
    obtain ⟨pt, hpt⟩ : ∃ pt, (t.dig (sha key) 0).1.told.1 = pt := ⟨_, rfl⟩
    obtain ⟨pk, hpk⟩ : ∃ pk, (t.dig (sha key) 0).1.told.2.1 = pk := ⟨_, rfl⟩
    obtain ⟨pv, hpv⟩ : ∃ pv, (t.dig (sha key) 0).1.told.2.2 = pv := ⟨_, rfl⟩
    obtain ⟨gv, hgv⟩ : ∃ gv, t.got (sha key) = gv := ⟨_, rfl⟩
    obtain ⟨hv, hhv⟩ : ∃ hv, t.has (sha key) = hv := ⟨_, rfl⟩
    obtain ⟨rh, hrh⟩ : ∃ rh, t.hash = rh := ⟨_, rfl⟩
    rw [hse, hpt, hpk, hpv, hgv, hhv, hrh] at hright
    rw [hse, hpt, hpk, hpv, hgv, hhv] at hwrong
    rw [hse, hpt, hpk, hpv, hgv, hhv, hrh] at hoth
    rw [hgv] at hgot hsame hcut hwg
    rw [hhv, hrh] at hsame
    rw [hhv] at hcut
    rw [hse] at hprove hsides hdeep
    simp only [lookupVal] at hprove
    rw [hpt, hpk, hpv] at hprove
    rw [hpk, hpv] at htold
    rw [hrh] at hroot1
    rw [hgv, hhv] at hget
    have hszg := str_size gv
    have hset := fun W hW hD => setok_any b t many key gv W hW hg hD hbg hk2 hgot
    rw [hhv] at hset
    obtain ⟨t2, ht2⟩ : ∃ t2, t.added key gv = t2 := ⟨_, rfl⟩
    rw [ht2] at hsame hcut hwg hset
    -- the walk
    have hc1 : ∀ (v : Value) W, TextsAt W v sides → Dig W → Calls Tryd.prog 8 #[.agg #[v, .bool pt, .string (str pk), .string (str pv)], .string (str key), .string (str gv), .bool hv, .string (str rh)] W fun e w' => e = .returned (.int .i64 0) ∧ Fresh W w' := fun v W hW hD => by
      have := check_any v sides pt pk pv key gv hv rh W hW hD (by omega) (by omega) (by omega) (by omega) (by omega) (fun s hs => by have := hsides s hs; omega)
      rwa [hright rh, if_pos rfl] at this
    have hc2 : ∀ (v : Value) W, TextsAt W v sides → Dig W → Calls Tryd.prog 8 #[.agg #[v, .bool pt, .string (str pk), .string (str pv)], .string (str key), .string (str gv), .bool (!hv), .string (str rh)] W fun e w' => e = .returned (.int .i64 240) ∧ Fresh W w' := fun v W hW hD => by
      have := check_any v sides pt pk pv key gv (!hv) rh W hW hD (by omega) (by omega) (by omega) (by omega) (by omega) (fun s hs => by have := hsides s hs; omega)
      rwa [hwrong rh] at this
    obtain ⟨qb, fv, hq, hfv, hc3⟩ : ∃ (qb : Bool) (fv : Int), ((str root).toList == (str rh).toList) = qb ∧ (fv == (0 : Int)) = qb ∧ ∀ (v : Value) W, TextsAt W v sides → Dig W → Calls Tryd.prog 8 #[.agg #[v, .bool pt, .string (str pk), .string (str pv)], .string (str key), .string (str gv), .bool hv, .string (str root)] W fun e w' => e = .returned (.int .i64 fv) ∧ Fresh W w' := by
      refine ⟨decide (root = rh), if rh = root then 0 else 241, by rw [str_toList, str_toList]; by_cases h : root = rh <;> simp [h], ?_, fun v W hW hD => ?_⟩
      · by_cases h : root = rh
        · simp [h]
        · have h2 : ¬ rh = root := fun e => h e.symm
          simp [h, h2]
      · have := check_any v sides pt pk pv key gv hv root W hW hD (by omega) (by omega) (by omega) (by omega) (by omega) (fun s hs => by have := hsides s hs; omega)
        rwa [hright root] at this
    have hc4 : other.length ≤ 1000 → hv = true → sha other ≠ sha gv → ∀ (v : Value) W, TextsAt W v sides → Dig W → Calls Tryd.prog 8 #[.agg #[v, .bool pt, .string (str pk), .string (str pv)], .string (str key), .string (str other), .bool true, .string (str rh)] W fun e w' => e = .returned (.int .i64 240) ∧ Fresh W w' := fun ho hh hn v W hW hD => by
      have := check_any v sides pt pk pv key other true rh W hW hD (by omega) (by omega) (by omega) (by omega) (by omega) (fun s hs => by have := hsides s hs; omega)
      rwa [hoth ho hh hn] at this
    have HROOT := hid hroot1
    have HGET := hid hget
    have HSET := hid hset
    have HPROVE := hid hprove
    have HC1 := hid hc1
    have HC2 := hid hc2
    have HC3 := hid hc3
    have HC4 := hid hc4
    have HSAME := hid hsame
    have HCUT := hid hcut
    have HWG := hid hwg
    have HRH := hid hrh
    clear hright hwrong hoth hsides hdeep htold hroot1 hget hset hprove hc1 hc2 hc3 hc4 hse hpt hpk hpv hgv hhv hrh hsame hcut hwg hg ht2 hk
    go_wp2_with fail
    refine HPROVE.out.mono ?_
    rintro e w3 ⟨v, rfl, fa, hown⟩
    have hT := hown.at_
    obtain ⟨ao, cp, rfl⟩ := ownsRow_slice hown.1
    have hm : MapAt w3 b t many := fa.at_ hm (fun h => h)
    have hD := hdr.fresh fa
    have fr := fr.trans fa
    clear fa hown hdr HPROVE
    go_wp2_with fail
    have hbox := heap_alloc_new w3 (.cells #[.slice ao sides.length cp, .bool pt, .string (str pk), .string (str pv)] 24)
    have fa : Fresh w3 (w3.alloc (.cells #[.slice ao sides.length cp, .bool pt, .string (str pk), .string (str pv)] 24)) := (Keeps.refl _ _).alloc _
    have hm := fa.at_ hm (fun h => h)
    have hD := hD.fresh fa
    have fr := fr.trans fa
    have hT := hT.fresh fa
    clear fa
    obtain ⟨pb, hpbe⟩ : ∃ pb, w3.heap.size = pb := ⟨_, rfl⟩
    rw [hpbe] at hbox ⊢
    generalize w3.alloc (.cells #[.slice ao sides.length cp, .bool pt, .string (str pk), .string (str pv)] 24) = W3 at hbox hm hD fr hT ⊢
    clear hpbe
    refine (HROOT.out _ hm).mono ?_
    rintro e w4 ⟨rfl, fa⟩
    have hm : MapAt w4 b t many := fa.at_ hm (fun h => h)
    have hbox := fa.at_ hbox (fun h => h)
    have hD := hD.fresh fa
    have fr := fr.trans fa
    have hT := hT.fresh fa
    clear fa
    go_wp2_with fail
    refine (HGET.out _ hm hD).mono ?_
    rintro e w5 ⟨rfl, fa⟩
    have hm : MapAt w5 b t many := fa.at_ hm (fun h => h)
    have hbox := fa.at_ hbox (fun h => h)
    have hD := hD.fresh fa
    have fr := fr.trans fa
    have hT := hT.fresh fa
    clear fa
    have c0 := cell_at hbox 0
    have c1 := cell_at hbox 1
    have c2 := cell_at hbox 2
    have c3 := cell_at hbox 3
    simp at c0 c1 c2 c3
    go_wp2_with fail
    refine (HC1.out _ _ hT hD).mono ?_
    rintro e w6 ⟨rfl, fa⟩
    clear c0 c1 c2 c3
    have hm : MapAt w6 b t many := fa.at_ hm (fun h => h)
    have hbox := fa.at_ hbox (fun h => h)
    have hD := hD.fresh fa
    have fr := fr.trans fa
    have hT := hT.fresh fa
    clear fa
    have c0 := cell_at hbox 0
    have c1 := cell_at hbox 1
    have c2 := cell_at hbox 2
    have c3 := cell_at hbox 3
    simp at c0 c1 c2 c3
    go_wp2_with fail
    refine (HC2.out _ _ hT hD).mono ?_
    rintro e w7 ⟨rfl, fa⟩
    clear c0 c1 c2 c3
    have hm : MapAt w7 b t many := fa.at_ hm (fun h => h)
    have hbox := fa.at_ hbox (fun h => h)
    have hD := hD.fresh fa
    have fr := fr.trans fa
    have hT := hT.fresh fa
    clear fa
    have c0 := cell_at hbox 0
    have c1 := cell_at hbox 1
    have c2 := cell_at hbox 2
    have c3 := cell_at hbox 3
    simp at c0 c1 c2 c3
    go_wp2_with fail
    refine (HC3.out _ _ hT hD).mono ?_
    rintro e w8 ⟨rfl, fa⟩
    clear c0 c1 c2 c3
    have hm : MapAt w8 b t many := fa.at_ hm (fun h => h)
    have hbox := fa.at_ hbox (fun h => h)
    have hD := hD.fresh fa
    have fr := fr.trans fa
    have hT := hT.fresh fa
    clear fa
    have c0 := cell_at hbox 0
    have c1 := cell_at hbox 1
    have c2 := cell_at hbox 2
    have c3 := cell_at hbox 3
    simp at c0 c1 c2 c3
    cases hv with
    | false =>
      clear c0 c1 c2 c3
      go_wp2_with fail
      refine (HSET.out _ hm hD).mono ?_
      rintro e w9 ⟨rfl, kb, hm9⟩
      have hD9 := hD.keepsOut (B := b) (h := b) (kb.mono (fun _ _ h => .inl h)) hbg hbg
      have fr9 : Fresh w w9 := fr.trans' kb (fun i hi h => by omega)
      clear kb
      go_wp2_with fail
      refine (root_any b t2 _ w9 hm9).mono ?_
      rintro e w10 ⟨rfl, fa⟩
      have fr10 := fr9.trans fa
      have hm10 : MapAt w10 b t2 _ := fa.at_ hm9 (fun h => h)
      have hD10 := hD9.fresh fa
      clear fa fr9 hm9 hD9
      generalize ((str t2.hash).toList == (str rh).toList) = sb
      go_wp2_with fail
      have hrem := removeok_any b t2 _ key w10 hm10 HWG.out hD10 hk2
      rw [HCUT.out trivial] at hrem
      refine hrem.mono ?_
      rintro e w11 ⟨rfl, kb, hm11⟩
      have fr11 : Fresh w w11 := fr10.trans' kb (fun i hi h => by omega)
      clear kb hrem
      go_wp2_with fail
      have hroot2 := root_any b t _ w11 hm11
      rw [HRH.out] at hroot2
      refine hroot2.mono ?_
      rintro e w12 ⟨rfl, fa⟩
      have fr12 := fr11.trans fa
      clear hroot2
      go_wp2_with fail
      go_ret
      exact ⟨by simp, fr12⟩
    | true =>
      by_cases ho : other.length ≤ 1000
      · go_wp2_with fail
        have hso := psum_one w8.heap.size other (w8.alloc (.cells #[.string (str other)] 9)) (heap_alloc_new w8 _) (hD.alloc _) (by omega)
        refine hso.mono ?_
        rintro e w9 ⟨rfl, fa⟩
        have fa := ((Keeps.refl (fun _ => False) w8).alloc (.cells #[.string (str other)] 9)).trans fa
        clear hso c0 c1 c2 c3
        have hm : MapAt w9 b t many := fa.at_ hm (fun h => h)
        have hbox := fa.at_ hbox (fun h => h)
        have hD := hD.fresh fa
        have fr := fr.trans fa
        have hT := hT.fresh fa
        clear fa
        go_wp2_with fail
        have hso := psum_one w9.heap.size gv (w9.alloc (.cells #[.string (str gv)] 9)) (heap_alloc_new w9 _) (hD.alloc _) (by omega)
        refine hso.mono ?_
        rintro e w10 ⟨rfl, fa⟩
        have fa := ((Keeps.refl (fun _ => False) w9).alloc (.cells #[.string (str gv)] 9)).trans fa
        clear hso
        have hm : MapAt w10 b t many := fa.at_ hm (fun h => h)
        have hbox := fa.at_ hbox (fun h => h)
        have hD := hD.fresh fa
        have fr := fr.trans fa
        have hT := hT.fresh fa
        clear fa
        have c0 := cell_at hbox 0
        have c1 := cell_at hbox 1
        have c2 := cell_at hbox 2
        have c3 := cell_at hbox 3
        simp at c0 c1 c2 c3
        by_cases hoe : sha other = sha gv
        · have hqo : ((str (sha other)).toList == (str (sha gv)).toList) = true := by rw [hoe]; simp
          clear hoe c0 c1 c2 c3
          go_wp2_with fail
          refine (HSET.out _ hm hD).mono ?_
          rintro e w11 ⟨rfl, kb, hm9⟩
          have hD9 := hD.keepsOut (B := b) (h := b) (kb.mono (fun _ _ h => .inl h)) hbg hbg
          have fr9 : Fresh w w11 := fr.trans' kb (fun i hi h => by omega)
          clear kb
          go_wp2_with fail
          refine (root_any b t2 _ w11 hm9).mono ?_
          rintro e w12 ⟨rfl, fa⟩
          have fr10 := fr9.trans fa
          have hqs : ((str t2.hash).toList == (str rh).toList) = true := by rw [HSAME.out trivial]; simp
          clear fa fr9
          go_wp2_with fail
          go_ret
          exact ⟨rfl, fr10⟩
        · have hqo : ((str (sha other)).toList == (str (sha gv)).toList) = false := by rw [str_toList, str_toList]; simp [hoe]
          have hc4 := HC4.out ho trivial hoe _ _ hT hD
          have HC := hid hc4
          clear hoe hc4
          go_wp2_with fail
          refine HC.out.mono ?_
          rintro e w11 ⟨rfl, fa⟩
          clear c0 c1 c2 c3 HC
          have hm : MapAt w11 b t many := fa.at_ hm (fun h => h)
          have hbox := fa.at_ hbox (fun h => h)
          have hD := hD.fresh fa
          have fr := fr.trans fa
          have hT := hT.fresh fa
          clear fa
          go_wp2_with fail
          refine (HSET.out _ hm hD).mono ?_
          rintro e w12 ⟨rfl, kb, hm9⟩
          have hD9 := hD.keepsOut (B := b) (h := b) (kb.mono (fun _ _ h => .inl h)) hbg hbg
          have fr9 : Fresh w w12 := fr.trans' kb (fun i hi h => by omega)
          clear kb
          go_wp2_with fail
          refine (root_any b t2 _ w12 hm9).mono ?_
          rintro e w13 ⟨rfl, fa⟩
          have fr10 := fr9.trans fa
          have hqs : ((str t2.hash).toList == (str rh).toList) = true := by rw [HSAME.out trivial]; simp
          clear fa fr9
          go_wp2_with fail
          go_ret
          exact ⟨rfl, fr10⟩
      · clear c0 c1 c2 c3
        go_wp2_with fail
        refine (HSET.out _ hm hD).mono ?_
        rintro e w9 ⟨rfl, kb, hm9⟩
        have hD9 := hD.keepsOut (B := b) (h := b) (kb.mono (fun _ _ h => .inl h)) hbg hbg
        have fr9 : Fresh w w9 := fr.trans' kb (fun i hi h => by omega)
        clear kb
        go_wp2_with fail
        refine (root_any b t2 _ w9 hm9).mono ?_
        rintro e w10 ⟨rfl, fa⟩
        have fr10 := fr9.trans fa
        have hqs : ((str t2.hash).toList == (str rh).toList) = true := by rw [HSAME.out trivial]; simp
        clear fa fr9
        go_wp2_with fail
        go_ret
        exact ⟨rfl, fr10⟩
end Go.Proofs.YtmflbchiapdhbaaDoor
