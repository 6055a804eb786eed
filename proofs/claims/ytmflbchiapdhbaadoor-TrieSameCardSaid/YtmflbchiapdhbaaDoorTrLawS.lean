/-
  TrieSame: the law's walk.
-/
import Derived.Test.YtmflbchiapdhbaaDoorMTrJ
import Derived.Test.YtmflbchiapdhbaaDoorTrKnown
import Derived.Test.YtmflbchiapdhbaaDoorTrSame
import Derived.Test.YtmflbchiapdhbaaDoorMTrB
import Derived.Deep.DeepCutAuto
import Derived.Deep.CutBlock
namespace Go.Proofs.YtmflbchiapdhbaaDoor
open Go.RowKit

/-- one of the first sixty keys that were set and shall be gone, from place i on -/
def Gone (l : List (List UInt8)) (i : Nat) (k : List UInt8) : Prop := ∃ (j : Nat) (m : List UInt8), i ≤ j ∧ j < 60 ∧ l[j]? = some m ∧ m.length ≤ 200 ∧ k = sha m
theorem Gone.mono {l : List (List UInt8)} {i : Nat} {k : List UInt8} (h : Gone l i k) : Gone l 0 k := by
  obtain ⟨j, m, _, h⟩ := h
  exact ⟨j, m, by omega, h⟩
theorem Gone.next {l : List (List UInt8)} {i : Nat} {k m : List UInt8} (h : Gone l i k) (hm : l[i]? = some m) (hk : m.length ≤ 200 → k ≠ sha m) : Gone l (i + 1) k := by
  obtain ⟨j, m2, h1, h2, h3, h4, h5⟩ := h
  by_cases e : j = i
  · subst e
    rw [hm] at h3
    cases h3
    exact absurd h5 (hk h4)
  · exact ⟨j, m2, by omega, h2, h3, h4, h5⟩
theorem Gone.none_ {l : List (List UInt8)} {i : Nat} {k : List UInt8} (h : Gone l i k) (hi : 60 ≤ i ∨ l.length ≤ i) : False := by
  obtain ⟨j, m, h1, h2, h3, _⟩ := h
  have := (List.getElem?_eq_some_iff.1 h3).1
  omega

theorem OwnTexts.fresh {B : Nat} {w w' : World} {v : Value} {l : List (List UInt8)} (h : OwnTexts B w v l) (f : Fresh w w') : OwnTexts B w' v l := ⟨ownsRow_keeps h.1 f (fun _ _ h => h), h.2⟩
theorem OwnTexts.keeps {S : Nat → Prop} {B : Nat} {w w' : World} {v : Value} {l : List (List UInt8)} (h : OwnTexts B w v l) (f : Keeps S w w') (hS : ∀ g, B ≤ g → ¬ S g) : OwnTexts B w' v l := ⟨ownsRow_keeps h.1 f (fun g hg => hS g (h.2 g hg)), h.2⟩
/-- the two maps are one: all that the one has was set in the other, and nothing else is there -/
theorem one_trie {t u : Tr} (ht : Tr.Good (fun _ => 0) 0 t) (hu : Tr.Good (fun _ => 0) 0 u) (h1 : ∀ k, u.look k 0 ≠ none → t.look k 0 ≠ none) (h2 : ∀ x ∈ rising t.keys, u.look (sha x) 0 = t.look (sha x) 0) : u = t := by
  refine same_trie u t 0 _ hu ht (fun k hk ha => ?_)
  cases hl : t.look k 0 with
  | none =>
    by_cases e : u.look k 0 = none
    · rw [e]
    · exact absurd hl (h1 k e)
  | some kv =>
    obtain ⟨key, val⟩ := kv
    have e := (look_ok k t 0 _ ht ha key val hl).1
    rw [e] at hl ⊢
    rw [h2 key (rising_mem.2 (look_keys _ key val t 0 hl)), hl]
theorem told_get {t : Tr} (ht : Tr.Good (fun _ => 0) 0 t) {x : List UInt8} (hx : x ∈ t.keys) : x.length ≤ 200 ∧ (t.tells x).2 = true ∧ (t.tells x).1.length ≤ 1000 ∧ t.look (sha x) 0 = some (x, (t.tells x).1) := by
  obtain ⟨-, val, hl⟩ := keys_look t 0 _ ht x hx
  have h2 := look_ok (sha x) t 0 _ ht (fun i hi => by omega) x val hl
  have e : t.tells x = (val, true) := by rw [Tr.tells, if_neg (by omega), has_look, got_look, hl]; rfl
  rw [e]
  exact ⟨h2.2.1, rfl, h2.2.2, hl⟩

set_option maxRecDepth 100000 in
set_option maxHeartbeats 16000000 in
theorem samelaw_any (v1 v2 v3 v4 : Value) (l1 l2 l4 : List (List UInt8)) (n3 : Nat) (key : List UInt8) (w : World) (h1 : TextsAt w v1 l1) (h2 : TextsAt w v2 l2) (h3 : IntsAt w v3 n3) (h4 : TextsAt w v4 l4) (hd : Dig w)
    (hl1 : l1.length ≤ 9223372036854775807) (hl2 : l2.length ≤ 9223372036854775807) (hl3 : n3 ≤ 9223372036854775807) (hl4 : l4.length ≤ 9223372036854775807) (hs1 : ∀ s ∈ l1, s.length ≤ 9223372036854775807) (hs2 : ∀ s ∈ l2, s.length ≤ 9223372036854775807) (hs4 : ∀ s ∈ l4, s.length ≤ 9223372036854775807) (hkey : key.length ≤ 9223372036854775807) :
    Calls Tryd.prog 6 #[v1, v2, v3, v4, .string (str key)] w fun e w' => e = .returned (.bool true) ∧ Fresh w w' := by
  have H1 := hid h1
  have H2 := hid h2
  obtain ⟨ao3, cap3, rfl, hc3⟩ := h3
  obtain ⟨ao4, cap4, rfl, hc4⟩ := h4
  have HC3 := hid hc3
  have HC4 := hid hc4
  have HS1 := hid hs1
  have HS2 := hid hs2
  have HS4 := hid hs4
  clear h1 h2 hc3 hc4 hs1 hs2 hs4
  go_enter Tryd.func6, Tryd.ntmps6
  go_wp2_with fail
  refine (known_any _ hd).mono ?_
  rintro e w1 ⟨rfl, f1⟩
  go_wp2_with fail
  refine (fill_any v1 v2 l1 l2 w1 (H1.out.fresh f1) (H2.out.fresh f1) (hd.fresh f1) hl1 hl2 HS1.out HS2.out).mono ?_
  rintro e w2 ⟨a, rfl, ha, ⟨t, c, hc, hm⟩, f2⟩
  have fr := f1.trans f2
  have haw : w.heap.size ≤ a := Nat.le_trans f1.size ha
  have hag : 3 ≤ a := Nat.le_trans hd.room haw
  clear H1 H2 HS1 HS2 f1 f2 ha hl1 hl2
  go_wp2_with fail
  refine (new_map w2).mono ?_
  rintro e w3 ⟨rfl, f3, hn⟩
  have hm3 := hm.fresh f3
  have fr3 := fr.trans f3
  obtain ⟨b, hbe⟩ : ∃ b, w2.heap.size = b := ⟨_, rfl⟩
  have hab : a < b := by have := hm.lt; omega
  rw [hbe] at hn ⊢
  have hbg : 3 ≤ b := by omega
  clear hm fr f3 hbe
  go_upto_block 0 with fail
  go_cut [14] (fun s14 wx => ∃ u c2, c2 ≤ 60 ∧ Map wx b u c2 ∧ Map wx a t c ∧ Fresh w wx ∧ ∀ k, u.look k 0 ≠ none → Gone l4 0 k)
  case first =>
    go_wp2_with fail
    go_loopw [14] (fun i wr => ∃ (n : Nat) (u : Tr) (c2 : Nat), i = .int .i64 (n : Int) ∧ n ≤ 60 ∧ n ≤ l4.length ∧ c2 ≤ n ∧ Map wr b u c2 ∧ Map wr a t c ∧ Fresh w wr ∧ Hid (∀ k, u.look k 0 ≠ none → Gone l4 0 k)) (fun i _ => 60 - (intOf i).toNat)
    case atStart => exact ⟨0, .none, 0, rfl, by omega, by omega, by omega, hn, hm3, fr3, fun k hk => absurd rfl hk⟩
    case round =>
      obtain ⟨n, u, c2, rfl, hn6, hnl, hcn, hu, hm, fr, HL⟩ := hrel
      by_cases hlt : n < l4.length
      · by_cases h60 : n < 60
        · obtain ⟨s, hs⟩ : ∃ s, l4[n]? = some s := ⟨l4[n], by simp⟩
          obtain ⟨bb, off, hao, hbb, hcell⟩ := HC4.out n s hs
          have hcell := (fr.cell (p := ⟨bb, off + n, none⟩) hbb (fun h => h)).trans hcell
          have hset := set_step2 b c2 u s [103, 111, 110, 101] wr hu (hd.fresh fr) hbg (by omega) (HS4.out s (List.mem_of_getElem? hs)) (by simp)
          have HSET := hid hset
          have HNS := hid hs
          subst hao
          clear hset hs
          go_wp2_with fail
          refine HSET.out.mono ?_
          rintro e w5 ⟨ev, u5, c5, rfl, -, hc5, hu5, k5, hl5⟩
          have hm5 := hm.keeps k5 (by omega)
          have f5 : Fresh w w5 := fr.trans' k5 (fun i hi h => by omega)
          have HL5 : Hid (∀ k, u5.look k 0 ≠ none → Gone l4 0 k) := fun k hk => by
            rcases hl5 k hk with h | h
            · exact HL.out k h
            · exact ⟨n, s, by omega, h60, HNS.out, h⟩
          clear hl5 k5 hcell HSET
          go_wp2_with fail
          go_roundw
          case rel => exact ⟨n + 1, u5, c5, by go_num, by omega, by omega, by omega, hu5, hm5, f5, HL5⟩
          case measure => simp [intOf]; omega
        · go_wp2_with fail
          go_meet
          exact ⟨u, c2, by omega, hu, hm, fr, HL.out⟩
      · go_wp2_with fail
        go_meet
        exact ⟨u, c2, by omega, hu, hm, fr, HL.out⟩
  case rest =>
    obtain ⟨u, c2, hc2, hu, hm, fr, hl⟩ := hcut
    have HL := hid hl
    clear hl hn hm3 fr3
    have hcount := hm.count
    have hkeys : ∀ x, x ∈ rising t.keys → x.length ≤ 200 ∧ (t.tells x).2 = true ∧ (t.tells x).1.length ≤ 1000 ∧ t.look (sha x) 0 = some (x, (t.tells x).1) := fun x hx => told_get hm.good (rising_mem.1 hx)
    have hone := fun (u : Tr) (hu : Tr.Good (fun _ => 0) 0 u) => one_trie hm.good hu
    go_wp2_with fail
    refine (keys_any a t c wc hm.at_ (by omega)).mono ?_
    rintro e w5 ⟨v, rfl, fa, hown⟩
    have hbB := hu.lt
    have hu := hu.fresh fa
    have hm := hm.fresh fa
    have fr := fr.trans fa
    have hlenL : (rising t.keys).length = c := by rw [rising_length, hcount]
    obtain ⟨L, hL⟩ : ∃ L, rising t.keys = L := ⟨_, rfl⟩
    obtain ⟨B, hB⟩ : ∃ B, wc.heap.size = B := ⟨_, rfl⟩
    rw [hL] at hkeys hone hlenL hown
    rw [hB] at hown hbB
    obtain ⟨ao2, cp2, rfl⟩ := ownsRow_slice hown.1
    have HKEYS := hid hkeys
    have HONE := hid hone
    have HLEN := hid hlenL
    have hLb : L.length ≤ 200 := by omega
    have HLL := hid hL
    clear hkeys hone hlenL fa hcount hL hB
    go_upto_block 2 with fail
    go_cut [16, 17, 18, 19, 20] (fun s16 s17 s18 s19 s20 wx => ∃ u c2, c2 ≤ 260 ∧ Map wx b u c2 ∧ Map wx a t c ∧ OwnTexts B wx (.slice ao2 L.length cp2) L ∧ Fresh w wx ∧ ∀ k, u.look k 0 ≠ none → Gone l4 0 k ∨ t.look k 0 ≠ none)
    case first =>
      go_wp2_with fail
      have HL2 : Hid (∀ k, u.look k 0 ≠ none → Gone l4 0 k ∨ t.look k 0 ≠ none) := fun k hk => .inl (HL.out k hk)
      clear HL
      go_loopw [16] (fun i wr => ∃ (n : Nat) (u : Tr) (c2 : Nat), i = .int .i64 (n : Int) ∧ n ≤ 200 ∧ n ≤ n3 ∧ c2 ≤ 60 + n ∧ Map wr b u c2 ∧ Map wr a t c ∧ OwnTexts B wr (.slice ao2 L.length cp2) L ∧ Fresh w wr ∧ Hid (∀ k, u.look k 0 ≠ none → Gone l4 0 k ∨ t.look k 0 ≠ none)) (fun i _ => 200 - (intOf i).toNat)
      case atStart => exact ⟨0, u, c2, rfl, by omega, by omega, by omega, hu, hm, hown, fr, HL2⟩
      case round =>
        clear HL2 hc2
        obtain ⟨n, u, c2, rfl, hn2, hnl, hcn, hu, hm, hown, fr, HL⟩ := hrel
        by_cases hlt : n < n3
        · by_cases h200 : n < 200
          · by_cases hpos : 0 < L.length
            · obtain ⟨bb, off, hao, hbb, z, hz1, hz2, hcell⟩ := HC3.out n hlt
              have hcell := (fr.cell (p := ⟨bb, off + n, none⟩) hbb (fun h => h)).trans hcell
              subst hao
              go_wp2_with fail
              refine (pick_any z L.length _ hpos (by omega) hz1 hz2).mono ?_
              rintro e w6 ⟨r, rfl, hr, rfl⟩
              obtain ⟨x, hxr⟩ : ∃ x, L[r]? = some x := ⟨L[r], by simp⟩
              obtain ⟨hx1, hx2, hx3, hx4⟩ := HKEYS.out x (List.mem_of_getElem? hxr)
              have hget := get_map a c t x _ hm (hd.fresh fr) (by omega)
              obtain ⟨bx, hbxe, hbx, x0⟩ : ∃ bx, ao2 = some ⟨bx, 0, none⟩ ∧ bx < _ ∧ _ = some (Value.string (str x)) := by
                obtain ⟨ao5, cp5, he, hcx⟩ := ownsRow_at hown.1
                simp only [Value.slice.injEq] at he
                obtain ⟨rfl, -, rfl⟩ := he
                exact hcx r (.string (str x)) (by rw [texts, List.getElem?_map, hxr]; rfl)
              subst hbxe
              obtain ⟨gx, isx, hgx⟩ : ∃ gx isx, t.tells x = (gx, isx) := ⟨_, _, rfl⟩
              rw [hgx] at hget hx2 hx3 hx4
              simp only at hget hx2 hx3 hx4
              rw [hx2] at hget
              have HG := hid hget
              have HX4 := hid hx4
              clear hget hx4 hgx hx2
              go_wp2_with fail
              refine HG.out.mono ?_
              rintro e w7 ⟨rfl, fa⟩
              have hu := hu.fresh fa
              have hm := hm.fresh fa
              have hown := hown.fresh fa
              have fr := fr.trans fa
              have hset := set_map b c2 u x gx w7 hu (hd.fresh fr) hbg (by omega) hx1 hx3
              have HSET := hid hset
              clear hset fa hcell x0 HG
              go_wp2_with fail
              refine HSET.out.mono ?_
              rintro e w8 ⟨rfl, c3, k8, hu8, hc3⟩
              have hgu := hu.good
              have hm8 := hm.keeps k8 (by omega)
              have hown8 := hown.keeps k8 (fun g hg e => by omega)
              have f8 : Fresh w w8 := fr.trans' k8 (fun i hi h => by omega)
              have HL8 : Hid (∀ k, (u.added x gx).look k 0 ≠ none → Gone l4 0 k ∨ t.look k 0 ≠ none) := fun k hk => by
                rw [added_look hgu hx1 hx3] at hk
                by_cases e : k = sha x
                · right; rw [e, HX4.out]; simp
                · rw [if_neg e] at hk; exact HL.out k hk
              have hc3' : c3 ≤ c2 + 1 := by split at hc3 <;> omega
              clear k8 HSET hc3
              go_wp2_with fail
              go_roundw
              case rel => exact ⟨n + 1, _, c3, by go_num, by omega, by omega, by omega, hu8, hm8, hown8, f8, HL8⟩
              case measure => simp [intOf]; omega
            · go_wp2_with fail
              go_meet
              exact ⟨u, c2, by omega, hu, hm, hown, fr, HL.out⟩
          · go_wp2_with fail
            go_meet
            exact ⟨u, c2, by omega, hu, hm, hown, fr, HL.out⟩
        · go_wp2_with fail
          go_meet
          exact ⟨u, c2, by omega, hu, hm, hown, fr, HL.out⟩
    case rest =>
      clear hu hm hown fr HL hc2
      obtain ⟨u, c2, hc2, hu, hm, hown, fr, hl⟩ := hcut
      have HL := hid hl
      clear hl
      go_upto_block 4 with fail
      go_cut [21] (fun s21 wx => ∃ u c2, c2 ≤ 260 ∧ Map wx b u c2 ∧ Map wx a t c ∧ OwnTexts B wx (.slice ao2 L.length cp2) L ∧ Fresh w wx ∧ ∀ k, u.look k 0 ≠ none → t.look k 0 ≠ none)
      case first =>
        go_wp2_with fail
        go_loopw [21] (fun i wr => ∃ (n : Nat) (u : Tr) (c2 : Nat), i = .int .i64 (n : Int) ∧ n ≤ 60 ∧ n ≤ l4.length ∧ c2 ≤ 260 ∧ Map wr b u c2 ∧ Map wr a t c ∧ OwnTexts B wr (.slice ao2 L.length cp2) L ∧ Fresh w wr ∧ Hid (∀ k, u.look k 0 ≠ none → Gone l4 n k ∨ t.look k 0 ≠ none)) (fun i _ => 60 - (intOf i).toNat)
        case atStart => exact ⟨0, u, c2, rfl, by omega, by omega, by omega, hu, hm, hown, fr, HL⟩
        case round =>
          clear hu hm hown fr HL hc2
          obtain ⟨n, u, c2, rfl, hn6, hnl, hcn, hu, hm, hown, fr, HL⟩ := hrel
          by_cases hlt : n < l4.length
          · by_cases h60 : n < 60
            · obtain ⟨s, hs⟩ : ∃ s, l4[n]? = some s := ⟨l4[n], by simp⟩
              obtain ⟨bb, off, hao, hbb, hcell⟩ := HC4.out n s hs
              have hcell := (fr.cell (p := ⟨bb, off + n, none⟩) hbb (fun h => h)).trans hcell
              have hrem := remove_step b c2 u s wr hu (hd.fresh fr) (by omega) (HS4.out s (List.mem_of_getElem? hs))
              have HREM := hid hrem
              have HNS := hid hs
              subst hao
              clear hrem hs
              go_wp2_with fail
              refine HREM.out.mono ?_
              rintro e w5 ⟨was, ev, u5, c5, rfl, hc5, hu5, k5, hl5⟩
              have hm5 := hm.keeps k5 (by omega)
              have hown5 := hown.keeps k5 (fun g hg e => by omega)
              have f5 : Fresh w w5 := fr.trans' k5 (fun i hi h => by omega)
              have HL5 : Hid (∀ k, u5.look k 0 ≠ none → Gone l4 (n + 1) k ∨ t.look k 0 ≠ none) := fun k hk => by
                obtain ⟨q1, q2⟩ := hl5 k hk
                rcases HL.out k q1 with h | h
                · exact .inl (h.next HNS.out q2)
                · exact .inr h
              clear hl5 k5 hcell HREM
              go_wp2_with fail
              go_roundw
              case rel => exact ⟨n + 1, u5, c5, by go_num, by omega, by omega, by omega, hu5, hm5, hown5, f5, HL5⟩
              case measure => simp [intOf]; omega
            · have HL2 : Hid (∀ k, u.look k 0 ≠ none → t.look k 0 ≠ none) := fun k hk => (HL.out k hk).elim (fun h => (h.none_ (.inl (by omega))).elim) (fun h => h)
              go_wp2_with fail
              go_meet
              exact ⟨u, c2, by omega, hu, hm, hown, fr, HL2.out⟩
          · have HL2 : Hid (∀ k, u.look k 0 ≠ none → t.look k 0 ≠ none) := fun k hk => (HL.out k hk).elim (fun h => (h.none_ (.inr (by omega))).elim) (fun h => h)
            go_wp2_with fail
            go_meet
            exact ⟨u, c2, by omega, hu, hm, hown, fr, HL2.out⟩
      case rest =>
        clear hu hm hown fr HL hc2
        obtain ⟨u, c2, hc2, hu, hm, hown, fr, hl⟩ := hcut
        have HL := hid hl
        clear hl
        go_upto_block 6 with fail
        go_cut [22, 23, 24, 25] (fun s22 s23 s24 s25 wx => ∃ c2, Map wx b t c2 ∧ Map wx a t c ∧ OwnTexts B wx (.slice ao2 L.length cp2) L ∧ Fresh w wx)
        case first =>
          go_wp2_with fail
          go_loopw [22] (fun i wr => ∃ (n : Nat) (u : Tr) (c2 : Nat), i = .int .i64 ((n : Int) - 1) ∧ n ≤ L.length ∧ c2 + n ≤ 260 + L.length ∧ Map wr b u c2 ∧ Map wr a t c ∧ OwnTexts B wr (.slice ao2 L.length cp2) L ∧ Fresh w wr ∧ Hid (∀ k, u.look k 0 ≠ none → t.look k 0 ≠ none) ∧ Hid (∀ j x, n ≤ j → L[j]? = some x → u.look (sha x) 0 = t.look (sha x) 0)) (fun i _ => (intOf i + 1).toNat)
          case atStart => exact ⟨L.length, u, c2, rfl, by omega, by omega, hu, hm, hown, fr, HL, fun j x hj hx => by have := (List.getElem?_eq_some_iff.1 hx).1; omega⟩
          case round =>
            clear hu hm hown fr HL hc2
            obtain ⟨n, u, c2, rfl, hnl, hcn, hu, hm, hown, fr, HL, HE⟩ := hrel
            by_cases h0 : n = 0
            · subst h0
              have hut : u = t := HONE.out u hu.good HL.out (fun x hx => by
                obtain ⟨j, hj⟩ := List.getElem?_of_mem hx
                exact HE.out j x (by omega) hj)
              subst hut
              go_wp2_with fail
              go_meet
              exact ⟨c2, hu, hm, hown, fr⟩
            · obtain ⟨r, rfl⟩ : ∃ r, n = r + 1 := ⟨n - 1, by omega⟩
              have hr : r < L.length := by omega
              have hq : (((r + 1 : Nat) : Int) - 1) = (r : Int) := by omega
              rw [hq]
              obtain ⟨x, hxr⟩ : ∃ x, L[r]? = some x := ⟨L[r], by simp⟩
              obtain ⟨hx1, hx2, hx3, hx4⟩ := HKEYS.out x (List.mem_of_getElem? hxr)
              have hget := get_map a c t x _ hm (hd.fresh fr) (by omega)
              obtain ⟨bx, hbxe, hbx, x0⟩ : ∃ bx, ao2 = some ⟨bx, 0, none⟩ ∧ bx < _ ∧ _ = some (Value.string (str x)) := by
                obtain ⟨ao5, cp5, he, hcx⟩ := ownsRow_at hown.1
                simp only [Value.slice.injEq] at he
                obtain ⟨rfl, -, rfl⟩ := he
                exact hcx r (.string (str x)) (by rw [texts, List.getElem?_map, hxr]; rfl)
              subst hbxe
              obtain ⟨gx, isx, hgx⟩ : ∃ gx isx, t.tells x = (gx, isx) := ⟨_, _, rfl⟩
              rw [hgx] at hget hx2 hx3 hx4
              simp only at hget hx2 hx3 hx4
              rw [hx2] at hget
              have HG := hid hget
              have HX4 := hid hx4
              clear hget hx4 hgx hx2
              have HNX := hid hxr
              clear hq hxr
              go_wp2_with fail
              refine HG.out.mono ?_
              rintro e w7 ⟨rfl, fa⟩
              have hu := hu.fresh fa
              have hm := hm.fresh fa
              have hown := hown.fresh fa
              have fr := fr.trans fa
              have x0 := (fa.cell (p := ⟨bx, r, none⟩) hbx (fun h => h)).trans x0
              have hset := set_map b c2 u x gx w7 hu (hd.fresh fr) hbg (by omega) hx1 hx3
              have HSET := hid hset
              clear hset fa HG
              go_wp2_with fail
              refine HSET.out.mono ?_
              rintro e w8 ⟨rfl, c3, k8, hu8, hc3⟩
              have hgu := hu.good
              have hm8 := hm.keeps k8 (by omega)
              have hown8 := hown.keeps k8 (fun g hg e => by omega)
              have f8 : Fresh w w8 := fr.trans' k8 (fun i hi h => by omega)
              have HL8 : Hid (∀ k, (u.added x gx).look k 0 ≠ none → t.look k 0 ≠ none) := fun k hk => by
                rw [added_look hgu hx1 hx3] at hk
                by_cases e : k = sha x
                · rw [e, HX4.out]; simp
                · rw [if_neg e] at hk; exact HL.out k hk
              have HE8 : Hid (∀ j y, r ≤ j → L[j]? = some y → (u.added x gx).look (sha y) 0 = t.look (sha y) 0) := fun j y hj hy => by
                rw [added_look hgu hx1 hx3]
                by_cases e : sha y = sha x
                · rw [if_pos e, e, HX4.out]
                · rw [if_neg e]
                  by_cases e2 : j = r
                  · subst e2
                    rw [HNX.out] at hy
                    cases hy
                    exact absurd rfl e
                  · exact HE.out j y (by omega) hy
              have hc3' : c3 ≤ c2 + 1 := by split at hc3 <;> omega
              clear k8 HSET hc3 x0
              go_wp2_with fail
              go_roundw
              case rel => exact ⟨r, _, c3, rfl, by omega, by omega, hu8, hm8, hown8, f8, HL8, HE8⟩
              case measure => simp [intOf]
        case rest =>
          clear hu hm hown fr HL hc2
          obtain ⟨c3, hu, hm, hown, fr⟩ := hcut
          have hcc : c3 = c := by rw [← hu.count, ← hm.count]
          subst hcc
          clear HKEYS HONE
          have hshort := proof_short hm.good key
          go_wp2_with fail
          refine (clone_any a t _ _ hm.at_).mono ?_
          rintro e w5 ⟨rfl, fa, hcl⟩
          have hcl : Map w5 wc.heap.size t c3 := ⟨hcl, hm.good, hm.count⟩
          obtain ⟨d, hde⟩ : ∃ d, wc.heap.size = d := ⟨_, rfl⟩
          rw [hde] at hcl ⊢
          have hu := hu.fresh fa
          have hm := hm.fresh fa
          have hown := hown.fresh fa
          have fr := fr.trans fa
          clear fa
          have hp1 := prove_map a c3 t key w5 hm (hd.fresh fr) hkey
          have hp2 := fun W hW hD => prove_map b c3 t key W hW hD hkey
          have hp3 := fun W hW hD => prove_map d c3 t key W hW hD hkey
          obtain ⟨sides, pt, pk, pv, ev, hpf⟩ : ∃ sides pt pk pv ev, t.proof key = (sides, (pt, pk, pv), ev) := ⟨_, _, _, _, _, rfl⟩
          rw [hpf] at hp1 hp2 hp3 hshort
          simp only [lookupVal] at hp1 hp2 hp3 hshort
          have HP1 := hid hp1
          have HP2 := hid hp2
          have HP3 := hid hp3
          clear hp1 hp2 hp3 hpf hde
          go_wp2_with fail
          refine HP1.out.mono ?_
          rintro e w6 ⟨va, rfl, fa, ho⟩
          have ha := ho.at_
          obtain ⟨aoa, cpa, rfl⟩ := ownsRow_slice ho.1
          have hu := hu.fresh fa
          have hm := hm.fresh fa
          have hown := hown.fresh fa
          have fr := fr.trans fa
          have hcl := hcl.fresh fa
          clear fa
          clear ho HP1
          go_wp2_with fail
          have hxa := heap_alloc_new w6 (.cells #[.slice aoa sides.length cpa, .bool pt, .string (str pk), .string (str pv)] 24)
          have fa : Fresh w6 (w6.alloc (.cells #[.slice aoa sides.length cpa, .bool pt, .string (str pk), .string (str pv)] 24)) := (Keeps.refl _ _).alloc _
          have ha := ha.fresh fa
          have hu := hu.fresh fa
          have hm := hm.fresh fa
          have hown := hown.fresh fa
          have fr := fr.trans fa
          have hcl := hcl.fresh fa
          obtain ⟨xa, hxae⟩ : ∃ xa, w6.heap.size = xa := ⟨_, rfl⟩
          rw [hxae] at hxa ⊢
          clear fa hxae
          generalize w6.alloc (.cells #[.slice aoa sides.length cpa, .bool pt, .string (str pk), .string (str pv)] 24) = Wa at *
          refine (HP2.out _ hu (hd.fresh fr)).mono ?_
          rintro e w7 ⟨vb, rfl, fa, ho⟩
          have hb := ho.at_
          obtain ⟨aob, cpb, rfl⟩ := ownsRow_slice ho.1
          have ha := ha.fresh fa
          have hxa := fa.at_ hxa (fun h => h)
          have hu := hu.fresh fa
          have hm := hm.fresh fa
          have hown := hown.fresh fa
          have fr := fr.trans fa
          have hcl := hcl.fresh fa
          clear fa
          clear ho HP2
          go_wp2_with fail
          have hxb := heap_alloc_new w7 (.cells #[.slice aob sides.length cpb, .bool pt, .string (str pk), .string (str pv)] 24)
          have fa : Fresh w7 (w7.alloc (.cells #[.slice aob sides.length cpb, .bool pt, .string (str pk), .string (str pv)] 24)) := (Keeps.refl _ _).alloc _
          have ha := ha.fresh fa
          have hb := hb.fresh fa
          have hxa := fa.at_ hxa (fun h => h)
          have hu := hu.fresh fa
          have hm := hm.fresh fa
          have hown := hown.fresh fa
          have fr := fr.trans fa
          have hcl := hcl.fresh fa
          obtain ⟨xb, hxbe⟩ : ∃ xb, w7.heap.size = xb := ⟨_, rfl⟩
          rw [hxbe] at hxb ⊢
          clear fa hxbe
          generalize w7.alloc (.cells #[.slice aob sides.length cpb, .bool pt, .string (str pk), .string (str pv)] 24) = Wb at *
          refine (HP3.out _ hcl (hd.fresh fr)).mono ?_
          rintro e w8 ⟨vc, rfl, fa, ho⟩
          have hvc := ho.at_
          obtain ⟨aoc, cpc, rfl⟩ := ownsRow_slice ho.1
          have ha := ha.fresh fa
          have hb := hb.fresh fa
          have hxa := fa.at_ hxa (fun h => h)
          have hxb := fa.at_ hxb (fun h => h)
          have hu := hu.fresh fa
          have hm := hm.fresh fa
          have hown := hown.fresh fa
          have fr := fr.trans fa
          have hcl := hcl.fresh fa
          clear fa
          clear ho HP3
          have pa0 := cell_at hxa 0
          have pa1 := cell_at hxa 1
          have pa2 := cell_at hxa 2
          have pa3 := cell_at hxa 3
          have pb0 := cell_at hxb 0
          have pb1 := cell_at hxb 1
          have pb2 := cell_at hxb 2
          have pb3 := cell_at hxb 3
          simp at pa0 pa1 pa2 pa3 pb0 pb1 pb2 pb3
          clear pa0 pa1 pa2 pa3 pb0 pb1 pb2 pb3
          go_upto_region 36 with fail
          have hxc := heap_alloc_new w8 (.cells #[.slice aoc sides.length cpc, .bool pt, .string (str pk), .string (str pv)] 24)
          have fa : Fresh w8 (w8.alloc (.cells #[.slice aoc sides.length cpc, .bool pt, .string (str pk), .string (str pv)] 24)) := (Keeps.refl _ _).alloc _
          have ha := ha.fresh fa
          have hb := hb.fresh fa
          have hvc := hvc.fresh fa
          have hxa := fa.at_ hxa (fun h => h)
          have hxb := fa.at_ hxb (fun h => h)
          have hu := hu.fresh fa
          have hm := hm.fresh fa
          have hown := hown.fresh fa
          have fr := fr.trans fa
          have hcl := hcl.fresh fa
          obtain ⟨xc, hxce⟩ : ∃ xc, w8.heap.size = xc := ⟨_, rfl⟩
          rw [hxce] at hxc ⊢
          clear fa hxce
          generalize w8.alloc (.cells #[.slice aoc sides.length cpc, .bool pt, .string (str pk), .string (str pv)] 24) = Wc at *
          have pa0 := cell_at hxa 0
          have pa1 := cell_at hxa 1
          have pa2 := cell_at hxa 2
          have pa3 := cell_at hxa 3
          have pb0 := cell_at hxb 0
          have pb1 := cell_at hxb 1
          have pb2 := cell_at hxb 2
          have pb3 := cell_at hxb 3
          simp at pa0 pa1 pa2 pa3 pb0 pb1 pb2 pb3
          go_wp2_with fail
          refine (same_self _ _ sides pt pk pv _ ha hb (by omega)).mono ?_
          rintro e w9 ⟨rfl, fa⟩
          have ha := ha.fresh fa
          have hvc := hvc.fresh fa
          have hxa := fa.at_ hxa (fun h => h)
          have hxc := fa.at_ hxc (fun h => h)
          have hu := hu.fresh fa
          have hm := hm.fresh fa
          have hown := hown.fresh fa
          have fr := fr.trans fa
          have hcl := hcl.fresh fa
          clear fa
          clear pa0 pa1 pa2 pa3 pb0 pb1 pb2 pb3
          have pa0 := cell_at hxa 0
          have pa1 := cell_at hxa 1
          have pa2 := cell_at hxa 2
          have pa3 := cell_at hxa 3
          have pc0 := cell_at hxc 0
          have pc1 := cell_at hxc 1
          have pc2 := cell_at hxc 2
          have pc3 := cell_at hxc 3
          simp at pa0 pa1 pa2 pa3 pc0 pc1 pc2 pc3
          go_wp2_with fail
          refine (same_self _ _ sides pt pk pv _ ha hvc (by omega)).mono ?_
          rintro e w10 ⟨rfl, fa⟩
          have hu := hu.fresh fa
          have hm := hm.fresh fa
          have hown := hown.fresh fa
          have fr := fr.trans fa
          have hcl := hcl.fresh fa
          clear fa
          clear pa0 pa1 pa2 pa3 pc0 pc1 pc2 pc3 ha hb hvc hxa hxb hxc
          have hk2 := keys_any b t c3 _ hu.at_ (by rw [hu.count]; have := HLEN.out; omega)
          rw [HLL.out] at hk2
          have HK2 := hid hk2
          clear hk2
          go_wp2_with fail
          refine HK2.out.mono ?_
          rintro e w11 ⟨v6, rfl, fa, ho⟩
          have h6 := ho.at_
          have hu := hu.fresh fa
          have hm := hm.fresh fa
          have hown := hown.fresh fa
          have fr := fr.trans fa
          have hcl := hcl.fresh fa
          clear fa
          clear ho HK2
          have hst := sameTexts_any v6 (.slice ao2 L.length cp2) L L _ h6 hown.at_ (by omega) (by omega)
          rw [decide_eq_true rfl] at hst
          have HST := hid hst
          clear hst
          go_wp2_with fail
          refine HST.out.mono ?_
          rintro e w12 ⟨rfl, fa⟩
          have hu := hu.fresh fa
          have hm := hm.fresh fa
          have hown := hown.fresh fa
          have fr := fr.trans fa
          have hcl := hcl.fresh fa
          clear fa
          clear HST h6
          go_wp2_with fail
          refine (root_any a t _ _ hm.at_).mono ?_
          rintro e w13 ⟨rfl, fa⟩
          have hu := hu.fresh fa
          have hm := hm.fresh fa
          have hown := hown.fresh fa
          have fr := fr.trans fa
          have hcl := hcl.fresh fa
          clear fa
          go_wp2_with fail
          refine (root_any b t _ _ hu.at_).mono ?_
          rintro e w14 ⟨rfl, fa⟩
          have hu := hu.fresh fa
          have hm := hm.fresh fa
          have hown := hown.fresh fa
          have fr := fr.trans fa
          have hcl := hcl.fresh fa
          clear fa
          go_wp2_with fail
          refine (root_any a t _ _ hm.at_).mono ?_
          rintro e w15 ⟨rfl, fa⟩
          have hu := hu.fresh fa
          have hm := hm.fresh fa
          have hown := hown.fresh fa
          have fr := fr.trans fa
          have hcl := hcl.fresh fa
          clear fa
          go_wp2_with fail
          refine (root_any d t _ _ hcl.at_).mono ?_
          rintro e w16 ⟨rfl, fa⟩
          have hu := hu.fresh fa
          have hm := hm.fresh fa
          have hown := hown.fresh fa
          have fr := fr.trans fa
          have hcl := hcl.fresh fa
          clear fa
          go_wp2_with fail
          have hlen := len_map b c3 t _ hu
          rw [← HLEN.out] at hlen
          refine hlen.mono ?_
          rintro e w17 ⟨rfl, fa⟩
          have fr := fr.trans fa
          clear fa hlen
          go_wp2_with fail
          go_ret
          exact ⟨by simp, fr⟩
end Go.Proofs.YtmflbchiapdhbaaDoor
