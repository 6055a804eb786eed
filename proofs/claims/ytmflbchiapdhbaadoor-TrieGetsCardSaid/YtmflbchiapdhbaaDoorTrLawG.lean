/-
  TrieGets: the law's walk.
-/
import Derived.Test.YtmflbchiapdhbaaDoorMTrI
import Derived.Test.YtmflbchiapdhbaaDoorTrKnown
import Derived.Test.YtmflbchiapdhbaaDoorMTrB
import Derived.BigQuiet
import Derived.Sort.Walk0
namespace Go.Proofs.YtmflbchiapdhbaaDoor
open Go.RowKit

/-- a step of a script -/
structure GOp where
  other : Bool
  kept : Bool
  kind : Int
  key : List UInt8
  val : List UInt8
/-- the script, as it came in: n steps -/
def OpsAt (w : World) (v : Value) (n : Nat) : Prop :=
  ∃ ao cap, v = .slice ao n cap ∧ ∀ i : Nat, i < n → ∃ bb off, ao = some ⟨bb, off, none⟩ ∧ bb < w.heap.size ∧ ∃ o : GOp, o.key.length ≤ 9223372036854775807 ∧ o.val.length ≤ 9223372036854775807 ∧
    w.cell? ⟨bb, off + i * 5, none⟩ = some (.bool o.other) ∧ w.cell? ⟨bb, off + i * 5 + 1, none⟩ = some (.bool o.kept) ∧ w.cell? ⟨bb, off + i * 5 + 2, none⟩ = some (.int .i64 o.kind) ∧ w.cell? ⟨bb, off + i * 5 + 3, none⟩ = some (.string (str o.key)) ∧ w.cell? ⟨bb, off + i * 5 + 4, none⟩ = some (.string (str o.val))

theorem look_told {t : Tr} (hg : Tr.Good (fun _ => 0) 0 t) (key : List UInt8) (h : key ∈ t.keys) : key.length ≤ 200 ∧ t.has (sha key) = true := by
  obtain ⟨-, val, hl⟩ := keys_look t 0 _ hg key h
  have := look_ok (sha key) t 0 _ hg (fun i hi => by omega) key val hl
  rw [has_look, hl]
  exact ⟨this.2.1, rfl⟩

set_option maxRecDepth 100000 in
set_option maxHeartbeats 8000000 in
theorem getslaw_any (v : Value) (N : Nat) (w : World) (h1 : OpsAt w v N) (hd : Dig w) (hN : N ≤ 9223372036854775807) :
    Calls Tryd.prog 5 #[v] w fun e w' => e = .returned (.bool true) ∧ Fresh w w' := by
  obtain ⟨ao, cap, rfl, hi⟩ := h1
  have HI := hid hi
  clear hi
  go_enter Tryd.func5, Tryd.ntmps5
  go_wp2_with fail
  refine (known_any _ hd).mono ?_
  rintro e w1 ⟨rfl, f1⟩
  go_wp2_with fail
  refine (new_map w1).mono ?_
  rintro e w2 ⟨rfl, f2, hm⟩
  have fr := f1.trans f2
  obtain ⟨b, hbe⟩ : ∃ b, w1.heap.size = b := ⟨_, rfl⟩
  have hbw : w.heap.size ≤ b := by have := f1.size; omega
  have hbg : 3 ≤ b := Nat.le_trans hd.room hbw
  rw [hbe] at hm ⊢
  clear hbe f1 f2
  go_wp2_with fail
  go_loopw [5] (fun i wr => ∃ (n : Nat) (t : Tr) (c : Nat), i = .int .i64 (n : Int) ∧ n ≤ 100 ∧ n ≤ N ∧ c ≤ n ∧ Map wr b t c ∧ Fresh w wr) (fun i _ => 100 - (intOf i).toNat)
  case atStart => exact ⟨0, .none, 0, rfl, by omega, by omega, by omega, hm, fr⟩
  case round =>
    obtain ⟨n, t, c, rfl, hn, hnN, hcn, hm, fr⟩ := hrel
    have hD := hd.fresh fr
    by_cases hlt : n < N
    · by_cases h100 : n < 100
      · obtain ⟨bb, off, hao, hbb, o, hkl, hvl, e0, e1, e2, e3, e4⟩ := HI.out n hlt
        have tr : ∀ (p : Addr) (v : Value), p.block < w.heap.size → w.cell? p = some v → wr.cell? p = some v := fun p v hp h => (fr.cell hp (fun h => h)).trans h
        replace e0 := tr _ _ hbb e0
        replace e1 := tr _ _ hbb e1
        replace e2 := tr _ _ hbb e2
        replace e3 := tr _ _ hbb e3
        replace e4 := tr _ _ hbb e4
        subst hao
        clear tr
        obtain ⟨oo, kb, ok, key, val⟩ := o
        simp only at e0 e1 e2 e3 e4 hkl hvl
        have hszk := str_size key
        have hszv := str_size val
        go_wp2_with fail
        have hbox := heap_alloc_new wr (.cells #[.bool oo, .bool kb, .int .i64 ok, .string (str key), .string (str val)] 45)
        have f8 : Fresh wr (wr.alloc (.cells #[.bool oo, .bool kb, .int .i64 ok, .string (str key), .string (str val)] 45)) := (Keeps.refl _ _).alloc _
        have hm := hm.fresh f8
        have hD := hD.fresh f8
        have fr := fr.trans f8
        obtain ⟨bo, hboe⟩ : ∃ bo, wr.heap.size = bo := ⟨_, rfl⟩
        have hbo : ¬ bo = b := by have h1 : b < wr.heap.size := Map.lt (by assumption); omega
        rw [hboe] at hbox ⊢
        clear e0 e1 e2 e3 e4 f8 hboe
        generalize wr.alloc (.cells #[.bool oo, .bool kb, .int .i64 ok, .string (str key), .string (str val)] 45) = W8 at hbox hm hD fr ⊢
        have x2 := cell_at hbox 2
        have x3 := cell_at hbox 3
        have x4 := cell_at hbox 4
        simp at x2 x3 x4
        refine (get_map b _ _ key _ hm hD hkl).mono ?_
        rintro e w2 ⟨rfl, fa⟩
        have hbox := fa.at_ hbox (fun h => h)
        have hm := hm.fresh fa
        have hD := hD.fresh fa
        have fr := fr.trans fa
        clear fa x2 x3 x4
        have x2 := cell_at hbox 2
        have x3 := cell_at hbox 3
        have x4 := cell_at hbox 4
        simp at x2 x3 x4
        have hgood := hm.good
        obtain ⟨gv, hv, htell⟩ : ∃ gv hv, t.tells key = (gv, hv) := ⟨_, _, rfl⟩
        rw [htell]
        go_wp2_with fail
        refine (len_map b _ _ _ hm).mono ?_
        rintro e w2 ⟨rfl, fa⟩
        have hbox := fa.at_ hbox (fun h => h)
        have hm := hm.fresh fa
        have hD := hD.fresh fa
        have fr := fr.trans fa
        clear fa x2 x3 x4
        have x2 := cell_at hbox 2
        have x3 := cell_at hbox 3
        have x4 := cell_at hbox 4
        simp at x2 x3 x4
        by_cases hk1 : ok = 1
        · subst hk1
          by_cases hlong : 200 < key.length
          · have hbad : 200 < key.length ∨ 1000 < val.length := .inl hlong
            go_wp2_with fail
            refine (setmap_long b key val _ hbad hkl hvl).mono ?_
            rintro e w3 ⟨rfl, fa⟩
            have hbox := fa.at_ hbox (fun h => h)
            have hm := hm.fresh fa
            have hD := hD.fresh fa
            have fr := fr.trans fa
            clear fa x2 x3 x4
            have x2 := cell_at hbox 2
            have x3 := cell_at hbox 3
            have x4 := cell_at hbox 4
            simp at x2 x3 x4
            go_wp2_with fail
            refine (get_map b _ _ key _ hm hD hkl).mono ?_
            rintro e w4 ⟨rfl, fa⟩
            have hbox := fa.at_ hbox (fun h => h)
            have hm := hm.fresh fa
            have hD := hD.fresh fa
            have fr := fr.trans fa
            clear fa x2 x3 x4
            have x2 := cell_at hbox 2
            have x3 := cell_at hbox 3
            have x4 := cell_at hbox 4
            simp at x2 x3 x4
            rw [htell]
            go_wp2_with fail
            refine (len_map b _ _ _ hm).mono ?_
            rintro e w5 ⟨rfl, fa⟩
            have hbox := fa.at_ hbox (fun h => h)
            have hm := hm.fresh fa
            have hD := hD.fresh fa
            have fr := fr.trans fa
            clear fa x2 x3 x4
            have x2 := cell_at hbox 2
            have x3 := cell_at hbox 3
            have x4 := cell_at hbox 4
            simp at x2 x3 x4
            go_wp2_with fail
            go_roundw
            case rel => exact ⟨n + 1, _, _, by go_num, by omega, by omega, by omega, hm, fr⟩
            case measure => simp [intOf]; omega
          · by_cases hlv : 1000 < val.length
            · have hbad : 200 < key.length ∨ 1000 < val.length := .inr hlv
              go_wp2_with fail
              refine (setmap_long b key val _ hbad hkl hvl).mono ?_
              rintro e w3 ⟨rfl, fa⟩
              have hbox := fa.at_ hbox (fun h => h)
              have hm := hm.fresh fa
              have hD := hD.fresh fa
              have fr := fr.trans fa
              clear fa x2 x3 x4
              have x2 := cell_at hbox 2
              have x3 := cell_at hbox 3
              have x4 := cell_at hbox 4
              simp at x2 x3 x4
              go_wp2_with fail
              refine (get_map b _ _ key _ hm hD hkl).mono ?_
              rintro e w4 ⟨rfl, fa⟩
              have hbox := fa.at_ hbox (fun h => h)
              have hm := hm.fresh fa
              have hD := hD.fresh fa
              have fr := fr.trans fa
              clear fa x2 x3 x4
              have x2 := cell_at hbox 2
              have x3 := cell_at hbox 3
              have x4 := cell_at hbox 4
              simp at x2 x3 x4
              rw [htell]
              go_wp2_with fail
              refine (len_map b _ _ _ hm).mono ?_
              rintro e w5 ⟨rfl, fa⟩
              have hbox := fa.at_ hbox (fun h => h)
              have hm := hm.fresh fa
              have hD := hD.fresh fa
              have fr := fr.trans fa
              clear fa x2 x3 x4
              have x2 := cell_at hbox 2
              have x3 := cell_at hbox 3
              have x4 := cell_at hbox 4
              simp at x2 x3 x4
              go_wp2_with fail
              go_roundw
              case rel => exact ⟨n + 1, _, _, by go_num, by omega, by omega, by omega, hm, fr⟩
              case measure => simp [intOf]; omega
            · have hk2 : key.length ≤ 200 := by omega
              have hv2 : val.length ≤ 1000 := by omega
              have htell2 : (t.added key val).tells key = (val, true) := by rw [Tr.tells, if_neg hlong, (added_has hgood hk2 hv2).1, (added_has hgood hk2 hv2).2]
              have hhad : t.has (sha key) = hv := by rw [Tr.tells, if_neg hlong] at htell; exact (Prod.mk.inj htell).2
              clear htell
              cases hv with
              | true =>
                go_wp2_with fail
                refine (set_map b _ _ key val _ hm hD hbg (by omega) hk2 hv2).mono ?_
                rintro e w3 ⟨rfl, c2, kb, hm2, hc2⟩
                rw [hhad] at hc2
                simp only [if_true, if_false, Bool.false_eq_true] at hc2
                have hbox := kb.at_ hbox hbo
                have hD := hD.keepsOut (B := b) (h := b) (kb.mono (fun _ _ h => .inl h)) hbg hbg
                have fr := fr.trans' kb (fun i hi h => by omega)
                have hm := hm2
                clear kb hm2 x2 x3 x4
                have x2 := cell_at hbox 2
                have x3 := cell_at hbox 3
                have x4 := cell_at hbox 4
                simp at x2 x3 x4
                go_wp2_with fail
                refine (get_map b _ _ key _ hm hD hkl).mono ?_
                rintro e w4 ⟨rfl, fa⟩
                have hbox := fa.at_ hbox (fun h => h)
                have hm := hm.fresh fa
                have hD := hD.fresh fa
                have fr := fr.trans fa
                clear fa x2 x3 x4
                have x2 := cell_at hbox 2
                have x3 := cell_at hbox 3
                have x4 := cell_at hbox 4
                simp at x2 x3 x4
                rw [htell2]
                have hlen := len_map b _ _ _ hm
                rw [hc2] at hlen
                go_wp2_with fail
                refine (hlen).mono ?_
                rintro e w5 ⟨rfl, fa⟩
                clear hlen
                have hbox := fa.at_ hbox (fun h => h)
                have hm := hm.fresh fa
                have hD := hD.fresh fa
                have fr := fr.trans fa
                clear fa x2 x3 x4
                have x2 := cell_at hbox 2
                have x3 := cell_at hbox 3
                have x4 := cell_at hbox 4
                simp at x2 x3 x4
                go_wp2_with fail
                go_roundw
                case rel => exact ⟨n + 1, _, _, by go_num, by omega, by omega, by omega, hm, fr⟩
                case measure => simp [intOf]; omega
              | false =>
                go_wp2_with fail
                refine (set_map b _ _ key val _ hm hD hbg (by omega) hk2 hv2).mono ?_
                rintro e w3 ⟨rfl, c2, kb, hm2, hc2⟩
                rw [hhad] at hc2
                simp only [if_true, if_false, Bool.false_eq_true] at hc2
                have hbox := kb.at_ hbox hbo
                have hD := hD.keepsOut (B := b) (h := b) (kb.mono (fun _ _ h => .inl h)) hbg hbg
                have fr := fr.trans' kb (fun i hi h => by omega)
                have hm := hm2
                clear kb hm2 x2 x3 x4
                have x2 := cell_at hbox 2
                have x3 := cell_at hbox 3
                have x4 := cell_at hbox 4
                simp at x2 x3 x4
                go_wp2_with fail
                refine (get_map b _ _ key _ hm hD hkl).mono ?_
                rintro e w4 ⟨rfl, fa⟩
                have hbox := fa.at_ hbox (fun h => h)
                have hm := hm.fresh fa
                have hD := hD.fresh fa
                have fr := fr.trans fa
                clear fa x2 x3 x4
                have x2 := cell_at hbox 2
                have x3 := cell_at hbox 3
                have x4 := cell_at hbox 4
                simp at x2 x3 x4
                rw [htell2]
                have hlen := len_map b _ _ _ hm
                have e1 : ((c + 1 : Nat) : Int) = (c : Int) + 1 := rfl
                rw [hc2, e1] at hlen
                go_wp2_with fail
                refine (hlen).mono ?_
                rintro e w5 ⟨rfl, fa⟩
                clear hlen
                have hbox := fa.at_ hbox (fun h => h)
                have hm := hm.fresh fa
                have hD := hD.fresh fa
                have fr := fr.trans fa
                clear fa x2 x3 x4
                have x2 := cell_at hbox 2
                have x3 := cell_at hbox 3
                have x4 := cell_at hbox 4
                simp at x2 x3 x4
                go_wp2_with fail
                go_roundw
                case rel => exact ⟨n + 1, _, _, by go_num, by omega, by omega, by omega, hm, fr⟩
                case measure => simp [intOf]; omega
        · by_cases hk2' : ok = 2
          · subst hk2'
            by_cases hlong : 200 < key.length
            · have hgh : gv = [] ∧ hv = false := by rw [Tr.tells, if_pos hlong] at htell; have := Prod.mk.inj htell; exact ⟨this.1.symm, this.2.symm⟩
              obtain ⟨rfl, rfl⟩ := hgh
              go_wp2_with fail
              refine (removemap_long b key _ hlong hkl).mono ?_
              rintro e w3 ⟨rfl, fa⟩
              have hbox := fa.at_ hbox (fun h => h)
              have hm := hm.fresh fa
              have hD := hD.fresh fa
              have fr := fr.trans fa
              clear fa x2 x3 x4
              have x2 := cell_at hbox 2
              have x3 := cell_at hbox 3
              have x4 := cell_at hbox 4
              simp at x2 x3 x4
              go_wp2_with fail
              refine (get_map b _ _ key _ hm hD hkl).mono ?_
              rintro e w4 ⟨rfl, fa⟩
              have hbox := fa.at_ hbox (fun h => h)
              have hm := hm.fresh fa
              have hD := hD.fresh fa
              have fr := fr.trans fa
              clear fa x2 x3 x4
              have x2 := cell_at hbox 2
              have x3 := cell_at hbox 3
              have x4 := cell_at hbox 4
              simp at x2 x3 x4
              rw [htell]
              go_wp2_with fail
              go_roundw
              case rel => exact ⟨n + 1, _, _, by go_num, by omega, by omega, by omega, hm, fr⟩
              case measure => simp [intOf]; omega
            · have hk2 : key.length ≤ 200 := by omega
              have htell2 : (t.less key).tells key = ([], false) := by rw [Tr.tells, if_neg hlong, (less_has hgood key).1, (less_has hgood key).2]
              have hhad : t.has (sha key) = hv := by rw [Tr.tells, if_neg hlong] at htell; exact (Prod.mk.inj htell).2
              clear htell
              cases hv with
              | true =>
                go_wp2_with fail
                refine (remove_map b _ _ key _ hm hD (by omega) hk2).mono ?_
                rintro e w3 ⟨rfl, c2, kb, hm2, hc2⟩
                rw [hhad] at hc2
                rw [hhad]
                simp only [if_true, if_false, Bool.false_eq_true] at hc2
                have hbox := kb.at_ hbox hbo
                have hD := hD.keepsOut (B := b) (h := b) (kb.mono (fun _ _ h => .inl h)) hbg hbg
                have fr := fr.trans' kb (fun i hi h => by omega)
                have hm := hm2
                clear kb hm2 x2 x3 x4
                have x2 := cell_at hbox 2
                have x3 := cell_at hbox 3
                have x4 := cell_at hbox 4
                simp at x2 x3 x4
                go_wp2_with fail
                refine (get_map b _ _ key _ hm hD hkl).mono ?_
                rintro e w4 ⟨rfl, fa⟩
                have hbox := fa.at_ hbox (fun h => h)
                have hm := hm.fresh fa
                have hD := hD.fresh fa
                have fr := fr.trans fa
                clear fa x2 x3 x4
                have x2 := cell_at hbox 2
                have x3 := cell_at hbox 3
                have x4 := cell_at hbox 4
                simp at x2 x3 x4
                rw [htell2]
                have hnil : (str ([] : List UInt8)).toList = [] := str_toList []
                have hlen := len_map b _ _ _ hm
                have e1 : (c2 : Int) = (c : Int) - 1 := by omega
                rw [e1] at hlen
                go_wp2_with fail
                refine (hlen).mono ?_
                rintro e w5 ⟨rfl, fa⟩
                clear hlen
                have hbox := fa.at_ hbox (fun h => h)
                have hm := hm.fresh fa
                have hD := hD.fresh fa
                have fr := fr.trans fa
                clear fa x2 x3 x4
                have x2 := cell_at hbox 2
                have x3 := cell_at hbox 3
                have x4 := cell_at hbox 4
                simp at x2 x3 x4
                go_wp2_with fail
                go_roundw
                case rel => exact ⟨n + 1, _, _, by go_num, by omega, by omega, by omega, hm, fr⟩
                case measure => simp [intOf]; omega
              | false =>
                go_wp2_with fail
                refine (remove_map b _ _ key _ hm hD (by omega) hk2).mono ?_
                rintro e w3 ⟨rfl, c2, kb, hm2, hc2⟩
                rw [hhad] at hc2
                rw [hhad]
                simp only [if_true, if_false, Bool.false_eq_true] at hc2
                have hbox := kb.at_ hbox hbo
                have hD := hD.keepsOut (B := b) (h := b) (kb.mono (fun _ _ h => .inl h)) hbg hbg
                have fr := fr.trans' kb (fun i hi h => by omega)
                have hm := hm2
                clear kb hm2 x2 x3 x4
                have x2 := cell_at hbox 2
                have x3 := cell_at hbox 3
                have x4 := cell_at hbox 4
                simp at x2 x3 x4
                go_wp2_with fail
                refine (get_map b _ _ key _ hm hD hkl).mono ?_
                rintro e w4 ⟨rfl, fa⟩
                have hbox := fa.at_ hbox (fun h => h)
                have hm := hm.fresh fa
                have hD := hD.fresh fa
                have fr := fr.trans fa
                clear fa x2 x3 x4
                have x2 := cell_at hbox 2
                have x3 := cell_at hbox 3
                have x4 := cell_at hbox 4
                simp at x2 x3 x4
                rw [htell2]
                have hnil : (str ([] : List UInt8)).toList = [] := str_toList []
                have hlen := len_map b _ _ _ hm
                have e1 : c2 = c := by omega
                rw [e1] at hlen
                go_wp2_with fail
                refine (hlen).mono ?_
                rintro e w5 ⟨rfl, fa⟩
                clear hlen
                have hbox := fa.at_ hbox (fun h => h)
                have hm := hm.fresh fa
                have hD := hD.fresh fa
                have fr := fr.trans fa
                clear fa x2 x3 x4
                have x2 := cell_at hbox 2
                have x3 := cell_at hbox 3
                have x4 := cell_at hbox 4
                simp at x2 x3 x4
                go_wp2_with fail
                go_roundw
                case rel => exact ⟨n + 1, _, _, by go_num, by omega, by omega, by omega, hm, fr⟩
                case measure => simp [intOf]; omega
          · have hk3 : ok ≠ 2 := hk2'
            go_wp2_with fail
            go_roundw
            case rel => exact ⟨n + 1, _, _, by go_num, by omega, by omega, by omega, hm, fr⟩
            case measure => simp [intOf]; omega
      · go_wp2_with fail
        have hcount := hm.count
        have hgood := hm.good
        refine (keys_any b t c _ hm.at_ (by omega)).mono ?_
        rintro e w3 ⟨v, rfl, fa, hown⟩
        have hm := hm.fresh fa
        have hD := hD.fresh fa
        have fr := fr.trans fa
        have hstrict := rising_strict (keys_nodup t 0 _ hgood)
        have hmem : ∀ s, s ∈ rising t.keys → s.length ≤ 200 ∧ t.has (sha s) = true := fun s hs => look_told hgood s (rising_mem.1 hs)
        have hlenL : (rising t.keys).length = c := by rw [rising_length, hcount]
        obtain ⟨L, hL⟩ : ∃ L, rising t.keys = L := ⟨_, rfl⟩
        rw [hL] at hown hstrict hmem hlenL
        obtain ⟨B, hB⟩ : ∃ B, wr.heap.size = B := ⟨_, rfl⟩
        rw [hB] at hown
        obtain ⟨ao2, cp2, rfl⟩ := ownsRow_slice hown.1
        have HSTRICT := hid hstrict
        have HMEM := hid hmem
        have HLEN := hid hlenL
        have hLb : L.length ≤ 1000 := by omega
        clear fa hL hB hstrict hmem hcount HI hlenL
        go_wp2_with fail
        go_loopw [21] (fun i wx => ∃ (m : Nat), i = .int .i64 (m : Int) ∧ m ≤ L.length ∧ Map wx b t c ∧ Fresh w wx ∧ OwnTexts B wx (.slice ao2 L.length cp2) L) (fun i _ => L.length - (intOf i).toNat)
        case atStart => exact ⟨0, rfl, by omega, hm, fr, hown⟩
        case round =>
          obtain ⟨m, rfl, hmL, hm, fr, hown⟩ := hrel
          have hD := hd.fresh fr
          by_cases hlt2 : m < L.length
          · obtain ⟨s, hs⟩ : ∃ s, L[m]? = some s := ⟨L[m], by simp⟩
            obtain ⟨hs2, hs3⟩ := HMEM.out s (List.mem_of_getElem? hs)
            have hts : t.tells s = (t.got (sha s), true) := by rw [Tr.tells, if_neg (by omega), hs3]
            have hta := hown.at_
            have hcc : ∀ j q, L[j]? = some q → ∃ bb, ao2 = some ⟨bb, 0, none⟩ ∧ bb < wr.heap.size ∧ wr.cell? ⟨bb, j, none⟩ = some (.string (str q)) := fun j q hq => by
              obtain ⟨ao3, cp3, he, hc⟩ := ownsRow_at hown.1
              simp only [Value.slice.injEq] at he
              obtain ⟨rfl, -, rfl⟩ := he
              exact hc j (.string (str q)) (by rw [texts, List.getElem?_map, hq]; rfl)
            obtain ⟨bb, rfl, hbb, x0⟩ := hcc m s hs
            have hget := get_map b _ _ s _ hm hD (by omega)
            rw [hts] at hget
            have HG := hid hget
            have HCC := hid hcc
            clear hget hts hta hcc
            go_wp2_with fail
            refine HG.out.mono ?_
            rintro e w5 ⟨rfl, fa⟩
            have hm := hm.fresh fa
            have fr := fr.trans fa
            have hown := (show OwnTexts B w5 _ L from ⟨ownsRow_keeps hown.1 fa (fun _ _ h => h), hown.2⟩)
            have x0 := (fa.cell (p := ⟨bb, m, none⟩) hbb (fun h => h)).trans x0
            by_cases h0 : m = 0
            · subst h0
              clear fa HCC HG
              go_wp2_with fail
              go_quiet (fail)
              go_wp2_with fail
              go_roundw
              case rel => exact ⟨1, by go_num, by omega, hm.fresh ((Keeps.refl (fun _ => False) _).drewN _), fr.drewN _, ⟨ownsRow_keeps hown.1 ((Keeps.refl (fun _ => False) _).drewN _) (fun _ _ h => h), hown.2⟩⟩
              case measure => simp [intOf]; omega
            · obtain ⟨s1, hs1⟩ : ∃ s, L[m - 1]? = some s := ⟨L[m - 1]'(by omega), by simp⟩
              obtain ⟨bb1, hb1, -, y0⟩ := HCC.out (m - 1) s1 hs1
              simp only [Option.some.injEq, Addr.mk.injEq, and_true] at hb1
              subst hb1
              have y0 := (fa.cell (p := ⟨bb, m - 1, none⟩) hbb (fun h => h)).trans y0
              have hlt3 : s1 < s := by
                have := List.pairwise_iff_getElem.1 HSTRICT.out (m - 1) m (by omega) (by omega) (by omega)
                rw [List.getElem?_eq_getElem (by omega)] at hs hs1
                rw [Option.some.inj hs, Option.some.inj hs1] at this
                exact this
              have hbl : Op.bytesLess (str s1).toList (str s).toList = true := by rw [bytesLess_eq, str_toList, str_toList]; exact decide_eq_true hlt3
              have hw : IntKind.i64.wrap ((m : Int) - 1) = (m : Int) - 1 := by have := HLEN.out; rw [IntKind.wrap_i64]; omega
              have g00 : 0 < m := by omega
              have g01 : decide (0 < m) = true := decide_eq_true g00
              have g0 : (0 : Int) < (m : Int) := by omega
              have g1 : (IntKind.i64.wrap ((m : Int) - 1)).toNat = m - 1 := by rw [hw]; omega
              have g2 : (0 : Int) ≤ IntKind.i64.wrap ((m : Int) - 1) := by rw [hw]; omega
              have g3 : IntKind.i64.wrap ((m : Int) - 1) < (L.length : Int) := by rw [hw]; omega
              clear hw
              clear fa HCC HG hs hs1 hlt3
              go_wp2_with fail
              go_quiet (fail)
              go_wp2_with fail
              go_roundw
              case rel => exact ⟨m + 1, by go_num, by omega, hm.fresh ((Keeps.refl (fun _ => False) _).drewN _), fr.drewN _, ⟨ownsRow_keeps hown.1 ((Keeps.refl (fun _ => False) _).drewN _) (fun _ _ h => h), hown.2⟩⟩
              case measure => simp [intOf]; omega
          · go_wp2_with fail
            have hlen := len_map b _ _ _ hm
            rw [← HLEN.out] at hlen
            refine hlen.mono ?_
            rintro e w5 ⟨rfl, fa⟩
            go_wp2_with fail
            go_ret
            exact ⟨by simp, fr.trans fa⟩
    · go_wp2_with fail
      have hcount := hm.count
      have hgood := hm.good
      refine (keys_any b t c _ hm.at_ (by omega)).mono ?_
      rintro e w3 ⟨v, rfl, fa, hown⟩
      have hm := hm.fresh fa
      have hD := hD.fresh fa
      have fr := fr.trans fa
      have hstrict := rising_strict (keys_nodup t 0 _ hgood)
      have hmem : ∀ s, s ∈ rising t.keys → s.length ≤ 200 ∧ t.has (sha s) = true := fun s hs => look_told hgood s (rising_mem.1 hs)
      have hlenL : (rising t.keys).length = c := by rw [rising_length, hcount]
      obtain ⟨L, hL⟩ : ∃ L, rising t.keys = L := ⟨_, rfl⟩
      rw [hL] at hown hstrict hmem hlenL
      obtain ⟨B, hB⟩ : ∃ B, wr.heap.size = B := ⟨_, rfl⟩
      rw [hB] at hown
      obtain ⟨ao2, cp2, rfl⟩ := ownsRow_slice hown.1
      have HSTRICT := hid hstrict
      have HMEM := hid hmem
      have HLEN := hid hlenL
      have hLb : L.length ≤ 1000 := by omega
      clear fa hL hB hstrict hmem hcount HI hlenL
      go_wp2_with fail
      go_loopw [21] (fun i wx => ∃ (m : Nat), i = .int .i64 (m : Int) ∧ m ≤ L.length ∧ Map wx b t c ∧ Fresh w wx ∧ OwnTexts B wx (.slice ao2 L.length cp2) L) (fun i _ => L.length - (intOf i).toNat)
      case atStart => exact ⟨0, rfl, by omega, hm, fr, hown⟩
      case round =>
        obtain ⟨m, rfl, hmL, hm, fr, hown⟩ := hrel
        have hD := hd.fresh fr
        by_cases hlt2 : m < L.length
        · obtain ⟨s, hs⟩ : ∃ s, L[m]? = some s := ⟨L[m], by simp⟩
          obtain ⟨hs2, hs3⟩ := HMEM.out s (List.mem_of_getElem? hs)
          have hts : t.tells s = (t.got (sha s), true) := by rw [Tr.tells, if_neg (by omega), hs3]
          have hta := hown.at_
          have hcc : ∀ j q, L[j]? = some q → ∃ bb, ao2 = some ⟨bb, 0, none⟩ ∧ bb < wr.heap.size ∧ wr.cell? ⟨bb, j, none⟩ = some (.string (str q)) := fun j q hq => by
            obtain ⟨ao3, cp3, he, hc⟩ := ownsRow_at hown.1
            simp only [Value.slice.injEq] at he
            obtain ⟨rfl, -, rfl⟩ := he
            exact hc j (.string (str q)) (by rw [texts, List.getElem?_map, hq]; rfl)
          obtain ⟨bb, rfl, hbb, x0⟩ := hcc m s hs
          have hget := get_map b _ _ s _ hm hD (by omega)
          rw [hts] at hget
          have HG := hid hget
          have HCC := hid hcc
          clear hget hts hta hcc
          go_wp2_with fail
          refine HG.out.mono ?_
          rintro e w5 ⟨rfl, fa⟩
          have hm := hm.fresh fa
          have fr := fr.trans fa
          have hown := (show OwnTexts B w5 _ L from ⟨ownsRow_keeps hown.1 fa (fun _ _ h => h), hown.2⟩)
          have x0 := (fa.cell (p := ⟨bb, m, none⟩) hbb (fun h => h)).trans x0
          by_cases h0 : m = 0
          · subst h0
            clear fa HCC HG
            go_wp2_with fail
            go_quiet (fail)
            go_wp2_with fail
            go_roundw
            case rel => exact ⟨1, by go_num, by omega, hm.fresh ((Keeps.refl (fun _ => False) _).drewN _), fr.drewN _, ⟨ownsRow_keeps hown.1 ((Keeps.refl (fun _ => False) _).drewN _) (fun _ _ h => h), hown.2⟩⟩
            case measure => simp [intOf]; omega
          · obtain ⟨s1, hs1⟩ : ∃ s, L[m - 1]? = some s := ⟨L[m - 1]'(by omega), by simp⟩
            obtain ⟨bb1, hb1, -, y0⟩ := HCC.out (m - 1) s1 hs1
            simp only [Option.some.injEq, Addr.mk.injEq, and_true] at hb1
            subst hb1
            have y0 := (fa.cell (p := ⟨bb, m - 1, none⟩) hbb (fun h => h)).trans y0
            have hlt3 : s1 < s := by
              have := List.pairwise_iff_getElem.1 HSTRICT.out (m - 1) m (by omega) (by omega) (by omega)
              rw [List.getElem?_eq_getElem (by omega)] at hs hs1
              rw [Option.some.inj hs, Option.some.inj hs1] at this
              exact this
            have hbl : Op.bytesLess (str s1).toList (str s).toList = true := by rw [bytesLess_eq, str_toList, str_toList]; exact decide_eq_true hlt3
            have hw : IntKind.i64.wrap ((m : Int) - 1) = (m : Int) - 1 := by have := HLEN.out; rw [IntKind.wrap_i64]; omega
            have g00 : 0 < m := by omega
            have g01 : decide (0 < m) = true := decide_eq_true g00
            have g0 : (0 : Int) < (m : Int) := by omega
            have g1 : (IntKind.i64.wrap ((m : Int) - 1)).toNat = m - 1 := by rw [hw]; omega
            have g2 : (0 : Int) ≤ IntKind.i64.wrap ((m : Int) - 1) := by rw [hw]; omega
            have g3 : IntKind.i64.wrap ((m : Int) - 1) < (L.length : Int) := by rw [hw]; omega
            clear hw
            clear fa HCC HG hs hs1 hlt3
            go_wp2_with fail
            go_quiet (fail)
            go_wp2_with fail
            go_roundw
            case rel => exact ⟨m + 1, by go_num, by omega, hm.fresh ((Keeps.refl (fun _ => False) _).drewN _), fr.drewN _, ⟨ownsRow_keeps hown.1 ((Keeps.refl (fun _ => False) _).drewN _) (fun _ _ h => h), hown.2⟩⟩
            case measure => simp [intOf]; omega
        · go_wp2_with fail
          have hlen := len_map b _ _ _ hm
          rw [← HLEN.out] at hlen
          refine hlen.mono ?_
          rintro e w5 ⟨rfl, fa⟩
          go_wp2_with fail
          go_ret
          exact ⟨by simp, fr.trans fa⟩
end Go.Proofs.YtmflbchiapdhbaaDoor
