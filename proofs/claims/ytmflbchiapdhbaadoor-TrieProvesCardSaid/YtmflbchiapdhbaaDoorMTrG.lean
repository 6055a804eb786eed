/-
  The program's trie: what is too long is refused, and changes nothing; Prove of where nothing is.
  The law's own map: filled.
-/
import Derived.Test.YtmflbchiapdhbaaDoorTrProve
import Derived.Test.YtmflbchiapdhbaaDoorMTrF
import Derived.Test.YtmflbchiapdhbaaDoorMTrB
namespace Go.Proofs.YtmflbchiapdhbaaDoor
open Go.RowKit

set_option maxRecDepth 100000 in
theorem setmap_long (b : Nat) (key value : List UInt8) (w : World) (h : 200 < key.length ∨ 1000 < value.length) (hk : key.length ≤ 9223372036854775807) (hv : value.length ≤ 9223372036854775807) :
    Calls Tryd.prog 16 #[.pointer (some ⟨b, 0, none⟩), .string (str key), .string (str value)] w fun e w' => e = .returned (.int .i64 242) ∧ Fresh w w' := by
  have hsz := str_size key
  have hsv := str_size value
  by_cases h1 : 200 < key.length
  · clear h
    go_enter Tryd.func16, Tryd.ntmps16
    go_wp2_with fail
    go_ret
    exact ⟨rfl, Keeps.refl _ _⟩
  · have h2 : 1000 < value.length := h.resolve_left h1
    clear h
    go_enter Tryd.func16, Tryd.ntmps16
    go_wp2_with fail
    go_ret
    exact ⟨rfl, Keeps.refl _ _⟩

set_option maxRecDepth 100000 in
theorem removemap_long (b : Nat) (key : List UInt8) (w : World) (h : 200 < key.length) (hk : key.length ≤ 9223372036854775807) :
    Calls Tryd.prog 17 #[.pointer (some ⟨b, 0, none⟩), .string (str key)] w fun e w' => e = .returned (.tuple #[.bool false, .int .i64 242]) ∧ Fresh w w' := by
  have hsz := str_size key
  go_enter Tryd.func17, Tryd.ntmps17
  go_wp2_with fail
  go_ret2
  exact ⟨rfl, Keeps.refl _ _⟩

set_option maxRecDepth 100000 in
theorem get_long (b : Nat) (key : List UInt8) (w : World) (h : 200 < key.length) (hk : key.length ≤ 9223372036854775807) :
    Calls Tryd.prog 14 #[.pointer (some ⟨b, 0, none⟩), .string (str key)] w fun e w' => e = .returned (.tuple #[.string (str []), .bool false]) ∧ Fresh w w' := by
  have hsz := str_size key
  go_enter Tryd.func14, Tryd.ntmps14
  go_wp2_with fail
  go_ret2
  exact ⟨rfl, Keeps.refl _ _⟩

set_option maxRecDepth 100000 in
set_option maxHeartbeats 1000000 in
theorem prove_long (b : Nat) (key : List UInt8) (w : World) (h : 200 < key.length) (hk : key.length ≤ 9223372036854775807) :
    Calls Tryd.prog 12 #[.pointer (some ⟨b, 0, none⟩), .string (str key)] w fun e w' => e = .returned (.tuple #[lookupVal (.slice none 0 0) (false, [], []), .int .i64 242]) ∧ Fresh w w' := by
  have hsz := str_size key
  have f0 : Fresh w (w.alloc (.cells #[.slice none 0 0, .bool false, .string ⟨#[]⟩, .string ⟨#[]⟩] 24)) := (Keeps.refl _ _).alloc _
  have hb4 := heap_alloc_new w (.cells #[.slice none 0 0, .bool false, .string ⟨#[]⟩, .string ⟨#[]⟩] 24)
  go_enter Tryd.func12, Tryd.ntmps12
  go_wp2_with fail
  generalize w.alloc (.cells #[.slice none 0 0, .bool false, .string ⟨#[]⟩, .string ⟨#[]⟩] 24) = W at hb4 f0 ⊢
  have d0 := cell_at hb4 0
  have d1 := cell_at hb4 1
  have d2 := cell_at hb4 2
  have d3 := cell_at hb4 3
  simp at d0 d1 d2 d3
  refine bodyPost_ret (v := .tuple #[.agg #[.slice none 0 0, .bool false, .string ⟨#[]⟩, .string ⟨#[]⟩], .int .i64 242]) (by simp [results, Tryd.results12, go_sem, d0, d1, d2, d3, Result.andThen]) rfl ⟨rfl, f0⟩
end Go.Proofs.YtmflbchiapdhbaaDoor

namespace Go.Proofs.YtmflbchiapdhbaaDoor
open Go.RowKit

theorem set_step (b : Nat) (t : Tr) (many : Int) (key value : List UInt8) (w : World) (h : MapAt w b t many) (hg : Tr.Good (fun _ => 0) 0 t) (hd : Dig w) (hb : 3 ≤ b) (hkey : key.length ≤ 9223372036854775807) (hval : value.length ≤ 9223372036854775807) :
    Calls Tryd.prog 16 #[.pointer (some ⟨b, 0, none⟩), .string (str key), .string (str value)] w fun e w' => ∃ (ev : Int) (t' : Tr) (many' : Int), e = .returned (.int .i64 ev) ∧ (ev = 0 ∨ ev = 242) ∧ Tr.Good (fun _ => 0) 0 t' ∧ MapAt w' b t' many' ∧ Keeps (fun q => q = b) w w' := by
  by_cases hl : 200 < key.length ∨ 1000 < value.length
  · exact (setmap_long b key value w hl hkey hval).mono fun e w' ⟨he, hf⟩ => ⟨242, t, many, he, .inr rfl, hg, hf.at_ h (fun h => h), hf.mono (fun _ _ h => h.elim)⟩
  · exact (setok_any b t many key value w h hg hd hb (by omega) (by omega)).mono fun e w' ⟨he, hk, hm⟩ => ⟨0, _, _, he, .inl rfl, with_good hg (by omega) (by omega), hm, hk⟩

/-- a map lies there whose trie is right -/
def HasMap (w : World) (b : Nat) : Prop := ∃ t many, MapAt w b t many ∧ Tr.Good (fun _ => 0) 0 t
set_option maxRecDepth 100000 in
set_option maxHeartbeats 4000000 in
theorem lawfilled_any (v1 v2 : Value) (l1 l2 : List (List UInt8)) (w : World) (h1 : TextsAt w v1 l1) (h2 : TextsAt w v2 l2) (hd : Dig w) (hl1 : l1.length ≤ 9223372036854775807) (_hl2 : l2.length ≤ 9223372036854775807) (hs1 : ∀ s ∈ l1, s.length ≤ 9223372036854775807) (hs2 : ∀ s ∈ l2, s.length ≤ 9223372036854775807) :
    Calls Tryd.prog 11 #[v1, v2] w fun e w' => ∃ b, e = .returned (.pointer (some ⟨b, 0, none⟩)) ∧ w.heap.size ≤ b ∧ HasMap w' b ∧ Fresh w w' := by
  obtain ⟨ao1, cap1, rfl, hc1⟩ := h1
  obtain ⟨ao2, cap2, rfl, hc2⟩ := h2
  have HC1 := hid hc1
  have HC2 := hid hc2
  have HS1 := hid hs1
  have HS2 := hid hs2
  clear hc1 hc2 hs1 hs2
  go_enter Tryd.func11, Tryd.ntmps11
  go_wp2_with fail
  refine (new_any _).mono ?_
  rintro e w1 ⟨rfl, f1, hm⟩
  have hroom := hd.room
  obtain ⟨b, hbe⟩ : ∃ b, w.heap.size = b := ⟨_, rfl⟩
  have hbw : w.heap.size ≤ b := by omega
  have hbg : 3 ≤ b := by omega
  rw [hbe] at hm ⊢
  clear hbe hroom
  go_wp2_with fail
  go_loopw [6] (fun i wr => ∃ (n : Nat) (t : Tr) (many : Int), i = .int .i64 (n : Int) ∧ n ≤ 200 ∧ n ≤ l1.length ∧ Tr.Good (fun _ => 0) 0 t ∧ MapAt wr b t many ∧ Fresh w wr) (fun i _ => 200 - (intOf i).toNat)
  case atStart => exact ⟨0, .none, 0, rfl, by omega, by omega, trivial, hm, f1⟩
  case round =>
    obtain ⟨n, t, many, rfl, hn, hn1, hg, hm, hf⟩ := hrel
    clear f1
    by_cases hlt1 : n < l1.length
    · by_cases hlt2 : n < l2.length
      · by_cases hlt3 : n < 200
        · obtain ⟨s1, hs1⟩ : ∃ s, l1[n]? = some s := ⟨l1[n], by simp⟩
          obtain ⟨s2, hs2⟩ : ∃ s, l2[n]? = some s := ⟨l2[n], by simp⟩
          obtain ⟨bb1, off1, hao1, hbb1, hcell1⟩ := HC1.out n s1 hs1
          obtain ⟨bb2, off2, hao2, hbb2, hcell2⟩ := HC2.out n s2 hs2
          have hcell1 := (hf.cell (p := ⟨bb1, off1 + n, none⟩) hbb1 (fun h => h)).trans hcell1
          have hcell2 := (hf.cell (p := ⟨bb2, off2 + n, none⟩) hbb2 (fun h => h)).trans hcell2
          have hset := set_step b t many s1 s2 wr.drew hm hg (hd.fresh hf).drew hbg (HS1.out s1 (List.mem_of_getElem? hs1)) (HS2.out s2 (List.mem_of_getElem? hs2))
          have HSET := hid hset
          have hfd : Fresh w wr.drew := hf.drew
          subst hao1 hao2
          clear hs1 hs2 hset hm hg HC1 HC2 HS1 HS2 hd
          go_wp2_with fail
          go_region_law (first
            | (go_simp; go_at_call 16; refine HSET.out.mono ?_; rintro e w5 ⟨ev, t5, many5, rfl, hev, hg5, hm5, k5⟩))
          all_goals
            have f5 : Fresh w w5 := hfd.trans' k5 (fun i hi h => by omega)
            clear k5 hcell1 hcell2
            rcases hev with rfl | rfl
            · go_wp2_with fail
              go_roundw
              case rel => exact ⟨n + 1, t5, many5, by go_num, by omega, by omega, hg5, hm5, f5⟩
              case measure => simp [intOf]; omega
            · go_wp2_with fail
              go_roundw
              case rel => exact ⟨n + 1, t5, many5, by go_num, by omega, by omega, hg5, hm5, f5⟩
              case measure => simp [intOf]; omega
        · go_wp2_with fail
          go_ret
          exact ⟨b, rfl, hbw, ⟨t, many, hm, hg⟩, hf⟩
      · go_wp2_with fail
        go_ret
        exact ⟨b, rfl, hbw, ⟨t, many, hm, hg⟩, hf⟩
    · go_wp2_with fail
      go_ret
      exact ⟨b, rfl, hbw, ⟨t, many, hm, hg⟩, hf⟩
end Go.Proofs.YtmflbchiapdhbaaDoor
