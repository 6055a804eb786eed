/-
  The device: New.
-/
import Derived.Test.YtbhienlalpbflaaDvLoad
import Derived.Test.YtbhienlalpbflaaMTrA
namespace Go.Proofs.Ytbhienlalpbflaa
open Go.RowKit Go.Maps

/-- a row of N cells, the first n of them filled -/
def uptoCells (f : Nat → Value) (z : Value) (N n : Nat) : Array Value := ((List.range N).map fun i => if i < n then f i else z).toArray
theorem uptoCells_size (f : Nat → Value) (z : Value) (N n : Nat) : (uptoCells f z N n).size = N := by simp [uptoCells]
theorem uptoCells_zero (f : Nat → Value) (z : Value) (N : Nat) : (uptoCells f z N 0).toList = List.replicate N z := by
  apply List.ext_getElem (by simp [uptoCells])
  intro k h1 h2
  simp [uptoCells]
theorem uptoCells_succ (f : Nat → Value) (z : Value) (N n : Nat) (_h : n < N) : (uptoCells f z N n).setIfInBounds n (f n) = uptoCells f z N (n + 1) := by
  apply Array.ext_getElem?
  intro k
  simp only [uptoCells, Array.getElem?_setIfInBounds, List.size_toArray, List.length_map, List.length_range, List.getElem?_toArray, List.getElem?_map]
  by_cases hk : k < N
  · rw [List.getElem?_range hk]
    simp only [Option.map_some]
    by_cases e : n = k
    · subst e
      simp [hk]
    · rw [if_neg e]
      by_cases h1 : k < n
      · rw [if_pos h1, if_pos (by omega)]
      · rw [if_neg h1, if_neg (by omega)]
  · rw [List.getElem?_eq_none (by simp; omega)]
    simp
    omega
theorem uptoCells_full (f : Nat → Value) (z : Value) (N : Nat) : (uptoCells f z N N).toList = (List.range N).map f := by
  apply List.ext_getElem (by simp [uptoCells])
  intro k h1 h2
  have hk : k < N := by simpa using h2
  simp [uptoCells, hk]
theorem made_list (z : Value) (n : Nat) : (madeCells #[z] n).toList = List.replicate n z := by
  simp only [madeCells]
  apply List.ext_getElem?
  intro j
  simp only [Array.toList_map, Array.toList_range, List.getElem?_map, List.getElem?_replicate]
  by_cases hj : j < n
  · simp [hj, Nat.mod_one]
  · simp [hj]
/-- a row that was made, as its block -/
theorem made_block {w : World} {g n : Nat} {e : TypeId} {z : Value} (f : Nat → Value) (hrow : w.ownsRow 0 e 1 (.slice (some ⟨g, 0, none⟩) n n) n (madeCells #[z] n).toList) : w.heap[g]? = some (.cells (uptoCells f z n 0) e (0, 0)) := by
  rcases hrow.2 with ⟨h0, _⟩ | ⟨g', cap, cur, he, _, hb, h1, h2, h3, h4⟩
  · cases h0
  · simp only [Value.slice.injEq, Option.some.injEq, Addr.mk.injEq, and_true] at he
    obtain ⟨rfl, -, rfl⟩ := he
    have : cur = uptoCells f z n 0 := by
      have h5 : cur.toList.take (n * 1) = cur.toList := List.take_of_length_le (by rw [Array.length_toList]; omega)
      rw [h5] at h4
      apply Array.toList_inj.1
      rw [h4, made_list, uptoCells_zero]
    rw [← this]; exact hb

def nought256 : List UInt8 := List.replicate 256 0
theorem nought256_len : nought256.length = 256 := List.length_replicate
theorem every_noughts (n : Nat) : every256 (List.replicate n nought256) = true := by
  induction n with
  | zero => rfl
  | succ n ih => rw [List.replicate_succ, every256, ih, nought256_len]; rfl
theorem OwnTexts.mono {B B' : Nat} {w : World} {v : Value} {l : List (List UInt8)} (h : OwnTexts B w v l) (hb : B' ≤ B) : OwnTexts B' w v l := ⟨h.1, fun g hg => Nat.le_trans hb (h.2 g hg)⟩
theorem Dev.mono {B B' : Nat → Prop} {w : World} {d : Nat} {l : List (List UInt8)} {D : DD} {n : Nat} {dead : Bool} {armed : Int} (h : Dev B w d l D n dead armed) (hb : ∀ q, B q → B' q) : Dev B' w d l D n dead armed := by
  obtain ⟨pv, mb, h1, h2, h3, h5, h6⟩ := h.ex
  exact ⟨⟨pv, mb, h1, ⟨h2.1, fun g hg => hb g (h2.2 g hg)⟩, h3, hb _ h5, hb _ h6⟩⟩
theorem Loaded.mono {w0 w w' : World} {l : List (List UInt8)} {ev : Int} {p : Option Addr} (h : Loaded w w' l ev p) (hw : w0.heap.size ≤ w.heap.size) : Loaded w0 w' l ev p := by
  rcases h with h | ⟨h0, d, h1, h2, h3⟩
  · exact .inl h
  · exact .inr ⟨h0, d, h1, by omega, h3.mono (fun q h => by omega)⟩

def newErr (p : Int) : Int := if p < 4 ∨ 4096 < p then 1 else 0
set_option maxRecDepth 100000 in
set_option maxHeartbeats 2000000 in
theorem dnew_any (p : Int) (w : World) :
    Calls Try.prog 7 #[.int .i64 p] w fun e w' => ∃ q, e = .returned (.tuple #[.pointer q, .int .i64 (newErr p)]) ∧ Fresh w w' ∧ Loaded w w' (List.replicate p.toNat nought256) (newErr p) q := by
  by_cases h4 : p < 4 ∨ 4096 < p
  · have hE : newErr p = 1 := by rw [newErr, if_pos h4]
    rw [hE]
    clear hE
    by_cases h5 : p < 4
    · clear h4
      go_enter Try.func7, Try.ntmps7
      go_wp2_with fail
      go_ret2
      exact ⟨none, rfl, Keeps.refl _ _, .inl ⟨by omega, rfl⟩⟩
    · have h6 : 4096 < p := h4.resolve_left h5
      clear h4
      go_enter Try.func7, Try.ntmps7
      go_wp2_with fail
      go_ret2
      exact ⟨none, rfl, Keeps.refl _ _, .inl ⟨by omega, rfl⟩⟩
  · have hE : newErr p = 0 := by rw [newErr, if_neg h4]
    obtain ⟨N, rfl⟩ : ∃ N : Nat, p = (N : Int) := ⟨p.toNat, by omega⟩
    have hN : 4 ≤ N ∧ N ≤ 4096 := by omega
    have hL : loadErr (List.replicate N nought256) = 0 := by
      rw [loadErr, if_neg (by rw [List.length_replicate]; omega), every_noughts, if_pos rfl]
    rw [hE, Int.toNat_natCast]
    obtain ⟨hN1, hN2⟩ := hN
    have hrep := fun W => Try.strings_Repeat (str [0]) 256 W (by omega) (by rw [str_size]; decide)
    have he : (⟨(Lib.repeatL (str [0]).data.toList 256).toArray⟩ : ByteArray) = str nought256 := by
      have : Lib.repeatL (str [0]).data.toList 256 = List.replicate 256 0 := by decide +kernel
      rw [this]; rfl
    rw [he] at hrep
    have HREP := hid hrep
    have HL := hid hL
    obtain ⟨i0, hi, hz0, hz1, hz2⟩ := info_parts Try.infoText
    clear h4 hE hrep he hL
    go_enter Try.func7, Try.ntmps7
    go_wp2_with (at_make; refine wpList_make_full _ rfl (.tmp 12) (.tmp 12) 30 rfl 0 9 i0 (.string ⟨#[]⟩) 1 Try.underlying30 hi hz0 hz1 .i64 .i64 (N : Int) (N : Int) N rfl rfl rfl rfl (by rw [hz2]; omega) (by unfold maxLen; omega) (Nat.zero_le _) ?_)
    intro w1 hrow hgr
    have f1 : Fresh w w1 := (Keeps.refl _ w).grown hgr (fun k h => by cases h)
    have hblk := made_block (fun _ => .string (str nought256)) hrow
    obtain ⟨g, hge⟩ : ∃ g, w.heap.size = g := ⟨_, rfl⟩
    have hgw : w.heap.size ≤ g := by omega
    rw [hge] at hblk ⊢
    clear hrow hgr hge
    go_wp2_with fail
    go_loopw [16] (fun i wr => ∃ n : Nat, i = .int .i64 (n : Int) ∧ n ≤ N ∧ wr.heap[g]? = some (.cells (uptoCells (fun _ => .string (str nought256)) (.string ⟨#[]⟩) N n) 9 (0, 0)) ∧ Fresh w wr) (fun i _ => N - (intOf i).toNat)
    case atStart => exact ⟨0, rfl, by omega, hblk, f1⟩
    case round =>
      obtain ⟨n, rfl, hn, hb, hf⟩ := hrel
      by_cases hlt : n < N
      · have hlt2 : (n : Int) < (N : Int) := by omega
        go_wp2_with fail
        refine (HREP.out _).mono ?_
        rintro e w2 ⟨rfl, hbel⟩
        have f2 : Fresh wr w2 := (Keeps.of_below hbel).mono fun k hk hk2 => absurd hk (by omega)
        have hb2 := f2.at_ hb (fun h => h)
        obtain ⟨u, hu⟩ : ∃ u, (uptoCells (fun _ => .string (str nought256)) (.string ⟨#[]⟩) N n)[n]? = some u := ⟨(uptoCells (fun _ => .string (str nought256)) (.string ⟨#[]⟩) N n)[n]'(by rw [uptoCells_size]; exact hlt), by simp⟩
        have hcell := cell_at hb2 n
        rw [hu] at hcell
        have hz := free_at hb2 n
        have hnext := heap_setCell_at hb2 n (.string (str nought256))
        rw [uptoCells_succ (fun _ => .string (str nought256)) _ N n hlt] at hnext
        have hkk := Keeps.setCell (S := fun q => q = g) (Keeps.refl _ w2) (p := ⟨g, n, none⟩) (fun _ => rfl) (.string (str nought256))
        have hf2 := (hf.trans f2).trans' hkk (fun i hi h => by omega)
        have HN := hid hnext
        have HF := hid hf2
        clear hnext hf2 hkk hu hb2 f2 hbel
        go_wp2_with fail
        go_roundw
        case rel => exact ⟨n + 1, by go_num, by omega, HN.out, HF.out⟩
        case measure => simp [intOf]; omega
      · obtain rfl : n = N := by omega
        have hT : TextsAt wr (.slice (some ⟨g, 0, none⟩) (List.replicate n nought256).length n) (List.replicate n nought256) := ⟨_, _, rfl, fun k s hs => ⟨g, 0, rfl, lt_of_block hb, by
          have h1 : (uptoCells (fun _ => .string (str nought256)) (.string ⟨#[]⟩) n n).toList[k]? = ((List.range n).map fun _ => Value.string (str nought256))[k]? := by rw [uptoCells_full]
          rw [Array.getElem?_toList] at h1
          rw [Nat.zero_add, cell_at hb, h1]
          rw [List.getElem?_replicate] at hs
          split at hs
          · rename_i hk
            cases hs
            simp [hk]
          · cases hs⟩⟩
        have hload := load_any _ _ wr hT (by rw [List.length_replicate]; omega) (fun s hs => by rw [(List.mem_replicate.1 hs).2, nought256_len]; omega)
        rw [HL.out, List.length_replicate] at hload
        have HLD := hid hload
        clear hload hT
        go_wp2_with fail
        refine HLD.out.mono ?_
        rintro e w3 ⟨q, rfl, f3, hld⟩
        go_wp2_with fail
        go_ret2
        exact ⟨q, rfl, hf.trans f3, hld.mono hf.size⟩
end Go.Proofs.Ytbhienlalpbflaa
