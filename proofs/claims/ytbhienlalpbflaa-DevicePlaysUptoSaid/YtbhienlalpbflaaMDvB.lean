/-
  The device: New.
  The law's page of a raw number.
  The document's device: Load and New: is there one, and which error?
  The document's device: New; the law's pick.
-/
import Derived.Test.YtbhienlalpbflaaMDvA
import Derived.Test.YtbhienlalpbflaaMTrA
namespace Go.Proofs.Ytbhienlalpbflaa
open Go.RowKit Go.Maps

/-- a row of N cells, the first n of them filled -/
def uptoCells (f : Nat → Value) (z : Value) (N n : Nat) : Array Value := ((List.range N).map fun i => if i < n then f i else z).toArray
theorem uptoCells_size (f : Nat → Value) (z : Value) (N n : Nat) : (uptoCells f z N n).size = N := by simp [uptoCells]
theorem uptoCells_zero (f : Nat → Value) (z : Value) (N : Nat) : (uptoCells f z N 0).toList = List.replicate N z := by
  apply List.ext_getElem (by simp [uptoCells])
  intro k h1 h2
  simp [uptoCells]
theorem uptoCells_succ (f : Nat → Value) (z : Value) (N n : Nat) (_h : n < N) : (uptoCells f z N n).setIfInBounds n (f n) = uptoCells f z N (n + 1) := by
  apply Array.ext_getElem?
  intro k
  simp only [uptoCells, Array.getElem?_setIfInBounds, List.size_toArray, List.length_map, List.length_range, List.getElem?_toArray, List.getElem?_map]
  by_cases hk : k < N
  · rw [List.getElem?_range hk]
    simp only [Option.map_some]
    by_cases e : n = k
    · subst e
      simp [hk]
    · rw [if_neg e]
      by_cases h1 : k < n
      · rw [if_pos h1, if_pos (by omega)]
      · rw [if_neg h1, if_neg (by omega)]
  · rw [List.getElem?_eq_none (by simp; omega)]
    simp
    omega
theorem uptoCells_full (f : Nat → Value) (z : Value) (N : Nat) : (uptoCells f z N N).toList = (List.range N).map f := by
  apply List.ext_getElem (by simp [uptoCells])
  intro k h1 h2
  have hk : k < N := by simpa using h2
  simp [uptoCells, hk]
theorem made_list (z : Value) (n : Nat) : (madeCells #[z] n).toList = List.replicate n z := by
  simp only [madeCells]
  apply List.ext_getElem?
  intro j
  simp only [Array.toList_map, Array.toList_range, List.getElem?_map, List.getElem?_replicate]
  by_cases hj : j < n
  · simp [hj, Nat.mod_one]
  · simp [hj]
/-- a row that was made, as its block -/
theorem made_block {w : World} {g n : Nat} {e : TypeId} {z : Value} (f : Nat → Value) (hrow : w.ownsRow 0 e 1 (.slice (some ⟨g, 0, none⟩) n n) n (madeCells #[z] n).toList) : w.heap[g]? = some (.cells (uptoCells f z n 0) e (0, 0)) := by
  rcases hrow.2 with ⟨h0, _⟩ | ⟨g', cap, cur, he, _, hb, h1, h2, h3, h4⟩
  · cases h0
  · simp only [Value.slice.injEq, Option.some.injEq, Addr.mk.injEq, and_true] at he
    obtain ⟨rfl, -, rfl⟩ := he
    have : cur = uptoCells f z n 0 := by
      have h5 : cur.toList.take (n * 1) = cur.toList := List.take_of_length_le (by rw [Array.length_toList]; omega)
      rw [h5] at h4
      apply Array.toList_inj.1
      rw [h4, made_list, uptoCells_zero]
    rw [← this]; exact hb

def nought256 : List UInt8 := List.replicate 256 0
theorem nought256_len : nought256.length = 256 := List.length_replicate
theorem every_noughts (n : Nat) : every256 (List.replicate n nought256) = true := by
  induction n with
  | zero => rfl
  | succ n ih => rw [List.replicate_succ, every256, ih, nought256_len]; rfl
theorem OwnTexts.mono {B B' : Nat} {w : World} {v : Value} {l : List (List UInt8)} (h : OwnTexts B w v l) (hb : B' ≤ B) : OwnTexts B' w v l := ⟨h.1, fun g hg => Nat.le_trans hb (h.2 g hg)⟩
theorem Dev.mono {B B' : Nat → Prop} {w : World} {d : Nat} {l : List (List UInt8)} {D : DD} {n : Nat} {dead : Bool} {armed : Int} (h : Dev B w d l D n dead armed) (hb : ∀ q, B q → B' q) : Dev B' w d l D n dead armed := by
  obtain ⟨pv, mb, h1, h2, h3, h5, h6⟩ := h.ex
  exact ⟨⟨pv, mb, h1, ⟨h2.1, fun g hg => hb g (h2.2 g hg)⟩, h3, hb _ h5, hb _ h6⟩⟩
theorem Loaded.mono {w0 w w' : World} {l : List (List UInt8)} {ev : Int} {p : Option Addr} (h : Loaded w w' l ev p) (hw : w0.heap.size ≤ w.heap.size) : Loaded w0 w' l ev p := by
  rcases h with h | ⟨h0, d, h1, h2, h3⟩
  · exact .inl h
  · exact .inr ⟨h0, d, h1, by omega, h3.mono (fun q h => by omega)⟩

def newErr (p : Int) : Int := if p < 4 ∨ 4096 < p then 1 else 0
set_option maxRecDepth 100000 in
set_option maxHeartbeats 2000000 in
theorem dnew_any (p : Int) (w : World) :
    Calls Try.prog 7 #[.int .i64 p] w fun e w' => ∃ q, e = .returned (.tuple #[.pointer q, .int .i64 (newErr p)]) ∧ Fresh w w' ∧ Loaded w w' (List.replicate p.toNat nought256) (newErr p) q := by
  by_cases h4 : p < 4 ∨ 4096 < p
  · have hE : newErr p = 1 := by rw [newErr, if_pos h4]
    rw [hE]
    clear hE
    by_cases h5 : p < 4
    · clear h4
      go_enter Try.func7, Try.ntmps7
      go_wp2_with fail
      go_ret2
      exact ⟨none, rfl, Keeps.refl _ _, .inl ⟨by omega, rfl⟩⟩
    · have h6 : 4096 < p := h4.resolve_left h5
      clear h4
      go_enter Try.func7, Try.ntmps7
      go_wp2_with fail
      go_ret2
      exact ⟨none, rfl, Keeps.refl _ _, .inl ⟨by omega, rfl⟩⟩
  · have hE : newErr p = 0 := by rw [newErr, if_neg h4]
    obtain ⟨N, rfl⟩ : ∃ N : Nat, p = (N : Int) := ⟨p.toNat, by omega⟩
    have hN : 4 ≤ N ∧ N ≤ 4096 := by omega
    have hL : loadErr (List.replicate N nought256) = 0 := by
      rw [loadErr, if_neg (by rw [List.length_replicate]; omega), every_noughts, if_pos rfl]
    rw [hE, Int.toNat_natCast]
    obtain ⟨hN1, hN2⟩ := hN
    have hrep := fun W => Try.strings_Repeat (str [0]) 256 W (by omega) (by rw [str_size]; decide)
    have he : (⟨(Lib.repeatL (str [0]).data.toList 256).toArray⟩ : ByteArray) = str nought256 := by
      have : Lib.repeatL (str [0]).data.toList 256 = List.replicate 256 0 := by decide +kernel
      rw [this]; rfl
    rw [he] at hrep
    have HREP := hid hrep
    have HL := hid hL
    obtain ⟨i0, hi, hz0, hz1, hz2⟩ := info_parts Try.infoText
    clear h4 hE hrep he hL
    go_enter Try.func7, Try.ntmps7
    go_wp2_with (at_make; refine wpList_make_full _ rfl (.tmp 12) (.tmp 12) 30 rfl 0 9 i0 (.string ⟨#[]⟩) 1 Try.underlying30 hi hz0 hz1 .i64 .i64 (N : Int) (N : Int) N rfl rfl rfl rfl (by rw [hz2]; omega) (by unfold maxLen; omega) (Nat.zero_le _) ?_)
    intro w1 hrow hgr
    have f1 : Fresh w w1 := (Keeps.refl _ w).grown hgr (fun k h => by cases h)
    have hblk := made_block (fun _ => .string (str nought256)) hrow
    obtain ⟨g, hge⟩ : ∃ g, w.heap.size = g := ⟨_, rfl⟩
    have hgw : w.heap.size ≤ g := by omega
    rw [hge] at hblk ⊢
    clear hrow hgr hge
    go_wp2_with fail
    go_loopw [16] (fun i wr => ∃ n : Nat, i = .int .i64 (n : Int) ∧ n ≤ N ∧ wr.heap[g]? = some (.cells (uptoCells (fun _ => .string (str nought256)) (.string ⟨#[]⟩) N n) 9 (0, 0)) ∧ Fresh w wr) (fun i _ => N - (intOf i).toNat)
    case atStart => exact ⟨0, rfl, by omega, hblk, f1⟩
    case round =>
      obtain ⟨n, rfl, hn, hb, hf⟩ := hrel
      by_cases hlt : n < N
      · have hlt2 : (n : Int) < (N : Int) := by omega
        go_wp2_with fail
        refine (HREP.out _).mono ?_
        rintro e w2 ⟨rfl, hbel⟩
        have f2 : Fresh wr w2 := (Keeps.of_below hbel).mono fun k hk hk2 => absurd hk (by omega)
        have hb2 := f2.at_ hb (fun h => h)
        obtain ⟨u, hu⟩ : ∃ u, (uptoCells (fun _ => .string (str nought256)) (.string ⟨#[]⟩) N n)[n]? = some u := ⟨(uptoCells (fun _ => .string (str nought256)) (.string ⟨#[]⟩) N n)[n]'(by rw [uptoCells_size]; exact hlt), by simp⟩
        have hcell := cell_at hb2 n
        rw [hu] at hcell
        have hz := free_at hb2 n
        have hnext := heap_setCell_at hb2 n (.string (str nought256))
        rw [uptoCells_succ (fun _ => .string (str nought256)) _ N n hlt] at hnext
        have hkk := Keeps.setCell (S := fun q => q = g) (Keeps.refl _ w2) (p := ⟨g, n, none⟩) (fun _ => rfl) (.string (str nought256))
        have hf2 := (hf.trans f2).trans' hkk (fun i hi h => by omega)
        have HN := hid hnext
        have HF := hid hf2
        clear hnext hf2 hkk hu hb2 f2 hbel
        go_wp2_with fail
        go_roundw
        case rel => exact ⟨n + 1, by go_num, by omega, HN.out, HF.out⟩
        case measure => simp [intOf]; omega
      · obtain rfl : n = N := by omega
        have hT : TextsAt wr (.slice (some ⟨g, 0, none⟩) (List.replicate n nought256).length n) (List.replicate n nought256) := ⟨_, _, rfl, fun k s hs => ⟨g, 0, rfl, lt_of_block hb, by
          have h1 : (uptoCells (fun _ => .string (str nought256)) (.string ⟨#[]⟩) n n).toList[k]? = ((List.range n).map fun _ => Value.string (str nought256))[k]? := by rw [uptoCells_full]
          rw [Array.getElem?_toList] at h1
          rw [Nat.zero_add, cell_at hb, h1]
          rw [List.getElem?_replicate] at hs
          split at hs
          · rename_i hk
            cases hs
            simp [hk]
          · cases hs⟩⟩
        have hload := load_any _ _ wr hT (by rw [List.length_replicate]; omega) (fun s hs => by rw [(List.mem_replicate.1 hs).2, nought256_len]; omega)
        rw [HL.out, List.length_replicate] at hload
        have HLD := hid hload
        clear hload hT
        go_wp2_with fail
        refine HLD.out.mono ?_
        rintro e w3 ⟨q, rfl, f3, hld⟩
        go_wp2_with fail
        go_ret2
        exact ⟨q, rfl, hf.trans f3, hld.mono hf.size⟩
end Go.Proofs.Ytbhienlalpbflaa

namespace Go.Proofs.Ytbhienlalpbflaa
open Go.RowKit

theorem Try.infoByte : (Try.prog.info? 5).map (fun i => (i.zero, i.size, i.bytes)) = some (some (.int .u8 0), 1, 1) := by kernel_rfl
theorem zeros_made (n : Nat) : (madeCells #[Value.int .u8 0] n).toList = List.replicate n (Value.int .u8 0) := by
  simp only [madeCells]
  apply List.ext_getElem?
  intro j
  simp only [Array.toList_map, Array.toList_range, List.getElem?_map, List.getElem?_replicate]
  by_cases hj : j < n
  · simp [hj, Nat.mod_one]
  · simp [hj]
theorem u8s_length (l : List UInt8) : (u8s l).length = l.length := by simp [u8s]

set_option maxRecDepth 100000 in
set_option maxHeartbeats 2000000 in
theorem page_any (c : Int) (w : World) :
    Calls Try.prog 10 #[.int .i64 c] w fun e w' => e = .returned (.string (str (pageOf c))) ∧ Fresh w w' := by
  obtain ⟨i0, hi, hz0, hz1, hz2⟩ := info_parts Try.infoByte
  go_enter Try.func10, Try.ntmps10
  go_wp2_with (at_make; refine wpList_make_full _ rfl (.const (.int .i64 256)) (.const (.int .i64 256)) 63 rfl 0 5 i0 (.int .u8 0) 1 Try.underlying63 hi hz0 hz1 .i64 .i64 256 256 256 rfl rfl rfl rfl (by rw [hz2]; omega) (by unfold maxLen; omega) (Nat.zero_le _) ?_)
  intro w1 hrow hgr
  have f1 : Fresh w w1 := (Keeps.refl _ w).grown hgr (fun k h => by cases h)
  have hblk : w1.heap[w.heap.size]? = some (.cells (pageCells c 0) 5 (0, 0)) := by
    rcases hrow.2 with ⟨h0, _⟩ | ⟨g', cap, cur, he, _, hb, h1, h2, h3, h4⟩
    · cases h0
    · simp only [Value.slice.injEq, Option.some.injEq, Addr.mk.injEq, and_true] at he
      obtain ⟨rfl, -, rfl⟩ := he
      have : cur = pageCells c 0 := by
        rw [pageCells_zero]
        have h5 : cur.toList.take (256 * 1) = cur.toList := List.take_of_length_le (by rw [Array.length_toList]; omega)
        rw [h5] at h4
        apply Array.toList_inj.1
        rw [h4, zeros_made]
      rw [← this]; exact hb
  obtain ⟨g, hge⟩ : ∃ g, w.heap.size = g := ⟨_, rfl⟩
  have hgw : w.heap.size ≤ g := by omega
  rw [hge] at hblk ⊢
  clear hrow hgr hge
  go_wp2_with fail
  go_loopw [4] (fun i wr => ∃ n : Nat, i = .int .i64 (n : Int) ∧ n ≤ 256 ∧ wr.heap[g]? = some (.cells (pageCells c n) 5 (0, 0)) ∧ Fresh w wr) (fun i _ => 256 - (intOf i).toNat)
  case atStart => exact ⟨0, rfl, by omega, hblk, f1⟩
  case round =>
    obtain ⟨n, rfl, hn, hb, hf⟩ := hrel
    by_cases hlt : n < 256
    · obtain ⟨u, hu⟩ : ∃ u, (pageCells c n)[n]? = some u := ⟨(pageCells c n)[n]'(by rw [pageCells_size]; exact hlt), by simp⟩
      have hcell := cell_at hb n
      rw [hu] at hcell
      have hz := free_at hb n
      have hnext := heap_setCell_at hb n (.int .u8 (pageByte c n))
      rw [pageCells_succ c n hlt] at hnext
      have hkk := Keeps.setCell (S := fun q => q = g) (Keeps.refl _ wr) (p := ⟨g, n, none⟩) (fun _ => rfl) (.int .u8 (pageByte c n))
      have hf2 := hf.trans' hkk (fun i hi h => by omega)
      have HN := hid hnext
      have HF := hid hf2
      clear hnext hf2 hkk hu
      go_wp2_with fail
      go_roundw
      case rel => exact ⟨n + 1, by go_num, by omega, HN.out, HF.out⟩
      case measure => simp [intOf]; omega
    · obtain rfl : n = 256 := by omega
      have hct : (convert 63 9 (.slice (some ⟨g, 0, none⟩) 256 256)).run Try.prog wr = .ok (.string (str (pageOf c))) wr := by
        have := run_convert_bytes_back wr 63 9 5 ⟨g, 0, none⟩ 256 (pageOf c) Try.underlying63 Try.underlying5 Try.underlying9 (fun j hj => by
          rw [addr_add0, cell_at hb]
          have h1 : (pageCells c 256).toList[j]? = (u8s (pageOf c))[j]? := by rw [pageCells_full]
          rw [Array.getElem?_toList] at h1
          rw [h1, u8s, List.getElem?_map, List.getElem?_eq_getElem hj]; rfl)
        rw [pageOf_len] at this
        exact this
      go_wp2_with fail
      go_ret
      exact ⟨rfl, hf⟩
end Go.Proofs.Ytbhienlalpbflaa

namespace Go.Proofs.Ytbhienlalpbflaa
open Go.RowKit Go.Maps

theorem heap_at_alloc {w : World} {c : Array Value} {e : TypeId} {k : Nat} (h : k = w.heap.size) : (w.alloc (.cells c e)).heap[k]? = some (.cells c e (0, 0)) := by
  subst h
  exact heap_alloc_new w (.cells c e)
theorem wpList_appendAll {P : Program} {ops : Array Oper} {rest : List Oper} {o : Oper} {a : Act} {Q : Exit → Act → World → Prop} {w : World} (hgd : o.guard = none) (s x : Operand) (t : TypeId)
    (ho : o.op = .call { callee := .builtin .append, args := #[s, x], argTypes := #[t, t] })
    (e : TypeId) (i : TypeInfo) (z : Value) (bytes : Nat) (ht : P.underlying t = some (.slice e)) (hi : P.info? e = some i) (hz : i.zero = some z) (hsize : i.size = 1) (hby : i.bytes = bytes) (hzs : z.cells.size = 1)
    {v : Value} {n : Nat} {xs : List Value} (hown : w.ownsRow 0 e 1 v n xs) (xv : Value) (m : Nat) (news : List Value) (hs : a.eval s = v) (hx : a.eval x = xv) (hsrc : Src P 1 t xv m news w)
    (hn : n + m ≤ maxLen) (hb : (n + m) * bytes ≤ 140737488355328)
    (h : ∀ v' w', Appended e 1 w w' v v' (n + m) (xs ++ news) → wpList P ops Q rest (a.put o.dst v') w') : wpList P ops Q (o :: rest) a w := by
  refine wpList_plain hgd fun K hK => ?_
  obtain ⟨v', w', hr, h1, h4⟩ := run_append_row (P := P) w t t o.type e i z 1 bytes ht hi hz hsize hby hzs (by decide) v n xs hown xv m news hsrc hn hb
  unfold Oper.wp
  simp [execOp, ho, resolve, invoke, builtin, hs, hx, hr, Result.andThen]
  exact hK _ _ (h v' w' h1)
theorem Try.infoBool : (Try.prog.info? 4).map (fun i => (i.zero, i.size, i.bytes)) = some (some (.bool false), 1, 1) := by kernel_rfl

/-- is there one? -/
def There (ev : Int) (p : Option Addr) : Prop := (ev = 0 ↔ p ≠ none)

set_option maxRecDepth 100000 in
set_option maxHeartbeats 4000000 in
theorem refload_any (v : Value) (l : List (List UInt8)) (w : World) (h : TextsAt w v l) (hll : l.length ≤ 9223372036854775807) (hs : ∀ s ∈ l, s.length ≤ 9223372036854775807) :
    Calls Try.prog 12 #[v] w fun e w' => ∃ p, e = .returned (.tuple #[.pointer p, .int .i64 (loadErr l)]) ∧ Fresh w w' ∧ There (loadErr l) p := by
  have hsrc := fun W (hW : TextsAt W v l) => Src.ofTexts (P := Try.prog) Try.underlying30 hW
  have h' := h
  obtain ⟨ao, cap, rfl, hc⟩ := h'
  obtain ⟨i0, hi, hz0, hz1, hz2⟩ := info_parts Try.infoText
  obtain ⟨j0, hj, hy0, hy1, hy2⟩ := info_parts Try.infoBool
  by_cases h4 : l.length < 4 ∨ 4096 < l.length
  · have hE : loadErr l = 1 := by rw [loadErr, if_pos h4]
    rw [hE]
    have h41 : ((l.length : Int) < 4) ∨ (4096 : Int) < (l.length : Int) := by omega
    clear h hs hE h4 hc hsrc
    by_cases h5 : (l.length : Int) < 4
    · go_enter Try.func12, Try.ntmps12
      go_wp2_with fail
      go_ret2
      exact ⟨none, rfl, Keeps.refl _ _, by simp [There]⟩
    · have h6 : (4096 : Int) < (l.length : Int) := h41.resolve_left h5
      clear h41
      go_enter Try.func12, Try.ntmps12
      go_wp2_with fail
      go_ret2
      exact ⟨none, rfl, Keeps.refl _ _, by simp [There]⟩
  · have h5 : ¬ (l.length : Int) < 4 := by omega
    have h6 : ¬ (4096 : Int) < (l.length : Int) := by omega
    have hEv : loadErr l = if every256 l = true then 0 else 91 := by rw [loadErr, if_neg h4]
    have HEV := hid hEv
    have HC := hid hc
    have HS := hid hs
    have HT := hid h
    have HSRC := hid hsrc
    clear hEv hc hs h hsrc h4
    go_enter Try.func12, Try.ntmps12
    go_wp2_with fail
    go_loopw [4] (fun i wr => ∃ n : Nat, i = .int .i64 (n : Int) ∧ n ≤ l.length ∧ Hid (every256 l = every256 (l.drop n)) ∧ w = wr) (fun i _ => l.length - (intOf i).toNat)
    case atStart => exact ⟨0, rfl, by omega, rfl, rfl⟩
    case round =>
      obtain ⟨n, rfl, hn, HE, rfl⟩ := hrel
      by_cases hlt : n < l.length
      · obtain ⟨s, hs⟩ : ∃ s, l[n]? = some s := ⟨l[n], by simp⟩
        obtain ⟨bb, off, hao, hbb, hcell⟩ := HC.out n s hs
        have hE := HE.out
        rw [drop_cons hs] at hE
        simp only [every256] at hE
        have hsl := HS.out s (List.mem_of_getElem? hs)
        have hsz := str_size s
        subst hao
        by_cases h256 : s.length = 256
        · have hE2 : Hid (every256 l = every256 (l.drop (n + 1))) := by rw [Hid, hE]; simp [h256]
          have hq : ((s.length : Int) != 256) = false := by rw [h256]; rfl
          clear hE hs HE h256
          go_wp2_with fail
          go_roundw
          case rel => exact ⟨n + 1, by go_num, by omega, hE2, by first | rfl | trivial⟩
          case measure => simp [intOf]; omega
        · have hE2 : Hid (every256 l = false) := by rw [Hid, hE]; simp [h256]
          have hq : ((s.length : Int) != 256) = true := by rw [bne_iff_ne]; omega
          clear hE hs HE h256
          go_wp2_with fail
          go_ret2
          refine ⟨none, ?_, Keeps.refl _ _, ?_⟩
          · rw [HEV.out, hE2.out]; rfl
          · rw [HEV.out, hE2.out]; simp [There]
      · have hE2 : Hid (every256 l = true) := by rw [Hid, HE.out, List.drop_eq_nil_of_le (by omega)]; rfl
        have hl4 : l.length ≤ 4096 := by omega
        clear HE
        go_wp2_with fail
        have frx : Fresh w w.drew := (Keeps.refl _ _).drew
        go_cut [5] (fun s5 wx => ∃ bd v1 v2, s5 = .pointer (some ⟨bd, 0, none⟩) ∧ wx.heap[bd]? = some (.cells #[.slice none 0 0, v1, v2, .int .i64 0, .bool false] 57 (0, 0)) ∧ w.heap.size ≤ bd ∧ Fresh w wx)
        case first =>
          obtain ⟨MB, hMB⟩ : ∃ MB, ∀ W, (Instr.makeSlice 55 (.int .i64 (l.length : Int)) (.int .i64 (l.length : Int))).run Try.prog W = .ok (.slice (some ⟨W.heap.size, 0, none⟩) l.length l.length) (W.alloc (.cells MB 4)) := ⟨_, fun W => by
            have := run_make W 55 4 j0 (.bool false) Try.underlying55 hj hy0 .i64 .i64 (l.length : Int) (l.length : Int) (by omega) (by omega) (by rw [hy2]; omega) (by omega)
            rw [Int.toNat_natCast] at this
            exact this⟩
          obtain ⟨MS, hMS⟩ : ∃ MS, ∀ W, (Instr.makeSlice 30 (.int .i64 (l.length : Int)) (.int .i64 (l.length : Int))).run Try.prog W = .ok (.slice (some ⟨W.heap.size, 0, none⟩) l.length l.length) (W.alloc (.cells MS 9)) := ⟨_, fun W => by
            have := run_make W 30 9 i0 (.string ⟨#[]⟩) Try.underlying30 hi hz0 .i64 .i64 (l.length : Int) (l.length : Int) (by omega) (by omega) (by rw [hz2]; omega) (by omega)
            rw [Int.toNat_natCast] at this
            exact this⟩
          go_region
          all_goals
            go_wp2
            go_meet
            exact ⟨_, _, _, rfl, heap_at_alloc (by simp), by omega, ((frx.alloc _).alloc _).alloc _⟩
        case rest =>
          obtain ⟨bd, v1, v2, rfl, hbox, hbd, fr⟩ := hcut
          have q0 := cell_at hbox 0
          have z0 := free_at hbox 0
          simp at q0
          have hsr := HSRC.out wc (HT.out.fresh fr)
          clear frx
          go_wp2_with (at_builtin; refine wpList_appendAll rfl (.tmp 38) (.tmp 39) 30 rfl 9 i0 (.string ⟨#[]⟩) 16 Try.underlying30 hi hz0 hz1 hz2 rfl (World.ownsRow_nil _ _ _ _) _ _ _ (by rfl) (by rfl) hsr (by unfold maxLen; omega) (by omega) ?_)
          intro v4 w4 ha
          have k4 := ha.keeps
          obtain ⟨ao4, cp4, rfl⟩ := ownsRow_slice ha.row
          have hbox4 := k4.at_ hbox (fun h => by cases h)
          have q4 := cell_at hbox4 0
          have z4 := free_at hbox4 0
          simp at q4
          have f4 : Fresh w w4 := fr.trans' k4 (fun i hi h => by cases h)
          clear ha q0 z0
          go_wp2_with fail
          go_ret2
          refine ⟨some ⟨bd, 0, none⟩, ?_, f4.trans' (Keeps.setCell (S := fun q => q = bd) (Keeps.refl _ w4) (p := ⟨bd, 0, none⟩) (fun _ => rfl) _) (fun i hi h => by omega), ?_⟩
          · rw [HEV.out, hE2.out]; rfl
          · rw [HEV.out, hE2.out]; simp [There]
end Go.Proofs.Ytbhienlalpbflaa

namespace Go.Proofs.Ytbhienlalpbflaa
open Go.RowKit Go.Maps

theorem u8s_noughts (n : Nat) : u8s (List.replicate n 0) = List.replicate n (Value.int .u8 0) := by simp [u8s]

set_option maxRecDepth 100000 in
set_option maxHeartbeats 2000000 in
theorem refnew_any (p : Int) (w : World) :
    Calls Try.prog 8 #[.int .i64 p] w fun e w' => ∃ q, e = .returned (.tuple #[.pointer q, .int .i64 (newErr p)]) ∧ Fresh w w' ∧ There (newErr p) q := by
  by_cases h4 : p < 4 ∨ 4096 < p
  · have hE : newErr p = 1 := by rw [newErr, if_pos h4]
    rw [hE]
    clear hE
    by_cases h5 : p < 4
    · clear h4
      go_enter Try.func8, Try.ntmps8
      go_wp2_with fail
      go_ret2
      exact ⟨none, rfl, Keeps.refl _ _, by simp [There]⟩
    · have h6 : 4096 < p := h4.resolve_left h5
      clear h4
      go_enter Try.func8, Try.ntmps8
      go_wp2_with fail
      go_ret2
      exact ⟨none, rfl, Keeps.refl _ _, by simp [There]⟩
  · have hE : newErr p = 0 := by rw [newErr, if_neg h4]
    obtain ⟨N, rfl⟩ : ∃ N : Nat, p = (N : Int) := ⟨p.toNat, by omega⟩
    have hN : 4 ≤ N ∧ N ≤ 4096 := by omega
    have hL : loadErr (List.replicate N nought256) = 0 := by
      rw [loadErr, if_neg (by rw [List.length_replicate]; omega), every_noughts, if_pos rfl]
    rw [hE]
    obtain ⟨hN1, hN2⟩ := hN
    have HL := hid hL
    obtain ⟨i0, hi, hz0, hz1, hz2⟩ := info_parts Try.infoText
    obtain ⟨j0, hj, hy0, hy1, hy2⟩ := info_parts Try.infoByte
    clear h4 hE hL
    go_enter Try.func8, Try.ntmps8
    go_wp2_with fail
    go_loopw [4, 5] (fun v i wr => ∃ n : Nat, i = .int .i64 (n : Int) ∧ n ≤ N ∧ wr.ownsRow 0 9 1 v n (texts (List.replicate n nought256)) ∧ (∀ g, v.ownBlock = some g → w.heap.size ≤ g) ∧ Fresh w wr) (fun _ i _ => N - (intOf i).toNat)
    case atStart => exact ⟨0, rfl, by omega, World.ownsRow_nil _ _ _ _, (fun _ h => nomatch h), Keeps.refl _ _⟩
    case round =>
      obtain ⟨n, rfl, hn, hrow, hnew, hf⟩ := hrel
      obtain ⟨so, scap, rfl⟩ := ownsRow_slice hrow
      by_cases hlt : n < N
      · have hlt2 : (n : Int) < (N : Int) := by omega
        go_wp2_with (at_make; refine wpList_make_full _ rfl (.const (.int .i64 256)) (.const (.int .i64 256)) 63 rfl 0 5 j0 (.int .u8 0) 1 Try.underlying63 hj hy0 hy1 .i64 .i64 256 256 256 rfl rfl rfl rfl (by rw [hy2]; omega) (by unfold maxLen; omega) (Nat.zero_le _) ?_)
        intro w8 hrow8 hgr8
        have f8 : Fresh wr w8 := (Keeps.refl _ wr).grown hgr8 (fun k h => by cases h)
        have hrow8' : w8.ownsRow 0 5 1 (.slice (some ⟨wr.heap.size, 0, none⟩) 256 256) 256 (u8s nought256) := by
          have e : (madeCells #[Value.int .u8 0] 256).toList = u8s nought256 := by rw [made_list]; exact (u8s_noughts 256).symm
          rw [← e]; exact hrow8
        have hct : (convert 63 9 (.slice (some ⟨wr.heap.size, 0, none⟩) 256 256)).run Try.prog w8 = .ok (.string (str nought256)) w8 := run_text_of_row (P := Try.prog) (w := w8) (base := 0) (e := 5) (v := .slice (some ⟨wr.heap.size, 0, none⟩) 256 256) (bs := nought256) 63 9 Try.underlying63 Try.underlying5 Try.underlying9 hrow8'
        have hrow9 := ownsRow_keeps hrow f8 (fun _ _ h => h)
        have hf8 := hf.trans f8
        clear hrow8 hrow8' hgr8 hrow
        go_wp2_with (at_builtin; refine wpList_push rfl (.tmp 17) (.tmp 20) 30 rfl 9 i0 (.string ⟨#[]⟩) 16 Try.underlying30 hi hz0 hz1 hz2 rfl w8 hrow9 _ (by rfl) (by rfl) rfl (by omega) (by unfold maxLen; omega) ?_)
        intro v4 w4 ha
        have hrow4 := ha.row
        have e4 : texts (List.replicate n nought256) ++ [Value.string (str nought256)] = texts (List.replicate (n + 1) nought256) := by rw [← texts_snoc, ← List.replicate_succ']
        rw [e4] at hrow4
        have hown4 : ∀ g, v4.ownBlock = some g → w.heap.size ≤ g := fun g hg => by
          rcases ha.own g hg with h | h
          · exact hnew g h
          · have := hf8.size; omega
        have f4 : Fresh w w4 := hf8.trans' ha.keeps fun i hi h => by have := hnew i h; omega
        clear ha hct hrow9 e4
        go_wp2
        go_roundw
        case rel => exact ⟨n + 1, by go_num, by omega, hrow4, hown4, f4⟩
        case measure => simp [intOf]; omega
      · obtain rfl : n = N := by omega
        have hown : OwnTexts w.heap.size wr (.slice so n scap) (List.replicate n nought256) := ⟨by rw [List.length_replicate]; exact hrow, hnew⟩
        have hload := refload_any _ _ wr hown.at_ (by rw [List.length_replicate]; omega) (fun s hs => by rw [(List.mem_replicate.1 hs).2, nought256_len]; omega)
        rw [HL.out] at hload
        have HLD := hid hload
        clear hload hown
        go_wp2_with fail
        refine HLD.out.mono ?_
        rintro e w3 ⟨q, rfl, f3, hld⟩
        go_wp2_with fail
        go_ret2
        exact ⟨q, rfl, hf.trans f3, hld⟩

set_option maxRecDepth 100000 in
theorem pick_any (x : Int) (n : Nat) (w : World) (hn : 0 < n) (hn2 : n ≤ 1000000) (hx : -9223372036854775808 ≤ x) (hx2 : x ≤ 9223372036854775807) :
    Calls Try.prog 9 #[.int .i64 x, .int .i64 (n : Int)] w fun e w' => e = .returned (.int .i64 ((if x < 0 then -(x + 1) else x).tmod (n : Int))) ∧ w = w' := by
  have hn0 : ¬ (n : Int) = 0 := by omega
  by_cases h : x < 0
  · rw [if_pos h]
    go_enter Try.func9, Try.ntmps9
    go_wp2_with fail
    go_ret
    exact ⟨by rw [Int.neg_tmod]; rfl, rfl⟩
  · rw [if_neg h]
    go_enter Try.func9, Try.ntmps9
    go_wp2_with fail
    go_ret
    exact ⟨by rw [Int.tmod_eq_emod_of_nonneg (by omega)]; rfl, rfl⟩
theorem picked (x : Int) (n : Nat) (hn : 0 < n) : ∃ r : Nat, (if x < 0 then -(x + 1) else x).tmod (n : Int) = (r : Int) ∧ r < n := by
  have fin : ∀ y : Int, 0 ≤ y → ∃ r : Nat, y.tmod (n : Int) = (r : Int) ∧ r < n := fun y hy => by
    have h1 := Int.tmod_nonneg (n : Int) hy
    have h2 := Int.tmod_lt_of_pos y (show (0 : Int) < (n : Int) by omega)
    exact ⟨(y.tmod (n : Int)).toNat, by omega, by omega⟩
  by_cases h : x < 0
  · rw [if_pos h]; exact fin _ (by omega)
  · rw [if_neg h]; exact fin _ (by omega)
end Go.Proofs.Ytbhienlalpbflaa
