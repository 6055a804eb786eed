/-
  Lists of texts in memory: as they came in, and in blocks of their own.
  The device: are all texts of a page's length?
  The device in plain words: a page of a raw number; what is pending of each page.
  Contracts of Go's library, laid at this program (the numbers by name).
  The device: Load.
-/
import Derived.Test.YtbhienlalpbflaaMShaA
import Derived.Test.YtbhienlalpbflaaChecked
import Derived.Handy
import Derived.Deep.RegionLaw
import Derived.Deep.DeepCutAuto
import Derived.Deep.CutBlock
import Derived.BigQuiet
import Derived.Maps.OwnSet
import Derived.Maps.StringElems
import Derived.Shelf.Slices.Clone
import Derived.Ground.Names2Prog
import Derived.Test.YtbhienlalpbflaaProg
namespace Go.Proofs.Ytbhienlalpbflaa
open Go.RowKit

/-- a list of texts in memory -/
def TextsAt (w : World) (v : Value) (l : List (List UInt8)) : Prop :=
  ∃ ao cap, v = .slice ao l.length cap ∧ ∀ (k : Nat) (s : List UInt8), l[k]? = some s → ∃ bb off, ao = some ⟨bb, off, none⟩ ∧ bb < w.heap.size ∧ w.cell? ⟨bb, off + k, none⟩ = some (.string (str s))
theorem Try.infoText : (Try.prog.info? 9).map (fun i => (i.zero, i.size, i.bytes)) = some (some (.string ⟨#[]⟩), 1, 16) := by kernel_rfl
theorem ownsRow_lt {w : World} {base : Nat} {e : TypeId} {size : Nat} {v : Value} {n : Nat} {xs : List Value} {g : Nat} (h : w.ownsRow base e size v n xs) (hg : v.ownBlock = some g) : g < w.heap.size := by
  obtain ⟨_, ⟨rfl, _⟩ | ⟨g', cap, cur, rfl, _, hb, _⟩⟩ := h
  · simp [Value.ownBlock] at hg
  · simp [Value.ownBlock] at hg
    subst hg
    exact lt_of_block hb
theorem ownsRow_at {w : World} {base : Nat} {e : TypeId} {v : Value} {n : Nat} {xs : List Value} (h : w.ownsRow base e 1 v n xs) : ∃ ao cap, v = .slice ao n cap ∧ ∀ (k : Nat) (u : Value), xs[k]? = some u → ∃ bb, ao = some ⟨bb, 0, none⟩ ∧ bb < w.heap.size ∧ w.cell? ⟨bb, k, none⟩ = some u := by
  obtain ⟨hl, ⟨rfl, rfl⟩ | ⟨g', cap, cur, rfl, _, hb, hn, _, hcs, ht⟩⟩ := h
  · refine ⟨_, _, rfl, fun k u hu => ?_⟩
    have : k < xs.length := (List.getElem?_eq_some_iff.1 hu).1
    omega
  · refine ⟨_, _, rfl, fun k u hu => ⟨g', rfl, lt_of_block hb, ?_⟩⟩
    rw [cell_at hb]
    rw [← ht, List.getElem?_take] at hu
    split at hu
    · simpa using hu
    · cases hu
theorem OwnTexts_at {B : Nat} {w : World} {v : Value} {l : List (List UInt8)} (h : w.ownsRow B 9 1 v l.length (l.map fun s => Value.string (str s))) : TextsAt w v l := by
  obtain ⟨ao, cap, rfl, hc⟩ := ownsRow_at h
  refine ⟨ao, cap, rfl, fun k s hs => ?_⟩
  obtain ⟨bb, rfl, h1, h2⟩ := hc k (.string (str s)) (by simp [hs])
  exact ⟨bb, 0, rfl, h1, by rw [Nat.zero_add]; exact h2⟩
def texts (l : List (List UInt8)) : List Value := l.map fun s => .string (str s)
theorem texts_snoc (l : List (List UInt8)) (x : List UInt8) : texts (l ++ [x]) = texts l ++ [Value.string (str x)] := by simp [texts]
/-- a list of texts in blocks of its own, all made since there were B blocks -/
def OwnTexts (B : Nat) (w : World) (v : Value) (l : List (List UInt8)) : Prop :=
  w.ownsRow 0 9 1 v l.length (texts l) ∧ ∀ g, v.ownBlock = some g → B ≤ g
theorem OwnTexts.at_ {B : Nat} {w : World} {v : Value} {l : List (List UInt8)} (h : OwnTexts B w v l) : TextsAt w v l := OwnTexts_at h.1
theorem step_append {P : Program} {ops : Array Oper} {o : Oper} {a : Act} {K : Act → World → Prop} {Q : Exit → Act → World → Prop} {F : Prop} {w : World} (hgd : o.guard = none) (s x : Operand) (t : TypeId)
    (ho : o.op = .call { callee := .builtin .append, args := #[s, x], argTypes := #[t, t] })
    (e : TypeId) (i : TypeInfo) (z : Value) (bytes : Nat) (ht : P.underlying t = some (.slice e)) (hi : P.info? e = some i) (hz : i.zero = some z) (hsize : i.size = 1) (hby : i.bytes = bytes) (hzs : z.cells.size = 1)
    {v : Value} {n : Nat} {xs : List Value} (hown : w.ownsRow 0 e 1 v n xs) (xv : Value) (m : Nat) (news : List Value) (hs : a.eval s = v) (hx : a.eval x = xv) (hsrc : Src P 1 t xv m news w)
    (hn : n + m ≤ maxLen) (hb : (n + m) * bytes ≤ 140737488355328)
    (h : ∀ v' w', Appended e 1 w w' v v' (n + m) (xs ++ news) → K (a.put o.dst v') w') :
    if Region.wanted o (yielded ops a.tmps) = true then Oper.wp P o a w K Q else F := by
  have hw : Region.wanted o (yielded ops a.tmps) = true := by simp [Region.wanted, hgd]
  rw [if_pos hw]
  obtain ⟨v', w', hr, h1, h4⟩ := run_append_row (P := P) w t t o.type e i z 1 bytes ht hi hz hsize hby hzs (by decide) v n xs hown xv m news hsrc hn hb
  unfold Oper.wp
  simp [execOp, ho, resolve, invoke, builtin, hs, hx, hr, Result.andThen]
  exact h v' w' h1
theorem Src.ofTexts {P : Program} {w : World} {tx e : TypeId} {v : Value} {l : List (List UInt8)} (hk : P.underlying tx = some (.slice e)) (h : TextsAt w v l) : Src P 1 tx v l.length (texts l) w := by
  obtain ⟨ao, cap, rfl, hc⟩ := h
  have h1 : ∀ u ∈ texts l, u.oneCell' = true := fun u hu => by obtain ⟨x, _, rfl⟩ := List.mem_map.1 hu; rfl
  cases l with
  | nil =>
    cases ao with
    | none => exact Src.ofNil w hk cap
    | some a => exact Src.ofSlice w hk a 0 cap [] rfl (fun j u hj => by simp at hj) (fun u hu => by simp at hu)
  | cons x r =>
    obtain ⟨bb, off, rfl, _⟩ := hc 0 x rfl
    refine Src.ofSlice w hk _ _ cap (texts (x :: r)) (by simp [texts]) (fun j u hj => ?_) h1
    simp only [texts, List.getElem?_map, Option.map_eq_some_iff] at hj
    obtain ⟨s, hs, rfl⟩ := hj
    obtain ⟨bb2, off2, he, _, hcc⟩ := hc j s hs
    simp only [Option.some.injEq, Addr.mk.injEq, and_true] at he
    have e : (⟨bb, off, none⟩ : Addr).add j = ⟨bb, off + j, none⟩ := by unfold Addr.add; split <;> simp_all
    rw [e, he.1, he.2]
    exact hcc
theorem TextsAt.fresh {w w' : World} {v : Value} {l : List (List UInt8)} (h : TextsAt w v l) (f : Fresh w w') : TextsAt w' v l := by
  obtain ⟨ao, cap, rfl, hc⟩ := h
  exact ⟨ao, cap, rfl, fun k s hs => by
    obtain ⟨bb, off, e1, e2, e3⟩ := hc k s hs
    exact ⟨bb, off, e1, Nat.lt_of_lt_of_le e2 f.size, (f.cell (p := ⟨bb, off + k, none⟩) e2 (fun h => h)).trans e3⟩⟩
theorem TextsAt.keepsNew {w w' : World} {v : Value} {l : List (List UInt8)} (h : TextsAt w v l) (f : Keeps (fun q => w.heap.size ≤ q) w w') : TextsAt w' v l := by
  obtain ⟨ao, cap, rfl, hc⟩ := h
  exact ⟨ao, cap, rfl, fun k s hs => by
    obtain ⟨bb, off, e1, e2, e3⟩ := hc k s hs
    exact ⟨bb, off, e1, Nat.lt_of_lt_of_le e2 f.size, (f.cell (p := ⟨bb, off + k, none⟩) e2 (fun h => by simp only at h; omega)).trans e3⟩⟩
/-- a row of texts with more behind them: the first of them, by a shorter slice -/
theorem row_texts {w : World} {g n c : Nat} {l m : List (List UInt8)} (h : w.ownsRow 0 9 1 (.slice (some ⟨g, 0, none⟩) n c) n (texts (l ++ m))) : TextsAt w (.slice (some ⟨g, 0, none⟩) l.length c) l := by
  obtain ⟨ao, cap, he, hc⟩ := ownsRow_at h
  simp only [Value.slice.injEq] at he
  obtain ⟨rfl, _, rfl⟩ := he
  refine ⟨_, _, rfl, fun k s hs => ?_⟩
  have hk : k < l.length := (List.getElem?_eq_some_iff.1 hs).1
  obtain ⟨bb, e1, e2, e3⟩ := hc k (.string (str s)) (by simp only [texts, List.getElem?_map, List.getElem?_append_left hk, hs, Option.map_some])
  exact ⟨bb, 0, e1, e2, by rw [Nat.zero_add]; exact e3⟩
theorem row_cell {w : World} {g n c j : Nat} {l : List (List UInt8)} {s : List UInt8} (h : w.ownsRow 0 9 1 (.slice (some ⟨g, 0, none⟩) n c) n (texts l)) (hs : l[j]? = some s) : w.cell? ⟨g, j, none⟩ = some (.string (str s)) := by
  obtain ⟨ao, cap, he, hc⟩ := ownsRow_at h
  simp only [Value.slice.injEq] at he
  obtain ⟨rfl, _, rfl⟩ := he
  obtain ⟨bb, e1, e2, e3⟩ := hc j (.string (str s)) (by simp [texts, hs])
  simp only [Option.some.injEq, Addr.mk.injEq, and_true] at e1
  rw [e1]
  exact e3
theorem row_cap {w : World} {g n c : Nat} {xs : List Value} {e : TypeId} (h : w.ownsRow 0 e 1 (.slice (some ⟨g, 0, none⟩) n c) n xs) : n ≤ c := by
  rcases h.2 with ⟨h0, _⟩ | ⟨g', c', cur, e, _, _, hcap, _⟩
  · cases h0
  · simp only [Value.slice.injEq] at e
    omega
theorem row_cells {w : World} {g n c : Nat} {xs : List Value} {e : TypeId} (h : w.ownsRow 0 e 1 (.slice (some ⟨g, 0, none⟩) n c) n xs) : ∃ cur : Array Value, w.heap[g]? = some (.cells cur e (0, 0)) ∧ cur.size = c := by
  rcases h.2 with ⟨h0, _⟩ | ⟨g', c', cur, e, _, hg, hcap, _, hs, _⟩
  · cases h0
  · simp only [Value.slice.injEq, Option.some.injEq, Addr.mk.injEq, and_true] at e
    obtain ⟨rfl, _, rfl⟩ := e
    exact ⟨cur, hg, by omega⟩
theorem OwnTexts.fresh {B : Nat} {w w' : World} {v : Value} {l : List (List UInt8)} (h : OwnTexts B w v l) (f : Fresh w w') : OwnTexts B w' v l := ⟨ownsRow_keeps h.1 f (fun _ _ h => h), h.2⟩
theorem OwnTexts.keeps {S : Nat → Prop} {B : Nat} {w w' : World} {v : Value} {l : List (List UInt8)} (h : OwnTexts B w v l) (f : Keeps S w w') (hS : ∀ g, B ≤ g → ¬ S g) : OwnTexts B w' v l := ⟨ownsRow_keeps h.1 f (fun g hg => hS g (h.2 g hg)), h.2⟩
theorem drop_cons {α : Type} {l : List α} {k : Nat} {x : α} (h : l[k]? = some x) : l.drop k = x :: l.drop (k + 1) := by
  obtain ⟨hk, rfl⟩ := List.getElem?_eq_some_iff.1 h
  exact List.drop_eq_getElem_cons hk
end Go.Proofs.Ytbhienlalpbflaa

namespace Go.Proofs.Ytbhienlalpbflaa
open Go.RowKit

def every256 : List (List UInt8) → Bool
  | [] => true
  | s :: r => decide (s.length = 256) && every256 r
set_option maxRecDepth 100000 in
theorem not256_any (s : List UInt8) (w : World) (_hs : s.length ≤ 9223372036854775807) :
    Calls Try.prog 30 #[.string (str s)] w fun e w' => e = .returned (.bool (!decide (s.length = 256))) ∧ w = w' := by
  have hsz := str_size s
  have hb : ((s.length : Int) != 256) = !decide (s.length = 256) := by
    by_cases h : s.length = 256
    · rw [h]; rfl
    · rw [decide_eq_false h]; simp; omega
  have HB := hid hb
  clear hb
  go_enter Try.func30, Try.ntmps30
  go_wp2_with fail
  go_ret
  exact ⟨congrArg (fun b => Ending.returned (Value.bool b)) HB.out, rfl⟩

set_option maxRecDepth 100000 in
set_option maxHeartbeats 1000000 in
theorem index_any (v : Value) (l : List (List UInt8)) (w : World) (hl : TextsAt w v l) (hll : l.length ≤ 9223372036854775807) (hs : ∀ s ∈ l, s.length ≤ 9223372036854775807) :
    Calls Try.prog 57 #[v, .func (.func 30) #[] #[]] w fun e w' => ∃ i : Int, e = .returned (.int .i64 i) ∧ w = w' ∧ (0 ≤ i ↔ every256 l = false) := by
  obtain ⟨ao, cap, rfl, hc⟩ := hl
  have HC := hid hc
  have HS := hid hs
  clear hc hs
  go_enter Try.func57, Try.ntmps57
  go_wp2_with fail
  go_loopw [8] (fun i wr => ∃ (n : Nat), i = .int .i64 (n : Int) ∧ n ≤ l.length ∧ Hid (every256 l = every256 (l.drop n)) ∧ w = wr) (fun i _ => l.length - (intOf i).toNat)
  case atStart => exact ⟨0, rfl, by omega, rfl, rfl⟩
  case round =>
    obtain ⟨n, rfl, hn, HE, rfl⟩ := hrel
    by_cases hlt : n < l.length
    · obtain ⟨s, hs⟩ : ∃ s, l[n]? = some s := ⟨l[n], by simp [hlt]⟩
      obtain ⟨bb, off, hao, hbb, hcell⟩ := HC.out n s hs
      have hE := HE.out
      rw [drop_cons hs] at hE
      simp only [every256] at hE
      have hsl := HS.out s (List.mem_of_getElem? hs)
      subst hao
      have hnot := not256_any s w hsl
      by_cases h256 : s.length = 256
      · rw [decide_eq_true h256] at hnot
        have HN := hid hnot
        have hE2 : Hid (every256 l = every256 (l.drop (n + 1))) := by rw [Hid, hE]; simp [h256]
        clear hE h256 hnot hs HE
        go_wp2_with fail
        refine HN.out.mono ?_
        rintro e w2 ⟨rfl, rfl⟩
        go_wp2
        go_roundw
        case rel => exact ⟨n + 1, by go_num, by omega, hE2, by first | rfl | trivial⟩
        case measure => simp [intOf]; omega
      · rw [decide_eq_false h256] at hnot
        have HN := hid hnot
        have hE2 : Hid (every256 l = false) := by rw [Hid, hE]; simp [h256]
        clear hE h256 hnot hs HE
        go_wp2_with fail
        refine HN.out.mono ?_
        rintro e w2 ⟨rfl, rfl⟩
        go_wp2
        go_ret
        exact ⟨_, rfl, rfl, by rw [hE2.out]; simp⟩
    · have hE2 : Hid (every256 l = true) := by rw [Hid, HE.out, List.drop_eq_nil_of_le (by omega)]; rfl
      clear HE
      go_wp2
      go_ret
      exact ⟨_, rfl, rfl, by rw [hE2.out]; simp⟩

set_option maxRecDepth 100000 in
theorem contains_any (v : Value) (l : List (List UInt8)) (w : World) (hl : TextsAt w v l) (hll : l.length ≤ 9223372036854775807) (hs : ∀ s ∈ l, s.length ≤ 9223372036854775807) :
    Calls Try.prog 29 #[v, .func (.func 30) #[] #[]] w fun e w' => e = .returned (.bool (!every256 l)) ∧ w = w' := by
  have hi := index_any v l w hl hll hs
  obtain ⟨ev, hev⟩ : ∃ ev, every256 l = ev := ⟨_, rfl⟩
  rw [hev] at hi ⊢
  have HI := hid hi
  clear hi hev
  go_enter Try.func29, Try.ntmps29
  go_wp2_with fail
  refine HI.out.mono ?_
  rintro e w2 ⟨i, rfl, rfl, hiff⟩
  cases ev with
  | true =>
    have hi : ¬ (0 ≤ i) := fun h => absurd (hiff.1 h) (by simp)
    clear hiff
    go_wp2
    go_ret
    exact ⟨by simp; omega, rfl⟩
  | false =>
    have hi : 0 ≤ i := hiff.2 rfl
    clear hiff
    go_wp2
    go_ret
    exact ⟨by simp, rfl⟩

end Go.Proofs.Ytbhienlalpbflaa

namespace Go.Proofs.Ytbhienlalpbflaa
open Go.RowKit Go.Maps

/-- the i-th byte of a page of a raw number -/
def pageByte (c : Int) (i : Nat) : Int := wrap64 (c + (i : Int) / 16) % 256
def pageOf (c : Int) : List UInt8 := (List.range 256).map fun i => UInt8.ofNat (pageByte c i).toNat
theorem pageOf_len (c : Int) : (pageOf c).length = 256 := by simp [pageOf]
theorem pageByte_le (c : Int) (i : Nat) : 0 ≤ pageByte c i ∧ pageByte c i < 256 := by
  unfold pageByte
  omega
/-- the cells of a page, so many of them written -/
def pageCells (c : Int) (n : Nat) : Array Value := ((List.range 256).map fun i => if i < n then Value.int .u8 (pageByte c i) else Value.int .u8 0).toArray
theorem pageCells_size (c : Int) (n : Nat) : (pageCells c n).size = 256 := by simp [pageCells]
theorem map_zero (c : Int) (n : Nat) : ((List.range n).map fun i => if i < 0 then Value.int .u8 (pageByte c i) else Value.int .u8 0) = List.replicate n (Value.int .u8 0) := by
  apply List.ext_getElem (by simp)
  intro k h1 h2
  simp
theorem pageCells_zero (c : Int) : pageCells c 0 = (List.replicate 256 (Value.int .u8 0)).toArray := congrArg List.toArray (map_zero c 256)
theorem pageCells_succ (c : Int) (n : Nat) (_h : n < 256) : (pageCells c n).setIfInBounds n (.int .u8 (pageByte c n)) = pageCells c (n + 1) := by
  apply Array.ext_getElem?
  intro k
  simp only [pageCells, Array.getElem?_setIfInBounds, List.size_toArray, List.length_map, List.length_range, List.getElem?_toArray, List.getElem?_map]
  by_cases hk : k < 256
  · rw [List.getElem?_range hk]
    simp only [Option.map_some]
    by_cases e : n = k
    · subst e
      simp [hk]
    · rw [if_neg e]
      by_cases h1 : k < n
      · rw [if_pos h1, if_pos (by omega)]
      · rw [if_neg h1, if_neg (by omega)]
  · rw [List.getElem?_eq_none (by simp; omega)]
    simp
    omega
theorem pageCells_full (c : Int) : (pageCells c 256).toList = u8s (pageOf c) := by
  unfold pageCells pageOf u8s
  simp only [List.map_map]
  apply List.ext_getElem (by simp)
  intro k h1 h2
  have hk : k < 256 := by simpa using h1
  have hp := pageByte_le c k
  simp [hk]
  omega

/-- what is pending -/
abbrev DD := DataW Unit
def pz : DD := .lit (.string [])
def pkey (p : Int) : Lit := .int .i64 p
theorem pkey_ne {p q : Int} (h : q ≠ p) : pkey q ≠ pkey p := by
  intro e
  simp only [pkey, Lit.int.injEq, true_and] at e
  exact h e
def Pends (D : DD) (f : Int → Option (List UInt8)) : Prop := IsMap D ∧ ∀ p : Int, Maps.has D (pkey p) = (f p).isSome ∧ D.atKey (pkey p) pz = .lit (.string ((f p).getD []))
theorem Pends.empty : Pends (.map []) (fun _ => none) := ⟨isMap_empty, fun _ => ⟨rfl, rfl⟩⟩
theorem pkey_is (p : Int) : WideAt.IsKeyLit (pkey p) := by simp [pkey, WideAt.IsKeyLit]
theorem Pends.put {D : DD} {f : Int → Option (List UInt8)} (h : Pends D f) (p : Int) (s : List UInt8) : Pends (D.put (pkey p) (.lit (.string s))) (fun q => if q = p then some s else f q) := by
  refine ⟨h.1.put _ _, fun q => ?_⟩
  by_cases e : q = p
  · subst e
    simp only [if_true]
    exact ⟨has_put_same h.1 (pkey_is q) _, atKey_put_same h.1 (pkey_is q) _ _⟩
  · simp only [if_neg e]
    rw [has_put_other (pkey_ne e), atKey_put_other (pkey_ne e)]
    exact h.2 q
theorem Pends.del {D : DD} {f : Int → Option (List UInt8)} (h : Pends D f) (p : Int) : Pends (D.del (pkey p)) (fun q => if q = p then none else f q) := by
  refine ⟨h.1.del _, fun q => ?_⟩
  by_cases e : q = p
  · subst e
    simp only [if_true]
    exact ⟨has_del_same, atKey_del_same _⟩
  · simp only [if_neg e]
    rw [has_del_other (pkey_ne e), atKey_del_other (pkey_ne e)]
    exact h.2 q
end Go.Proofs.Ytbhienlalpbflaa

namespace Go.Proofs.Ytbhienlalpbflaa
open Go.Shelf Go.RowKit
def Try.laysNm216_ren : Go.Shelf.Ren := ⟨fun | 16 => 31 | n => n, fun | 24 => 30 | 9 => 9 | 4 => 4 | n => n, fun | n => n⟩
theorem Try.laysNm216 : Go.Proofs.Lays2.n16 Try.prog Try.laysNm216_ren := {
  mixed := by kernel_rfl
  f16 := Try.func31.trans (congrArg some (by kernel_rfl))
  t4 := Try.underlying4
  a4 := Try.isAgg4
  z4 := Try.sizeOf4
  v4 := Try.zeroValue4
  t9 := Try.underlying9
  a9 := Try.isAgg9
  z9 := Try.sizeOf9
  v9 := Try.zeroValue9
  t24 := Try.underlying30
  a24 := Try.isAgg30
  z24 := Try.sizeOf30
  v24 := Try.zeroValue30
  i9 := by kernel_rfl }
theorem Try.slices_Clone_string (b off n c : Nat) (zs : List ByteArray) (w : World) (hz : n ≤ zs.length) (hbig : n * 16 ≤ 140737488355328) (hc : ∀ j, j < zs.length → w.cell? ⟨b, off + j, none⟩ = some (.string (zs.getD j ByteArray.empty))) :
    Calls Try.prog 31 #[.slice (some ⟨b, off, none⟩) n c] w fun e w' => ∃ v', e = .returned v' ∧ w'.ownsRow w.heap.size 9 1 v' n ((zs.take n).map (Value.string)) ∧ v' ≠ .slice none 0 0 ∧ Below w.heap.size w w' := Any.slices_Clone_string Try.laysNm216 b off n c zs w hz hbig hc
theorem Try.slices_Clone_string_nil (n c : Nat) (w : World) :
    Calls Try.prog 31 #[.slice none n c] w fun e w' => e = .returned (.slice none 0 0) ∧ w' = w := Any.slices_Clone_string_nil Try.laysNm216 n c w
theorem Try.slices_Clone_string_zero (a : Addr) (c : Nat) (w : World) :
    Calls Try.prog 31 #[.slice (some a) 0 c] w fun e w' => ∃ v', e = .returned v' ∧ w'.ownsRow w.heap.size 9 1 v' 0 [] ∧ v' ≠ .slice none 0 0 ∧ Below w.heap.size w w' := Any.slices_Clone_string_zero Try.laysNm216 a c w
end Go.Proofs.Ytbhienlalpbflaa

namespace Go.Proofs.Ytbhienlalpbflaa
open Go.RowKit Go.Maps

theorem own_of_row {w : World} {B : Nat} {e : TypeId} {size : Nat} {v : Value} {n : Nat} {xs : List Value} (h : w.ownsRow B e size v n xs) : w.ownsRow 0 e size v n xs ∧ ∀ g, v.ownBlock = some g → B ≤ g :=
  ⟨⟨h.1, h.2.imp id fun ⟨g, cap, cur, he, _, r⟩ => ⟨g, cap, cur, he, Nat.zero_le _, r⟩⟩, fun g hg => (h.lt g hg).1⟩
theorem map_keeps {S : Nat → Prop} {w w' : World} {P : Program} {k : TypeId} {R : Value → Option (DD × List MemPlace)} {b n : Nat} {D : DD} (h : w.ownsMap P k R b n D) (f : Keeps S w w') (hb : ¬ S b) : w'.ownsMap P k R b n D := by
  obtain ⟨es, clock, h1, r⟩ := h
  exact ⟨es, clock, f.at_ h1 hb, r⟩

/-- slices.Clone, of a list of texts -/
theorem clone_any (v : Value) (l : List (List UInt8)) (w : World) (h : TextsAt w v l) (hl : l.length ≤ 1000000) :
    Calls Try.prog 31 #[v] w fun e w' => ∃ v', e = .returned v' ∧ OwnTexts w.heap.size w' v' l ∧ Fresh w w' := by
  obtain ⟨ao, cap, rfl, hc⟩ := h
  have fr : ∀ w', Below w.heap.size w w' → Fresh w w' := fun w' hb => (Keeps.of_below hb).mono fun k hk hk2 => absurd hk (by omega)
  cases l with
  | nil =>
    cases ao with
    | none =>
      refine (Try.slices_Clone_string_nil 0 cap w).mono ?_
      rintro e w' ⟨rfl, rfl⟩
      exact ⟨_, rfl, ⟨World.ownsRow_nil _ _ _ _, fun _ h => nomatch h⟩, Keeps.refl _ _⟩
    | some a =>
      refine (Try.slices_Clone_string_zero a cap w).mono ?_
      rintro e w' ⟨v', rfl, hrow, -, hb⟩
      exact ⟨v', rfl, own_of_row hrow, fr _ hb⟩
  | cons x r =>
    obtain ⟨bb, off, rfl, hbb, -⟩ := hc 0 x rfl
    refine (Try.slices_Clone_string bb off (x :: r).length cap ((x :: r).map str) w (by simp) (by omega) (fun j hj => ?_)).mono ?_
    · have hj2 : j < (x :: r).length := by simpa using hj
      obtain ⟨b2, o2, he, -, hcell⟩ := hc j (x :: r)[j] (List.getElem?_eq_getElem hj2)
      simp only [Option.some.injEq, Addr.mk.injEq, and_true] at he
      rw [he.1, he.2, hcell, List.getD, List.getElem?_map, List.getElem?_eq_getElem hj2]
      rfl
    · rintro e w' ⟨v', rfl, hrow, -, hb⟩
      refine ⟨v', rfl, ?_, fr _ hb⟩
      have h2 := own_of_row hrow
      have e1 : (((x :: r).map str).take (x :: r).length).map Value.string = texts (x :: r) := by
        rw [List.take_of_length_le (by simp)]
        simp [texts]
      rw [e1] at h2
      exact h2

/-- a list of texts in blocks of its own, all of them among these -/
def OwnIn (B : Nat → Prop) (w : World) (v : Value) (l : List (List UInt8)) : Prop := w.ownsRow 0 9 1 v l.length (texts l) ∧ ∀ g, v.ownBlock = some g → B g
theorem OwnIn.at_ {B : Nat → Prop} {w : World} {v : Value} {l : List (List UInt8)} (h : OwnIn B w v l) : TextsAt w v l := OwnTexts_at h.1
theorem OwnIn.fresh {B : Nat → Prop} {w w' : World} {v : Value} {l : List (List UInt8)} (h : OwnIn B w v l) (f : Fresh w w') : OwnIn B w' v l := ⟨ownsRow_keeps h.1 f (fun _ _ h => h), h.2⟩
/-- a device in memory: its pages, what is pending, is it dead, when does it die -/
structure Dev (B : Nat → Prop) (w : World) (d : Nat) (l : List (List UInt8)) (D : DD) (n : Nat) (dead : Bool) (armed : Int) : Prop where
  ex : ∃ pv mb, w.heap[d]? = some (.cells #[pv, .map (some mb), .bool dead, .int .i64 armed] 82 (0, 0)) ∧ OwnIn B w pv l ∧ w.ownsMap Try.prog 3 (plainElem Try.prog 9) mb n D ∧ B mb ∧ B d
theorem Dev.fresh {B : Nat → Prop} {w w' : World} {d : Nat} {l : List (List UInt8)} {D : DD} {n : Nat} {dead : Bool} {armed : Int} (h : Dev B w d l D n dead armed) (f : Fresh w w') : Dev B w' d l D n dead armed := by
  obtain ⟨pv, mb, h1, h2, h3, h4⟩ := h.ex
  exact ⟨⟨pv, mb, f.at_ h1 (fun h => h), h2.fresh f, map_keeps h3 f (fun h => h), h4⟩⟩

def Loaded (w w' : World) (l : List (List UInt8)) (ev : Int) (p : Option Addr) : Prop := (ev ≠ 0 ∧ p = none) ∨ (ev = 0 ∧ ∃ d, p = some ⟨d, 0, none⟩ ∧ w.heap.size ≤ d ∧ Dev (fun q => w.heap.size ≤ q ∧ q < w'.heap.size) w' d l (.map []) 0 false 0)
def loadErr (l : List (List UInt8)) : Int := if l.length < 4 ∨ 4096 < l.length then 1 else if every256 l = true then 0 else 91

set_option maxRecDepth 100000 in
set_option maxHeartbeats 2000000 in
theorem load_any (v : Value) (l : List (List UInt8)) (w : World) (h : TextsAt w v l) (hll : l.length ≤ 9223372036854775807) (hs : ∀ s ∈ l, s.length ≤ 9223372036854775807) :
    Calls Try.prog 11 #[v] w fun e w' => ∃ p, e = .returned (.tuple #[.pointer p, .int .i64 (loadErr l)]) ∧ Fresh w w' ∧ Loaded w w' l (loadErr l) p := by
  have hcon := contains_any v l w h hll hs
  have h' := h
  obtain ⟨ao, cap, rfl, -⟩ := h'
  by_cases h4 : l.length < 4 ∨ 4096 < l.length
  · have hE : loadErr l = 1 := by rw [loadErr, if_pos h4]
    rw [hE]
    have h41 : ((l.length : Int) < 4) ∨ (4096 : Int) < (l.length : Int) := by omega
    clear hcon h hs hE h4
    by_cases h5 : (l.length : Int) < 4
    · go_enter Try.func11, Try.ntmps11
      go_wp2_with fail
      go_ret2
      exact ⟨none, rfl, Keeps.refl _ _, .inl ⟨by omega, rfl⟩⟩
    · have h6 : (4096 : Int) < (l.length : Int) := h41.resolve_left h5
      clear h41
      go_enter Try.func11, Try.ntmps11
      go_wp2_with fail
      go_ret2
      exact ⟨none, rfl, Keeps.refl _ _, .inl ⟨by omega, rfl⟩⟩
  · have h5 : ¬ (l.length : Int) < 4 := by omega
    have h6 : ¬ (4096 : Int) < (l.length : Int) := by omega
    have hclone := clone_any _ l w h (by omega)
    cases hev : every256 l with
    | false =>
      have hE : loadErr l = 91 := by rw [loadErr, if_neg h4, hev]; rfl
      rw [hE]
      rw [hev] at hcon
      have HCON := hid hcon
      clear hcon h hs hE h4 hclone hev
      go_enter Try.func11, Try.ntmps11
      go_wp2_with fail
      refine HCON.out.mono ?_
      rintro e w1 ⟨rfl, rfl⟩
      go_wp2_with fail
      go_ret2
      exact ⟨none, rfl, Keeps.refl _ _, .inl ⟨by omega, rfl⟩⟩
    | true =>
      have hE : loadErr l = 0 := by rw [loadErr, if_neg h4, hev]; rfl
      rw [hE]
      rw [hev] at hcon
      have HCON := hid hcon
      have HCLONE := hid hclone
      have hmm := @run_makeMap Try.prog
      clear hcon h hs hE h4 hclone hev
      go_enter Try.func11, Try.ntmps11
      go_wp2_with fail
      refine HCON.out.mono ?_
      rintro e w1 ⟨rfl, rfl⟩
      go_wp2_with fail
      refine HCLONE.out.mono ?_
      rintro e w1 ⟨v', rfl, hown, f1⟩
      obtain ⟨ao2, cp2, rfl⟩ := ownsRow_slice hown.1
      go_wp2_with fail
      go_ret2
      have g1 : Fresh w1 (w1.alloc (.map #[] 0)) := (Keeps.refl _ _).alloc _
      have g2 : Fresh (w1.alloc (.map #[] 0)) ((w1.alloc (.map #[] 0)).alloc (.cells #[.slice ao2 l.length cp2, .map (some w1.heap.size), .bool false, .int .i64 0] 82)) := (Keeps.refl _ _).alloc _
      have hs1 := f1.size
      have hblk := heap_alloc_new (w1.alloc (.map #[] 0)) (.cells #[.slice ao2 l.length cp2, .map (some w1.heap.size), .bool false, .int .i64 0] 82)
      rw [World.size_alloc] at hblk
      exact ⟨some ⟨w1.heap.size + 1, 0, none⟩, rfl, (f1.trans g1).trans g2, .inr ⟨rfl, w1.heap.size + 1, rfl, by omega, ⟨⟨_, w1.heap.size, hblk, ⟨((hown.fresh g1).fresh g2).1, fun g hg => ⟨hown.2 g hg, Nat.lt_of_lt_of_le (hown.1.lt g hg).2 (g1.trans g2).size⟩⟩, map_keeps (World.ownsMap_made _ _ _ _) g2 (fun h => h), ⟨hs1, by simp only [World.size_alloc]; omega⟩, ⟨by omega, by simp only [World.size_alloc]; omega⟩⟩⟩⟩⟩
end Go.Proofs.Ytbhienlalpbflaa
