/-
  Contracts of Go's library, laid at this program (the numbers by name).
  The program's trie: Keys.
  The program's trie: Set, Remove, Get of any map, with how many keys there are and what it has of the key then.
-/
import Derived.Shelf.Sort.Plain
import Derived.Shelf.Slices.In.SortNone
import Derived.Test.YtmflbchiapdhbaaGreatDoorProg
import Derived.Test.YtmflbchiapdhbaaGreatDoorMTrH
import Derived.Sort.OwnSorted
import Derived.Test.YtmflbchiapdhbaaGreatDoorMTrF
import Derived.Test.YtmflbchiapdhbaaGreatDoorMTrG
namespace Go.Proofs.YtmflbchiapdhbaaGreatDoor
open Go.Shelf Go.RowKit Go.Sort
def Tryz.lays190_ren : Go.Shelf.Ren := ⟨fun | 190 => 50 | 125 => 65 | 258 => 64 | 128 => 85 | 129 => 86 | 302 => 76 | 303 => 77 | 304 => 78 | 305 => 79 | 306 => 80 | 307 => 81 | 308 => 82 | 309 => 83 | 310 => 84 | 333 => 93 | 329 => 94 | 330 => 95 | 334 => 96 | 335 => 97 | 336 => 98 | 344 => 101 | n => n, fun | 31 => 41 | 9 => 9 | 3 => 3 | 46 => 97 | 0 => 0 | 51 => 107 | 53 => 150 | 4 => 4 | 183 => 142 | 182 => 141 | 131 => 146 | 5 => 5 | 218 => 156 | 222 => 160 | 228 => 165 | 229 => 166 | n => n, fun | n => n⟩
theorem Tryz.lays190 : Go.Proofs.Lays.n190 Tryz.prog Tryz.lays190_ren := {
  mixed := by kernel_rfl
  f125 := Tryz.func65.trans (congrArg some (by kernel_rfl))
  f128 := Tryz.func85.trans (congrArg some (by kernel_rfl))
  f129 := Tryz.func86.trans (congrArg some (by kernel_rfl))
  f190 := Tryz.func50.trans (congrArg some (by kernel_rfl))
  f258 := Tryz.func64.trans (congrArg some (by kernel_rfl))
  f302 := Tryz.func76.trans (congrArg some (by kernel_rfl))
  f303 := Tryz.func77.trans (congrArg some (by kernel_rfl))
  f304 := Tryz.func78.trans (congrArg some (by kernel_rfl))
  f305 := Tryz.func79.trans (congrArg some (by kernel_rfl))
  f306 := Tryz.func80.trans (congrArg some (by kernel_rfl))
  f307 := Tryz.func81.trans (congrArg some (by kernel_rfl))
  f308 := Tryz.func82.trans (congrArg some (by kernel_rfl))
  f309 := Tryz.func83.trans (congrArg some (by kernel_rfl))
  f310 := Tryz.func84.trans (congrArg some (by kernel_rfl))
  f329 := Tryz.func94.trans (congrArg some (by kernel_rfl))
  f330 := Tryz.func95.trans (congrArg some (by kernel_rfl))
  f333 := Tryz.func93.trans (congrArg some (by kernel_rfl))
  f334 := Tryz.func96.trans (congrArg some (by kernel_rfl))
  f335 := Tryz.func97.trans (congrArg some (by kernel_rfl))
  f336 := Tryz.func98.trans (congrArg some (by kernel_rfl))
  f344 := Tryz.func101.trans (congrArg some (by kernel_rfl))
  t0 := Tryz.underlying0
  a0 := Tryz.isAgg0
  z0 := Tryz.sizeOf0
  v0 := Tryz.zeroValue0
  t3 := Tryz.underlying3
  a3 := Tryz.isAgg3
  z3 := Tryz.sizeOf3
  v3 := Tryz.zeroValue3
  t4 := Tryz.underlying4
  a4 := Tryz.isAgg4
  z4 := Tryz.sizeOf4
  v4 := Tryz.zeroValue4
  t5 := Tryz.underlying5
  a5 := Tryz.isAgg5
  z5 := Tryz.sizeOf5
  v5 := Tryz.zeroValue5
  t9 := Tryz.underlying9
  a9 := Tryz.isAgg9
  z9 := Tryz.sizeOf9
  v9 := Tryz.zeroValue9
  t31 := Tryz.underlying41
  a31 := Tryz.isAgg41
  z31 := Tryz.sizeOf41
  v31 := Tryz.zeroValue41
  t46 := Tryz.underlying97
  a46 := Tryz.isAgg97
  z46 := Tryz.sizeOf97
  v46 := Tryz.zeroValue97
  t51 := Tryz.underlying107
  a51 := Tryz.isAgg107
  z51 := Tryz.sizeOf107
  v51 := Tryz.zeroValue107
  t53 := Tryz.underlying150
  a53 := Tryz.isAgg150
  z53 := Tryz.sizeOf150
  v53 := Tryz.zeroValue150
  t131 := Tryz.underlying146
  a131 := Tryz.isAgg146
  z131 := Tryz.sizeOf146
  v131 := Tryz.zeroValue146
  t182 := Tryz.underlying141
  a182 := Tryz.isAgg141
  z182 := Tryz.sizeOf141
  v182 := Tryz.zeroValue141
  t183 := Tryz.underlying142
  a183 := Tryz.isAgg142
  z183 := Tryz.sizeOf142
  v183 := Tryz.zeroValue142
  t218 := Tryz.underlying156
  a218 := Tryz.isAgg156
  z218 := Tryz.sizeOf156
  v218 := Tryz.zeroValue156
  t222 := Tryz.underlying160
  a222 := Tryz.isAgg160
  z222 := Tryz.sizeOf160
  v222 := Tryz.zeroValue160
  t228 := Tryz.underlying165
  a228 := Tryz.isAgg165
  z228 := Tryz.sizeOf165
  v228 := Tryz.zeroValue165
  t229 := Tryz.underlying166
  a229 := Tryz.isAgg166
  z229 := Tryz.sizeOf166
  v229 := Tryz.zeroValue166 }
theorem Tryz.slices_Sort_string (blk off cap : Nat) (ss : List (List UInt8)) (w : World) (hH : Holds encStr w blk off ss.toArray) (hblk : blk < w.heap.size) (hsz : ss.length < 4611686018427387904) :
    Calls Tryz.prog 50 #[.slice (some ⟨blk, off, none⟩) ss.length cap] w fun e w' =>
      e = .returned (.tuple #[]) ∧ ∃ n os, w' = grow (putRow encStr (Sort.ahead w n) blk off (ss.mergeSort fun x y => decide (x ≤ y)).toArray) os := Any.slices_Sort_string Tryz.lays190 blk off cap ss w hH hblk hsz
theorem Tryz.slices_Sort_string_none (p : Option Addr) (cap : Nat) (w : World) :
    Calls Tryz.prog 50 #[.slice p 0 cap] w fun e w' => e = .returned (.tuple #[]) ∧ w' = w := Any.slices_Sort_string_none Tryz.lays190 p cap w
end Go.Proofs.YtmflbchiapdhbaaGreatDoor

namespace Go.Proofs.YtmflbchiapdhbaaGreatDoor
open Go.RowKit

/-- the library's sort, of a list of texts in blocks of its own -/
theorem sort_any (v : Value) (l : List (List UInt8)) (B : Nat) (w : World) (h : OwnTexts B w v l) (hl : l.length ≤ 1000000) :
    Calls Tryz.prog 50 #[v] w fun e w' => e = .returned (.tuple #[]) ∧ OwnTexts B w' v (rising l) ∧ Keeps (fun q => v.ownBlock = some q) w w' := by
  obtain ⟨hrow, hB⟩ := h
  have hlen := rising_length l
  rcases hrow.2 with ⟨rfl, h0⟩ | ⟨g, cap, cur, rfl, hbase, hb, h1, h2, h3, h4⟩
  · have hl0 : l = [] := List.eq_nil_of_length_eq_zero h0
    subst hl0
    refine (Tryz.slices_Sort_string_none none 0 w).mono ?_
    rintro e w' ⟨rfl, rfl⟩
    refine ⟨rfl, ⟨?_, hB⟩, Keeps.refl _ _⟩
    have : rising [] = [] := List.eq_nil_of_length_eq_zero hlen
    rw [this]
    exact hrow
  · have ht : cur.toList.take l.length = l.map encStr := by rw [Nat.mul_one] at h4; exact h4
    refine (Tryz.slices_Sort_string g 0 cap l w (holds_of_block hb ht) (lt_of_block hb) (by omega)).mono ?_
    rintro e w' ⟨rfl, n, os, rfl⟩
    refine ⟨rfl, ⟨?_, hB⟩, (Keeps.refl _ w).grown (grownBy_sorted _) (fun k h _ => h)⟩
    have := ownsRow_sorted (n := n) (os := os) (ts := rising l) (ss := l) hlen hbase hb h1 h2 h3
    rw [hlen]
    exact this

set_option maxRecDepth 100000 in
set_option maxHeartbeats 2000000 in
theorem keys_any (b : Nat) (t : Tr) (many : Int) (w : World) (h : MapAt w b t many) (hn : t.keys.length ≤ 1000000) :
    Calls Tryz.prog 21 #[.pointer (some ⟨b, 0, none⟩)] w fun e w' => ∃ v, e = .returned v ∧ Fresh w w' ∧ OwnTexts w.heap.size w' v (rising t.keys) := by
  have f0 : Fresh w (w.alloc (.cells #[.slice none 0 0] 41)) := (Keeps.refl _ _).alloc _
  have hm := f0.at_ h (fun h => h)
  have c0 := cell_at hm 0
  simp at c0
  have hheld : Held w.heap.size w (w.alloc (.cells #[.slice none 0 0] 41)) [] := ⟨⟨.slice none 0 0, heap_alloc_new w _, World.ownsRow_nil _ _ _ _, fun g h => nomatch h⟩, f0.mono (fun _ _ h => h.elim)⟩
  have heach := each_any w.heap.size w t [] _ hheld (by simpa using hn)
  rw [List.nil_append] at heach
  obtain ⟨tv, htv⟩ : ∃ tv, t.val = tv := ⟨_, rfl⟩
  rw [htv] at heach c0
  have HE := hid heach
  have hmf : ∀ (fn : Fn) (first cap : Array Value) (w : World), (Instr.makeFunc fn first cap).run Tryz.prog w = .ok (.func fn first cap) w := fun _ _ _ _ => rfl
  clear heach hheld hm h
  go_enter Tryz.func21, Tryz.ntmps21
  go_wp2_with fail
  refine HE.out.mono ?_
  rintro e w1 ⟨rfl, hh⟩
  obtain ⟨v, hl, hrow, hown⟩ := hh.at_
  have hk := hh.keeps
  have l0 := cell_at hl 0
  simp at l0
  have hsort := sort_any v t.keys (w.heap.size + 1) w1 ⟨hrow, fun g hg => hown g hg⟩ hn
  have HS := hid hsort
  clear hsort HE hh hrow f0
  go_wp2_with fail
  refine HS.out.mono ?_
  rintro e w2 ⟨rfl, hrow2, k2⟩
  have hl2 := k2.at_ hl (fun e => by have := hown _ e; omega)
  have l2 := cell_at hl2 0
  simp at l2
  clear l0
  go_wp2_with fail
  go_ret
  exact ⟨v, rfl, (hk.trans (k2.mono (fun q _ e => by have := hown _ e; omega))).mono (fun i hi h => by omega), hrow2.1, fun g hg => by have := hrow2.2 g hg; omega⟩
end Go.Proofs.YtmflbchiapdhbaaGreatDoor

namespace Go.Proofs.YtmflbchiapdhbaaGreatDoor
open Go.RowKit

theorem has_look (k : List UInt8) (t : Tr) : t.has k = (t.look k 0).isSome := by
  unfold Tr.has
  rw [get_look]
  cases t.look k 0 <;> rfl
theorem got_look (k : List UInt8) (t : Tr) : t.got k = ((t.look k 0).map Prod.snd).getD [] := by
  unfold Tr.got
  rw [get_look]

/-- a map with c keys -/
structure Map (w : World) (b : Nat) (t : Tr) (c : Nat) : Prop where
  at_ : MapAt w b t (c : Int)
  good : Tr.Good (fun _ => 0) 0 t
  count : t.keys.length = c
theorem Map.fresh {w w' : World} {b : Nat} {t : Tr} {c : Nat} (h : Map w b t c) (f : Fresh w w') : Map w' b t c := ⟨f.at_ h.at_ (fun h => h), h.good, h.count⟩
theorem Map.keeps {S : Nat → Prop} {w w' : World} {b : Nat} {t : Tr} {c : Nat} (h : Map w b t c) (f : Keeps S w w') (hb : ¬ S b) : Map w' b t c := ⟨f.at_ h.at_ hb, h.good, h.count⟩
theorem Map.lt {w : World} {b : Nat} {t : Tr} {c : Nat} (h : Map w b t c) : b < w.heap.size := lt_of_block h.at_

theorem new_map (w : World) : Calls Tryz.prog 5 #[] w fun e w' => e = .returned (.pointer (some ⟨w.heap.size, 0, none⟩)) ∧ Fresh w w' ∧ Map w' w.heap.size .none 0 :=
  (new_any w).mono fun _ _ ⟨he, hf, hm⟩ => ⟨he, hf, hm, trivial, rfl⟩

theorem added_look {t : Tr} (hg : Tr.Good (fun _ => 0) 0 t) {key value : List UInt8} (hkey : key.length ≤ 200) (hval : value.length ≤ 1000) (k : List UInt8) : (t.added key value).look k 0 = if k = sha key then some (key, value) else t.look k 0 :=
  put_look (leafOk_of key value hkey hval) k t 0 _ (by omega) hg (fun i hi => by omega)
theorem added_count {t : Tr} (hg : Tr.Good (fun _ => 0) 0 t) {key value : List UInt8} (hkey : key.length ≤ 200) (hval : value.length ≤ 1000) : (t.added key value).keys.length = t.keys.length + if t.has (sha key) = true then 0 else 1 := by
  rw [has_look]
  exact put_count (leafOk_of key value hkey hval) t 0 _ (by omega) hg (fun i hi => by omega)

theorem set_map (b c : Nat) (t : Tr) (key value : List UInt8) (w : World) (h : Map w b t c) (hd : Dig w) (hb : 3 ≤ b) (hc : c ≤ 1000000) (hkey : key.length ≤ 200) (hval : value.length ≤ 1000) :
    Calls Tryz.prog 12 #[.pointer (some ⟨b, 0, none⟩), .string (str key), .string (str value)] w fun e w' => e = .returned (.int .i64 0) ∧ ∃ c2, Keeps (fun q => q = b) w w' ∧ Map w' b (t.added key value) c2 ∧ c2 = c + (if t.has (sha key) = true then 0 else 1) := by
  refine (setok_any b t c key value w h.at_ h.good hd hb hkey hval).mono ?_
  rintro e w' ⟨rfl, hk, hm⟩
  have hcount := added_count h.good hkey hval
  rw [h.count] at hcount
  refine ⟨rfl, _, hk, ⟨?_, with_good h.good hkey hval, hcount⟩, rfl⟩
  by_cases hh : t.has (sha key) = true
  · rw [if_pos hh] at hm ⊢
    exact hm
  · rw [if_neg hh] at hm ⊢
    have e1 : wrap64 ((c : Int) + 1) = ((c + 1 : Nat) : Int) := by rw [wrap_small (by omega) (by omega)]; rfl
    rw [e1] at hm
    exact hm
theorem added_has {t : Tr} (hg : Tr.Good (fun _ => 0) 0 t) {key value : List UInt8} (hkey : key.length ≤ 200) (hval : value.length ≤ 1000) : (t.added key value).has (sha key) = true ∧ (t.added key value).got (sha key) = value := by
  rw [has_look, got_look, added_look hg hkey hval, if_pos rfl]
  exact ⟨rfl, rfl⟩

def Tr.less (key : List UInt8) (t : Tr) : Tr := (Tr.cut (sha key) 0 t).1
theorem less_all {t : Tr} (hg : Tr.Good (fun _ => 0) 0 t) (key : List UInt8) : Tr.Good (fun _ => 0) 0 (t.less key) ∧ (Tr.cut (sha key) 0 t).2 = t.has (sha key) ∧ (∀ k, (t.less key).look k 0 = if k = sha key then none else t.look k 0) ∧ (t.less key).keys.length + (if t.has (sha key) = true then 1 else 0) = t.keys.length := by
  obtain ⟨h1, -, h3, h4⟩ := cut_all (sha key) t 0 _ hg (fun i hi => by omega)
  rw [← has_look] at h3
  have h5 := cut_count (sha key) t 0
  rw [h3] at h5
  exact ⟨h1, h3, h4, h5⟩
theorem remove_map (b c : Nat) (t : Tr) (key : List UInt8) (w : World) (h : Map w b t c) (hd : Dig w) (hc : c ≤ 1000000) (hkey : key.length ≤ 200) :
    Calls Tryz.prog 17 #[.pointer (some ⟨b, 0, none⟩), .string (str key)] w fun e w' => e = .returned (.tuple #[.bool (t.has (sha key)), .int .i64 0]) ∧ ∃ c2, Keeps (fun q => q = b) w w' ∧ Map w' b (t.less key) c2 ∧ c2 + (if t.has (sha key) = true then 1 else 0) = c := by
  obtain ⟨h1, h2, h3, h4⟩ := less_all h.good key
  refine (removeok_any b t c key w h.at_ h.good hd hkey).mono ?_
  rintro e w' ⟨rfl, hk, hm⟩
  rw [h2] at hm ⊢
  rw [h.count] at h4
  refine ⟨rfl, _, hk, ⟨?_, h1, rfl⟩, h4⟩
  have hm : MapAt w' b (t.less key) (if t.has (sha key) = true then wrap64 ((c : Int) - 1) else (c : Int)) := hm
  by_cases hh : t.has (sha key) = true
  · rw [if_pos hh] at hm h4
    have e1 : wrap64 ((c : Int) - 1) = (((t.less key).keys.length : Nat) : Int) := by rw [wrap_small (by omega) (by omega)]; omega
    rw [e1] at hm
    exact hm
  · rw [if_neg hh] at hm h4
    rw [show (t.less key).keys.length = c by omega]
    exact hm
theorem less_has {t : Tr} (hg : Tr.Good (fun _ => 0) 0 t) (key : List UInt8) : (t.less key).has (sha key) = false ∧ (t.less key).got (sha key) = [] := by
  obtain ⟨-, -, h3, -⟩ := less_all hg key
  rw [has_look, got_look, h3, if_pos rfl]
  exact ⟨rfl, rfl⟩

/-- what Get tells -/
def Tr.tells (key : List UInt8) (t : Tr) : List UInt8 × Bool := if 200 < key.length then ([], false) else (t.got (sha key), t.has (sha key))
theorem get_map (b c : Nat) (t : Tr) (key : List UInt8) (w : World) (h : Map w b t c) (hd : Dig w) (hkey : key.length ≤ 9223372036854775807) :
    Calls Tryz.prog 19 #[.pointer (some ⟨b, 0, none⟩), .string (str key)] w fun e w' => e = .returned (.tuple #[.string (str (t.tells key).1), .bool (t.tells key).2]) ∧ Fresh w w' := by
  unfold Tr.tells
  by_cases hl : 200 < key.length
  · rw [if_pos hl]
    exact get_long b key w hl hkey
  · rw [if_neg hl]
    exact get_any b t c key w h.at_ hd (by omega) (Good.deep h.good _)
theorem len_map (b c : Nat) (t : Tr) (w : World) (h : Map w b t c) : Calls Tryz.prog 25 #[.pointer (some ⟨b, 0, none⟩)] w fun e w' => e = .returned (.int .i64 (c : Int)) ∧ Fresh w w' := len_any b t c w h.at_
end Go.Proofs.YtmflbchiapdhbaaGreatDoor
