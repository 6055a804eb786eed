/-
  The device in plain words: a page of a raw number; what is pending of each page.
-/
import Derived.Test.YtbhienlalpbflaaDvBase
import Derived.Maps.OwnSet
import Derived.Maps.StringElems
namespace Go.Proofs.Ytbhienlalpbflaa
open Go.RowKit Go.Maps

/-- the i-th byte of a page of a raw number -/
def pageByte (c : Int) (i : Nat) : Int := wrap64 (c + (i : Int) / 16) % 256
def pageOf (c : Int) : List UInt8 := (List.range 256).map fun i => UInt8.ofNat (pageByte c i).toNat
theorem pageOf_len (c : Int) : (pageOf c).length = 256 := by simp [pageOf]
theorem pageByte_le (c : Int) (i : Nat) : 0 ≤ pageByte c i ∧ pageByte c i < 256 := by
  unfold pageByte
  omega
/-- the cells of a page, so many of them written -/
def pageCells (c : Int) (n : Nat) : Array Value := ((List.range 256).map fun i => if i < n then Value.int .u8 (pageByte c i) else Value.int .u8 0).toArray
theorem pageCells_size (c : Int) (n : Nat) : (pageCells c n).size = 256 := by simp [pageCells]
theorem map_zero (c : Int) (n : Nat) : ((List.range n).map fun i => if i < 0 then Value.int .u8 (pageByte c i) else Value.int .u8 0) = List.replicate n (Value.int .u8 0) := by
  apply List.ext_getElem (by simp)
  intro k h1 h2
  simp
theorem pageCells_zero (c : Int) : pageCells c 0 = (List.replicate 256 (Value.int .u8 0)).toArray := congrArg List.toArray (map_zero c 256)
theorem pageCells_succ (c : Int) (n : Nat) (_h : n < 256) : (pageCells c n).setIfInBounds n (.int .u8 (pageByte c n)) = pageCells c (n + 1) := by
  apply Array.ext_getElem?
  intro k
  simp only [pageCells, Array.getElem?_setIfInBounds, List.size_toArray, List.length_map, List.length_range, List.getElem?_toArray, List.getElem?_map]
  by_cases hk : k < 256
  · rw [List.getElem?_range hk]
    simp only [Option.map_some]
    by_cases e : n = k
    · subst e
      simp [hk]
    · rw [if_neg e]
      by_cases h1 : k < n
      · rw [if_pos h1, if_pos (by omega)]
      · rw [if_neg h1, if_neg (by omega)]
  · rw [List.getElem?_eq_none (by simp; omega)]
    simp
    omega
theorem pageCells_full (c : Int) : (pageCells c 256).toList = u8s (pageOf c) := by
  unfold pageCells pageOf u8s
  simp only [List.map_map]
  apply List.ext_getElem (by simp)
  intro k h1 h2
  have hk : k < 256 := by simpa using h1
  have hp := pageByte_le c k
  simp [hk]
  omega

/-- what is pending -/
abbrev DD := DataW Unit
def pz : DD := .lit (.string [])
def pkey (p : Int) : Lit := .int .i64 p
theorem pkey_ne {p q : Int} (h : q ≠ p) : pkey q ≠ pkey p := by
  intro e
  simp only [pkey, Lit.int.injEq, true_and] at e
  exact h e
def Pends (D : DD) (f : Int → Option (List UInt8)) : Prop := IsMap D ∧ ∀ p : Int, Maps.has D (pkey p) = (f p).isSome ∧ D.atKey (pkey p) pz = .lit (.string ((f p).getD []))
theorem Pends.empty : Pends (.map []) (fun _ => none) := ⟨isMap_empty, fun _ => ⟨rfl, rfl⟩⟩
theorem pkey_is (p : Int) : WideAt.IsKeyLit (pkey p) := by simp [pkey, WideAt.IsKeyLit]
theorem Pends.put {D : DD} {f : Int → Option (List UInt8)} (h : Pends D f) (p : Int) (s : List UInt8) : Pends (D.put (pkey p) (.lit (.string s))) (fun q => if q = p then some s else f q) := by
  refine ⟨h.1.put _ _, fun q => ?_⟩
  by_cases e : q = p
  · subst e
    simp only [if_true]
    exact ⟨has_put_same h.1 (pkey_is q) _, atKey_put_same h.1 (pkey_is q) _ _⟩
  · simp only [if_neg e]
    rw [has_put_other (pkey_ne e), atKey_put_other (pkey_ne e)]
    exact h.2 q
theorem Pends.del {D : DD} {f : Int → Option (List UInt8)} (h : Pends D f) (p : Int) : Pends (D.del (pkey p)) (fun q => if q = p then none else f q) := by
  refine ⟨h.1.del _, fun q => ?_⟩
  by_cases e : q = p
  · subst e
    simp only [if_true]
    exact ⟨has_del_same, atKey_del_same _⟩
  · simp only [if_neg e]
    rw [has_del_other (pkey_ne e), atKey_del_other (pkey_ne e)]
    exact h.2 q
end Go.Proofs.Ytbhienlalpbflaa
