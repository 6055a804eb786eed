/-
  Both maps' calls, of any key and value: what each tells and leaves, in the same words.
-/
import Derived.Test.YtmflbchiapdhbaaGreatDoorTdKeys
import Derived.Test.YtmflbchiapdhbaaGreatDoorTdProve
import Derived.Test.YtmflbchiapdhbaaGreatDoorTdSet
namespace Go.Proofs.YtmflbchiapdhbaaGreatDoor
open Go.RowKit

def isLong (key value : List UInt8) : Bool := decide (200 < key.length ∨ 1000 < value.length)
def setErr (key value : List UInt8) : Int := if isLong key value = true then 242 else 0
def Tr.setT (key value : List UInt8) (t : Tr) : Tr := if isLong key value = true then t else t.added key value
def setM (key value : List UInt8) (L : List Ent) : List Ent := if isLong key value = true then L else setL (key, value) L
theorem not_long {key value : List UInt8} (h : ¬ isLong key value = true) : key.length ≤ 200 ∧ value.length ≤ 1000 := by
  unfold isLong at h
  simp at h
  exact h
theorem is_long {key value : List UInt8} (h : isLong key value = true) : 200 < key.length ∨ 1000 < value.length := of_decide_eq_true h
theorem Has.setT {t : Tr} {L : List Ent} (h : Has t L) (hg : Tr.Good (fun _ => 0) 0 t) (key value : List UInt8) : Has (t.setT key value) (setM key value L) := by
  unfold Tr.setT setM
  by_cases hl : isLong key value = true
  · rw [if_pos hl, if_pos hl]; exact h
  · rw [if_neg hl, if_neg hl]
    exact h.added hg (not_long hl).1 (not_long hl).2
theorem mset_all (b c : Nat) (t : Tr) (key value : List UInt8) (w : World) (h : Map w b t c) (hd : Dig w) (hb : 3 ≤ b) (hc : c ≤ 1000000) (hk : key.length ≤ 9223372036854775807) (hv : value.length ≤ 9223372036854775807) :
    Calls Tryz.prog 12 #[.pointer (some ⟨b, 0, none⟩), .string (str key), .string (str value)] w fun e w' => e = .returned (.int .i64 (setErr key value)) ∧ ∃ c2, Keeps (fun q => q = b) w w' ∧ Map w' b (t.setT key value) c2 ∧ c2 ≤ c + 1 := by
  unfold setErr Tr.setT
  by_cases hl : isLong key value = true
  · rw [if_pos hl, if_pos hl]
    exact (setmap_long b key value w (is_long hl) hk hv).mono fun e w' ⟨he, f⟩ => ⟨he, c, f.mono (fun _ _ h => h.elim), h.fresh f, by omega⟩
  · rw [if_neg hl, if_neg hl]
    exact (set_map b c t key value w h hd hb hc (not_long hl).1 (not_long hl).2).mono fun e w' ⟨he, c2, k, hm, hc2⟩ => ⟨he, c2, k, hm, by rw [hc2]; split <;> omega⟩
theorem dset_all (y : Nat) (dv : Value) (L : List Ent) (key value : List UInt8) (w : World) (h : DocAt w y dv L) (hl : L.length ≤ 1000000) (hk : key.length ≤ 9223372036854775807) (hv : value.length ≤ 9223372036854775807) :
    Calls Tryz.prog 16 #[.pointer (some ⟨y, 0, none⟩), .string (str key), .string (str value)] w fun e w' => e = .returned (.int .i64 (setErr key value)) ∧ DocTo w w' y dv (setM key value L) := by
  unfold setErr setM
  by_cases hlong : isLong key value = true
  · rw [if_pos hlong, if_pos hlong]
    exact (dset_long _ key value w (is_long hlong) hk hv).mono fun e w' ⟨he, f⟩ => ⟨he, dv, h.fresh f, f.mono (fun _ _ h => h.elim), fun g hg => .inl hg⟩
  · rw [if_neg hlong, if_neg hlong]
    exact dset_any y dv L key value w h hl (not_long hlong).1 (not_long hlong).2

/-- what Remove tells -/
def Tr.remV (key : List UInt8) (t : Tr) : Bool × Int := if 200 < key.length then (false, 242) else (t.has (sha key), 0)
def Tr.remT (key : List UInt8) (t : Tr) : Tr := if 200 < key.length then t else t.less key
def remM (key : List UInt8) (L : List Ent) : List Ent := if 200 < key.length then L else cutL (sha key) L
theorem Has.remT {t : Tr} {L : List Ent} (h : Has t L) (hg : Tr.Good (fun _ => 0) 0 t) (key : List UInt8) : Has (t.remT key) (remM key L) := by
  unfold Tr.remT remM
  by_cases hl : 200 < key.length
  · rw [if_pos hl, if_pos hl]; exact h
  · rw [if_neg hl, if_neg hl]; exact h.less hg key
theorem mrem_all (b c : Nat) (t : Tr) (key : List UInt8) (w : World) (h : Map w b t c) (hd : Dig w) (hc : c ≤ 1000000) (hk : key.length ≤ 9223372036854775807) :
    Calls Tryz.prog 17 #[.pointer (some ⟨b, 0, none⟩), .string (str key)] w fun e w' => e = .returned (.tuple #[.bool (t.remV key).1, .int .i64 (t.remV key).2]) ∧ ∃ c2, Keeps (fun q => q = b) w w' ∧ Map w' b (t.remT key) c2 ∧ c2 ≤ c := by
  unfold Tr.remV Tr.remT
  by_cases hl : 200 < key.length
  · simp only [if_pos hl]
    exact (removemap_long b key w hl hk).mono fun e w' ⟨he, f⟩ => ⟨he, c, f.mono (fun _ _ h => h.elim), h.fresh f, Nat.le_refl _⟩
  · simp only [if_neg hl]
    exact (remove_map b c t key w h hd hc (by omega)).mono fun e w' ⟨he, c2, k, hm, hc2⟩ => ⟨he, c2, k, hm, by split at hc2 <;> omega⟩
theorem drem_all (y : Nat) (dv : Value) (L : List Ent) (t : Tr) (key : List UInt8) (w : World) (h : DocAt w y dv L) (hl : L.length ≤ 1000000) (hg : Tr.Good (fun _ => 0) 0 t) (hh : Has t L) (hk : key.length ≤ 9223372036854775807) :
    Calls Tryz.prog 18 #[.pointer (some ⟨y, 0, none⟩), .string (str key)] w fun e w' => e = .returned (.tuple #[.bool (t.remV key).1, .int .i64 (t.remV key).2]) ∧ DocTo w w' y dv (remM key L) := by
  unfold Tr.remV remM
  by_cases hlong : 200 < key.length
  · simp only [if_pos hlong]
    exact (dremove_long _ key w hlong hk).mono fun e w' ⟨he, f⟩ => ⟨he, dv, h.fresh f, f.mono (fun _ _ h => h.elim), fun g hg => .inl hg⟩
  · simp only [if_neg hlong]
    rw [hh.has hg]
    exact dremove_any y dv L key w h hl (by omega) hh.nodup
theorem dget_all (y : Nat) (dv : Value) (L : List Ent) (t : Tr) (key : List UInt8) (w : World) (h : DocAt w y dv L) (hl : L.length ≤ 1000000) (hg : Tr.Good (fun _ => 0) 0 t) (hh : Has t L) (hk : key.length ≤ 9223372036854775807) :
    Calls Tryz.prog 20 #[.pointer (some ⟨y, 0, none⟩), .string (str key)] w fun e w' => e = .returned (.tuple #[.string (str (t.tells key).1), .bool (t.tells key).2]) ∧ Fresh w w' := by
  rw [hh.tells hg key]
  exact dget_any y dv L key w h hl hk
theorem dprove_all (y : Nat) (dv : Value) (L : List Ent) (t : Tr) (key : List UInt8) (w : World) (h : DocAt w y dv L) (hl : L.length ≤ 1000000) (hg : Tr.Good (fun _ => 0) 0 t) (hh : Has t L) (hk : key.length ≤ 9223372036854775807) :
    Calls Tryz.prog 27 #[.pointer (some ⟨y, 0, none⟩), .string (str key)] w fun e w' => ∃ v, e = .returned (.tuple #[lookupVal v (t.proof key).2.1, .int .i64 (t.proof key).2.2]) ∧ Fresh w w' ∧ OwnTexts w.heap.size w' v (t.proof key).1 := by
  unfold Tr.proof
  by_cases hlong : 200 < key.length
  · simp only [if_pos hlong]
    exact (dprove_long _ key w hlong hk).mono fun e w' ⟨he, f⟩ => ⟨_, he, f, World.ownsRow_nil _ _ _ _, fun _ h => nomatch h⟩
  · simp only [if_neg hlong]
    exact dprove_any y dv L t key w h hl (by omega) hg hh
theorem dkeys_all (y : Nat) (dv : Value) (L : List Ent) (t : Tr) (w : World) (h : DocAt w y dv L) (hl : L.length ≤ 1000000) (hg : Tr.Good (fun _ => 0) 0 t) (hh : Has t L) :
    Calls Tryz.prog 23 #[.pointer (some ⟨y, 0, none⟩)] w fun e w' => ∃ v', e = .returned v' ∧ Fresh w w' ∧ OwnTexts w.heap.size w' v' (rising t.keys) := by
  rw [← hh.rising hg]
  exact dkeys_any y dv L w h hl
end Go.Proofs.YtmflbchiapdhbaaGreatDoor
