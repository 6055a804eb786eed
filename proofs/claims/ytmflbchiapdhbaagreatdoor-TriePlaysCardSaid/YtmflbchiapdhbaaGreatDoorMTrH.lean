/-
  The program's trie: each, and what Keys collects by it; Len, Clone.
  The keys of a trie: how many, each once, and what it has of each.
-/
import Derived.Test.YtmflbchiapdhbaaGreatDoorMTrE
import Derived.Test.YtmflbchiapdhbaaGreatDoorMTrD
namespace Go.Proofs.YtmflbchiapdhbaaGreatDoor
open Go.RowKit

set_option maxRecDepth 100000 in
theorem len_any (b : Nat) (t : Tr) (many : Int) (w : World) (h : MapAt w b t many) :
    Calls Tryz.prog 25 #[.pointer (some ⟨b, 0, none⟩)] w fun e w' => e = .returned (.int .i64 many) ∧ Fresh w w' := by
  have c1 := cell_at h 1
  simp at c1
  clear h
  go_enter Tryz.func25, Tryz.ntmps25
  go_wp2_with fail
  go_ret
  exact ⟨rfl, Keeps.refl _ _⟩
set_option maxRecDepth 100000 in
theorem clone_any (b : Nat) (t : Tr) (many : Int) (w : World) (h : MapAt w b t many) :
    Calls Tryz.prog 29 #[.pointer (some ⟨b, 0, none⟩)] w fun e w' => e = .returned (.pointer (some ⟨w.heap.size, 0, none⟩)) ∧ Fresh w w' ∧ MapAt w' w.heap.size t many := by
  unfold MapAt at h ⊢
  obtain ⟨ty, dat, fn, hty, -, -, -⟩ := hash_any t
  rw [hty] at h ⊢
  have c0 := cell_at h 0
  have c1 := cell_at h 1
  simp at c0 c1
  clear h hty
  go_enter Tryz.func29, Tryz.ntmps29
  go_wp2_with fail
  go_ret
  exact ⟨rfl, (Keeps.refl _ _).alloc _, heap_alloc_new w _⟩

/-- all keys, from left to right -/
def Tr.keys : Tr → List (List UInt8)
  | .none => []
  | .leaf _ _ key _ => [key]
  | .fork l r _ => l.keys ++ r.keys

/-- a list of texts in a variable of its own (block lb), grown since there were lb blocks -/
structure Held (lb : Nat) (w0 w : World) (acc : List (List UInt8)) : Prop where
  at_ : ∃ v, w.heap[lb]? = some (.cells #[v] 41 (0, 0)) ∧ w.ownsRow 0 9 1 v acc.length (texts acc) ∧ ∀ g, v.ownBlock = some g → lb < g
  keeps : Keeps (fun q => lb ≤ q) w0 w
theorem Held.fresh {lb : Nat} {w0 w w' : World} {acc : List (List UInt8)} (h : Held lb w0 w acc) (f : Fresh w w') : Held lb w0 w' acc := by
  obtain ⟨v, h1, h2, h3⟩ := h.at_
  exact ⟨⟨v, f.at_ h1 (fun h => h), ownsRow_keeps h2 f (fun _ _ h => h), h3⟩, h.keeps.trans (f.mono (fun _ _ h => h.elim))⟩

set_option maxRecDepth 100000 in
set_option maxHeartbeats 2000000 in
theorem push_any (lb : Nat) (k sum key val : List UInt8) (acc : List (List UInt8)) (w0 w : World) (h : Held lb w0 w acc) (hlen : acc.length ≤ 1000000) :
    Calls Tryz.prog 49 #[.agg (leafCells k sum key val), .pointer (some ⟨lb, 0, none⟩)] w fun e w' => e = .returned (.tuple #[]) ∧ Held lb w0 w' (acc ++ [key]) := by
  obtain ⟨i0, hi, hz0, hz1, hz2⟩ := info_parts Tryz.infoText
  obtain ⟨v, hl, hrow, hown⟩ := h.at_
  have hk := h.keeps
  obtain ⟨so, scap, rfl⟩ := ownsRow_slice hrow
  have hlb := lt_of_block hl
  have f0 : Fresh w (w.alloc (.cells #[.string (str k), .string (str sum), .string (str key), .string (str val)] 75)) := (Keeps.refl _ _).alloc _
  have hl1 := f0.at_ hl (fun h => h)
  have hrow1 := ownsRow_keeps hrow f0 (fun _ _ h => h)
  have l0 := cell_at hl1 0
  have z0 := free_at hl1 0
  simp at l0
  simp only [leafCells]
  clear h
  have HROW := hid hrow
  clear hrow
  go_enter Tryz.func49, Tryz.ntmps49
  go_wp2_with (at_builtin; refine wpList_push rfl (.tmp 3) (.tmp 7) 41 rfl 9 i0 (.string ⟨#[]⟩) 16 Tryz.underlying41 hi hz0 hz1 hz2 rfl _ hrow1 _ (by rfl) (by rw [World.size_alloc]; rfl) rfl (by omega) (by unfold maxLen; omega) ?_)
  intro v4 w4 ha
  obtain ⟨ao4, cp4, rfl⟩ := ownsRow_slice ha.row
  have hkk := ha.keeps
  have hno : ¬ (Value.slice so acc.length scap).ownBlock = some lb := fun h => by have := hown lb h; omega
  have hl4 := hkk.at_ hl1 hno
  have z4 := free_at hl4 0
  have l4 := cell_at hl4 0
  simp at l4
  have k4 : Keeps (fun q => lb ≤ q) w0 w4 := (hk.trans (f0.mono (fun _ _ h => h.elim))).trans (hkk.mono (fun i _ h => by have := hown i h; omega))
  have hrow4 := ha.row
  have hown4 : ∀ g, (Value.slice ao4 (acc.length + 1) cp4).ownBlock = some g → lb < g := fun g hg => by
    rcases ha.own g hg with h | h
    · exact hown g h
    · have := f0.size; omega
  rw [← texts_snoc] at hrow4
  clear ha hkk hno l0 z0 hrow1
  go_wp2
  go_end0
  refine ⟨rfl, ⟨⟨_, heap_setCell_at hl4 0 _, ?_, hown4⟩, Keeps.setCell (S := fun q => lb ≤ q) k4 (p := ⟨lb, 0, none⟩) (fun _ => Nat.le_refl _) _⟩⟩
  have hq := ownsRow_setCell_ne hrow4 (a := ⟨lb, 0, none⟩) (fun e => by have := hown4 lb e; omega) (.slice ao4 (acc.length + 1) cp4)
  rw [List.length_append]
  exact hq

set_option maxRecDepth 100000 in
theorem each_none (lb : Nat) (w : World) :
    Calls Tryz.prog 48 #[Tr.none.val, .func (.func 49) #[] #[.pointer (some ⟨lb, 0, none⟩)]] w fun e w' => e = .returned (.tuple #[]) ∧ Fresh w w' := by
  have hta := none_as_leaf
  have htb := none_as_fork
  simp only [Tr.val]
  go_enter Tryz.func48, Tryz.ntmps48
  go_wp2_with fail
  go_end0
  exact ⟨rfl, Keeps.refl _ _⟩

set_option maxRecDepth 100000 in
set_option maxHeartbeats 2000000 in
theorem each_leaf (lb : Nat) (k sum key val : List UInt8) (acc : List (List UInt8)) (w0 w : World) (h : Held lb w0 w acc) (hlen : acc.length ≤ 1000000) :
    Calls Tryz.prog 48 #[(Tr.leaf k sum key val).val, .func (.func 49) #[] #[.pointer (some ⟨lb, 0, none⟩)]] w fun e w' => e = .returned (.tuple #[]) ∧ Held lb w0 w' (acc ++ [key]) := by
  have hta := as_leaf
  have htb := leaf_as_fork
  have hpush := push_any lb k sum key val acc w0 _ (h.fresh ((Keeps.refl _ _).alloc (.cells #[.string (str k), .string (str sum), .string (str key), .string (str val)] 75))) hlen
  simp only [Tr.val, leafCells] at hpush ⊢
  have HP := hid hpush
  clear hpush h
  go_enter Tryz.func48, Tryz.ntmps48
  go_wp2_with (go_at_call 49; refine HP.out.mono ?_; rintro e w1 ⟨rfl, hh⟩)
  go_end0
  exact ⟨rfl, hh⟩

set_option maxRecDepth 100000 in
set_option maxHeartbeats 2000000 in
theorem each_fork (lb : Nat) (l r : Tr) (sum : List UInt8) (acc : List (List UInt8)) (w0 w : World) (h : Held lb w0 w acc)
    (hl : ∀ w, Held lb w0 w acc → Calls Tryz.prog 48 #[l.val, .func (.func 49) #[] #[.pointer (some ⟨lb, 0, none⟩)]] w fun e w' => e = .returned (.tuple #[]) ∧ Held lb w0 w' (acc ++ l.keys))
    (hr : ∀ w, Held lb w0 w (acc ++ l.keys) → Calls Tryz.prog 48 #[r.val, .func (.func 49) #[] #[.pointer (some ⟨lb, 0, none⟩)]] w fun e w' => e = .returned (.tuple #[]) ∧ Held lb w0 w' (acc ++ l.keys ++ r.keys)) :
    Calls Tryz.prog 48 #[(Tr.fork l r sum).val, .func (.func 49) #[] #[.pointer (some ⟨lb, 0, none⟩)]] w fun e w' => e = .returned (.tuple #[]) ∧ Held lb w0 w' (acc ++ l.keys ++ r.keys) := by
  have hta := as_fork
  obtain ⟨ty, dat, fn, hty, -, -, -⟩ := hash_any l
  obtain ⟨ty2, dat2, fn2, hty2, -, -, -⟩ := hash_any r
  simp only [Tr.val]
  rw [hty] at hl ⊢
  rw [hty2] at hr ⊢
  have HL := hid hl
  have HR := hid hr
  have h1 := h.fresh ((Keeps.refl _ _).alloc (.cells #[.iface ty dat, .iface ty2 dat2, .string (str sum)] 100))
  have i0 : ∀ w, (Instr.index 98 (.agg #[.iface ty dat, .iface ty2 dat2]) (.int .i64 0)).run Tryz.prog w = .ok (.iface ty dat) w := fun _ => by kernel_rfl
  have i1 : ∀ w, (Instr.index 98 (.agg #[.iface ty dat, .iface ty2 dat2]) (.int .i64 1)).run Tryz.prog w = .ok (.iface ty2 dat2) w := fun _ => by kernel_rfl
  clear hl hr h hty hty2
  go_enter Tryz.func48, Tryz.ntmps48
  go_wp2_with fail
  go_loopw [14] (fun i wr => (i = .int .i64 0 ∧ Held lb w0 wr acc) ∨ (i = .int .i64 1 ∧ Held lb w0 wr (acc ++ l.keys)) ∨ (i = .int .i64 2 ∧ Held lb w0 wr (acc ++ l.keys ++ r.keys))) (fun i _ => 2 - (intOf i).toNat)
  case atStart => exact .inl ⟨rfl, h1⟩
  case round =>
    rcases hrel with ⟨rfl, hh⟩ | ⟨rfl, hh⟩ | ⟨rfl, hh⟩
    · go_wp2_with (go_at_call 48; refine (HL.out _ hh).mono ?_; rintro e w1 ⟨rfl, h2⟩)
      go_roundw
      case rel => exact .inr (.inl ⟨rfl, h2⟩)
      case measure => simp [intOf]
    · go_wp2_with (go_at_call 48; refine (HR.out _ hh).mono ?_; rintro e w1 ⟨rfl, h2⟩)
      go_roundw
      case rel => exact .inr (.inr ⟨rfl, h2⟩)
      case measure => simp [intOf]
    · go_wp2_with fail
      go_end0
      exact ⟨rfl, hh⟩

theorem each_any (lb : Nat) (w0 : World) : ∀ (t : Tr) (acc : List (List UInt8)) (w : World), Held lb w0 w acc → acc.length + t.keys.length ≤ 1000000 →
    Calls Tryz.prog 48 #[t.val, .func (.func 49) #[] #[.pointer (some ⟨lb, 0, none⟩)]] w fun e w' => e = .returned (.tuple #[]) ∧ Held lb w0 w' (acc ++ t.keys)
  | .none, acc, w, h, _ => (each_none lb w).mono fun e w' ⟨he, hf⟩ => ⟨he, by rw [Tr.keys, List.append_nil]; exact h.fresh hf⟩
  | .leaf k sum key val, acc, w, h, hn => each_leaf lb k sum key val acc w0 w h (by omega)
  | .fork l r sum, acc, w, h, hn => by
    have hn2 : acc.length + (l.keys.length + r.keys.length) ≤ 1000000 := by simpa [Tr.keys] using hn
    have := each_fork lb l r sum acc w0 w h (fun w h => each_any lb w0 l acc w h (by omega)) (fun w h => each_any lb w0 r (acc ++ l.keys) w h (by simp; omega))
    rw [Tr.keys, ← List.append_assoc]
    exact this
end Go.Proofs.YtmflbchiapdhbaaGreatDoor

namespace Go.Proofs.YtmflbchiapdhbaaGreatDoor
open Go.RowKit

section
variable {ak sa akey aval xk xs xkey xval : List UInt8}
theorem two_count (ha : LeafOk ak sa akey aval) (hx : LeafOk xk xs xkey xval) (hne : ak ≠ xk) : ∀ (n d : Nat), d + n = 256 → (∀ i, i < d → bitAt ak i = bitAt xk i) →
    (Tr.two (.leaf ak sa akey aval) (.leaf xk xs xkey xval) ak xk n d).keys.length = 2
  | 0, d, hd, h1 => absurd (bits_inj ha.len hx.len fun i hi => h1 i (by omega)) hne
  | n + 1, d, hd, h1 => by
    unfold Tr.two
    by_cases hb : bitAt ak d = bitAt xk d
    · rw [if_pos hb]
      have ih := two_count ha hx hne n (d + 1) (by omega) (fun i hi => by
        by_cases he : i = d
        · rw [he]; exact hb
        · exact h1 i (by omega))
      by_cases h0 : bitAt xk d = 0
      · rw [if_pos h0, Tr.mk, Tr.keys, List.length_append, ih]; rfl
      · rw [if_neg h0, Tr.mk, Tr.keys, List.length_append, ih]; rfl
    · rw [if_neg hb]
      by_cases h0 : bitAt xk d = 0
      · rw [if_pos h0]; rfl
      · rw [if_neg h0]; rfl

theorem put_count (hx : LeafOk xk xs xkey xval) : ∀ (t : Tr) (d : Nat) (p : Nat → Nat), d ≤ 256 → Tr.Good p d t → (∀ i, i < d → bitAt xk i = p i) →
    (Tr.put (.leaf xk xs xkey xval) xk d t).keys.length = t.keys.length + if (t.look xk d).isSome = true then 0 else 1
  | .none, d, p, hd, _, h2 => rfl
  | .leaf ak sa akey aval, d, p, hd, hg, h2 => by
    rw [Tr.put, look_leaf]
    by_cases he : ak = xk
    · rw [if_pos he, if_pos he]; rfl
    · rw [if_neg he, if_neg he, two_count hg.1 hx he (256 - d) d (by omega) (fun i hi => (hg.2 i hi).trans (h2 i hi).symm)]; rfl
  | .fork l r s, d, p, hd, hg, h2 => by
    obtain ⟨h256, hs, hl, hr, c1, c2⟩ := hg
    rw [Tr.put, look_fork]
    by_cases h0 : bitAt xk d = 0
    · rw [if_pos h0, if_pos h0, Tr.mk, Tr.keys, Tr.keys, List.length_append, List.length_append, put_count hx l (d + 1) (sideOf p d 0) (by omega) hl (sideOf_agree h2 h0)]
      omega
    · rw [if_neg h0, if_neg h0, Tr.mk, Tr.keys, Tr.keys, List.length_append, List.length_append, put_count hx r (d + 1) (sideOf p d 1) (by omega) hr (sideOf_agree h2 (bit_one h0))]
      omega
end

theorem join_keys (l r : Tr) : (Tr.join l r).keys = l.keys ++ r.keys := by
  cases l <;> cases r <;> simp [Tr.join, Tr.mk, Tr.keys]
theorem cut_count (k : List UInt8) : ∀ (t : Tr) (d : Nat), (Tr.cut k d t).1.keys.length + (if (Tr.cut k d t).2 = true then 1 else 0) = t.keys.length
  | .none, d => rfl
  | .leaf a b c e, d => by
    rw [Tr.cut]
    by_cases h : a = k
    · rw [if_pos h]; rfl
    · rw [if_neg h]; rfl
  | .fork l r s, d => by
    rw [Tr.cut]
    by_cases h0 : bitAt k d = 0
    · rw [if_pos h0]
      have ih := cut_count k l (d + 1)
      by_cases hc : (Tr.cut k (d + 1) l).2 = true
      · rw [if_pos hc] at ih ⊢
        simp only [join_keys, Tr.keys, List.length_append, if_true]
        omega
      · rw [if_neg hc]; rfl
    · rw [if_neg h0]
      have ih := cut_count k r (d + 1)
      by_cases hc : (Tr.cut k (d + 1) r).2 = true
      · rw [if_pos hc] at ih ⊢
        simp only [join_keys, Tr.keys, List.length_append, if_true]
        omega
      · rw [if_neg hc]; rfl

theorem keys_look : ∀ (t : Tr) (d : Nat) (p : Nat → Nat), Tr.Good p d t → ∀ key ∈ t.keys, (∀ i, i < d → bitAt (sha key) i = p i) ∧ ∃ val, t.look (sha key) d = some (key, val)
  | .none, d, p, _, key, h => by simp [Tr.keys] at h
  | .leaf a b c e, d, p, hg, key, h => by
    simp only [Tr.keys, List.mem_singleton] at h
    subst h
    have := hg.1.1
    refine ⟨?_, e, ?_⟩
    · rw [← this]; exact hg.2
    · rw [look_leaf, if_pos this]
  | .fork l r s, d, p, hg, key, h => by
    obtain ⟨h256, hs, hl, hr, c1, c2⟩ := hg
    rw [Tr.keys, List.mem_append] at h
    rcases h with h | h
    · obtain ⟨a, v, q⟩ := keys_look l (d + 1) _ hl key h
      obtain ⟨a, z⟩ := sideOf_down a
      exact ⟨a, v, by rw [look_fork, if_pos z]; exact q⟩
    · obtain ⟨a, v, q⟩ := keys_look r (d + 1) _ hr key h
      obtain ⟨a, z⟩ := sideOf_down a
      exact ⟨a, v, by rw [look_fork, if_neg (by omega)]; exact q⟩
theorem look_keys (k key val : List UInt8) : ∀ (t : Tr) (d : Nat), t.look k d = some (key, val) → key ∈ t.keys
  | .none, d, h => by simp [look_none] at h
  | .leaf a b c e, d, h => by
    rw [look_leaf] at h
    by_cases q : a = k
    · rw [if_pos q] at h
      simp only [Option.some.injEq, Prod.mk.injEq] at h
      rw [Tr.keys, h.1]; exact List.mem_singleton.2 rfl
    · rw [if_neg q] at h; cases h
  | .fork l r s, d, h => by
    rw [look_fork] at h
    rw [Tr.keys, List.mem_append]
    by_cases q : bitAt k d = 0
    · rw [if_pos q] at h; exact .inl (look_keys k key val l (d + 1) h)
    · rw [if_neg q] at h; exact .inr (look_keys k key val r (d + 1) h)

theorem keys_nodup : ∀ (t : Tr) (d : Nat) (p : Nat → Nat), Tr.Good p d t → t.keys.Nodup
  | .none, d, p, _ => by simp [Tr.keys]
  | .leaf a b c e, d, p, _ => by simp [Tr.keys]
  | .fork l r s, d, p, hg => by
    obtain ⟨h256, hs, hl, hr, c1, c2⟩ := hg
    rw [Tr.keys, List.nodup_append]
    refine ⟨keys_nodup l (d + 1) _ hl, keys_nodup r (d + 1) _ hr, fun a ha b hb e => ?_⟩
    obtain ⟨q1, -⟩ := keys_look l (d + 1) _ hl a ha
    obtain ⟨q2, -⟩ := keys_look r (d + 1) _ hr b hb
    obtain ⟨-, z1⟩ := sideOf_down q1
    obtain ⟨-, z2⟩ := sideOf_down q2
    rw [e] at z1
    omega

/-- the keys, rising -/
def rising (l : List (List UInt8)) : List (List UInt8) := l.mergeSort fun x y => decide (x ≤ y)
theorem le_tr (a b c : List UInt8) (h1 : decide (a ≤ b) = true) (h2 : decide (b ≤ c) = true) : decide (a ≤ c) = true := decide_eq_true (List.le_trans (of_decide_eq_true h1) (of_decide_eq_true h2))
theorem le_to (a b : List UInt8) : (decide (a ≤ b) || decide (b ≤ a)) = true := by
  rcases List.le_total a b with h | h <;> simp [h]
theorem rising_perm (l : List (List UInt8)) : (rising l).Perm l := List.mergeSort_perm l _
theorem rising_length (l : List (List UInt8)) : (rising l).length = l.length := (rising_perm l).length_eq
theorem rising_mem {l : List (List UInt8)} {x : List UInt8} : x ∈ rising l ↔ x ∈ l := (rising_perm l).mem_iff
theorem rising_strict {l : List (List UInt8)} (h : l.Nodup) : (rising l).Pairwise fun a b => a < b := by
  have h1 : (rising l).Pairwise fun a b => decide (a ≤ b) = true := List.pairwise_mergeSort le_tr le_to l
  have h2 : (rising l).Nodup := (rising_perm l).nodup_iff.2 h
  refine (h1.and h2).imp fun {a b} ⟨p, q⟩ => ?_
  have p := of_decide_eq_true p
  by_cases q2 : b ≤ a
  · exact absurd (List.le_antisymm p q2) q
  · exact List.not_le.1 q2
theorem rising_same {l m : List (List UInt8)} (h : l.Perm m) : rising l = rising m := by
  refine List.Perm.eq_of_pairwise (le := fun a b => decide (a ≤ b) = true) (fun a b _ _ p q => List.le_antisymm (of_decide_eq_true p) (of_decide_eq_true q)) (List.pairwise_mergeSort le_tr le_to l) (List.pairwise_mergeSort le_tr le_to m) (((rising_perm l).trans h).trans (rising_perm m).symm)
end Go.Proofs.YtmflbchiapdhbaaGreatDoor
