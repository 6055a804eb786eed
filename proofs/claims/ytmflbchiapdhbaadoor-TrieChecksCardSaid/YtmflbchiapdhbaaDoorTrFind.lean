/-
  The program's trie: find goes down to where a key is, or would be.
-/
import Derived.Test.YtmflbchiapdhbaaDoorTrRoot
import Derived.Test.YtmflbchiapdhbaaDoorAppend
namespace Go.Proofs.YtmflbchiapdhbaaDoor
open Go.RowKit

theorem Tryd.infoText : (Tryd.prog.info? 9).map (fun i => (i.zero, i.size, i.bytes)) = some (some (.string ⟨#[]⟩), 1, 16) := by kernel_rfl

/-- any node's hash, by its method -/
theorem hash_any (t : Tr) : ∃ (ty : TypeId) (dat : Value) (fn : FuncId), t.val = .iface ty dat ∧ (∀ w, (method 267 ty dat "scrivener/trie.hash").run Tryd.prog w = .ok (fn, dat) w) ∧
    (∀ args w, (callFunc fn args).run Tryd.prog w = .ok (.enter fn args) w) ∧ ∀ w, Calls Tryd.prog fn #[dat] w fun e w' => e = .returned (.string (str t.hash)) ∧ Fresh w w' := by
  cases t with
  | none => exact ⟨_, _, 108, rfl, fun w => by kernel_rfl, enters_of Tryd.func108 (by kernel_rfl) rfl, fun w => nothingHash_any w⟩
  | leaf k sum key val => exact ⟨_, _, 106, rfl, fun w => by kernel_rfl, enters_of Tryd.func106 (by kernel_rfl) rfl, fun w => leafNodeHash_any k sum key val w⟩
  | fork l r sum => exact ⟨_, _, 109, rfl, fun w => by kernel_rfl, enters_of Tryd.func109 (by kernel_rfl) rfl, fun w => forkHash_any _ _ sum w⟩

/-- which node is it? -/
theorem as_fork (l r : Value) (s : ByteArray) (w : World) : (Instr.typeAssert (.iface 95 (.agg #[l, r, .string s])) 63 95 true).run Tryd.prog w = .ok (.tuple #[.agg #[l, r, .string s], .bool true]) w := by kernel_rfl
theorem none_as_fork (w : World) : (Instr.typeAssert (.iface 81 (.agg #[])) 63 95 true).run Tryd.prog w = .ok (.tuple #[.agg #[.nilIface, .nilIface, .string ⟨#[]⟩], .bool false]) w := by kernel_rfl
theorem leaf_as_fork (x : Value) (w : World) : (Instr.typeAssert (.iface 71 x) 63 95 true).run Tryd.prog w = .ok (.tuple #[.agg #[.nilIface, .nilIface, .string ⟨#[]⟩], .bool false]) w := by kernel_rfl
theorem as_leaf (a b c d : Value) (w : World) : (Instr.typeAssert (.iface 71 (.agg #[a, b, c, d])) 63 71 true).run Tryd.prog w = .ok (.tuple #[.agg #[a, b, c, d], .bool true]) w := by kernel_rfl
theorem none_as_leaf (w : World) : (Instr.typeAssert (.iface 81 (.agg #[])) 63 71 true).run Tryd.prog w = .ok (.tuple #[.agg #[.string ⟨#[]⟩, .string ⟨#[]⟩, .string ⟨#[]⟩, .string ⟨#[]⟩], .bool false]) w := by kernel_rfl
theorem fork_as_leaf (x : Value) (w : World) : (Instr.typeAssert (.iface 95 x) 63 71 true).run Tryd.prog w = .ok (.tuple #[.agg #[.string ⟨#[]⟩, .string ⟨#[]⟩, .string ⟨#[]⟩, .string ⟨#[]⟩], .bool false]) w := by kernel_rfl

theorem ownsRow_lt {w : World} {base : Nat} {e : TypeId} {size : Nat} {v : Value} {n : Nat} {xs : List Value} {g : Nat} (h : w.ownsRow base e size v n xs) (hg : v.ownBlock = some g) : g < w.heap.size := by
  obtain ⟨_, ⟨rfl, _⟩ | ⟨g', cap, cur, rfl, _, hb, _⟩⟩ := h
  · simp [Value.ownBlock] at hg
  · simp [Value.ownBlock] at hg
    subst hg
    exact lt_of_block hb
theorem ownsRow_at {w : World} {base : Nat} {e : TypeId} {v : Value} {n : Nat} {xs : List Value} (h : w.ownsRow base e 1 v n xs) : ∃ ao cap, v = .slice ao n cap ∧ ∀ (k : Nat) (u : Value), xs[k]? = some u → ∃ bb, ao = some ⟨bb, 0, none⟩ ∧ bb < w.heap.size ∧ w.cell? ⟨bb, k, none⟩ = some u := by
  obtain ⟨hl, ⟨rfl, rfl⟩ | ⟨g', cap, cur, rfl, _, hb, hn, _, hcs, ht⟩⟩ := h
  · refine ⟨_, _, rfl, fun k u hu => ?_⟩
    have : k < xs.length := (List.getElem?_eq_some_iff.1 hu).1
    omega
  · refine ⟨_, _, rfl, fun k u hu => ⟨g', rfl, lt_of_block hb, ?_⟩⟩
    rw [cell_at hb]
    rw [← ht, List.getElem?_take] at hu
    split at hu
    · simpa using hu
    · cases hu
theorem OwnTexts_at {B : Nat} {w : World} {v : Value} {l : List (List UInt8)} (h : w.ownsRow B 9 1 v l.length (l.map fun s => Value.string (str s))) : TextsAt w v l := by
  obtain ⟨ao, cap, rfl, hc⟩ := ownsRow_at h
  refine ⟨ao, cap, rfl, fun k s hs => ?_⟩
  obtain ⟨bb, rfl, h1, h2⟩ := hc k (.string (str s)) (by simp [hs])
  exact ⟨bb, 0, rfl, h1, by rw [Nat.zero_add]; exact h2⟩

def texts (l : List (List UInt8)) : List Value := l.map fun s => .string (str s)
theorem texts_snoc (l : List (List UInt8)) (x : List UInt8) : texts (l ++ [x]) = texts l ++ [Value.string (str x)] := by simp [texts]
/-- a list of texts in blocks of its own, all made since there were B blocks -/
def OwnTexts (B : Nat) (w : World) (v : Value) (l : List (List UInt8)) : Prop :=
  w.ownsRow 0 9 1 v l.length (texts l) ∧ ∀ g, v.ownBlock = some g → B ≤ g

theorem OwnTexts.at_ {B : Nat} {w : World} {v : Value} {l : List (List UInt8)} (h : OwnTexts B w v l) : TextsAt w v l := OwnTexts_at h.1

def Tr.dig (k : List UInt8) : Nat → Tr → Tr × List (List UInt8)
  | d, .fork l r _ => if bitAt k d = 0 then ((l.dig k (d + 1)).1, r.hash :: (l.dig k (d + 1)).2) else ((r.dig k (d + 1)).1, l.hash :: (r.dig k (d + 1)).2)
  | _, t => (t, [])
def sliceLen : Value → Nat
  | .slice _ n _ => n
  | _ => 0

set_option maxRecDepth 100000 in
set_option maxHeartbeats 2000000 in
theorem find_any (k : List UInt8) (t : Tr) (w : World) (hk : k.length = 32) (hd : (t.dig k 0).2.length ≤ 256) :
    Calls Tryd.prog 33 #[t.val, .string (str k)] w fun e w' => ∃ v, e = .returned (.tuple #[(t.dig k 0).1.val, v]) ∧ Fresh w w' ∧ OwnTexts w.heap.size w' v (t.dig k 0).2 := by
  obtain ⟨i0, hi, hz0, hz1, hz2⟩ := info_parts Tryd.infoText
  go_enter Tryd.func33, Tryd.ntmps33
  go_wp2_with fail
  go_loopw [0, 6] (fun n s wr => ∃ (t' : Tr) (acc : List (List UInt8)), n = t'.val ∧ Hid ((t.dig k 0).1 = (t'.dig k acc.length).1) ∧ Hid ((t.dig k 0).2 = acc ++ (t'.dig k acc.length).2) ∧ wr.ownsRow 0 9 1 s acc.length (texts acc) ∧ (∀ g, s.ownBlock = some g → w.heap.size ≤ g) ∧ Fresh w wr) (fun _ s _ => 256 - sliceLen s)
  case atStart => exact ⟨t, [], rfl, rfl, rfl, World.ownsRow_nil _ _ _ _, (fun _ h => nomatch h), Keeps.refl _ _⟩
  case round =>
    obtain ⟨t', acc, rfl, HD1, HD2, hrow, hnew, hf⟩ := hrel
    cases t' with
    | none =>
      have HD1' : Hid ((t.dig k 0).1 = .none) := by rw [Hid, HD1.out]; simp [Tr.dig]
      have HD2' : Hid ((t.dig k 0).2 = acc) := by rw [Hid, HD2.out]; simp [Tr.dig]
      clear HD1 HD2 hd
      simp only [Tr.val]
      have hta := none_as_fork
      have htb := leaf_as_fork
      go_wp2_with fail
      go_ret2
      refine ⟨_, by rw [HD1'.out]; rfl, hf.alloc _, ?_⟩
      rw [HD2'.out]
      exact ⟨hrow.alloc _, hnew⟩
    | leaf kk sum key val =>
      have HD1' : Hid ((t.dig k 0).1 = .leaf kk sum key val) := by rw [Hid, HD1.out]; simp [Tr.dig]
      have HD2' : Hid ((t.dig k 0).2 = acc) := by rw [Hid, HD2.out]; simp [Tr.dig]
      clear HD1 HD2 hd
      simp only [Tr.val, leafCells]
      have hta := none_as_fork
      have htb := leaf_as_fork
      go_wp2_with fail
      go_ret2
      refine ⟨_, by rw [HD1'.out]; rfl, hf.alloc _, ?_⟩
      rw [HD2'.out]
      exact ⟨hrow.alloc _, hnew⟩
    | fork l r sum =>
      by_cases hbit : bitAt k acc.length = 0
      · obtain ⟨ty, dat, fn, hty, hmeth, hcf, hhash⟩ := hash_any r
        obtain ⟨ty2, dat2, fn2, hty2, -, -, -⟩ := hash_any l
        obtain ⟨lv, hlv⟩ : ∃ lv, l.val = lv := ⟨_, rfl⟩
        obtain ⟨rv, hrv⟩ : ∃ rv, r.val = rv := ⟨_, rfl⟩
        have HLV := hid hlv
        have HRV := hid hrv
        have HD1' : Hid ((t.dig k 0).1 = (l.dig k (acc.length + 1)).1) := by rw [Hid, HD1.out]; simp [Tr.dig, hbit]
        have HD2' : Hid ((t.dig k 0).2 = (acc ++ [r.hash]) ++ (l.dig k (acc.length + 1)).2) := by rw [Hid, HD2.out]; simp [Tr.dig, hbit]
        have hlen : acc.length + 1 ≤ 256 := by
          have h1 := hd
          rw [HD2'.out] at h1
          simp only [List.length_append, List.length_cons, List.length_nil] at h1
          omega
        have HHASH := hid hhash
        have hbitc := bit_any k acc.length
        rw [hbit] at hbitc
        have HBIT := hid hbitc
        obtain ⟨so, scap, rfl⟩ := ownsRow_slice hrow
        simp only [Tr.val]
        rw [hlv, hrv]
        rw [hrv] at hty
        rw [hlv] at hty2
        clear hlv hrv hbit HD1 HD2 hhash hbitc hd
        subst hty hty2
        have hta := as_fork
        go_wp2_with fail
        refine (HBIT.out _ (by rw [hk]; omega) (by omega)).mono ?_
        rintro e w2 ⟨rfl, rfl⟩
        go_wp2_with fail
        refine (HHASH.out _).mono ?_
        rintro e w2 ⟨rfl, f2⟩
        have f0 : Fresh wr (wr.alloc (.cells #[.iface ty2 dat2, .iface ty dat, .string (str sum)] 95)) := (Keeps.refl _ _).alloc _
        have f3 := hf.trans (f0.trans f2)
        have hrow2 := ownsRow_keeps hrow (f0.trans f2) (fun _ _ h => h)
        have d0 := (f2.cell (p := ⟨wr.heap.size, 0, none⟩) (by simp) (fun h => h)).trans (cell_at (heap_alloc_new wr _) 0)
        have d1 := (f2.cell (p := ⟨wr.heap.size, 1, none⟩) (by simp) (fun h => h)).trans (cell_at (heap_alloc_new wr _) 1)
        simp at d0 d1
        have HROW := hid hrow
        clear hrow hmeth hcf HHASH
        go_wp2_with (at_builtin; refine wpList_push rfl (.tmp 23) (.tmp 30) 22 rfl 9 i0 (.string ⟨#[]⟩) 16 Tryd.underlying22 hi hz0 hz1 hz2 rfl w2 hrow2 _ (by rfl) (by rfl) rfl (by omega) (by unfold maxLen; omega) ?_)
        intro v4 w4 ha
        obtain ⟨ao4, cp4, rfl⟩ := ownsRow_slice ha.row
        have hkk := ha.keeps
        have hlt : wr.heap.size < w2.heap.size := by have := f2.size; simp at this; omega
        have hno : ¬ (Value.slice so acc.length scap).ownBlock = some wr.heap.size := fun h => by
          have h2 := ownsRow_lt HROW.out h
          omega
        have d0 := (hkk.cell (p := ⟨wr.heap.size, 0, none⟩) hlt hno).trans d0
        have d1 := (hkk.cell (p := ⟨wr.heap.size, 1, none⟩) hlt hno).trans d1
        have f4 : Fresh w w4 := f3.trans' hkk fun i hi h => by have := hnew i h; omega
        have hrow4 := ha.row
        have hown4 : ∀ g, (Value.slice ao4 (acc.length + 1) cp4).ownBlock = some g → w.heap.size ≤ g := fun g hg => by
          rcases ha.own g hg with h | h
          · exact hnew g h
          · have := f3.size; omega
        rw [← texts_snoc] at hrow4
        clear ha hkk hno hrow2 hnew
        go_wp2
        go_roundw
        case rel => exact ⟨l, acc ++ [r.hash], HLV.out.symm, by rw [Hid, HD1'.out]; simp, by rw [Hid, HD2'.out]; simp, by simpa using hrow4, hown4, f4⟩
        case measure => simp [sliceLen]; omega
      · have hbit : bitAt k acc.length = 1 := by have := bitAt_le k acc.length; omega
        obtain ⟨ty, dat, fn, hty, hmeth, hcf, hhash⟩ := hash_any l
        obtain ⟨ty2, dat2, fn2, hty2, -, -, -⟩ := hash_any r
        obtain ⟨lv, hlv⟩ : ∃ lv, l.val = lv := ⟨_, rfl⟩
        obtain ⟨rv, hrv⟩ : ∃ rv, r.val = rv := ⟨_, rfl⟩
        have HLV := hid hlv
        have HRV := hid hrv
        have HD1' : Hid ((t.dig k 0).1 = (r.dig k (acc.length + 1)).1) := by rw [Hid, HD1.out]; simp [Tr.dig, hbit]
        have HD2' : Hid ((t.dig k 0).2 = (acc ++ [l.hash]) ++ (r.dig k (acc.length + 1)).2) := by rw [Hid, HD2.out]; simp [Tr.dig, hbit]
        have hlen : acc.length + 1 ≤ 256 := by
          have h1 := hd
          rw [HD2'.out] at h1
          simp only [List.length_append, List.length_cons, List.length_nil] at h1
          omega
        have HHASH := hid hhash
        have hbitc := bit_any k acc.length
        rw [hbit] at hbitc
        have HBIT := hid hbitc
        obtain ⟨so, scap, rfl⟩ := ownsRow_slice hrow
        simp only [Tr.val]
        rw [hlv, hrv]
        rw [hlv] at hty
        rw [hrv] at hty2
        clear hlv hrv hbit HD1 HD2 hhash hbitc hd
        subst hty hty2
        have hta := as_fork
        go_wp2_with fail
        refine (HBIT.out _ (by rw [hk]; omega) (by omega)).mono ?_
        rintro e w2 ⟨rfl, rfl⟩
        go_wp2_with fail
        refine (HHASH.out _).mono ?_
        rintro e w2 ⟨rfl, f2⟩
        have f0 : Fresh wr (wr.alloc (.cells #[.iface ty dat, .iface ty2 dat2, .string (str sum)] 95)) := (Keeps.refl _ _).alloc _
        have f3 := hf.trans (f0.trans f2)
        have hrow2 := ownsRow_keeps hrow (f0.trans f2) (fun _ _ h => h)
        have d0 := (f2.cell (p := ⟨wr.heap.size, 0, none⟩) (by simp) (fun h => h)).trans (cell_at (heap_alloc_new wr _) 0)
        have d1 := (f2.cell (p := ⟨wr.heap.size, 1, none⟩) (by simp) (fun h => h)).trans (cell_at (heap_alloc_new wr _) 1)
        simp at d0 d1
        have HROW := hid hrow
        clear hrow hmeth hcf HHASH
        go_wp2_with (at_builtin; refine wpList_push rfl (.tmp 23) (.tmp 30) 22 rfl 9 i0 (.string ⟨#[]⟩) 16 Tryd.underlying22 hi hz0 hz1 hz2 rfl w2 hrow2 _ (by rfl) (by rfl) rfl (by omega) (by unfold maxLen; omega) ?_)
        intro v4 w4 ha
        obtain ⟨ao4, cp4, rfl⟩ := ownsRow_slice ha.row
        have hkk := ha.keeps
        have hlt : wr.heap.size < w2.heap.size := by have := f2.size; simp at this; omega
        have hno : ¬ (Value.slice so acc.length scap).ownBlock = some wr.heap.size := fun h => by
          have h2 := ownsRow_lt HROW.out h
          omega
        have d0 := (hkk.cell (p := ⟨wr.heap.size, 0, none⟩) hlt hno).trans d0
        have d1 := (hkk.cell (p := ⟨wr.heap.size, 1, none⟩) hlt hno).trans d1
        have f4 : Fresh w w4 := f3.trans' hkk fun i hi h => by have := hnew i h; omega
        have hrow4 := ha.row
        have hown4 : ∀ g, (Value.slice ao4 (acc.length + 1) cp4).ownBlock = some g → w.heap.size ≤ g := fun g hg => by
          rcases ha.own g hg with h | h
          · exact hnew g h
          · have := f3.size; omega
        rw [← texts_snoc] at hrow4
        clear ha hkk hno hrow2 hnew
        go_wp2
        go_roundw
        case rel => exact ⟨r, acc ++ [l.hash], HRV.out.symm, by rw [Hid, HD1'.out]; simp, by rw [Hid, HD2'.out]; simp, by simpa using hrow4, hown4, f4⟩
        case measure => simp [sliceLen]; omega

end Go.Proofs.YtmflbchiapdhbaaDoor
