/-
  Rows of texts, appended to, looked at, copied.
  TrieChecks: the arguments as they come in: a lookup, texts, a truth.
  What the row's listed variables give a walk; a world that meets the row's condition.
  A list of texts as it comes in.
-/
import Derived.Test.YtmflbchiapdhbaaGreatDoorMTrA
import Derived.Deep.DeepCutAuto
import Derived.Deep.CutBlock
import Derived.Laws.IdiomCopy
import Derived.Test.YtmflbchiapdhbaaGreatDoorMShaC
import Derived.SliceStrings
import Derived.Deep.Slices
import Derived.Deep.Fields
import Derived.ChangeSame
import Derived.SizedLaws
import Derived.Test.YtmflbchiapdhbaaGreatDoorCards
import Derived.Test.YtmflbchiapdhbaaGreatDoorTie
import Derived.ProofKit
import Derived.OpenShut
import Derived.Deep.DeepHandedRow
import Derived.LaidLaws
import Derived.LaidHandle
import Derived.ShutString
namespace Go.Proofs.YtmflbchiapdhbaaGreatDoor
open Go.RowKit

theorem step_append {P : Program} {ops : Array Oper} {o : Oper} {a : Act} {K : Act → World → Prop} {Q : Exit → Act → World → Prop} {F : Prop} {w : World} (hgd : o.guard = none) (s x : Operand) (t : TypeId)
    (ho : o.op = .call { callee := .builtin .append, args := #[s, x], argTypes := #[t, t] })
    (e : TypeId) (i : TypeInfo) (z : Value) (bytes : Nat) (ht : P.underlying t = some (.slice e)) (hi : P.info? e = some i) (hz : i.zero = some z) (hsize : i.size = 1) (hby : i.bytes = bytes) (hzs : z.cells.size = 1)
    {v : Value} {n : Nat} {xs : List Value} (hown : w.ownsRow 0 e 1 v n xs) (xv : Value) (m : Nat) (news : List Value) (hs : a.eval s = v) (hx : a.eval x = xv) (hsrc : Src P 1 t xv m news w)
    (hn : n + m ≤ maxLen) (hb : (n + m) * bytes ≤ 140737488355328)
    (h : ∀ v' w', Appended e 1 w w' v v' (n + m) (xs ++ news) → K (a.put o.dst v') w') :
    if Region.wanted o (yielded ops a.tmps) = true then Oper.wp P o a w K Q else F := by
  have hw : Region.wanted o (yielded ops a.tmps) = true := by simp [Region.wanted, hgd]
  rw [if_pos hw]
  obtain ⟨v', w', hr, h1, h4⟩ := run_append_row (P := P) w t t o.type e i z 1 bytes ht hi hz hsize hby hzs (by decide) v n xs hown xv m news hsrc hn hb
  unfold Oper.wp
  simp [execOp, ho, resolve, invoke, builtin, hs, hx, hr, Result.andThen]
  exact h v' w' h1

theorem Src.ofTexts {P : Program} {w : World} {tx e : TypeId} {v : Value} {l : List (List UInt8)} (hk : P.underlying tx = some (.slice e)) (h : TextsAt w v l) : Src P 1 tx v l.length (texts l) w := by
  obtain ⟨ao, cap, rfl, hc⟩ := h
  have h1 : ∀ u ∈ texts l, u.oneCell' = true := fun u hu => by obtain ⟨x, _, rfl⟩ := List.mem_map.1 hu; rfl
  cases l with
  | nil =>
    cases ao with
    | none => exact Src.ofNil w hk cap
    | some a => exact Src.ofSlice w hk a 0 cap [] rfl (fun j u hj => by simp at hj) (fun u hu => by simp at hu)
  | cons x r =>
    obtain ⟨bb, off, rfl, _⟩ := hc 0 x rfl
    refine Src.ofSlice w hk _ _ cap (texts (x :: r)) (by simp [texts]) (fun j u hj => ?_) h1
    simp only [texts, List.getElem?_map, Option.map_eq_some_iff] at hj
    obtain ⟨s, hs, rfl⟩ := hj
    obtain ⟨bb2, off2, he, _, hcc⟩ := hc j s hs
    simp only [Option.some.injEq, Addr.mk.injEq, and_true] at he
    have e : (⟨bb, off, none⟩ : Addr).add j = ⟨bb, off + j, none⟩ := by unfold Addr.add; split <;> simp_all
    rw [e, he.1, he.2]
    exact hcc

theorem lent_row {W1 X w2 Y w3 : World} {l : List (List UInt8)} {e : TypeId} {v2 v3 : Value} {n2 : Nat} {xs2 : List Value} (ha : Appended e 1 X w2 (.slice none 0 0) v2 n2 xs2) (hX : Fresh W1 X) {n3 : Nat} {xs3 : List Value} (hb : Appended e 1 Y w3 v2 v3 n3 xs3) (hn3 : n3 = l.length + 2) (hx3 : xs3 = texts l ++ texts [[126], [126]]) (hY : Fresh w2 Y) :
    ∃ g c, v3 = .slice (some ⟨g, 0, none⟩) (l.length + 2) c ∧ l.length + 2 ≤ c ∧ Fresh W1 w3 ∧ W1.heap.size ≤ g ∧ w3.ownsRow 0 e 1 (.slice (some ⟨g, 0, none⟩) (l.length + 2) c) (l.length + 2) (texts (l ++ [[126], [126]])) := by
  have hxs : texts l ++ texts [[126], [126]] = texts (l ++ [[126], [126]]) := by simp [texts]
  subst hn3 hx3
  rw [hxs] at hb
  have hgc : ∃ g c, v3 = .slice (some ⟨g, 0, none⟩) (l.length + 2) c ∧ l.length + 2 ≤ c := by
    rcases hb.row.2 with ⟨_, h0⟩ | ⟨g, c, cur, e, _, _, hcap, _⟩
    · omega
    · exact ⟨g, c, e, hcap⟩
  obtain ⟨g, c, rfl, hcap⟩ := hgc
  have h2 : Fresh W1 w2 := hX.trans' ha.keeps (fun _ _ h => by cases h)
  have hown2 : ∀ i, v2.ownBlock = some i → W1.heap.size ≤ i := fun i h => by
    rcases ha.own i h with h1 | h1
    · cases h1
    · have := h1.1; have := hX.size; omega
  refine ⟨g, c, rfl, hcap, (h2.trans hY).trans' hb.keeps (fun i hi h => by have := hown2 i h; omega), ?_, hb.row⟩
  rcases hb.own g rfl with h1 | h1
  · exact hown2 g h1
  · have := h1.1; have := (h2.trans hY).size; omega

theorem TextsAt.fresh {w w' : World} {v : Value} {l : List (List UInt8)} (h : TextsAt w v l) (f : Fresh w w') : TextsAt w' v l := by
  obtain ⟨ao, cap, rfl, hc⟩ := h
  exact ⟨ao, cap, rfl, fun k s hs => by
    obtain ⟨bb, off, e1, e2, e3⟩ := hc k s hs
    exact ⟨bb, off, e1, Nat.lt_of_lt_of_le e2 f.size, (f.cell (p := ⟨bb, off + k, none⟩) e2 (fun h => h)).trans e3⟩⟩

theorem TextsAt.keepsNew {w w' : World} {v : Value} {l : List (List UInt8)} (h : TextsAt w v l) (f : Keeps (fun q => w.heap.size ≤ q) w w') : TextsAt w' v l := by
  obtain ⟨ao, cap, rfl, hc⟩ := h
  exact ⟨ao, cap, rfl, fun k s hs => by
    obtain ⟨bb, off, e1, e2, e3⟩ := hc k s hs
    exact ⟨bb, off, e1, Nat.lt_of_lt_of_le e2 f.size, (f.cell (p := ⟨bb, off + k, none⟩) e2 (fun h => by simp only at h; omega)).trans e3⟩⟩
/-- a row of texts with more behind them: the first of them, by a shorter slice -/
theorem row_texts {w : World} {g n c : Nat} {l m : List (List UInt8)} (h : w.ownsRow 0 9 1 (.slice (some ⟨g, 0, none⟩) n c) n (texts (l ++ m))) : TextsAt w (.slice (some ⟨g, 0, none⟩) l.length c) l := by
  obtain ⟨ao, cap, he, hc⟩ := ownsRow_at h
  simp only [Value.slice.injEq] at he
  obtain ⟨rfl, _, rfl⟩ := he
  refine ⟨_, _, rfl, fun k s hs => ?_⟩
  have hk : k < l.length := (List.getElem?_eq_some_iff.1 hs).1
  obtain ⟨bb, e1, e2, e3⟩ := hc k (.string (str s)) (by simp only [texts, List.getElem?_map, List.getElem?_append_left hk, hs, Option.map_some])
  exact ⟨bb, 0, e1, e2, by rw [Nat.zero_add]; exact e3⟩
theorem row_cell {w : World} {g n c j : Nat} {l : List (List UInt8)} {s : List UInt8} (h : w.ownsRow 0 9 1 (.slice (some ⟨g, 0, none⟩) n c) n (texts l)) (hs : l[j]? = some s) : w.cell? ⟨g, j, none⟩ = some (.string (str s)) := by
  obtain ⟨ao, cap, he, hc⟩ := ownsRow_at h
  simp only [Value.slice.injEq] at he
  obtain ⟨rfl, _, rfl⟩ := he
  obtain ⟨bb, e1, e2, e3⟩ := hc j (.string (str s)) (by simp [texts, hs])
  simp only [Option.some.injEq, Addr.mk.injEq, and_true] at e1
  rw [e1]
  exact e3
theorem row_cap {w : World} {g n c : Nat} {xs : List Value} {e : TypeId} (h : w.ownsRow 0 e 1 (.slice (some ⟨g, 0, none⟩) n c) n xs) : n ≤ c := by
  rcases h.2 with ⟨h0, _⟩ | ⟨g', c', cur, e, _, _, hcap, _⟩
  · cases h0
  · simp only [Value.slice.injEq] at e
    omega
theorem row_cells {w : World} {g n c : Nat} {xs : List Value} {e : TypeId} (h : w.ownsRow 0 e 1 (.slice (some ⟨g, 0, none⟩) n c) n xs) : ∃ cur : Array Value, w.heap[g]? = some (.cells cur e (0, 0)) ∧ cur.size = c := by
  rcases h.2 with ⟨h0, _⟩ | ⟨g', c', cur, e, _, hg, hcap, _, hs, _⟩
  · cases h0
  · simp only [Value.slice.injEq, Option.some.injEq, Addr.mk.injEq, and_true] at e
    obtain ⟨rfl, _, rfl⟩ := e
    exact ⟨cur, hg, by omega⟩
/-- the owner turns the list round, where it lies -/
theorem copy_back (w : World) (g c : Nat) (l r : List (List UInt8)) (nv : Value) (cur : Array Value) (hg : w.heap[g]? = some (.cells cur 9 (0, 0))) (hc : l.length ≤ cur.size) (hr : r.length = l.length) (hn : w.ownsRow 0 9 1 nv r.length (texts r)) (hne : nv.ownBlock ≠ some g) :
    ∃ u w', (Builtin.copy_ #[41, 41] 3 #[.slice (some ⟨g, 0, none⟩) l.length c, nv]).run Tryz.prog w = .ok u w' ∧ Keeps (fun q => q = g) w w' ∧ TextsAt w' (.slice (some ⟨g, 0, none⟩) l.length c) r := by
  have hsz : (Tryz.prog.info? 9).map (·.size) = some 1 := by kernel_rfl
  obtain ⟨ao, cap, rfl, hcc⟩ := ownsRow_at hn
  by_cases h0 : l.length = 0
  · have hr0 : r = [] := List.eq_nil_of_length_eq_zero (by omega)
    subst hr0
    refine ⟨_, w, run_copy_none w 41 41 3 9 _ _ _ _ _ _ Tryz.underlying41 hsz (by simp), Keeps.refl _ _, ?_⟩
    rw [← hr]
    exact ⟨_, _, rfl, fun k s hs => by simp at hs⟩
  · have hlen : (texts r).length = r.length := by simp [texts]
    obtain ⟨x, hx⟩ : ∃ x, (texts r)[0]? = some x := ⟨(texts r)[0]'(by omega), by simp⟩
    obtain ⟨bb, rfl, hbb, _⟩ := hcc 0 x hx
    have hrun := run_copy_cells (P := Tryz.prog) w 41 41 3 9 g 0 l.length c ⟨bb, 0, none⟩ r.length cap (texts r) Tryz.underlying41 hsz (by rw [hlen, hr]; simp)
      (fun j v hj => by
        obtain ⟨b2, e1, _, e3⟩ := hcc j v hj
        simp only [Option.some.injEq, Addr.mk.injEq, and_true] at e1
        rw [addr_add0, e1]; exact e3)
      (fun j hj => by rw [Nat.zero_add, cell_at hg]; simp; omega) (fun j _ => by rw [Nat.zero_add]; exact free_at hg j) (fun u hu => by obtain ⟨x, _, rfl⟩ := List.mem_map.1 hu; rfl)
    obtain ⟨cur', hg', hs', ht'⟩ := setCells_at g 9 (texts r) 0 w cur hg (by omega)
    have hk : Keeps (fun q => q = g) w (w.setCells g 0 (texts r)) := ⟨(setCells_os g _ _ _).1, (setCells_os g _ _ _).2.1, (setCells_os g _ _ _).2.2, by rw [setCells_size]; exact Nat.le_refl _, fun k hk hn => setCells_other g k hn _ _ _⟩
    refine ⟨_, _, hrun, hk, ?_⟩
    rw [← hr]
    refine ⟨_, _, rfl, fun k s hs => ⟨g, 0, rfl, lt_of_block hg', ?_⟩⟩
    have hk2 : k < r.length := (List.getElem?_eq_some_iff.1 hs).1
    rw [Nat.zero_add, cell_at hg']
    have := congrArg (fun z => z[k]?) ht'
    simp [texts, hs, List.getElem?_take] at this
    exact this.2

end Go.Proofs.YtmflbchiapdhbaaGreatDoor

namespace Go.Proofs.YtmflbchiapdhbaaGreatDoor
open Go.RowKit Go.ChangeShapes Go.WideShapes Go.ChangeAt Go.Deep
open Go.ChangeMaps (open_string shut_string)

theorem Tryz.laidOut : laidOutB Tryz.prog = true := by kernel_rfl
theorem trodAll_below {H : Type} {enc : TypeId × Value → H} {P : Program} (hl : laidOutB P = true) {W W' : World} (hb : Below W.heap.size W W') : ∀ (ts : List TypeId) (vs : List Value) (ds : List (DataW H)) (ps : List MemPlace),
    (∀ t ∈ ts, P.readableRec t = true ∧ t < P.types.size) → DataW.TrodAll enc P W 0 (fun _ => true) true ts vs ds ps → (∀ x ∈ ps, x.block < W.heap.size) → DataW.TrodAll enc P W' 0 (fun b => decide (b < W.heap.size)) true ts vs ds ps
  | [], vs, ds, ps, _, h, _ => by
    obtain ⟨rfl, rfl, rfl⟩ := trodAll_nil h
    exact trodAll_mk0
  | t :: ts, vs, ds, ps, ht, h, hlt => by
    obtain ⟨v, vs', d, ds', p, q, rfl, rfl, rfl, h0, h1⟩ := trodAll_cons h
    obtain ⟨a, b⟩ := ht t (by simp)
    exact trodAll_cons_mk (Below.trod hl a b h0 hb fun x hx => hlt x (by simp [hx])) (trodAll_below hl hb ts vs' ds' q (fun t h => ht t (by simp [h])) h1 fun x hx => hlt x (by simp [hx]))
theorem Tryz.cellsText : Tryz.prog.cellsOf 9 = 1 := by kernel_rfl

theorem size_toList (s : ByteArray) : s.data.toList.length = s.size := rfl
theorem bulk_one {H : Type} (d : DataW H) : 1 ≤ Rows.uptoBulk d := by
  cases d with
  | lit l => cases l <;> simp [Rows.uptoBulk]
  | _ => simp [Rows.uptoBulk]
theorem bulk_length {H : Type} : ∀ (l : List (DataW H)), l.length ≤ Rows.uptoBulkAll l
  | [] => by simp
  | x :: r => by have := bulk_length r; have := bulk_one x; rw [Rows.uptoBulkAll, List.length_cons]; omega
theorem bulk_slice {H : Type} (l m : List (DataW H)) : Rows.uptoBulkAll l + 1 ≤ Rows.uptoBulk (.slice l m) := by rw [Rows.uptoBulk]; omega

section
variable {H : Type} {enc : TypeId × Value → H} {W : World} {fuel : Nat} {v : Value} {y : DataW H × List MemPlace}
theorem textsAt_of_trod (h : DataW.trod enc Tryz.prog W 0 (fun _ => true) true fuel 41 [v] = some y) :
    ∃ ks : List (List UInt8), TextsAt W v ks ∧ ks.length ≤ Rows.uptoBulk y.1 ∧ (∀ s ∈ ks, s.length ≤ 9223372036854775807) ∧ (ks = [] ∨ ∃ elems spare, y.1 = .slice elems spare ∧ ks.length ≤ elems.length) := by
  rcases open_strings Tryz.underlying41 Tryz.underlying9 Tryz.cellsText h with ⟨hcs, hx⟩ | ⟨a, len, cap, ss, hcs, _, hl, hm, hz, hx, hcell, hws⟩
  · obtain rfl : v = .slice none 0 0 := by simpa using hcs
    exact ⟨[], ⟨none, 0, rfl, fun k s hs => by simp at hs⟩, by simp, (fun s hs => by simp at hs), .inl rfl⟩
  · obtain rfl : v = .slice (some a) len cap := by simpa using hcs
    simp only [if_true] at hz
    have hlen : ((ss.take len).map (·.data.toList)).length = len := by simp; omega
    refine ⟨(ss.take len).map (·.data.toList), ⟨some a, cap, by rw [hlen], fun k s hs => ?_⟩, ?_, fun q hq => ?_, .inr ⟨strs (ss.take len), strs (ss.drop len), by rw [hx], by rw [hlen, strs, List.length_map]; rw [List.length_map] at hlen; omega⟩⟩
    · have hk : k < len := by have := (List.getElem?_eq_some_iff.1 hs).1; omega
      have h1 := hcell k (by omega)
      have h3 := World.cell?_spot (hcell 0 (by omega))
      have h2 := World.block_lt_of_cell? W _ (hcell 0 (by omega))
      obtain ⟨b, off, spot⟩ := a
      simp [Addr.add] at h2 h3
      subst h3
      have hadd : (⟨b, off, none⟩ : Addr).add k = ⟨b, off + k, none⟩ := by unfold Addr.add; split <;> simp_all
      refine ⟨b, off, rfl, h2, ?_⟩
      rw [hadd] at h1
      rw [h1]
      simp [hk, show k < ss.length by omega] at hs
      rw [← hs]
      simp [List.getD, show k < ss.length by omega]
      exact str_of _
    · rw [hx, hlen]
      have h1 := bulk_slice (H := H) (strs (ss.take len)) (strs (ss.drop len))
      have h2 := bulk_length (strs (H := H) (ss.take len))
      have h3 : (strs (H := H) (ss.take len)).length = len := by rw [strs, List.length_map]; simpa using hlen
      simp only
      omega
    · obtain ⟨s, hs, rfl⟩ := List.mem_map.1 hq
      have := hws s (List.mem_of_mem_take hs)
      have h2 := size_toList s
      unfold maxLen at this
      omega
end

noncomputable def Tryz.lookFields : Array Field := match Tryz.prog.underlying 43 with
  | some (.struct fs) => fs
  | _ => #[]
theorem Tryz.underLook : Tryz.prog.underlying 43 = some (.struct Tryz.lookFields) := by kernel_rfl
theorem Tryz.lookLaid : (Tryz.lookFields.toList.map fun f => (f.type, f.offset, Tryz.prog.cellsOf f.type)) = [(41, 0, 1), (4, 1, 1), (9, 2, 1), (9, 3, 1)] := by kernel_rfl
theorem Tryz.cellsLook : Tryz.prog.cellsOf 43 = 4 := by kernel_rfl
theorem lookField_at {j : Nat} {t : TypeId} {o c : Nat} (hj : ([(41, 0, 1), (4, 1, 1), (9, 2, 1), (9, 3, 1)] : List (TypeId × Nat × Nat))[j]? = some (t, o, c)) :
    ∃ f, Tryz.lookFields[j]? = some f ∧ f.type = t ∧ f.offset = o ∧ Tryz.prog.cellsOf f.type = c := by
  rw [← Tryz.lookLaid, List.getElem?_map, Array.getElem?_toList] at hj
  cases hf : Tryz.lookFields[j]? with
  | none => rw [hf] at hj; cases hj
  | some f =>
    rw [hf] at hj
    simp only [Option.map_some, Option.some.injEq, Prod.mk.injEq] at hj
    exact ⟨f, rfl, hj.1, hj.2.1, hj.2.2⟩

theorem Tryz.lookTypes : Tryz.lookFields.toList.map (·.type) = [41, 4, 9, 9] := by kernel_rfl
theorem Tryz.bytesText : Tryz.prog.bytesOf 9 = 16 := by kernel_rfl
theorem look_weight {H : Type} {ts : List TypeId} {ds : List (DataW H)} {e1 e2 e3 : DataW H} {elems spare : List (DataW H)} (h : (DataW.weightsEach Tryz.prog (43 :: ts) (.agg [.slice elems spare, e1, e2, e3] :: ds)).all (· ≤ reachBytes) = true) : elems.length ≤ 8796093021952 := by
  have hm : (elems.length + spare.length) * Tryz.prog.bytesOf 9 ∈ DataW.weightsEach Tryz.prog (43 :: ts) (.agg [.slice elems spare, e1, e2, e3] :: ds) := by
    simp only [DataW.weightsEach, DataW.weights, Tryz.underLook, Tryz.lookTypes, Tryz.underlying41]
    simp
  have h1 := List.all_eq_true.1 h _ hm
  rw [Tryz.bytesText] at h1
  have h2 := of_decide_eq_true h1
  have h3 : reachBytes = 140737488351232 := rfl
  omega

set_option maxRecDepth 100000 in
theorem open_look {H : Type} {enc : TypeId × Value → H} {W : World} {base : Nat} {v : Value} {d : DataW H} {p : List MemPlace} (hok : Value.okWide Tryz.prog W .any base 43 v) (h : DataW.Trod enc Tryz.prog W 0 (fun _ => true) true 43 v d p) :
    ∃ vl ks pt pk pv, v = .agg #[vl, .bool pt, .string (str pk), .string (str pv)] ∧ TextsAt W vl ks ∧ ks.length ≤ Rows.uptoBulk d ∧ (∀ s ∈ ks, s.length ≤ 9223372036854775807) ∧ pk.length ≤ 9223372036854775807 ∧ pv.length ≤ 9223372036854775807 ∧ ∃ e0 e1 e2 e3, d = .agg [e0, e1, e2, e3] ∧ (ks = [] ∨ ∃ elems spare, e0 = .slice elems spare ∧ ks.length ≤ elems.length) := by
  obtain ⟨cs, rfl, hsz0⟩ := okWide_struct Tryz.underLook hok
  obtain ⟨fuel, hf⟩ := h
  obtain ⟨xs, n', _, hy, hlen, hyl, hfl⟩ := DataW.trod_struct Tryz.underLook hf
  have hsz : Tryz.lookFields.size = 4 := by
    have := congrArg List.length Tryz.lookLaid
    simpa using this
  rw [hsz] at hyl
  rw [Tryz.cellsLook] at hsz0
  obtain ⟨cl⟩ := cs
  simp only [List.size_toArray] at hsz0
  simp only [Prod.mk.injEq] at hy
  match cl, hsz0, xs, hyl with
  | [c0, c1, c2, c3], _, [y0, y1, y2, y3], _ =>
    have at_ : ∀ (j : Nat) (t : TypeId) (o c : Nat), ([(41, 0, 1), (4, 1, 1), (9, 2, 1), (9, 3, 1)] : List (TypeId × Nat × Nat))[j]? = some (t, o, c) →
        DataW.trod enc Tryz.prog W 0 (fun _ => true) true n' t ((([c0, c1, c2, c3] : List Value).drop o).take c) = ([y0, y1, y2, y3] : List (DataW H × List MemPlace))[j]? := by
      intro j t o c hj
      obtain ⟨f, hf1, rfl, rfl, rfl⟩ := lookField_at hj
      exact hfl j f hf1
    have t0 := at_ 0 _ _ _ rfl
    have t1 := at_ 1 _ _ _ rfl
    have t2 := at_ 2 _ _ _ rfl
    have t3 := at_ 3 _ _ _ rfl
    obtain ⟨ks, l1, l2, l3, l4⟩ := textsAt_of_trod (v := c0) t0
    obtain ⟨b1, h1, e1⟩ := DataW.trod_bool Tryz.underlying4 t1
    obtain ⟨s2, h2, e2, w2⟩ := DataW.trod_string Tryz.underlying9 t2
    obtain ⟨s3, h3, e3, w3⟩ := DataW.trod_string Tryz.underlying9 t3
    simp at h1 h2 h3
    subst h1 h2 h3
    have hbd : Rows.uptoBulk d = Rows.uptoBulkAll [y0.1, y1.1, y2.1, y3.1] + 1 := by rw [hy.1]; rfl
    simp only [Rows.uptoBulkAll] at hbd
    refine ⟨c0, ks, b1, s2.data.toList, s3.data.toList, rfl, l1, by omega, l3, ?_, ?_, y0.1, y1.1, y2.1, y3.1, hy.1, l4⟩
    · have := size_toList s2; unfold maxLen at w2; omega
    · have := size_toList s3; unfold maxLen at w3; omega
end Go.Proofs.YtmflbchiapdhbaaGreatDoor

namespace Go.Proofs.YtmflbchiapdhbaaGreatDoor
open Go.RowKit Go.ChangeShapes Go.WideShapes Go.ChangeAt

theorem knob : ownKnob Tryz.prog.godebug = none := by kernel_rfl

theorem dig_of_row {W : World} (h : laidMetH Tryz.prog [("scrivener/digest.first", Rows.laid_scrivener_digest_first), ("scrivener/digest.numbers", Rows.laid_scrivener_digest_numbers)] W) (hs : W.ShapedOpen Tryz.prog) : Dig W := by
  have h' : laidMet Tryz.prog [("scrivener/digest.first", Rows.laid_scrivener_digest_first), ("scrivener/digest.numbers", Rows.laid_scrivener_digest_numbers)] W := h
  obtain ⟨a, b⟩ := sha_laid (l := []) h'
  refine ⟨b, a, ?_⟩
  obtain ⟨cs, hh, _, _⟩ := hs.1 2 #[.int .i64 0] 3 (of_decide_eq_true (by kernel_rfl)) (by kernel_rfl)
  have := lt_of_block hh
  omega

def relaid (h : Array Obj) (g : Nat) (cs : Array Value) : Array Obj := h.modify g fun
  | .cells _ t frozen => .cells cs t frozen
  | o => o
/-- A world that meets the condition: the settled one, the variables' cells laid. -/
noncomputable def laidWorld (os : Os) : World :=
  { World.holding Tryz.prog os ⟨#[], #[], []⟩ with heap := relaid (relaid (World.holding Tryz.prog os ⟨#[], #[], []⟩).heap 0 (eight0.list.map fun (n : Nat) => Value.int .u32 (n : Int)).toArray) 1 (kTab.map fun (n : Nat) => Value.int .u32 (n : Int)).toArray }
theorem laidWorld_met (os : Os) (args : Array Value) : laidMetH Tryz.prog [("scrivener/digest.first", Rows.laid_scrivener_digest_first), ("scrivener/digest.numbers", Rows.laid_scrivener_digest_numbers)] ((laidWorld os).forCall (fun _ _ => 0) ⟨#[], args, []⟩).memory := by
  have h : laidMet Tryz.prog [("scrivener/digest.first", Rows.laid_scrivener_digest_first), ("scrivener/digest.numbers", Rows.laid_scrivener_digest_numbers)] ((laidWorld os).forCall (fun _ _ => 0) ⟨#[], args, []⟩).memory :=
    laidMet_of_run' 20 (by kernel_rfl) (by kernel_rfl)
  exact h
end Go.Proofs.YtmflbchiapdhbaaGreatDoor

namespace Go.Proofs.YtmflbchiapdhbaaGreatDoor
open Go.RowKit Go.ChangeShapes Go.WideShapes Go.ChangeAt Go.Deep
open Go.ChangeMaps (open_string shut_string)

set_option maxRecDepth 100000 in
theorem open_list {H : Type} {enc : TypeId × Value → H} {W : World} {base : Nat} {v : Value} {d : DataW H} {p : List MemPlace} (hok : Value.okWide Tryz.prog W .any base 41 v) (h : DataW.Trod enc Tryz.prog W 0 (fun _ => true) true 41 v d p) :
    ∃ ks, TextsAt W v ks ∧ ks.length ≤ 9223372036854775807 ∧ ∀ s ∈ ks, s.length ≤ 9223372036854775807 := by
  obtain ⟨a0, len, cap, rfl⟩ := okWide_slice Tryz.underlying41 hok
  obtain ⟨fuel, hf⟩ := h
  obtain ⟨ks, h1, -, h3, -⟩ := textsAt_of_trod (v := .slice a0 len cap) hf
  refine ⟨ks, h1, ?_, h3⟩
  obtain ⟨ao, cp, he, -⟩ := h1
  rcases open_strings Tryz.underlying41 Tryz.underlying9 Tryz.cellsText hf with ⟨hcs, -⟩ | ⟨a, len2, cap2, ss, hcs, -, hl, hm, -⟩
  · have hcs : ([.slice a0 len cap] : List Value) = [.slice none 0 0] := hcs
    simp only [List.cons.injEq, Value.slice.injEq, and_true] at hcs he
    omega
  · have hcs : ([.slice a0 len cap] : List Value) = [.slice (some a) len2 cap2] := hcs
    simp only [List.cons.injEq, Value.slice.injEq, and_true] at hcs he
    unfold maxLen at hm
    omega
end Go.Proofs.YtmflbchiapdhbaaGreatDoor
