/-
  A map from places (two whole numbers each) to rows, as a function; what its operations do.
  A tree of tiles in memory; what a new tile, and a new hash in a tile, make of it.
  Where a node stands among the tiles: at.
  The tree of tiles: the hash of a node that is there.
-/
import Derived.Test.YtgikabafaocemaaDoorRowT
import Derived.Maps.OwnSet
import Derived.Maps.Views
import Derived.DeepKeys4
import Derived.Test.YtgikabafaocemaaDoorMSpB
import Derived.BigQuiet
import Derived.BigRegion
namespace Go.Proofs.YtgikabafaocemaaDoor
open Go.RowKit Go.Maps

abbrev TD := DataW Value
/-- an element is kept as the value that it is -/
def keepR (v : Value) : Option (TD × List MemPlace) := some (.held v, [])
def placeV (a b : Int) : Value := .agg #[.int .i64 a, .int .i64 b]
def placeK (a b : Int) : Lit := .string (keyBytes [.int .i64 a, .int .i64 b])
theorem Tryd.placeType : (165 : TypeId) < Tryd.prog.types.size := of_decide_eq_true (by kernel_rfl)
theorem Tryd.placeCells : Tryd.prog.cellsOf 165 = 2 := by kernel_rfl
theorem Tryd.intCells : Tryd.prog.cellsOf 3 = 1 := by kernel_rfl
theorem Tryd.placeDeep : Tryd.prog.keyTypeAt (Tryd.prog.types.size + 1) 165 = true := by kernel_rfl
theorem Tryd.placeWide : (match Tryd.prog.underlying 165 with | some (.array _ _) | some (.struct _) => true | _ => false) = true := by rw [Tryd.underlying165]
theorem Tryd.placeLaid : laidOutB Tryd.prog = true := by kernel_rfl
theorem Tryd.placeLevel : Tryd.prog.keyTypeAt 2 165 = true := by kernel_rfl
theorem Tryd.placeKeyed : Keyed Tryd.prog 165 := Keyed.of_law (deep_law_laid Tryd.placeLaid (m := 2) (by omega) Tryd.placeType Tryd.placeLevel (by rw [Tryd.underlying165]))
theorem Tryd.typesMore : Tryd.prog.types.size = (203 - 1) + 1 := by kernel_rfl
theorem keyLits_int {a : Int} (d : Nat) (wa : (Lit.int .i64 a).wf = true) : Tryd.prog.keyLits (d + 1) 3 [.int .i64 a] = some [.int .i64 a] := by
  simp [Program.keyLits, Tryd.underlying3, wa]
theorem keyLits_place {a b : Int} (d : Nat) (wa : (Lit.int .i64 a).wf = true) (wb : (Lit.int .i64 b).wf = true) : Tryd.prog.keyLits (d + 1 + 1) 165 [.int .i64 a, .int .i64 b] = some [.int .i64 a, .int .i64 b] := by
  unfold Program.keyLits
  simp only [Tryd.underlying165]
  rw [if_pos (by rw [Tryd.placeCells]; exact ⟨rfl, by kernel_rfl⟩)]
  simp [Tryd.intCells, keyLits_int d wa, keyLits_int d wb]
theorem keyOf_place {a b : Int} (wa : (Lit.int .i64 a).wf = true) (wb : (Lit.int .i64 b).wf = true) : keyOf Tryd.prog 165 (placeV a b) = some (placeK a b) := by
  have hf : (placeV a b).formed Tryd.prog 165 = true := by simp [placeV, Value.formed, Tryd.underlying165, Tryd.placeCells]
  have hk : Tryd.prog.keyType 165 = true := Tryd.placeDeep
  obtain ⟨m, hm⟩ : ∃ m, Tryd.prog.types.size = m + 1 := ⟨_, Tryd.typesMore⟩
  unfold keyOf
  rw [Tryd.underlying165]
  simp only
  rw [if_pos (by rw [hk, hf]; rfl), hm]
  have := keyLits_place m wa wb
  simp only [placeV, Value.cells]
  rw [this]
  rfl
theorem placeK_ne {a b a' b' : Int} (wa : (Lit.int .i64 a).wf = true) (wb : (Lit.int .i64 b).wf = true) (wa' : (Lit.int .i64 a').wf = true) (wb' : (Lit.int .i64 b').wf = true) (h : ¬ (a = a' ∧ b = b')) : placeK a b ≠ placeK a' b' := by
  intro e
  have h1 := keyOf_place wa wb
  rw [e] at h1
  have h2 := Tryd.placeKeyed.inj h1 (keyOf_place wa' wb')
  simp only [placeV, Value.agg.injEq] at h2
  have h3 := congrArg Array.toList h2
  simp only [List.cons.injEq, Value.int.injEq, true_and, and_true] at h3
  exact h h3
theorem placeK_is (a b : Int) : WideAt.IsKeyLit (placeK a b) := trivial
def okI (a : Int) : Prop := (Lit.int .i64 a).wf = true
theorem okI_nat {a : Nat} (h : a ≤ 9223372036854775807) : okI (a : Int) := by
  unfold okI
  simp [Lit.wf, IntKind.min, IntKind.max, IntKind.signed, IntKind.bits]
  omega
/-- the map as a function of places -/
def Sees (D : TD) (F : Nat → Nat → Option Value) : Prop := IsMap D ∧ ∀ a b : Nat, a ≤ 9223372036854775807 → b ≤ 9223372036854775807 → D.atKey (placeK a b) (.held (.slice none 0 0)) = .held ((F a b).getD (.slice none 0 0))
theorem Sees.empty : Sees (.map []) (fun _ _ => none) := ⟨isMap_empty, fun _ _ _ _ => rfl⟩
theorem Sees.put {D : TD} {F : Nat → Nat → Option Value} (h : Sees D F) (a b : Nat) (ha : a ≤ 9223372036854775807) (hb : b ≤ 9223372036854775807) (v : Value) : Sees (D.put (placeK a b) (.held v)) (fun x y => if x = a ∧ y = b then some v else F x y) := by
  refine ⟨h.1.put _ _, fun x y hx hy => ?_⟩
  by_cases e : x = a ∧ y = b
  · obtain ⟨rfl, rfl⟩ := e
    simp only [and_self, if_true]
    exact atKey_put_same h.1 (placeK_is _ _) _ _
  · simp only [if_neg e]
    rw [atKey_put_other (placeK_ne (okI_nat hx) (okI_nat hy) (okI_nat ha) (okI_nat hb) (by omega))]
    exact h.2 x y hx hy
theorem Tryd.zeroRows (w : World) : (zeroValue 37).run Tryd.prog w = .ok (.slice none 0 0) w := by kernel_rfl
theorem look_place {w : World} {mb n : Nat} {D : TD} {F : Nat → Nat → Option Value} (hown : w.ownsMap Tryd.prog 165 keepR mb n D) (hS : Sees D F) (a b : Nat) (ha : a ≤ 9223372036854775807) (hb : b ≤ 9223372036854775807) :
    (Instr.lookup 91 (.map (some mb)) (placeV a b) false).run Tryd.prog w = .ok ((F a b).getD (.slice none 0 0)) w := by
  obtain ⟨v, ps, hrun, hv⟩ := hown.lookup Tryd.placeKeyed Tryd.underlying91 (Tryd.zeroRows w) (zd := .held (.slice none 0 0)) (zp := []) rfl (keyOf_place (okI_nat ha) (okI_nat hb))
  rw [hS.2 a b ha hb] at hv
  simp only [keepR, Option.some.injEq, Prod.mk.injEq, DataW.held.injEq] at hv
  rw [hrun, hv.1]
theorem put_place {w : World} {mb n : Nat} {D : TD} {F : Nat → Nat → Option Value} (hown : w.ownsMap Tryd.prog 165 keepR mb n D) (hS : Sees D F) (a b : Nat) (ha : a ≤ 9223372036854775807) (hb : b ≤ 9223372036854775807) (v : Value) (hn : n ≤ 1000000000) :
    ∃ w', (Instr.mapUpdate 91 (.map (some mb)) (placeV a b) v).run Tryd.prog w = .ok () w' ∧ (∃ D', w'.ownsMap Tryd.prog 165 keepR mb (n + 1) D' ∧ Sees D' (fun x y => if x = a ∧ y = b then some v else F x y)) ∧ w.grownBy w' (some mb) := by
  obtain ⟨w', h1, h2, h3⟩ := hown.update (val := v) (d := .held v) (ps := []) Tryd.placeKeyed Tryd.underlying91 (by simp [maxLen]; omega) (keyOf_place (okI_nat ha) (okI_nat hb)) rfl
  exact ⟨w', h1, ⟨_, h2, hS.put a b ha hb v⟩, h3⟩
end Go.Proofs.YtgikabafaocemaaDoor

namespace Go.Proofs.YtgikabafaocemaaDoor
open Go.RowKit Go.Maps

def OwnRow (w : World) (rv : Value) (l : List (List UInt8)) : Prop := w.ownsRow 0 9 1 rv l.length (texts l)
abbrev Whose := Nat → Option (Nat × Nat × Option Nat)

/-- a tile: the block of its rows, and they -/
def TileAt (own : Whose) (w : World) (h a b : Nat) (v : Value) (row : Nat → List (List UInt8)) : Prop :=
  ∃ g cur, v = .slice (some ⟨g, 0, none⟩) h h ∧ own g = some (a, b, none) ∧ w.heap[g]? = some (.cells cur 26 (0, 0)) ∧ cur.size = h ∧
    ∀ j, j < h → ∃ rv, cur[j]? = some rv ∧ OwnRow w rv (row j) ∧ ∀ q, rv.ownBlock = some q → own q = some (a, b, some j)

/-- the tiles: a map; whose blocks are whose -/
structure Tiles (own : Whose) (F : Nat → Nat → Option Value) (w : World) (mb h N : Nat) (c : Nat → Nat) (H : Nat → Nat → List UInt8) : Prop where
  map : ∃ n D, n ≤ N ∧ w.ownsMap Tryd.prog 165 keepR mb n D ∧ Sees D F
  mine : own mb = none
  lt : ∀ g x, own g = some x → g < w.heap.size
  none_ : ∀ a b, F a b = none → ∀ j, j < h → rowOf c H h a b j = []
  some_ : ∀ a b v, F a b = some v → TileAt own w h a b v (fun j => rowOf c H h a b j)

theorem TileAt.keeps {own : Whose} {T : Nat → Prop} {w w' : World} {h a b : Nat} {v : Value} {row : Nat → List (List UInt8)} (ht : TileAt own w h a b v row) (f : Keeps T w w') (hT : ∀ g x, own g = some x → ¬ T g) : TileAt own w' h a b v row := by
  obtain ⟨g, cur, h1, h2, h3, h4, h5⟩ := ht
  refine ⟨g, cur, h1, h2, f.at_ h3 (hT g _ h2), h4, fun j hj => ?_⟩
  obtain ⟨rv, k1, k2, k3⟩ := h5 j hj
  exact ⟨rv, k1, ownsRow_keeps k2 f (fun q hq => hT q _ (k3 q hq)), k3⟩
theorem ownsMap_keeps {H : Type} {P : Program} {k : TypeId} {R : Value → Option (DataW H × List MemPlace)} {b n : Nat} {D : DataW H} {T : Nat → Prop} {w w' : World} (h : w.ownsMap P k R b n D) (f : Keeps T w w') (hT : ¬ T b) : w'.ownsMap P k R b n D := by
  obtain ⟨es, clock, hb, h2⟩ := h
  exact ⟨es, clock, f.at_ hb hT, h2⟩
theorem Tiles.keeps {own : Whose} {F : Nat → Nat → Option Value} {T : Nat → Prop} {w w' : World} {mb h N : Nat} {c : Nat → Nat} {H : Nat → Nat → List UInt8} (ht : Tiles own F w mb h N c H) (f : Keeps T w w') (hm : ¬ T mb) (hT : ∀ g x, own g = some x → ¬ T g) : Tiles own F w' mb h N c H := by
  refine ⟨?_, ht.mine, fun g x hx => Nat.lt_of_lt_of_le (ht.lt g x hx) f.size, ht.none_, fun a b v hv => (ht.some_ a b v hv).keeps f hT⟩
  obtain ⟨n, D, h1, h2, h3⟩ := ht.map
  exact ⟨n, D, h1, ownsMap_keeps h2 f hm, h3⟩
theorem Tiles.mb_lt {own : Whose} {F : Nat → Nat → Option Value} {w : World} {mb h N : Nat} {c : Nat → Nat} {H : Nat → Nat → List UInt8} (ht : Tiles own F w mb h N c H) : mb < w.heap.size := by
  obtain ⟨n, D, h1, h2, h3⟩ := ht.map
  exact h2.lt
theorem Tiles.congr {own : Whose} {F : Nat → Nat → Option Value} {w : World} {mb h N : Nat} {c : Nat → Nat} {H H' : Nat → Nat → List UInt8} (ht : Tiles own F w mb h N c H) (hH : ∀ l i, i < c l → H l i = H' l i) : Tiles own F w mb h N c H' := by
  have he : ∀ a b j, rowOf c H h a b j = rowOf c H' h a b j := fun a b j => rowOf_congr hH
  refine ⟨ht.map, ht.mine, ht.lt, fun a b hF j hj => ?_, fun a b v hv => ?_⟩
  · rw [← he]; exact ht.none_ a b hF j hj
  · have := ht.some_ a b v hv
    rw [show (fun j => rowOf c H' h a b j) = (fun j => rowOf c H h a b j) from funext fun j => (he a b j).symm]
    exact this
theorem Tiles.count {own : Whose} {F : Nat → Nat → Option Value} {w : World} {mb h N : Nat} {c c' : Nat → Nat} {H : Nat → Nat → List UInt8} (ht : Tiles own F w mb h N c H) (hc : ∀ l, c l = c' l) : Tiles own F w mb h N c' H := by
  have : c = c' := funext hc
  rw [← this]; exact ht
theorem Tiles.mono {own : Whose} {F : Nat → Nat → Option Value} {w : World} {mb h N N' : Nat} {c : Nat → Nat} {H : Nat → Nat → List UInt8} (ht : Tiles own F w mb h N c H) (hN : N ≤ N') : Tiles own F w mb h N' c H := by
  obtain ⟨n, D, h1, h2⟩ := ht.map
  exact ⟨⟨n, D, Nat.le_trans h1 hN, h2⟩, ht.mine, ht.lt, ht.none_, ht.some_⟩

theorem Tiles.empty (w : World) (mb h : Nat) (H : Nat → Nat → List UInt8) (hm : w.ownsMap Tryd.prog 165 keepR mb 0 (.map [])) : Tiles (fun _ => none) (fun _ _ => none) w mb h 0 (fun _ => 0) H := by
  refine ⟨⟨0, _, Nat.le_refl _, hm, Sees.empty⟩, rfl, fun _ _ h => (by cases h), fun a b _ j _ => ?_, fun _ _ _ h => (by cases h)⟩
  unfold rowOf
  simp

/-- a new tile, without hashes -/
theorem Tiles.make {own : Whose} {F : Nat → Nat → Option Value} {w w1 w2 : World} {mb h N n : Nat} {c : Nat → Nat} {H : Nat → Nat → List UInt8} (ht : Tiles own F w mb h N c H) (f : Fresh w w1) {g : Nat} {cur : Array Value}
    (hg : w1.heap[g]? = some (.cells cur 26 (0, 0))) (hnew : w.heap.size ≤ g) (hsz : cur.size = h) (hz : ∀ j, j < h → cur[j]? = some (.slice none 0 0)) (hn : n ≤ N) {a b : Nat} (hF : F a b = none)
    (hmap : ∃ D', w2.ownsMap Tryd.prog 165 keepR mb (n + 1) D' ∧ Sees D' (fun x y => if x = a ∧ y = b then some (.slice (some ⟨g, 0, none⟩) h h) else F x y)) (hgr : w1.grownBy w2 (some mb)) :
    Tiles (fun k => if k = g then some (a, b, none) else own k) (fun x y => if x = a ∧ y = b then some (.slice (some ⟨g, 0, none⟩) h h) else F x y) w2 mb h (N + 1) c H ∧ Keeps (fun k => k = mb) w w2 := by
  have hmg := ht.mb_lt
  have k12 : Keeps (fun k => k = mb) w1 w2 := (Keeps.refl _ _).grown hgr (fun k hk _ => by cases hk; rfl)
  have k2 : Keeps (fun k => k = mb) w w2 := (f.mono (fun _ _ h => h.elim)).trans k12
  have hg1 := lt_of_block hg
  obtain ⟨D', hD, hS⟩ := hmap
  refine ⟨⟨⟨n + 1, D', by omega, hD, hS⟩, ?_, fun k x hx => ?_, fun x y hxy j hj => ?_, fun x y v hv => ?_⟩, k2⟩
  · (try simp only)
    rw [if_neg (by omega)]
    exact ht.mine
  · (try simp only at hx)
    split at hx
    · rename_i e
      subst e
      exact Nat.lt_of_lt_of_le hg1 k12.size
    · exact Nat.lt_of_lt_of_le (ht.lt k x hx) k2.size
  · (try simp only at hxy)
    split at hxy
    · cases hxy
    · exact ht.none_ x y hxy j hj
  · (try simp only at hv)
    split at hv
    · rename_i e
      obtain ⟨rfl, rfl⟩ := e
      cases hv
      refine ⟨g, cur, rfl, by simp, k12.at_ hg (by omega), hsz, fun j hj => ⟨_, hz j hj, ?_, fun q hq => by simp [Value.ownBlock] at hq⟩⟩
      show OwnRow w2 _ (rowOf c H h x y j)
      rw [ht.none_ x y hF j hj]
      exact ⟨rfl, .inl ⟨rfl, rfl⟩⟩
    · obtain ⟨g', cur', h1, h2, h3, h4, h5⟩ := ht.some_ x y v hv
      have hne : ∀ q z, own q = some z → q ≠ g := fun q z hq => by have := ht.lt q z hq; omega
      have hnm : ∀ q z, own q = some z → q ≠ mb := fun q z hq e => by rw [e, ht.mine] at hq; cases hq
      refine ⟨g', cur', h1, by (try simp only); rw [if_neg (hne _ _ h2)]; exact h2, k2.at_ h3 (hnm _ _ h2), h4, fun j hj => ?_⟩
      obtain ⟨rv, r1, r2, r3⟩ := h5 j hj
      exact ⟨rv, r1, ownsRow_keeps r2 k2 (fun q hq => hnm _ _ (r3 q hq)), fun q hq => by (try simp only); rw [if_neg (hne _ _ (r3 q hq))]; exact r3 q hq⟩

theorem texts_len (l : List (List UInt8)) : (texts l).length = l.length := by simp [texts]

/-- one more hash in a tile -/
theorem Tiles.push {own : Whose} {F : Nat → Nat → Option Value} {w w' : World} {mb h N : Nat} {c : Nat → Nat} {H : Nat → Nat → List UInt8} (ht : Tiles own F w mb h N c H) (l : Nat) (hh : 1 ≤ h) {g : Nat} {cur : Array Value} {rv rv' : Value}
    (hF : F (l / h) (c l / 2 ^ (h - l % h)) = some (.slice (some ⟨g, 0, none⟩) h h)) (hg : w.heap[g]? = some (.cells cur 26 (0, 0))) (hrv : cur[l % h]? = some rv)
    (hA : Appended 9 1 w w' rv rv' ((rowOf c H h (l / h) (c l / 2 ^ (h - l % h)) (l % h)).length + 1) (texts (rowOf c H h (l / h) (c l / 2 ^ (h - l % h)) (l % h)) ++ [.string (str (H l (c l)))])) :
    Tiles (fun k => if rv'.ownBlock = some k then some (l / h, c l / 2 ^ (h - l % h), some (l % h)) else own k) F (w'.setCell ⟨g, l % h, none⟩ rv') mb h N (oneMore c l) H ∧
      Keeps (fun k => k = g ∨ rv.ownBlock = some k) w (w'.setCell ⟨g, l % h, none⟩ rv') := by
  have hjh : l % h < h := Nat.mod_lt _ (by omega)
  obtain ⟨g0, cur0, e0, ho, hg0, hsz, hrows⟩ := ht.some_ _ _ _ hF
  simp only [Value.slice.injEq, Option.some.injEq, Addr.mk.injEq, and_true] at e0
  obtain rfl := e0
  rw [hg] at hg0
  simp only [Option.some.injEq, Obj.cells.injEq, and_true] at hg0
  obtain rfl := hg0
  obtain ⟨rv0, hrv0, hrow, hown⟩ := hrows (l % h) hjh
  rw [hrv] at hrv0
  simp only [Option.some.injEq] at hrv0
  obtain rfl := hrv0
  have hgm : g ≠ mb := fun e => by rw [e, ht.mine] at ho; cases ho
  have hglt := lt_of_block hg
  have hgr : rv.ownBlock ≠ some g := fun e => by
    have := hown g e
    rw [ho] at this
    cases this
  have kA : Keeps (fun k => rv.ownBlock = some k) w w' := hA.keeps
  have hg' : w'.heap[g]? = some (.cells cur 26 (0, 0)) := kA.at_ hg hgr
  have kS : Keeps (fun k => k = g) w' (w'.setCell ⟨g, l % h, none⟩ rv') := (Keeps.refl (fun k => k = g) w').setCell (p := ⟨g, l % h, none⟩) (fun _ => rfl) _
  have kW : Keeps (fun k => k = g ∨ rv.ownBlock = some k) w (w'.setCell ⟨g, l % h, none⟩ rv') := (kA.mono (fun _ _ h => .inr h)).trans (kS.mono (fun _ _ h => .inl h))
  have hrb : ∀ k, rv'.ownBlock = some k → rv.ownBlock = some k ∨ (w.heap.size ≤ k ∧ k < w'.heap.size) := hA.own
  have hrg : rv'.ownBlock ≠ some g := fun e => by
    rcases hrb g e with q | q
    · exact hgr q
    · omega
  have hnm : ∀ q z, own q = some z → q ≠ mb := fun q z hq e => by rw [e, ht.mine] at hq; cases hq
  have hold : ∀ q z, own q = some z → z ≠ (l / h, c l / 2 ^ (h - l % h), some (l % h)) → rv'.ownBlock ≠ some q ∧ rv.ownBlock ≠ some q := fun q z hq hz => by
    have h1 : rv.ownBlock ≠ some q := fun e => by
      have := hown q e
      rw [hq] at this
      exact hz (by simpa using this)
    refine ⟨fun e => ?_, h1⟩
    rcases hrb q e with q1 | q1
    · exact h1 q1
    · have := ht.lt q z hq
      omega
  refine ⟨⟨?_, ?_, fun k x hx => ?_, fun x y hxy j hj => ?_, fun x y v hv => ?_⟩, kW⟩
  · obtain ⟨n, D, h1, h2, h3⟩ := ht.map
    exact ⟨n, D, h1, ownsMap_keeps h2 kW (fun e => e.elim (fun e => hgm e.symm) (fun e => hnm _ _ (hown _ e) rfl)), h3⟩
  · (try simp only)
    rw [if_neg]
    · exact ht.mine
    · intro e
      rcases hrb mb e with q | q
      · exact hnm _ _ (hown _ q) rfl
      · have := ht.mb_lt
        omega
  · (try simp only at hx)
    split at hx
    · rename_i e
      rcases hrb k e with q | q
      · exact Nat.lt_of_lt_of_le (ht.lt k _ (hown k q)) kW.size
      · exact Nat.lt_of_lt_of_le q.2 kS.size
    · exact Nat.lt_of_lt_of_le (ht.lt k x hx) kW.size
  · have hne : ¬ (x = l / h ∧ y = c l / 2 ^ (h - l % h) ∧ j = l % h) := fun e => by
      rw [e.1, e.2.1, hF] at hxy
      cases hxy
    rw [rowOf_other hj hne]
    exact ht.none_ x y hxy j hj
  · by_cases e : x = l / h ∧ y = c l / 2 ^ (h - l % h)
    · obtain ⟨rfl, rfl⟩ := e
      rw [hF] at hv
      cases hv
      refine ⟨g, cur.setIfInBounds (l % h) rv', rfl, by (try simp only); rw [if_neg hrg]; exact ho, heap_setCell_at hg' _ _, by simpa using hsz, fun j hj => ?_⟩
      by_cases ej : j = l % h
      · subst ej
        refine ⟨rv', by rw [Array.getElem?_setIfInBounds_self_of_lt (by omega)], ?_, fun q hq => by (try simp only); rw [if_pos hq]⟩
        have hr := hA.row
        show (w'.setCell ⟨g, l % h, none⟩ rv').ownsRow 0 9 1 rv' (rowOf (oneMore c l) H h (l / h) (c l / 2 ^ (h - l % h)) (l % h)).length (texts (rowOf (oneMore c l) H h (l / h) (c l / 2 ^ (h - l % h)) (l % h)))
        rw [rowOf_more, texts_snoc, List.length_append]
        exact ownsRow_setCell_ne hr hrg rv'
      · obtain ⟨rw_, r1, r2, r3⟩ := hrows j hj
        refine ⟨rw_, by rw [Array.getElem?_setIfInBounds_ne (by omega)]; exact r1, ?_, fun q hq => ?_⟩
        · show OwnRow _ _ (rowOf (oneMore c l) H h (l / h) (c l / 2 ^ (h - l % h)) j)
          rw [rowOf_other hj (by omega)]
          refine ownsRow_keeps r2 kW (fun q hq hor => ?_)
          have hq' := r3 q hq
          rcases hor with rfl | hor
          · rw [ho] at hq'; cases hq'
          · have := hown q hor
            rw [hq'] at this
            simp only [Option.some.injEq, Prod.mk.injEq, true_and] at this
            exact ej this
        · (try simp only)
          have hq' := r3 q hq
          rw [if_neg (hold q _ hq' (by simp [ej])).1]
          exact hq'
    · obtain ⟨g2, cur2, h1, h2, h3, h4, h5⟩ := ht.some_ x y v hv
      have hg2 : g2 ≠ g := fun e2 => by
        rw [e2, ho] at h2
        simp only [Option.some.injEq, Prod.mk.injEq, and_true] at h2
        exact e ⟨h2.1.symm, h2.2.symm⟩
      have hpl : ∀ q j, own q = some (x, y, j) → rv'.ownBlock ≠ some q ∧ rv.ownBlock ≠ some q := fun q j hq => hold q _ hq (by simp only [ne_eq, Prod.mk.injEq, not_and]; intro e1 e2; exact absurd ⟨e1, e2⟩ e)
      refine ⟨g2, cur2, h1, by (try simp only); rw [if_neg (hpl _ _ h2).1]; exact h2, kW.at_ h3 (fun hor => hor.elim hg2 (hpl _ _ h2).2), h4, fun j hj => ?_⟩
      obtain ⟨rw_, r1, r2, r3⟩ := h5 j hj
      refine ⟨rw_, r1, ?_, fun q hq => by (try simp only); rw [if_neg (hpl _ _ (r3 q hq)).1]; exact r3 q hq⟩
      show OwnRow _ _ (rowOf (oneMore c l) H h x y j)
      rw [rowOf_other hj (by omega)]
      refine ownsRow_keeps r2 kW (fun q hq hor => ?_)
      have hq' := r3 q hq
      rcases hor with rfl | hor
      · rw [ho] at hq'
        simp only [Option.some.injEq, Prod.mk.injEq] at hq'
        exact e ⟨hq'.1.symm, hq'.2.1.symm⟩
      · exact (hpl q _ hq').2 hor
end Go.Proofs.YtgikabafaocemaaDoor

namespace Go.Proofs.YtgikabafaocemaaDoor
open Go.RowKit

theorem pow_le_8 {k : Nat} (h : k ≤ 8) : 2 ^ k ≤ 256 := by
  have := Nat.pow_le_pow_right (n := 2) (by omega) h
  simpa using this
theorem results_row3 {P : Program} {fn : Func} {p t2 t3 : Tmp} {ty : TypeId} (h : fn.results = #[.cell p ty, .tmp t2, .tmp t3]) (tmps : Array Value) (w : World) (g : Nat) (t : TypeId) (cs : Array Value) (fr : Nat × Nat) (d : TypeDesc)
    (hp : tmps.getD p undef = .pointer (some ⟨g, 0, none⟩)) (hg : w.heap[g]? = some (.cells cs t fr))
    (hu : P.underlying ty = some d) (hd : (match d with | .struct _ | .array _ _ => true | _ => false) = true) (hi : (P.info? ty).map (·.size) = some cs.size) :
    (results fn tmps).run P w = .ok (.tuple #[.agg cs, tmps.getD t2 undef, tmps.getD t3 undef]) w := by
  have hp' : tmps[p]?.getD undef = .pointer (some ⟨g, 0, none⟩) := by simpa using hp
  simp [results, h, hp', asAddr, run_loadVar_row w g t ty cs fr d hg hu hd hi]
theorem mask_nat {i K : Nat} (hK : K ≤ 8) (hi : i ≤ 1099511627776) : bits BinOp.and IntKind.i64 (i : Int) (wrap64 (wrap64 ((2 : Int) ^ K) - 1)) = ((i % 2 ^ K : Nat) : Int) := by
  have h0 : 0 < 2 ^ K := Nat.pow_pos (by omega)
  have h1 := pow_le_8 hK
  have h2 : ((2 : Int) ^ K) = ((2 ^ K : Nat) : Int) := by simp
  have e1 : wrap64 ((2 ^ K : Nat) : Int) = ((2 ^ K : Nat) : Int) := wrap_small (by omega) (by omega)
  rw [h2, e1, wrap_small (by omega) (by omega), show ((2 ^ K : Nat) : Int) - 1 = ((2 ^ K - 1 : Nat) : Int) by omega, and_nat (by omega) (by omega), Nat.and_two_pow_sub_one_eq_mod]
theorem wrap_64 (q : Nat) (hq : q ≤ 64) : wrap64 (q : Int) = (q : Int) := wrap_small (by omega) (by omega)
theorem shr_nat (i K : Nat) : (i : Int) / 2 ^ K = ((i / 2 ^ K : Nat) : Int) := by simp

set_option maxRecDepth 100000 in
set_option maxHeartbeats 2000000 in
theorem at_any (tb h l i : Nat) (w : World) (hb : tb < w.heap.size) (hc : w.cell? ⟨tb, 0, none⟩ = some (.int .i64 (h : Int))) (h1 : 1 ≤ h) (h8 : h ≤ 8) (hl : l ≤ 64) (hi : i ≤ 1099511627776) :
    Calls Tryd.prog 115 #[.pointer (some ⟨tb, 0, none⟩), .agg #[.int .i64 (l : Int), .int .i64 (i : Int)]] w fun x w' =>
      x = .returned (.tuple #[placeV ((l / h : Nat) : Int) ((i / 2 ^ (h - l % h) : Nat) : Int), .int .i64 ((l % h : Nat) : Int), .int .i64 ((i % 2 ^ (h - l % h) : Nat) : Int)]) ∧ Fresh w w' := by
  have hle := Nat.div_le_self l h
  have hmod := Nat.mod_lt l (show h > 0 by omega)
  have hK : h - l % h ≤ 8 := by omega
  have hA : l / h ≤ 64 := by omega
  have hJ : l % h ≤ 8 := by omega
  have hsub : wrap64 ((h : Int) - ((l % h : Nat) : Int)) = ((h - l % h : Nat) : Int) := by rw [wrap_small (by omega) (by omega)]; omega
  obtain ⟨K, hKe⟩ : ∃ K, h - l % h = K := ⟨_, rfl⟩
  obtain ⟨A, hAe⟩ : ∃ A, l / h = A := ⟨_, rfl⟩
  obtain ⟨J, hJe⟩ : ∃ J, l % h = J := ⟨_, rfl⟩
  rw [hKe, hAe, hJe]
  have HKE := hid hKe
  have HAE := hid hAe
  have HJE := hid hJe
  have HSUB := hid hsub
  rw [hKe] at hK
  rw [hAe] at hA
  rw [hJe] at hJ
  clear hKe hAe hJe hsub hle hmod
  have hnew := heap_alloc_new (w.alloc (.cells #[.int .i64 (l : Int), .int .i64 (i : Int)] 72)) (.cells #[.int .i64 0, .int .i64 0] 165)
  rw [World.size_alloc] at hnew
  have HN := hid hnew
  clear hnew
  go_enter Tryd.func115, Tryd.ntmps115
  go_wp2_with fail
  have hz : (h : Int) ≠ 0 := by omega
  go_quiet (fail)
  go_wp2_with fail
  go_quiet (fail)
  go_wp2_with fail
  rw [← Int.natCast_ediv l h, HAE.out, wrap_64 A hA, ← Int.natCast_emod l h, HSUB.out, HKE.out, HJE.out]
  go_region
  rw [mask_nat hK hi, shr_nat]
  have r2 := fun m : Nat => heap_setCell_at (heap_setCell_at (w := ((w.alloc (.cells #[.int .i64 (l : Int), .int .i64 (i : Int)] 72)).alloc (.cells #[.int .i64 0, .int .i64 0] 165)).drewN m) HN.out 0 (.int .i64 (A : Int))) 1 (.int .i64 ((i / 2 ^ K : Nat) : Int))
  go_wp2
  refine bodyPost_ret (results_row3 rfl _ _ (w.heap.size + 1) 165 _ (0, 0) _ rfl (by exact r2 _) Tryd.underlying165 rfl (by kernel_rfl)) rfl ?_
  refine ⟨rfl, ?_⟩
  exact ((((((Keeps.refl _ w).alloc _).alloc _).drewN _).setCell (p := ⟨w.heap.size + 1, 0, none⟩) (fun h => absurd (show w.heap.size + 1 < w.heap.size from h) (by omega)) _).setCell (p := ⟨w.heap.size + 1, 1, none⟩) (fun h => absurd (show w.heap.size + 1 < w.heap.size from h) (by omega)) _)
end Go.Proofs.YtgikabafaocemaaDoor

namespace Go.Proofs.YtgikabafaocemaaDoor
open Go.RowKit Go.Maps

def tileC (h : Nat) (sz : Int) (mb : Nat) : Obj := .cells #[.int .i64 (h : Int), .int .i64 sz, .map (some mb)] 93
/-- a tree of tiles in memory, among the blocks S: of so many nodes on each level -/
structure TreeAt (S : Nat → Prop) (w : World) (tb h : Nat) (sz : Int) (N : Nat) (c : Nat → Nat) (H : Nat → Nat → List UInt8) : Prop where
  ex : ∃ own F mb, Tiles own F w mb h N c H ∧ w.heap[tb]? = some (tileC h sz mb) ∧ S mb ∧ mb ≠ tb ∧ own tb = none ∧ (∀ g x, own g = some x → S g)
  tb_ : S tb
  lo : 1 ≤ h
  hi : h ≤ 8
theorem TreeAt.keeps {S T : Nat → Prop} {w w' : World} {tb h N : Nat} {sz : Int} {c : Nat → Nat} {H : Nat → Nat → List UInt8} (ht : TreeAt S w tb h sz N c H) (f : Keeps T w w') (hT : ∀ g, S g → ¬ T g) : TreeAt S w' tb h sz N c H := by
  obtain ⟨own, F, mb, h1, h2, h3, h4, h5, h6⟩ := ht.ex
  exact ⟨⟨own, F, mb, h1.keeps f (hT _ h3) (fun g x hx => hT g (h6 g x hx)), f.at_ h2 (hT _ ht.tb_), h3, h4, h5, h6⟩, ht.tb_, ht.lo, ht.hi⟩
theorem TreeAt.fresh {S : Nat → Prop} {w w' : World} {tb h N : Nat} {sz : Int} {c : Nat → Nat} {H : Nat → Nat → List UInt8} (ht : TreeAt S w tb h sz N c H) (f : Fresh w w') : TreeAt S w' tb h sz N c H := ht.keeps f (fun _ _ h => h)

set_option maxRecDepth 100000 in
set_option maxHeartbeats 2000000 in
theorem tlnode_any (S : Nat → Prop) (tb h l i N : Nat) (sz : Int) (c : Nat → Nat) (H : Nat → Nat → List UInt8) (w : World) (ht : TreeAt S w tb h sz N c H) (hl : l ≤ 64) (hi : i ≤ 1099511627776) (hc : i < c l) :
    Calls Tryd.prog 79 #[.pointer (some ⟨tb, 0, none⟩), .agg #[.int .i64 (l : Int), .int .i64 (i : Int)]] w fun x w' => x = .returned (.string (str (H l i))) ∧ Fresh w w' := by
  obtain ⟨own, F, mb, h1, h2, -⟩ := ht.ex
  have hlo := ht.lo
  have hhi := ht.hi
  have htb := lt_of_block h2
  have hget := rowOf_get (c := c) (H := H) (h := h) hc
  obtain ⟨n, D, hn, hmap, hsee⟩ := h1.map
  have hA : l / h ≤ 64 := Nat.le_trans (Nat.div_le_self l h) hl
  have hB : i / 2 ^ (h - l % h) ≤ 1099511627776 := Nat.le_trans (Nat.div_le_self i _) hi
  have hJ := Nat.mod_lt l (show h > 0 by omega)
  have hI : i % 2 ^ (h - l % h) ≤ 1099511627776 := Nat.le_trans (Nat.mod_le i _) hi
  have hat := fun W (f : Fresh w W) => at_any tb h l i W (Nat.lt_of_lt_of_le htb f.size) (cell_at (f.at_ h2 (fun h => h)) 0) hlo hhi hl hi
  obtain ⟨A, hAe⟩ : ∃ A, l / h = A := ⟨_, rfl⟩
  obtain ⟨B, hBe⟩ : ∃ B, i / 2 ^ (h - l % h) = B := ⟨_, rfl⟩
  obtain ⟨I, hIe⟩ : ∃ I, i % 2 ^ (h - l % h) = I := ⟨_, rfl⟩
  obtain ⟨J, hJe⟩ : ∃ J, l % h = J := ⟨_, rfl⟩
  rw [hAe, hBe, hIe, hJe] at hget
  rw [hAe, hJe] at hat
  rw [hJe] at hBe hIe
  rw [hBe, hIe] at hat
  simp only [hJe, hBe, hIe] at hB hI hget
  rw [hAe] at hA
  rw [hJe] at hJ
  clear hAe hBe hIe hJe
  have hFs : ∃ v, F A B = some v := by
    cases hF : F A B with
    | none =>
      have := h1.none_ A B hF J hJ
      rw [this] at hget
      simp at hget
    | some v => exact ⟨v, rfl⟩
  obtain ⟨v, hF⟩ := hFs
  obtain ⟨g, cur, rfl, ho, hg, hcs, hrows⟩ := h1.some_ A B v hF
  obtain ⟨rv, hrv, hrow, hown⟩ := hrows J hJ
  have hAt := OwnTexts_at hrow
  obtain ⟨ao, cap, rfl, hcells⟩ := hAt
  have hlen : I < (rowOf c H h A B J).length := (List.getElem?_eq_some_iff.1 hget).1
  obtain ⟨bb, off, rfl, hbb, hcell⟩ := hcells I _ hget
  have hgl := lt_of_block hg
  have HLEN : ((I : Nat) : Int) < ((rowOf c H h A B J).length : Int) := by omega
  have hlook := fun W (f : Fresh w W) => look_place (ownsMap_keeps hmap f (fun h => h)) hsee A B (by omega) (by omega)
  rw [hF] at hlook
  generalize (rowOf c H h A B J).length = R at HLEN hlook hrv hlen
  have HAT := hid hat
  have HLOOK := hid hlook
  generalize H l i = HS at hcell ⊢
  clear hat hlook hrow hown hrows hcells hget h1 hmap hsee ht
  have f0 : Fresh w (w.alloc (.cells #[.int .i64 (l : Int), .int .i64 (i : Int)] 72)) := (Keeps.refl _ _).alloc _
  unfold placeV at HAT HLOOK
  go_enter Tryd.func79, Tryd.ntmps79
  go_wp2_with fail
  refine (HAT.out _ f0).mono ?_
  rintro x w1 ⟨rfl, fa⟩
  have f1 := f0.trans fa
  go_wp2_with fail
  have f2 := f1.alloc (.cells #[.int .i64 (A : Int), .int .i64 (B : Int)] 165)
  have t2 := cell_at (f2.at_ h2 (fun h => h)) 2
  have r2 := cell_at (f2.at_ hg (fun h => h)) J
  rw [hrv] at r2
  have x2 := (f2.cell (p := ⟨bb, off + I, none⟩) hbb (fun h => h)).trans hcell
  have hlk := HLOOK.out _ f2
  have hJi : (J : Int) < (h : Int) := by omega
  have hN := heap_alloc_new w1 (.cells #[.int .i64 (A : Int), .int .i64 (B : Int)] 165)
  have p0 := cell_at hN 0
  have p1 := cell_at hN 1
  have hlk' := HLOOK.out _ f2.drew
  simp at t2 p0 p1 hlk hlk'
  go_region
  go_wp2_with fail
  go_ret
  exact ⟨rfl, f2.drew⟩
end Go.Proofs.YtgikabafaocemaaDoor
