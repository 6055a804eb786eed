/-
  Package recursion: Many.
-/
import Derived.Test.YtgikabafaocemaaDoorSpRecC
import Derived.Test.YtgikabafaocemaaDoorSpProve
namespace Go.Proofs.YtgikabafaocemaaDoor
open Go.RowKit
attribute [local go_sem] run_store_func

set_option maxRecDepth 100000 in
set_option maxHeartbeats 4000000 in
theorem recmany_any (lb rb m : Nat) (L : List (List UInt8)) (v vi : Value) (w : World) (hL : L.length ≤ 4096) (h1 : 1 ≤ L.length) (h32 : all32P L) (hm : 1 ≤ m) (hm2 : m ≤ 256) (hb : rb + m ≤ L.length) (hr : RoomIn w lb v L) (hi : IdxAt w vi rb m) (hd : Dig w) :
    Calls Tryd.prog 23 #[v, vi] w fun x w' => (∃ v', x = .returned (.tuple #[v', .int .i64 0]) ∧ TextsAt w' v' (toldH L (toldF 40 rb (rb + m) 0 L.length))) ∧ Fresh w w' := by
  have hrf := hid (fun W (f : Fresh w W) => refused_no v L W (RoomAt.at_ ⟨lb, hr.keeps f (fun h => h)⟩) hL h32)
  have hwr := hid (fun W (f : Fresh w W) => wrong_no v vi L rb m W (RoomAt.at_ ⟨lb, hr.keeps f (fun h => h)⟩) (hi.fresh f) hm hm2 hb)
  have HR := hid hr
  have HI := hid hi
  have HD := hid hd
  obtain ⟨off, cap, rfl, hc, hlb, -⟩ := hr
  obtain ⟨kb, io, icap, rfl, hic, hkb, hik⟩ := hi
  have f0 : Fresh w (w.alloc (.cells #[.slice (some ⟨kb, io, none⟩) m icap] 22)) := (Keeps.refl _ _).alloc _
  have hb0 := heap_alloc_new w (.cells #[.slice (some ⟨kb, io, none⟩) m icap] 22)
  have HIK := hid hik
  obtain ⟨TH, hTH⟩ : ∃ TH, toldH L (toldF 40 rb (rb + m) 0 L.length) = TH := ⟨_, rfl⟩
  rw [hTH]
  have HTH := hid hTH
  clear hik hTH
  go_enter Tryd.func23, Tryd.ntmps23
  go_wp2_with fail
  refine (hrf.out _ f0).mono ?_
  rintro x w1 ⟨rfl, f1⟩
  have hb1 := f1.at_ hb0 (fun h => h)
  have f1' := f0.trans f1
  have i0 := (cell_at hb1 0).trans (show _ = some (Value.slice (some ⟨kb, io, none⟩) m icap) from rfl)
  have i1 := lt_of_block hb1
  go_wp2_with fail
  refine (hwr.out _ f1').mono ?_
  rintro x w2 ⟨rfl, f2⟩
  have f2' := f1'.trans f2
  go_wp2_with fail
  have hb2 := f2.at_ hb1 (fun h => h)
  have z0 := heap_alloc_new w2 (.cells #[.slice none 0 0] 26)
  have g0 : Fresh w2 (w2.alloc (.cells #[.slice none 0 0] 26)) := (Keeps.refl _ _).alloc _
  have g1 := (Keeps.refl (fun _ => False) (w2.alloc (.cells #[.slice none 0 0] 26))).alloc (.cells #[.func (.func 56) #[] #[.pointer (some ⟨w.heap.size, 0, none⟩), .pointer (some ⟨w2.heap.size, 0, none⟩), .pointer (some ⟨w2.heap.size + 1, 0, none⟩)]] 100)
  have z1 := heap_alloc_new (w2.alloc (.cells #[.slice none 0 0] 26)) (.cells #[.func (.func 56) #[] #[.pointer (some ⟨w.heap.size, 0, none⟩), .pointer (some ⟨w2.heap.size, 0, none⟩), .pointer (some ⟨w2.heap.size + 1, 0, none⟩)]] 100)
  have z0' := g1.at_ z0 (fun h => h)
  have g2 := g0.trans g1
  have hb3 := g2.at_ hb2 (fun h => h)
  rw [World.size_alloc] at z1
  have hsz : w2.heap.size + 2 ≤ ((w2.alloc (.cells #[.slice none 0 0] 26)).alloc (.cells #[.func (.func 56) #[] #[.pointer (some ⟨w.heap.size, 0, none⟩), .pointer (some ⟨w2.heap.size, 0, none⟩), .pointer (some ⟨w2.heap.size + 1, 0, none⟩)]] 100)).heap.size := by rw [World.size_alloc, World.size_alloc]; omega
  generalize (w2.alloc (.cells #[.slice none 0 0] 26)).alloc (.cells #[.func (.func 56) #[] #[.pointer (some ⟨w.heap.size, 0, none⟩), .pointer (some ⟨w2.heap.size, 0, none⟩), .pointer (some ⟨w2.heap.size + 1, 0, none⟩)]] 100) = W3 at g1 z1 z0' g2 hb3 hsz ⊢
  have f3 := f2'.trans g2
  have hi2 := lt_of_block hb2
  have hww := f2'.size
  have hgl := HD.out.room
  have hE : ManyEnv W3 (w2.heap.size + 2) w.heap.size w2.heap.size (w2.heap.size + 1) kb io icap rb m := ⟨hb3, fun k hk => (f3.cell (p := ⟨kb, io + k, none⟩) hkb (fun h => h)).trans (HIK.out k hk), z1, by omega, by omega, by omega, by omega, by omega, by omega, by omega, hsz, by omega⟩
  have hsl : sl L 0 L.length = L := by simp [sl]
  have hmany := many1_any (w2.heap.size + 2) w.heap.size w2.heap.size (w2.heap.size + 1) kb io icap rb m lb L hL h32 hm hm2 (by omega) (by omega) (by omega) 40 0 L.length [] (.slice none 0 0) (.slice (some ⟨lb, off, none⟩) L.length cap) W3 (by omega) (by omega) (Nat.le_refl _) (by show 0 + 2 ^ 40 ≤ _; omega) (by rw [hsl]; exact HR.out.keeps f3 (fun h => h)) ⟨z0', World.ownsRow_nil _ _ _ _, by simp [Value.ownBlock]⟩ (fun g hg => by simp [Value.ownBlock] at hg) hE (HD.out.fresh f3)
  rw [List.nil_append] at hmany
  have HMANY := hid hmany
  rw [HTH.out] at HMANY
  clear hmany hsl hE z0 z1 z0' hb3 hb2 i0 hb1 g0 g1
  refine HMANY.out.mono ?_
  rintro x w4 ⟨⟨rr, rfl⟩, v4, ho4, k4, -⟩
  have f4 : Fresh w w4 := f3.trans' k4 (fun q hq e => by
    rcases e with e | e
    · omega
    · simp [Value.ownBlock] at e)
  obtain ⟨ao4, cp4, ev4⟩ := ownsRow_slice ho4.2.1
  have hle := row_le (ev4 ▸ ho4.2.1)
  have o4 := (cell_at ho4.1 0).trans (show _ = some v4 from rfl)
  have n4 := lt_of_block ho4.1
  have hcl := fun W => clipTexts_any ao4 TH.length cp4 W hle
  have HCL := hid hcl
  have HAT := hid (OwnTexts_at ho4.2.1)
  subst ev4
  clear hcl hle ho4
  go_wp2_with fail
  refine (HCL.out _).mono ?_
  rintro x w5 ⟨rfl, f5⟩
  go_wp2_with fail
  go_ret2
  refine ⟨⟨_, rfl, ?_⟩, f4.trans f5⟩
  obtain ⟨ao', cap', e, hk⟩ := HAT.out.fresh f5
  simp only [Value.slice.injEq] at e
  obtain ⟨rfl, -, -⟩ := e
  exact ⟨_, TH.length, rfl, hk⟩
end Go.Proofs.YtgikabafaocemaaDoor
