/-
  Plain: what is told of a run of a tree's leaves, and its root.
-/
import Derived.Test.YtgikabafaocemaaDoorMSpA
import Derived.Test.YtgikabafaocemaaDoorMSpB
namespace Go.Proofs.YtgikabafaocemaaDoor

theorem sl_of_take {α : Type} (L : List α) {n b e : Nat} (h : e ≤ n) : sl (L.take n) b e = sl L b e := by
  unfold sl
  rw [List.drop_take, List.take_take]
  congr 1
  omega
theorem toldH_of_take (L : List (List UInt8)) {n b e : Nat} (h1 : 1 ≤ n) (h2 : n ≤ 2 ^ 40) : toldH (L.take n) (toldF 40 b e 0 n) = toldH L (toldF 40 b e 0 n) := by
  unfold toldH
  apply List.map_congr_left
  intro x hx
  rw [sl_of_take L (toldF_within 40 b e 0 n (by omega) (by omega) x hx).2.2]
theorem root_right (L : List (List UInt8)) {n b e : Nat} (h32 : all32P L) (hn : n ≤ L.length) (hL : L.length ≤ 4096) (hbe : b < e) (hen : e ≤ n) : rootOf n b e (toldH L (toldF 40 b e 0 n)) (sl L b e) = (hashL (L.take n), 0) := by
  have hw := walkF_hash 40 b e 0 n L [] [] (by omega) (by omega) hn hbe
  rw [List.append_nil, List.append_nil, show max b 0 = b by omega, show min e n = e by omega] at hw
  have hl : (sl L b e).length = e - b := sl_len L (by omega)
  rw [rootOf, if_neg (by omega), if_neg]
  · show ((walkF 40 ((b : Int)).toNat ((e : Int)).toNat 0 ((n : Int)).toNat (toldH L (toldF 40 b e 0 n)) (sl L b e)).1, (0 : Int)) = _
    rw [Int.toNat_natCast, Int.toNat_natCast, Int.toNat_natCast, hw]
    rfl
  · rintro (q | q | q | q | q)
    · omega
    · omega
    · exact q (fun z hz => h32 z (List.mem_of_mem_drop (List.mem_of_mem_take hz)))
    · refine q (fun z hz => ?_)
      obtain ⟨s, -, rfl⟩ := List.mem_map.1 hz
      exact hashL_len (fun z hz => h32 z (List.mem_of_mem_drop (List.mem_of_mem_take hz)))
    · exact q (by rw [Int.toNat_natCast, Int.toNat_natCast, Int.toNat_natCast, toldH, List.length_map])
end Go.Proofs.YtgikabafaocemaaDoor
