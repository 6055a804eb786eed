/-
  SHA-256 over natural numbers: one rotation, the words of a block, the rounds, what is filled up.
-/
import Derived.Test.YtmflbchiapdhbaaDoorObj
namespace Go.Proofs.YtmflbchiapdhbaaDoor
open Go.RowKit

/-- x (below 2^32) turned right by n (1 to 31) -/
def rot (x n : Nat) : Nat := (x >>> n ||| x <<< (32 - n)) % 4294967296
theorem rot_lt (x n : Nat) : rot x n < 4294967296 := Nat.mod_lt _ (by decide)

/-- word t of 64 bytes -/
def be32 (b : List UInt8) (t : Nat) : Nat := (b.getD (4 * t) 0).toNat * 16777216 + (b.getD (4 * t + 1) 0).toNat * 65536 + (b.getD (4 * t + 2) 0).toNat * 256 + (b.getD (4 * t + 3) 0).toNat
theorem be32_lt (b : List UInt8) (t : Nat) : be32 b t < 4294967296 := by
  have h1 := (b.getD (4 * t) 0).toNat_lt
  have h2 := (b.getD (4 * t + 1) 0).toNat_lt
  have h3 := (b.getD (4 * t + 2) 0).toNat_lt
  have h4 := (b.getD (4 * t + 3) 0).toNat_lt
  unfold be32
  omega
def small0 (x : Nat) : Nat := (rot x 7 ^^^ rot x 18) ^^^ x >>> 3
def small1 (x : Nat) : Nat := (rot x 17 ^^^ rot x 19) ^^^ x >>> 10
def big0 (x : Nat) : Nat := (rot x 2 ^^^ rot x 13) ^^^ rot x 22
def big1 (x : Nat) : Nat := (rot x 6 ^^^ rot x 11) ^^^ rot x 25
def choose (e f g : Nat) : Nat := (e &&& f) ^^^ ((4294967295 - e) &&& g)
def most (a b c : Nat) : Nat := ((a &&& b) ^^^ (a &&& c)) ^^^ (b &&& c)

/-- word t of a block's schedule -/
def word (b : List UInt8) (t : Nat) : Nat :=
  if t < 16 then be32 b t else (small1 (word b (t - 2)) + word b (t - 7) + small0 (word b (t - 15)) + word b (t - 16)) % 4294967296
termination_by t
decreasing_by all_goals omega
theorem word_lt (b : List UInt8) (t : Nat) : word b t < 4294967296 := by
  rw [word]
  split
  · exact be32_lt b t
  · exact Nat.mod_lt _ (by decide)
theorem word_first {b : List UInt8} {t : Nat} (h : t < 16) : word b t = be32 b t := by rw [word, if_pos h]
theorem word_next {b : List UInt8} {t : Nat} (h : 16 ≤ t) : word b t = (small1 (word b (t - 2)) + word b (t - 7) + small0 (word b (t - 15)) + word b (t - 16)) % 4294967296 := by
  rw [word, if_neg (by omega)]

/-- a state: eight words -/
structure Eight where
  a : Nat
  b : Nat
  c : Nat
  d : Nat
  e : Nat
  f : Nat
  g : Nat
  h : Nat
def Eight.list (v : Eight) : List Nat := [v.a, v.b, v.c, v.d, v.e, v.f, v.g, v.h]
def Eight.ok (v : Eight) : Prop := v.a < 4294967296 ∧ v.b < 4294967296 ∧ v.c < 4294967296 ∧ v.d < 4294967296 ∧ v.e < 4294967296 ∧ v.f < 4294967296 ∧ v.g < 4294967296 ∧ v.h < 4294967296
def tempX (v : Eight) (k w : Nat) : Nat := (v.h + big1 v.e + choose v.e v.f v.g + k + w) % 4294967296
def tempY (v : Eight) : Nat := (big0 v.a + most v.a v.b v.c) % 4294967296
def Eight.next (v : Eight) (k w : Nat) : Eight := ⟨(tempX v k w + tempY v) % 4294967296, v.a, v.b, v.c, (v.d + tempX v k w) % 4294967296, v.e, v.f, v.g⟩
theorem Eight.next_ok {v : Eight} (h : v.ok) (k w : Nat) : (v.next k w).ok := by
  obtain ⟨h1, h2, h3, h4, h5, h6, h7, h8⟩ := h
  exact ⟨Nat.mod_lt _ (by decide), h1, h2, h3, Nat.mod_lt _ (by decide), h5, h6, h7⟩
def kTab : List Nat := [1116352408, 1899447441, 3049323471, 3921009573, 961987163, 1508970993, 2453635748, 2870763221,
  3624381080, 310598401, 607225278, 1426881987, 1925078388, 2162078206, 2614888103, 3248222580,
  3835390401, 4022224774, 264347078, 604807628, 770255983, 1249150122, 1555081692, 1996064986,
  2554220882, 2821834349, 2952996808, 3210313671, 3336571891, 3584528711, 113926993, 338241895,
  666307205, 773529912, 1294757372, 1396182291, 1695183700, 1986661051, 2177026350, 2456956037,
  2730485921, 2820302411, 3259730800, 3345764771, 3516065817, 3600352804, 4094571909, 275423344,
  430227734, 506948616, 659060556, 883997877, 958139571, 1322822218, 1537002063, 1747873779,
  1955562222, 2024104815, 2227730452, 2361852424, 2428436474, 2756734187, 3204031479, 3329325298]
def kAt (t : Nat) : Nat := kTab.getD t 0
theorem kAt_lt : ∀ t, kAt t < 4294967296 := by
  intro t
  by_cases h : t < 64
  · exact (show ∀ t : Fin 64, kAt t.val < 4294967296 by decide) ⟨t, h⟩
  · have : kAt t = 0 := by
      unfold kAt
      rw [List.getD, List.getElem?_eq_none (by simp [kTab]; omega)]
      rfl
    omega
/-- the state behind t rounds -/
def roundsOf (b : List UInt8) (v : Eight) : Nat → Eight
  | 0 => v
  | t + 1 => (roundsOf b v t).next (kAt t) (word b t)
theorem roundsOf_ok {b : List UInt8} {v : Eight} (h : v.ok) : ∀ t, (roundsOf b v t).ok
  | 0 => h
  | t + 1 => Eight.next_ok (roundsOf_ok h t) _ _
def Eight.add (v u : Eight) : Eight := ⟨(v.a + u.a) % 4294967296, (v.b + u.b) % 4294967296, (v.c + u.c) % 4294967296, (v.d + u.d) % 4294967296, (v.e + u.e) % 4294967296, (v.f + u.f) % 4294967296, (v.g + u.g) % 4294967296, (v.h + u.h) % 4294967296⟩
theorem Eight.add_ok (v u : Eight) : (v.add u).ok := ⟨Nat.mod_lt _ (by decide), Nat.mod_lt _ (by decide), Nat.mod_lt _ (by decide), Nat.mod_lt _ (by decide), Nat.mod_lt _ (by decide), Nat.mod_lt _ (by decide), Nat.mod_lt _ (by decide), Nat.mod_lt _ (by decide)⟩
/-- a block -/
def shaBlock (v : Eight) (b : List UInt8) : Eight := v.add (roundsOf b v 64)
def eight0 : Eight := ⟨1779033703, 3144134277, 1013904242, 2773480762, 1359893119, 2600822924, 528734635, 1541459225⟩
theorem eight0_ok : eight0.ok := by unfold Eight.ok eight0; decide

/-- whole blocks, one by one -/
def shaBlocks (v : Eight) (l : List UInt8) : Eight := if _h : l.length < 64 then v else shaBlocks (shaBlock v (l.take 64)) (l.drop 64)
termination_by l.length
decreasing_by simp; omega
/-- n by k bytes, the highest first -/
def bigEnd (n : Nat) : Nat → List UInt8
  | 0 => []
  | k + 1 => UInt8.ofNat (n / 256 ^ k) :: bigEnd n k
/-- how many noughts stand behind the 128 of a text of n bytes -/
def noughts (n : Nat) : Nat := (119 - n % 64) % 64
def filledUp (s : List UInt8) : List UInt8 := s ++ 128 :: (List.replicate (noughts s.length) 0 ++ bigEnd (8 * s.length % 18446744073709551616) 8)
def sha (s : List UInt8) : List UInt8 := (shaBlocks eight0 (filledUp s)).list.flatMap (fun x => bigEnd x 4)
theorem bigEnd_len (n : Nat) : ∀ k, (bigEnd n k).length = k
  | 0 => rfl
  | k + 1 => by simp [bigEnd, bigEnd_len n k]
theorem sha_len (s : List UInt8) : (sha s).length = 32 := by simp [sha, Eight.list, bigEnd_len]
theorem filledUp_len (s : List UInt8) : (filledUp s).length % 64 = 0 := by
  simp only [filledUp, List.length_append, List.length_cons, List.length_replicate, bigEnd_len, noughts]
  omega
end Go.Proofs.YtmflbchiapdhbaaDoor
