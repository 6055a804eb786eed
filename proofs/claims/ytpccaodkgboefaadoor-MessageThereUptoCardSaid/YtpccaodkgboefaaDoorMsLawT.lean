/-
  MessageThere, walked.
-/
import Derived.Test.YtpccaodkgboefaaDoorMsPick
import Derived.Test.YtpccaodkgboefaaDoorMsFine
import Derived.Test.YtpccaodkgboefaaDoorMMsH
namespace Go.Proofs.YtpccaodkgboefaaDoor
open Go.RowKit

theorem framedW_none {st : WSt} (h : (framedW st).2 ≠ 0) : (framedW st).1 = [] := by
  unfold framedW at h ⊢
  split
  · rfl
  · rename_i h3
    rw [if_neg h3] at h
    split
    · rfl
    · rename_i h4
      rw [if_neg h4] at h
      exact absurd rfl h
theorem encRep_none {k : Int} {R : Rep} (h : (encRep k R).2 ≠ 0) : (encRep k R).1 = [] := by
  unfold encRep at h ⊢
  by_cases h1 : k < 0 ∨ 12 < k
  · rw [if_pos h1]
  · rw [if_neg h1] at h ⊢
    by_cases h2 : k = 0 ∧ R.status = 0
    · rw [if_pos h2]
    · rw [if_neg h2] at h ⊢
      exact framedW_none h

set_option maxRecDepth 100000 in
set_option maxHeartbeats 4000000 in
theorem there_any (B : Nat → Prop) (k : Int) (R : Rep) (v : Value) (bh : List UInt8) (cut : Int) (w : World) (hl : Laid w) (hv : RepAt B w R v) (hB : ∀ q, B q → q < w.heap.size) (hw : wtR R + 1000 < 70368744177664) (hbh : bh.length ≤ 1000000000)
    (hx : -9223372036854775808 ≤ cut) (hx2 : cut ≤ 9223372036854775807) :
    Calls Tryd.prog 4 #[.int .i64 k, v, .string (str bh), .int .i64 cut] w fun e w' => e = .returned (.bool true) ∧ Fresh w w' := by
  have hk := fun W hW => mknown_any W hW
  have HV := hid hv
  obtain ⟨lv, ev, ap, cp, rfl, ⟨hl1, -⟩, ⟨hl2, -⟩, -, -⟩ := hv.parts
  obtain ⟨al, cl, rfl, -⟩ := hl1.texts
  obtain ⟨ae, ce, rfl, -⟩ := hl2.texts
  have f1 : Fresh w (w.alloc (.cells #[.int .i64 R.status, .int .i64 R.size, .int .i64 R.a, .int .i64 R.b, .string (str R.root), .slice al R.hashes.length cl, .slice ae R.entries.length ce, .slice ap R.replies.length cp] 42)) := (Keeps.refl _ _).alloc _
  have hb := heap_alloc_new w (.cells #[.int .i64 R.status, .int .i64 R.size, .int .i64 R.a, .int .i64 R.b, .string (str R.root), .slice al R.hashes.length cl, .slice ae R.entries.length ce, .slice ap R.replies.length cp] 42)
  obtain ⟨w1, hw1⟩ : ∃ w1, w.alloc (.cells #[.int .i64 R.status, .int .i64 R.size, .int .i64 R.a, .int .i64 R.b, .string (str R.root), .slice al R.hashes.length cl, .slice ae R.entries.length ce, .slice ap R.replies.length cp] 42) = w1 := ⟨_, rfl⟩
  obtain ⟨g1, hg1⟩ : ∃ g, w.heap.size = g := ⟨_, rfl⟩
  rw [hw1, hg1] at hb
  rw [hw1] at f1
  have henc := fun W (hW : Fresh w W) => encodeRep_any B k R _ W (hl.fresh_ hW) (hv.fresh hW) (fun q hq => Nat.lt_of_lt_of_le (hB q hq) hW.size) hw
  have hnone := encRep_none (k := k) (R := R)
  have hback := decRep_back (k := k) (R := R) bh
  have hshort := decRep_short (k := k) (R := R)
  have hother := fun j => decRep_other (k := k) (j := j) (R := R)
  have hfirst := encRep_first (k := k) (R := R)
  have hfine := encRep_fine (k := k) (R := R)
  have hfr := encRep_frame (k := k) (R := R)
  obtain ⟨fs, hfs⟩ : ∃ fs, (encRep k R).1 = fs := ⟨_, rfl⟩
  obtain ⟨er, her⟩ : ∃ er, (encRep k R).2 = er := ⟨_, rfl⟩
  rw [hfs, her] at henc hnone
  rw [hfs, her] at hback hshort hother hfirst
  rw [her] at hfine
  have HENC := hid henc
  have HB := hid hb
  have HK := hid hk
  have HN := hid hnone
  have HBK := hid hback
  have HSH := hid hshort
  have HOT := hid hother
  have HFI := hid hfirst
  have HFN := hid hfine
  have hlen : er = 0 → fs.length ≤ 1048586 := fun h0 => by
    obtain ⟨p, _, hp, he, _⟩ := hfr (by rw [her]; exact h0)
    have hd := digs_len10 (n := p.length) (by omega)
    rw [he] at hfs
    simp only at hfs
    rw [← hfs, List.length_append]
    omega
  have HLN := hid hlen
  have x0 := cell_at hb 0
  have x1 := cell_at hb 1
  have x2 := cell_at hb 2
  have x3 := cell_at hb 3
  have x4 := cell_at hb 4
  have x5 := cell_at hb 5
  have x6 := cell_at hb 6
  have x7 := cell_at hb 7
  clear henc hb hk hnone hback hshort hother hfirst hfine hlen hv hl1 hl2 hfr hfs her x0 x1 x2 x3 x4 x5 x6 x7
  go_enter Tryd.func4, Tryd.ntmps4
  go_wp2_with fail
  refine (HK.out _ (hl.fresh_ f1)).mono ?_
  rintro e w2 ⟨rfl, f2⟩
  have hb2 := f2.at_ HB.out (fun h => h)
  have F2 := f1.trans f2
  have x0 := cell_at hb2 0
  have x1 := cell_at hb2 1
  have x2 := cell_at hb2 2
  have x3 := cell_at hb2 3
  have x4 := cell_at hb2 4
  have x5 := cell_at hb2 5
  have x6 := cell_at hb2 6
  have x7 := cell_at hb2 7
  simp at x0 x1 x2 x3 x4 x5 x6 x7
  have HB2 := hid hb2
  clear f2 HB f1 hb2
  go_wp2_with fail
  refine (HENC.out _ F2).mono ?_
  rintro e w3 ⟨rfl, f3⟩
  have F3 := F2.trans f3
  clear x0 x1 x2 x3 x4 x5 x6 x7
  by_cases h0 : er = 0
  · subst h0
    have KBK := hid (HBK.out rfl)
    have KSH := hid (fun c => HSH.out c rfl)
    have KOT := hid (fun j => HOT.out j rfl)
    have KFN := hid (HFN.out rfl (by omega))
    have hpos := HFI.out rfl
    have hle := HLN.out rfl
    clear HBK HSH HOT HFN HFI HLN HN
    have hb3 := f3.at_ HB2.out (fun h => h)
    have x0 := cell_at hb3 0
    have x1 := cell_at hb3 1
    have x2 := cell_at hb3 2
    have x3 := cell_at hb3 3
    have x4 := cell_at hb3 4
    have x5 := cell_at hb3 5
    have x6 := cell_at hb3 6
    have x7 := cell_at hb3 7
    simp at x0 x1 x2 x3 x4 x5 x6 x7
    have HB3 := hid hb3
    clear f3 HB2 hb3
    have hszf := str_size fs
    have hszb := str_size bh
    have hcat := str_append' fs bh
    have hfe : ((str fs).toList == []) = false := by
      rw [str_toList]
      cases fs with
      | nil => simp at hpos
      | cons a r => rfl
    go_wp2_with fail
    have hd := decodeRep_any k (fs ++ bh) w3 (hl.fresh_ F3) (by rw [List.length_append]; omega)
    rw [KBK.out] at hd
    refine hd.mono ?_
    rintro e w4 ⟨v4, bl4, rfl, f4, ho4, -, -⟩
    clear hd hcat
    obtain ⟨al4, cl4, ae4, ce4, aq4, cq4, rfl⟩ := ho4.shape
    have fa : Fresh w4 (w4.alloc (.cells #[.int .i64 R.status, .int .i64 R.size, .int .i64 R.a, .int .i64 R.b, .string (str R.root), .slice al4 R.hashes.length cl4, .slice ae4 R.entries.length ce4, .slice aq4 R.replies.length cq4] 42)) := (Keeps.refl _ _).alloc _
    have hb5 := heap_alloc_new w4 (.cells #[.int .i64 R.status, .int .i64 R.size, .int .i64 R.a, .int .i64 R.b, .string (str R.root), .slice al4 R.hashes.length cl4, .slice ae4 R.entries.length ce4, .slice aq4 R.replies.length cq4] 42)
    have F5 := F3.trans (f4.trans fa)
    have hb6 := (f4.trans fa).at_ HB3.out (fun h => h)
    have hs5 := fun W (hW : Fresh w W) (hW2 : Fresh w4 W) => sameReply_self _ R (Nat.le_refl _) (fun g => g ∈ bl4) B _ _ W (RepOwn.at _ _ _ (ho4.fresh hW2) _ (fun _ h => h)) (HV.out.fresh hW) KFN.out
    have hs6 := hs5 _ F5 fa
    have HS := hid hs6
    clear hs5 hs6 x0 x1 x2 x3 x4 x5 x6 x7 ho4 HB3
    obtain ⟨w5, hw5⟩ : ∃ w5, w4.alloc (.cells #[.int .i64 R.status, .int .i64 R.size, .int .i64 R.a, .int .i64 R.b, .string (str R.root), .slice al4 R.hashes.length cl4, .slice ae4 R.entries.length ce4, .slice aq4 R.replies.length cq4] 42) = w5 := ⟨_, rfl⟩
    obtain ⟨g4, hg4⟩ : ∃ g, w4.heap.size = g := ⟨_, rfl⟩
    rw [hw5] at hb5 hb6 F5 HS
    rw [hg4] at hb5
    have x0 := cell_at hb5 0
    have x1 := cell_at hb5 1
    have x2 := cell_at hb5 2
    have x3 := cell_at hb5 3
    have x4 := cell_at hb5 4
    have x5 := cell_at hb5 5
    have x6 := cell_at hb5 6
    have x7 := cell_at hb5 7
    have y0 := cell_at hb6 0
    have y1 := cell_at hb6 1
    have y2 := cell_at hb6 2
    have y3 := cell_at hb6 3
    have y4 := cell_at hb6 4
    have y5 := cell_at hb6 5
    have y6 := cell_at hb6 6
    have y7 := cell_at hb6 7
    simp at x0 x1 x2 x3 x4 x5 x6 x7 y0 y1 y2 y3 y4 y5 y6 y7
    clear f4 fa hb5 hb6
    go_wp2_with fail
    refine HS.out.mono ?_
    rintro e w6 ⟨rfl, f6⟩
    have F6 := F5.trans f6
    clear f6 x0 x1 x2 x3 x4 x5 x6 x7 y0 y1 y2 y3 y4 y5 y6 y7 HS
    go_wp2_with fail
    refine (pick_any cut fs.length w6 hpos (by omega) hx hx2).mono ?_
    rintro e w6' ⟨c, rfl, hc, rfl⟩
    have hto := str_to fs c
    have hc2 : c ≤ fs.length := by omega
    go_wp2_with fail
    have hd := decodeRep_any k (fs.take c) w6 (hl.fresh_ F6) (by rw [List.length_take]; omega)
    have hsh := KSH.out c hc
    refine hd.mono ?_
    generalize decRep k (fs.take c) = q at hsh
    rintro e w7 ⟨v7, bl7, rfl, f7, ho7, -, -⟩
    obtain ⟨al7, cl7, ae7, ce7, aq7, cq7, rfl⟩ := ho7.shape
    have fb : Fresh w7 (w7.alloc (.cells #[.int .i64 q.1.status, .int .i64 q.1.size, .int .i64 q.1.a, .int .i64 q.1.b, .string (str q.1.root), .slice al7 q.1.hashes.length cl7, .slice ae7 q.1.entries.length ce7, .slice aq7 q.1.replies.length cq7] 42)) := (Keeps.refl _ _).alloc _
    have F8 := F6.trans (f7.trans fb)
    obtain ⟨w8, hw8⟩ : ∃ w8, w7.alloc (.cells #[.int .i64 q.1.status, .int .i64 q.1.size, .int .i64 q.1.a, .int .i64 q.1.b, .string (str q.1.root), .slice al7 q.1.hashes.length cl7, .slice ae7 q.1.entries.length ce7, .slice aq7 q.1.replies.length cq7] 42) = w8 := ⟨_, rfl⟩
    rw [hw8] at F8
    have hbb : ((str bh).toList == (str bh).toList) = true := by simp
    rw [hsh]
    clear hd ho7 f7 fb hto hc2 hfe
    go_wp2_with fail
    clear hbb hsh
    go_loopw [19] (fun i wr => ∃ m : Nat, i = .int .i64 (m : Int) ∧ m ≤ 13 ∧ Fresh w wr) (fun i _ => 13 - (intOf i).toNat)
    case atStart => exact ⟨0, rfl, by omega, by first | exact F8 | (rw [hw8]; exact F8)⟩
    case round =>
      obtain ⟨m, rfl, hm, fr⟩ := hrel
      by_cases hlt : m < 13
      · go_wp2_with fail
        have hd := decodeRep_any (m : Int) fs _ (hl.fresh_ fr) (by omega)
        have hot := KOT.out (m : Int) (by omega) (by omega)
        refine hd.mono ?_
        generalize decRep (m : Int) fs = q2 at hot
        rintro e w9 ⟨v9, bl9, rfl, f9, ho9, -, -⟩
        obtain ⟨al9, cl9, ae9, ce9, aq9, cq9, rfl⟩ := ho9.shape
        have fc : Fresh w9 (w9.alloc (.cells #[.int .i64 q2.1.status, .int .i64 q2.1.size, .int .i64 q2.1.a, .int .i64 q2.1.b, .string (str q2.1.root), .slice al9 q2.1.hashes.length cl9, .slice ae9 q2.1.entries.length ce9, .slice aq9 q2.1.replies.length cq9] 42)) := (Keeps.refl _ _).alloc _
        have F9 := fr.trans (f9.trans fc)
        clear hd ho9 f9 fc
        by_cases hmk : (m : Int) = k
        · have hmk2 : ((m : Int) != k) = false := by simp [hmk]
          clear hot
          go_wp2_with fail
          go_roundw
          case rel => exact ⟨m + 1, by go_num, by omega, F9⟩
          case measure => simp [intOf]; omega
        · have hmk2 : ((m : Int) != k) = true := by simp [hmk]
          rw [hot hmk]
          clear hot hmk
          go_wp2_with fail
          go_roundw
          case rel => exact ⟨m + 1, by go_num, by omega, F9⟩
          case measure => simp [intOf]; omega
      · obtain rfl : m = 13 := by omega
        go_wp2_with fail
        go_ret
        exact ⟨rfl, fr⟩
  · have he : fs = [] := HN.out h0
    subst he
    have hq : (er != 0) = true := bne_iff_ne.2 h0
    have hes : (str ([] : List UInt8)).toList.isEmpty = true := by rw [str_toList]; rfl
    go_wp2_with fail
    go_ret
    exact ⟨rfl, F3⟩
end Go.Proofs.YtpccaodkgboefaaDoor
