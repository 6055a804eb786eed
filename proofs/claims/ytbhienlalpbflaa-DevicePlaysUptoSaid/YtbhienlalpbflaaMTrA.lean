/-
  Contracts of Go's library, laid at this program (the numbers by name).
-/
import Derived.Shelf.Strings.Repeat
import Derived.Test.YtbhienlalpbflaaProg
namespace Go.Proofs.Ytbhienlalpbflaa
open Go.Shelf Go.RowKit
def Try.lays105_ren : Go.Shelf.Ren := ⟨fun | 105 => 28 | 212 => 51 | 99 => 52 | 165 => 53 | 166 => 54 | 170 => 55 | 169 => 56 | 263 => 64 | 264 => 65 | 206 => 66 | 240 => 67 | 241 => 68 | 276 => 72 | 277 => 73 | n => n, fun | 9 => 9 | 3 => 3 | 4 => 4 | 20 => 20 | 0 => 0 | 46 => 96 | 109 => 97 | 5 => 5 | 72 => 102 | 76 => 106 | 51 => 114 | 146 => 115 | 53 => 117 | 148 => 118 | 70 => 100 | 37 => 63 | 75 => 105 | 127 => 120 | 164 => 123 | 80 => 108 | n => n, fun | n => n⟩
theorem Try.lays105 : Go.Proofs.Lays.n105 Try.prog Try.lays105_ren := {
  mixed := by kernel_rfl
  f99 := Try.func52.trans (congrArg some (by kernel_rfl))
  f105 := Try.func28.trans (congrArg some (by kernel_rfl))
  f165 := Try.func53.trans (congrArg some (by kernel_rfl))
  f166 := Try.func54.trans (congrArg some (by kernel_rfl))
  f169 := Try.func56.trans (congrArg some (by kernel_rfl))
  f170 := Try.func55.trans (congrArg some (by kernel_rfl))
  f206 := Try.func66.trans (congrArg some (by kernel_rfl))
  f212 := Try.func51.trans (congrArg some (by kernel_rfl))
  f240 := Try.func67.trans (congrArg some (by kernel_rfl))
  f241 := Try.func68.trans (congrArg some (by kernel_rfl))
  f263 := Try.func64.trans (congrArg some (by kernel_rfl))
  f264 := Try.func65.trans (congrArg some (by kernel_rfl))
  f276 := Try.func72.trans (congrArg some (by kernel_rfl))
  f277 := Try.func73.trans (congrArg some (by kernel_rfl))
  t0 := Try.underlying0
  a0 := Try.isAgg0
  z0 := Try.sizeOf0
  v0 := Try.zeroValue0
  t3 := Try.underlying3
  a3 := Try.isAgg3
  z3 := Try.sizeOf3
  v3 := Try.zeroValue3
  t4 := Try.underlying4
  a4 := Try.isAgg4
  z4 := Try.sizeOf4
  v4 := Try.zeroValue4
  t5 := Try.underlying5
  a5 := Try.isAgg5
  z5 := Try.sizeOf5
  v5 := Try.zeroValue5
  t9 := Try.underlying9
  a9 := Try.isAgg9
  z9 := Try.sizeOf9
  v9 := Try.zeroValue9
  t20 := Try.underlying20
  a20 := Try.isAgg20
  z20 := Try.sizeOf20
  v20 := Try.zeroValue20
  t37 := Try.underlying63
  a37 := Try.isAgg63
  z37 := Try.sizeOf63
  v37 := Try.zeroValue63
  t46 := Try.underlying96
  a46 := Try.isAgg96
  z46 := Try.sizeOf96
  v46 := Try.zeroValue96
  t51 := Try.underlying114
  a51 := Try.isAgg114
  z51 := Try.sizeOf114
  v51 := Try.zeroValue114
  t53 := Try.underlying117
  a53 := Try.isAgg117
  z53 := Try.sizeOf117
  v53 := Try.zeroValue117
  t70 := Try.underlying100
  a70 := Try.isAgg100
  z70 := Try.sizeOf100
  v70 := Try.zeroValue100
  t72 := Try.underlying102
  a72 := Try.isAgg102
  z72 := Try.sizeOf102
  v72 := Try.zeroValue102
  t75 := Try.underlying105
  a75 := Try.isAgg105
  z75 := Try.sizeOf105
  v75 := Try.zeroValue105
  t76 := Try.underlying106
  a76 := Try.isAgg106
  z76 := Try.sizeOf106
  v76 := Try.zeroValue106
  t109 := Try.underlying97
  a109 := Try.isAgg97
  z109 := Try.sizeOf97
  v109 := Try.zeroValue97
  t127 := Try.underlying120
  a127 := Try.isAgg120
  z127 := Try.sizeOf120
  v127 := Try.zeroValue120
  t146 := Try.underlying115
  a146 := Try.isAgg115
  z146 := Try.sizeOf115
  v146 := Try.zeroValue115
  t148 := Try.underlying118
  a148 := Try.isAgg118
  z148 := Try.sizeOf118
  v148 := Try.zeroValue118
  t164 := Try.underlying123
  a164 := Try.isAgg123
  z164 := Try.sizeOf123
  v164 := Try.zeroValue123 }
theorem Try.Builder_Extra_105 : Builder.Extra Try.prog Try.lays105_ren := {
  sizeBuilder := by kernel_rfl
  liesBuilder := by kernel_rfl
  t5 := Try.underlying5
  a5 := Try.isAgg5
  z5 := Try.sizeOf5
  v5 := Try.zeroValue5
  infoByte := by kernel_rfl
  cellsByte := by kernel_rfl
  sizeByte := by kernel_rfl
  neB5 := by decide }
theorem Try.strings_Repeat (s : ByteArray) (c : Nat) (w : World) (hc : c ≤ 9223372036854775807) (hlen : s.size * c ≤ 140737488355328) :
    Calls Try.prog 28 #[.string s, .int .i64 c] w fun e w' => e = .returned (.string ⟨(Lib.repeatL s.data.toList c).toArray⟩) ∧ Below w.heap.size w w' := Any.strings_Repeat Try.lays105 Try.Builder_Extra_105 s c w hc hlen
end Go.Proofs.Ytbhienlalpbflaa
