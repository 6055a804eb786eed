/-
  NARROWER THAN 'FOR EVERY INPUT', by the rows' own cells (each row's printed sentence says how): CodecFrames: laid · CodecLong: laid · CodecRow: laid · CodecWrites: laid · CodecAgain: laid.
  DERIVED. THE GIVEN ROWS OF THIS SEAT. 5 by the template 'for every input the law returns true; each argument reads behind the call as it read before'; 0 by the template 'total and deterministic' (their statements: YtfjflnlcjnhmmaaDoorTotals.lean).
  GIVEN WITH THE SEED: the statements are not yours to turn. If you find one false, say at which input.
  Laid BY PROGRAM, IN A SANDBOX (cutbox-rows.mjs): the forced cells as the released guide's own fill.sh prints them over the translation 999487f7eb136e91… (all of the seat's roots in one cut). By AI agents, Wed Nov 11 2026. No macro, syntax, notation, axiom, sorry.
-/
import Derived.Test.YtfjflnlcjnhmmaaDoorChecked
import GoSem.Claim
import GoSem.ClaimJoined
import GoSem.ClaimMapViews
import Derived.JoinedTies
import Derived.KernelRfl
namespace Go.Proofs.YtfjflnlcjnhmmaaDoor
/- THE CELL 'sum', in the pinned program and in every row, IS THE sha256 OF THE DUMP (.gsa) THAT YtfjflnlcjnhmmaaDoorProg.lean LOADS. Nothing in Lean hashes anything: it is a label: what it is worth is what the hold of that sum in a sandbox is worth. -/
noncomputable def Tryd.pinned : Pinned := { name := "ytfjflnlcjnhmmaadoor", sum := "999487f7eb136e9162dcbe6d5ab54dfdc17068cbca3f15de6a71e62c24f49943", checked := Tryd.checked }
namespace Rows
def none {H : Type} : Left H := { results := [], args := [] }

/- WHAT THE LISTED PACKAGE-LEVEL VARIABLES READ AS WHEN THE CALL BEGINS. Each datum BY PROGRAM (the guide's laid-datum.mjs) off the statement by which the dump's own 'gosem.cut.vars' lays the variable. In a bare row this is a premise. The card (YtfjflnlcjnhmmaaDoorCards.lean) ties it to the program's text. -/
def laid_errors_errorType {H : Type} : DataW H := .iface "internal/reflectlite.rtype" (.agg [.ptr (.lit (.string [101, 114, 114, 111, 114]))])

/-- 'scrivenerlaw2.CodecFrames': WHATEVER THE INPUT: true; the input reads as it did. -/
def codecFramesSpec : ChangeSpec := { name := "codecFrames", fn := fun _ => fun
  | [d1, d2] => { results := [.lit (.bool true)], args := [d1, d2] }
  | _ => none }
def codecFramesRow : OpenClaim := { program := "ytfjflnlcjnhmmaadoor", sum := "999487f7eb136e9162dcbe6d5ab54dfdc17068cbca3f15de6a71e62c24f49943", func := "scrivener/scrivenerlaw2.CodecFrames", spec := "codecFrames", inPlace := ["internal/reflectlite.ValueOf", "(internal/reflectlite.Value).Type", "(internal/reflectlite.Value).IsNil", "internal/reflectlite.TypeOf", "(internal/reflectlite.Value).Elem", "(internal/reflectlite.Value).Set"], unfollowed := true, recurses := true, named := ["errors.errorType"], apart := false, laid := [("errors.errorType", laid_errors_errorType)] }
def CodecFramesSaid : Prop := codecFramesRow.holds Tryd.pinned (OpenSpec.ofChange codecFramesSpec)

/-- ITS FALSE NEIGHBOUR: 'it returns false'. Refute it at one input. -/
def codecFramesWrong : ChangeSpec := { name := "codecFrames", fn := fun _ => fun
  | [d1, d2] => { results := [.lit (.bool false)], args := [d1, d2] }
  | _ => none }
def CodecFramesWrongFalsely : Prop := codecFramesRow.holds Tryd.pinned (OpenSpec.ofChange codecFramesWrong)

/-- 'scrivenerlaw2.CodecLong': WHATEVER THE INPUT: true; the input reads as it did. -/
def codecLongSpec : ChangeSpec := { name := "codecLong", fn := fun _ => fun
  | [d1, d2] => { results := [.lit (.bool true)], args := [d1, d2] }
  | _ => none }
def codecLongRow : OpenClaim := { program := "ytfjflnlcjnhmmaadoor", sum := "999487f7eb136e9162dcbe6d5ab54dfdc17068cbca3f15de6a71e62c24f49943", func := "scrivener/scrivenerlaw2.CodecLong", spec := "codecLong", inPlace := ["internal/reflectlite.ValueOf", "(internal/reflectlite.Value).Type", "(internal/reflectlite.Value).IsNil", "internal/reflectlite.TypeOf", "(internal/reflectlite.Value).Elem", "(internal/reflectlite.Value).Set"], unfollowed := true, recurses := true, named := ["errors.errorType"], apart := false, laid := [("errors.errorType", laid_errors_errorType)] }
def CodecLongSaid : Prop := codecLongRow.holds Tryd.pinned (OpenSpec.ofChange codecLongSpec)

/-- ITS FALSE NEIGHBOUR: 'it returns false'. Refute it at one input. -/
def codecLongWrong : ChangeSpec := { name := "codecLong", fn := fun _ => fun
  | [d1, d2] => { results := [.lit (.bool false)], args := [d1, d2] }
  | _ => none }
def CodecLongWrongFalsely : Prop := codecLongRow.holds Tryd.pinned (OpenSpec.ofChange codecLongWrong)

/-- 'scrivenerlaw2.CodecRow': WHATEVER THE INPUT: true; the input reads as it did. -/
def codecRowSpec : ChangeSpec := { name := "codecRow", fn := fun _ => fun
  | [d1, d2, d3] => { results := [.lit (.bool true)], args := [d1, d2, d3] }
  | _ => none }
def codecRowRow : OpenClaim := { program := "ytfjflnlcjnhmmaadoor", sum := "999487f7eb136e9162dcbe6d5ab54dfdc17068cbca3f15de6a71e62c24f49943", func := "scrivener/scrivenerlaw2.CodecRow", spec := "codecRow", inPlace := ["internal/reflectlite.ValueOf", "(internal/reflectlite.Value).Type", "(internal/reflectlite.Value).IsNil", "internal/reflectlite.TypeOf", "(internal/reflectlite.Value).Elem", "(internal/reflectlite.Value).Set"], unfollowed := true, recurses := true, named := ["errors.errorType"], apart := false, laid := [("errors.errorType", laid_errors_errorType)] }
def CodecRowSaid : Prop := codecRowRow.holds Tryd.pinned (OpenSpec.ofChange codecRowSpec)

/-- ITS FALSE NEIGHBOUR: 'it returns false'. Refute it at one input. -/
def codecRowWrong : ChangeSpec := { name := "codecRow", fn := fun _ => fun
  | [d1, d2, d3] => { results := [.lit (.bool false)], args := [d1, d2, d3] }
  | _ => none }
def CodecRowWrongFalsely : Prop := codecRowRow.holds Tryd.pinned (OpenSpec.ofChange codecRowWrong)

/-- 'scrivenerlaw2.CodecWrites': WHATEVER THE INPUT: true; the input reads as it did. -/
def codecWritesSpec : ChangeSpec := { name := "codecWrites", fn := fun _ => fun
  | [d] => { results := [.lit (.bool true)], args := [d] }
  | _ => none }
def codecWritesRow : OpenClaim := { program := "ytfjflnlcjnhmmaadoor", sum := "999487f7eb136e9162dcbe6d5ab54dfdc17068cbca3f15de6a71e62c24f49943", func := "scrivener/scrivenerlaw2.CodecWrites", spec := "codecWrites", inPlace := ["internal/reflectlite.ValueOf", "(internal/reflectlite.Value).Type", "(internal/reflectlite.Value).IsNil", "internal/reflectlite.TypeOf", "(internal/reflectlite.Value).Elem", "(internal/reflectlite.Value).Set"], unfollowed := true, recurses := true, named := ["errors.errorType"], apart := false, laid := [("errors.errorType", laid_errors_errorType)] }
def CodecWritesSaid : Prop := codecWritesRow.holds Tryd.pinned (OpenSpec.ofChange codecWritesSpec)

/-- ITS FALSE NEIGHBOUR: 'it returns false'. Refute it at one input. -/
def codecWritesWrong : ChangeSpec := { name := "codecWrites", fn := fun _ => fun
  | [d] => { results := [.lit (.bool false)], args := [d] }
  | _ => none }
def CodecWritesWrongFalsely : Prop := codecWritesRow.holds Tryd.pinned (OpenSpec.ofChange codecWritesWrong)

/-- 'scrivenerlaw2.CodecAgain': WHATEVER THE INPUT: true; the input reads as it did. -/
def codecAgainSpec : ChangeSpec := { name := "codecAgain", fn := fun _ => fun
  | [d1, d2] => { results := [.lit (.bool true)], args := [d1, d2] }
  | _ => none }
def codecAgainRow : OpenClaim := { program := "ytfjflnlcjnhmmaadoor", sum := "999487f7eb136e9162dcbe6d5ab54dfdc17068cbca3f15de6a71e62c24f49943", func := "scrivener/scrivenerlaw2.CodecAgain", spec := "codecAgain", inPlace := ["internal/reflectlite.ValueOf", "(internal/reflectlite.Value).Type", "(internal/reflectlite.Value).IsNil", "internal/reflectlite.TypeOf", "(internal/reflectlite.Value).Elem", "(internal/reflectlite.Value).Set"], unfollowed := true, recurses := true, named := ["errors.errorType"], apart := false, laid := [("errors.errorType", laid_errors_errorType)] }
def CodecAgainSaid : Prop := codecAgainRow.holds Tryd.pinned (OpenSpec.ofChange codecAgainSpec)

/-- ITS FALSE NEIGHBOUR: 'it returns false'. Refute it at one input. -/
def codecAgainWrong : ChangeSpec := { name := "codecAgain", fn := fun _ => fun
  | [d1, d2] => { results := [.lit (.bool false)], args := [d1, d2] }
  | _ => none }
def CodecAgainWrongFalsely : Prop := codecAgainRow.holds Tryd.pinned (OpenSpec.ofChange codecAgainWrong)

/- THE SECOND FORM. 'bulk': how many values and letters a reading holds, each counted each time it is reached (what is shared counts as often as it is met; a slice's spare places count too). A statement '..UptoSaid' is the law's where the arguments, and the package variables that the reading takes, are together of bulk at most 1048576: NARROWER than '..Said'. Prove '..Said' where nothing that the law and all that it calls make is longer than what came in: it says more and counts as full. Else prove '..UptoSaid'. A law counts once. -/
mutual
def uptoBulk {H : Type} : DataW H → Nat
  | .lit (.string bytes) => bytes.length + 1
  | .lit _ => 1
  | .nil => 1
  | .ptr d => uptoBulk d + 1
  | .slice elems spare => uptoBulkAll elems + uptoBulkAll spare + 1
  | .agg parts => uptoBulkAll parts + 1
  | .iface _ d => uptoBulk d + 1
  | .map entries => uptoBulkEntries entries + 1
  | .held _ => 1
def uptoBulkAll {H : Type} : List (DataW H) → Nat
  | [] => 0
  | d :: r => uptoBulk d + uptoBulkAll r
def uptoBulkEntries {H : Type} : List (Lit × DataW H) → Nat
  | [] => 0
  | x :: r => uptoBulkEntry x + uptoBulkEntries r
def uptoBulkEntry {H : Type} : Lit × DataW H → Nat
  | (.string bytes, d) => bytes.length + uptoBulk d + 1
  | (_, d) => uptoBulk d + 1
 end
def uptoSmall : (H : Type) → List (DataW H) → Bool := fun _ ds => decide (uptoBulkAll ds ≤ 1048576)
def OpenSpec.upto (s : _root_.Go.ChangeSpec) : _root_.Go.OpenSpec := { _root_.Go.OpenSpec.ofChange s with cond := some uptoSmall }

/-- 'scrivenerlaw2.CodecFrames', WHERE WHAT IT READS IS OF BULK AT MOST 1048576: true; the input reads as it did. -/
def codecFramesUptoRow : OpenClaim := { program := "ytfjflnlcjnhmmaadoor", sum := "999487f7eb136e9162dcbe6d5ab54dfdc17068cbca3f15de6a71e62c24f49943", func := "scrivener/scrivenerlaw2.CodecFrames", spec := "codecFrames", inPlace := ["internal/reflectlite.ValueOf", "(internal/reflectlite.Value).Type", "(internal/reflectlite.Value).IsNil", "internal/reflectlite.TypeOf", "(internal/reflectlite.Value).Elem", "(internal/reflectlite.Value).Set"], unfollowed := true, recurses := true, named := ["errors.errorType"], apart := false, laid := [("errors.errorType", laid_errors_errorType)], narrowed := true }
def CodecFramesUptoSaid : Prop := codecFramesUptoRow.holds Tryd.pinned (OpenSpec.upto codecFramesSpec)

/-- 'scrivenerlaw2.CodecLong', WHERE WHAT IT READS IS OF BULK AT MOST 1048576: true; the input reads as it did. -/
def codecLongUptoRow : OpenClaim := { program := "ytfjflnlcjnhmmaadoor", sum := "999487f7eb136e9162dcbe6d5ab54dfdc17068cbca3f15de6a71e62c24f49943", func := "scrivener/scrivenerlaw2.CodecLong", spec := "codecLong", inPlace := ["internal/reflectlite.ValueOf", "(internal/reflectlite.Value).Type", "(internal/reflectlite.Value).IsNil", "internal/reflectlite.TypeOf", "(internal/reflectlite.Value).Elem", "(internal/reflectlite.Value).Set"], unfollowed := true, recurses := true, named := ["errors.errorType"], apart := false, laid := [("errors.errorType", laid_errors_errorType)], narrowed := true }
def CodecLongUptoSaid : Prop := codecLongUptoRow.holds Tryd.pinned (OpenSpec.upto codecLongSpec)

/-- 'scrivenerlaw2.CodecRow', WHERE WHAT IT READS IS OF BULK AT MOST 1048576: true; the input reads as it did. -/
def codecRowUptoRow : OpenClaim := { program := "ytfjflnlcjnhmmaadoor", sum := "999487f7eb136e9162dcbe6d5ab54dfdc17068cbca3f15de6a71e62c24f49943", func := "scrivener/scrivenerlaw2.CodecRow", spec := "codecRow", inPlace := ["internal/reflectlite.ValueOf", "(internal/reflectlite.Value).Type", "(internal/reflectlite.Value).IsNil", "internal/reflectlite.TypeOf", "(internal/reflectlite.Value).Elem", "(internal/reflectlite.Value).Set"], unfollowed := true, recurses := true, named := ["errors.errorType"], apart := false, laid := [("errors.errorType", laid_errors_errorType)], narrowed := true }
def CodecRowUptoSaid : Prop := codecRowUptoRow.holds Tryd.pinned (OpenSpec.upto codecRowSpec)

/-- 'scrivenerlaw2.CodecWrites', WHERE WHAT IT READS IS OF BULK AT MOST 1048576: true; the input reads as it did. -/
def codecWritesUptoRow : OpenClaim := { program := "ytfjflnlcjnhmmaadoor", sum := "999487f7eb136e9162dcbe6d5ab54dfdc17068cbca3f15de6a71e62c24f49943", func := "scrivener/scrivenerlaw2.CodecWrites", spec := "codecWrites", inPlace := ["internal/reflectlite.ValueOf", "(internal/reflectlite.Value).Type", "(internal/reflectlite.Value).IsNil", "internal/reflectlite.TypeOf", "(internal/reflectlite.Value).Elem", "(internal/reflectlite.Value).Set"], unfollowed := true, recurses := true, named := ["errors.errorType"], apart := false, laid := [("errors.errorType", laid_errors_errorType)], narrowed := true }
def CodecWritesUptoSaid : Prop := codecWritesUptoRow.holds Tryd.pinned (OpenSpec.upto codecWritesSpec)

/-- 'scrivenerlaw2.CodecAgain', WHERE WHAT IT READS IS OF BULK AT MOST 1048576: true; the input reads as it did. -/
def codecAgainUptoRow : OpenClaim := { program := "ytfjflnlcjnhmmaadoor", sum := "999487f7eb136e9162dcbe6d5ab54dfdc17068cbca3f15de6a71e62c24f49943", func := "scrivener/scrivenerlaw2.CodecAgain", spec := "codecAgain", inPlace := ["internal/reflectlite.ValueOf", "(internal/reflectlite.Value).Type", "(internal/reflectlite.Value).IsNil", "internal/reflectlite.TypeOf", "(internal/reflectlite.Value).Elem", "(internal/reflectlite.Value).Set"], unfollowed := true, recurses := true, named := ["errors.errorType"], apart := false, laid := [("errors.errorType", laid_errors_errorType)], narrowed := true }
def CodecAgainUptoSaid : Prop := codecAgainUptoRow.holds Tryd.pinned (OpenSpec.upto codecAgainSpec)

end Rows
end Go.Proofs.YtfjflnlcjnhmmaaDoor
