/-
  NARROWER THAN 'FOR EVERY INPUT', by the rows' own cells (each row's printed sentence says how): MessageEncodes: loops, laid · MessageDecodes: laid · MessageReplies: loops, laid · MessageAnswers: laid.
  DERIVED. THE GIVEN ROWS OF THIS SEAT. 4 by the template 'for every input the law returns true; each argument reads behind the call as it read before'; 0 by the template 'total and deterministic' (their statements: YtpccaodkgboefaaGreatDoorTotals.lean).
  GIVEN WITH THE SEED: the statements are not yours to turn. If you find one false, say at which input.
  Laid BY PROGRAM, IN A SANDBOX (cutbox-rows.mjs): the forced cells as the released guide's own fill.sh prints them over the translation 4fa7f3bc42ac5a58… (all of the seat's roots in one cut). By AI agents, Wed Nov 11 2026. No macro, syntax, notation, axiom, sorry.
-/
import Derived.Test.YtpccaodkgboefaaGreatDoorChecked
import GoSem.Claim
import GoSem.ClaimJoined
import GoSem.ClaimMapViews
import Derived.JoinedTies
import Derived.KernelRfl
namespace Go.Proofs.YtpccaodkgboefaaGreatDoor
/- THE CELL 'sum', in the pinned program and in every row, IS THE sha256 OF THE DUMP (.gsa) THAT YtpccaodkgboefaaGreatDoorProg.lean LOADS. Nothing in Lean hashes anything: it is a label: what it is worth is what the hold of that sum in a sandbox is worth. -/
noncomputable def Tryz.pinned : Pinned := { name := "ytpccaodkgboefaagreatdoor", sum := "4fa7f3bc42ac5a581c6f8a445c6a922a3a0502eff47c63f937bd09a55b85d073", checked := Tryz.checked }
namespace Rows
def none {H : Type} : Left H := { results := [], args := [] }

/- WHAT THE LISTED PACKAGE-LEVEL VARIABLES READ AS WHEN THE CALL BEGINS. Each datum BY PROGRAM (the guide's laid-datum.mjs) off the statement by which the dump's own 'gosem.cut.vars' lays the variable. In a bare row this is a premise. The card (YtpccaodkgboefaaGreatDoorCards.lean) ties it to the program's text. -/
def laid_errors_errorType {H : Type} : DataW H := .iface "internal/reflectlite.rtype" (.agg [.ptr (.lit (.string [101, 114, 114, 111, 114]))])

/-- 'scrivenerlaw17.MessageEncodes': WHATEVER THE INPUT: true; the input reads as it did. -/
def messageEncodesSpec : ChangeSpec := { name := "messageEncodes", fn := fun _ => fun
  | [d] => { results := [.lit (.bool true)], args := [d] }
  | _ => none }
def messageEncodesRow : OpenClaim := { program := "ytpccaodkgboefaagreatdoor", sum := "4fa7f3bc42ac5a581c6f8a445c6a922a3a0502eff47c63f937bd09a55b85d073", func := "scrivener/scrivenerlaw17.MessageEncodes", spec := "messageEncodes", inPlace := ["internal/reflectlite.ValueOf", "(internal/reflectlite.Value).Type", "(internal/reflectlite.Value).IsNil", "internal/reflectlite.TypeOf", "(internal/reflectlite.Value).Elem", "(internal/reflectlite.Value).Set"], unfollowed := true, recurses := true, named := ["errors.errorType"], loops := true, apart := false, laid := [("errors.errorType", laid_errors_errorType)] }
def MessageEncodesSaid : Prop := messageEncodesRow.holds Tryz.pinned (OpenSpec.ofChange messageEncodesSpec)

/-- ITS FALSE NEIGHBOUR: 'it returns false'. Refute it at one input. -/
def messageEncodesWrong : ChangeSpec := { name := "messageEncodes", fn := fun _ => fun
  | [d] => { results := [.lit (.bool false)], args := [d] }
  | _ => none }
def MessageEncodesWrongFalsely : Prop := messageEncodesRow.holds Tryz.pinned (OpenSpec.ofChange messageEncodesWrong)

/-- 'scrivenerlaw17.MessageDecodes': WHATEVER THE INPUT: true; the input reads as it did. -/
def messageDecodesSpec : ChangeSpec := { name := "messageDecodes", fn := fun _ => fun
  | [d1, d2] => { results := [.lit (.bool true)], args := [d1, d2] }
  | _ => none }
def messageDecodesRow : OpenClaim := { program := "ytpccaodkgboefaagreatdoor", sum := "4fa7f3bc42ac5a581c6f8a445c6a922a3a0502eff47c63f937bd09a55b85d073", func := "scrivener/scrivenerlaw17.MessageDecodes", spec := "messageDecodes", inPlace := ["internal/reflectlite.ValueOf", "(internal/reflectlite.Value).Type", "(internal/reflectlite.Value).IsNil", "internal/reflectlite.TypeOf", "(internal/reflectlite.Value).Elem", "(internal/reflectlite.Value).Set"], unfollowed := true, recurses := true, named := ["errors.errorType"], apart := false, laid := [("errors.errorType", laid_errors_errorType)] }
def MessageDecodesSaid : Prop := messageDecodesRow.holds Tryz.pinned (OpenSpec.ofChange messageDecodesSpec)

/-- ITS FALSE NEIGHBOUR: 'it returns false'. Refute it at one input. -/
def messageDecodesWrong : ChangeSpec := { name := "messageDecodes", fn := fun _ => fun
  | [d1, d2] => { results := [.lit (.bool false)], args := [d1, d2] }
  | _ => none }
def MessageDecodesWrongFalsely : Prop := messageDecodesRow.holds Tryz.pinned (OpenSpec.ofChange messageDecodesWrong)

/-- 'scrivenerlaw17.MessageReplies': WHATEVER THE INPUT: true; the input reads as it did. -/
def messageRepliesSpec : ChangeSpec := { name := "messageReplies", fn := fun _ => fun
  | [d1, d2] => { results := [.lit (.bool true)], args := [d1, d2] }
  | _ => none }
def messageRepliesRow : OpenClaim := { program := "ytpccaodkgboefaagreatdoor", sum := "4fa7f3bc42ac5a581c6f8a445c6a922a3a0502eff47c63f937bd09a55b85d073", func := "scrivener/scrivenerlaw17.MessageReplies", spec := "messageReplies", inPlace := ["internal/reflectlite.ValueOf", "(internal/reflectlite.Value).Type", "(internal/reflectlite.Value).IsNil", "internal/reflectlite.TypeOf", "(internal/reflectlite.Value).Elem", "(internal/reflectlite.Value).Set"], unfollowed := true, recurses := true, named := ["errors.errorType"], loops := true, apart := false, laid := [("errors.errorType", laid_errors_errorType)] }
def MessageRepliesSaid : Prop := messageRepliesRow.holds Tryz.pinned (OpenSpec.ofChange messageRepliesSpec)

/-- ITS FALSE NEIGHBOUR: 'it returns false'. Refute it at one input. -/
def messageRepliesWrong : ChangeSpec := { name := "messageReplies", fn := fun _ => fun
  | [d1, d2] => { results := [.lit (.bool false)], args := [d1, d2] }
  | _ => none }
def MessageRepliesWrongFalsely : Prop := messageRepliesRow.holds Tryz.pinned (OpenSpec.ofChange messageRepliesWrong)

/-- 'scrivenerlaw17.MessageAnswers': WHATEVER THE INPUT: true; the input reads as it did. -/
def messageAnswersSpec : ChangeSpec := { name := "messageAnswers", fn := fun _ => fun
  | [d1, d2, d3] => { results := [.lit (.bool true)], args := [d1, d2, d3] }
  | _ => none }
def messageAnswersRow : OpenClaim := { program := "ytpccaodkgboefaagreatdoor", sum := "4fa7f3bc42ac5a581c6f8a445c6a922a3a0502eff47c63f937bd09a55b85d073", func := "scrivener/scrivenerlaw17.MessageAnswers", spec := "messageAnswers", inPlace := ["internal/reflectlite.ValueOf", "(internal/reflectlite.Value).Type", "(internal/reflectlite.Value).IsNil", "internal/reflectlite.TypeOf", "(internal/reflectlite.Value).Elem", "(internal/reflectlite.Value).Set"], unfollowed := true, recurses := true, named := ["errors.errorType"], apart := false, laid := [("errors.errorType", laid_errors_errorType)] }
def MessageAnswersSaid : Prop := messageAnswersRow.holds Tryz.pinned (OpenSpec.ofChange messageAnswersSpec)

/-- ITS FALSE NEIGHBOUR: 'it returns false'. Refute it at one input. -/
def messageAnswersWrong : ChangeSpec := { name := "messageAnswers", fn := fun _ => fun
  | [d1, d2, d3] => { results := [.lit (.bool false)], args := [d1, d2, d3] }
  | _ => none }
def MessageAnswersWrongFalsely : Prop := messageAnswersRow.holds Tryz.pinned (OpenSpec.ofChange messageAnswersWrong)

/- THE SECOND FORM. 'bulk': how many values and letters a reading holds, each counted each time it is reached (what is shared counts as often as it is met; a slice's spare places count too). A statement '..UptoSaid' is the law's where the arguments, and the package variables that the reading takes, are together of bulk at most 1048576: NARROWER than '..Said'. Prove '..Said' where nothing that the law and all that it calls make is longer than what came in: it says more and counts as full. Else prove '..UptoSaid'. A law counts once. -/
mutual
def uptoBulk {H : Type} : DataW H → Nat
  | .lit (.string bytes) => bytes.length + 1
  | .lit _ => 1
  | .nil => 1
  | .ptr d => uptoBulk d + 1
  | .slice elems spare => uptoBulkAll elems + uptoBulkAll spare + 1
  | .agg parts => uptoBulkAll parts + 1
  | .iface _ d => uptoBulk d + 1
  | .map entries => uptoBulkEntries entries + 1
  | .held _ => 1
def uptoBulkAll {H : Type} : List (DataW H) → Nat
  | [] => 0
  | d :: r => uptoBulk d + uptoBulkAll r
def uptoBulkEntries {H : Type} : List (Lit × DataW H) → Nat
  | [] => 0
  | x :: r => uptoBulkEntry x + uptoBulkEntries r
def uptoBulkEntry {H : Type} : Lit × DataW H → Nat
  | (.string bytes, d) => bytes.length + uptoBulk d + 1
  | (_, d) => uptoBulk d + 1
 end
def uptoSmall : (H : Type) → List (DataW H) → Bool := fun _ ds => decide (uptoBulkAll ds ≤ 1048576)
def OpenSpec.upto (s : _root_.Go.ChangeSpec) : _root_.Go.OpenSpec := { _root_.Go.OpenSpec.ofChange s with cond := some uptoSmall }

/-- 'scrivenerlaw17.MessageEncodes', WHERE WHAT IT READS IS OF BULK AT MOST 1048576: true; the input reads as it did. -/
def messageEncodesUptoRow : OpenClaim := { program := "ytpccaodkgboefaagreatdoor", sum := "4fa7f3bc42ac5a581c6f8a445c6a922a3a0502eff47c63f937bd09a55b85d073", func := "scrivener/scrivenerlaw17.MessageEncodes", spec := "messageEncodes", inPlace := ["internal/reflectlite.ValueOf", "(internal/reflectlite.Value).Type", "(internal/reflectlite.Value).IsNil", "internal/reflectlite.TypeOf", "(internal/reflectlite.Value).Elem", "(internal/reflectlite.Value).Set"], unfollowed := true, recurses := true, named := ["errors.errorType"], loops := true, apart := false, laid := [("errors.errorType", laid_errors_errorType)], narrowed := true }
def MessageEncodesUptoSaid : Prop := messageEncodesUptoRow.holds Tryz.pinned (OpenSpec.upto messageEncodesSpec)

/-- 'scrivenerlaw17.MessageDecodes', WHERE WHAT IT READS IS OF BULK AT MOST 1048576: true; the input reads as it did. -/
def messageDecodesUptoRow : OpenClaim := { program := "ytpccaodkgboefaagreatdoor", sum := "4fa7f3bc42ac5a581c6f8a445c6a922a3a0502eff47c63f937bd09a55b85d073", func := "scrivener/scrivenerlaw17.MessageDecodes", spec := "messageDecodes", inPlace := ["internal/reflectlite.ValueOf", "(internal/reflectlite.Value).Type", "(internal/reflectlite.Value).IsNil", "internal/reflectlite.TypeOf", "(internal/reflectlite.Value).Elem", "(internal/reflectlite.Value).Set"], unfollowed := true, recurses := true, named := ["errors.errorType"], apart := false, laid := [("errors.errorType", laid_errors_errorType)], narrowed := true }
def MessageDecodesUptoSaid : Prop := messageDecodesUptoRow.holds Tryz.pinned (OpenSpec.upto messageDecodesSpec)

/-- 'scrivenerlaw17.MessageReplies', WHERE WHAT IT READS IS OF BULK AT MOST 1048576: true; the input reads as it did. -/
def messageRepliesUptoRow : OpenClaim := { program := "ytpccaodkgboefaagreatdoor", sum := "4fa7f3bc42ac5a581c6f8a445c6a922a3a0502eff47c63f937bd09a55b85d073", func := "scrivener/scrivenerlaw17.MessageReplies", spec := "messageReplies", inPlace := ["internal/reflectlite.ValueOf", "(internal/reflectlite.Value).Type", "(internal/reflectlite.Value).IsNil", "internal/reflectlite.TypeOf", "(internal/reflectlite.Value).Elem", "(internal/reflectlite.Value).Set"], unfollowed := true, recurses := true, named := ["errors.errorType"], loops := true, apart := false, laid := [("errors.errorType", laid_errors_errorType)], narrowed := true }
def MessageRepliesUptoSaid : Prop := messageRepliesUptoRow.holds Tryz.pinned (OpenSpec.upto messageRepliesSpec)

/-- 'scrivenerlaw17.MessageAnswers', WHERE WHAT IT READS IS OF BULK AT MOST 1048576: true; the input reads as it did. -/
def messageAnswersUptoRow : OpenClaim := { program := "ytpccaodkgboefaagreatdoor", sum := "4fa7f3bc42ac5a581c6f8a445c6a922a3a0502eff47c63f937bd09a55b85d073", func := "scrivener/scrivenerlaw17.MessageAnswers", spec := "messageAnswers", inPlace := ["internal/reflectlite.ValueOf", "(internal/reflectlite.Value).Type", "(internal/reflectlite.Value).IsNil", "internal/reflectlite.TypeOf", "(internal/reflectlite.Value).Elem", "(internal/reflectlite.Value).Set"], unfollowed := true, recurses := true, named := ["errors.errorType"], apart := false, laid := [("errors.errorType", laid_errors_errorType)], narrowed := true }
def MessageAnswersUptoSaid : Prop := messageAnswersUptoRow.holds Tryz.pinned (OpenSpec.upto messageAnswersSpec)

end Rows
end Go.Proofs.YtpccaodkgboefaaGreatDoor
