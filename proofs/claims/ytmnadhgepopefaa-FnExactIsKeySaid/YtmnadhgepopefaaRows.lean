/-
  NARROWER THAN 'FOR EVERY INPUT', by the rows' own cells (each row's printed sentence says how): FnExactIsFactor: loops · FnExactIsFrame: loops · FnExactRowsOf: loops · FnExactCompleteRows: loops · FnExactIsKey: loops.
  DERIVED. THE GIVEN ROWS OF THIS SEAT. 6 by the template 'for every input the law returns true; each argument reads behind the call as it read before'; 0 by the template 'total and deterministic' (their statements: YtmnadhgepopefaaTotals.lean).
  GIVEN WITH THE SEED: the statements are not yours to turn. If you find one false, say at which input.
  Laid BY PROGRAM, IN A SANDBOX (cutbox-rows.mjs): the forced cells as the released guide's own fill.sh prints them over the translation 010a9546ff4b4a17… (all of the seat's roots in one cut). By AI agents, Wed Nov 11 2026. No macro, syntax, notation, axiom, sorry.
-/
import Derived.Test.YtmnadhgepopefaaChecked
import GoSem.Claim
import GoSem.ClaimJoined
import GoSem.ClaimMapViews
import Derived.JoinedTies
import Derived.KernelRfl
namespace Go.Proofs.Ytmnadhgepopefaa
/- THE CELL 'sum', in the pinned program and in every row, IS THE sha256 OF THE DUMP (.gsa) THAT YtmnadhgepopefaaProg.lean LOADS. Nothing in Lean hashes anything: it is a label: what it is worth is what the hold of that sum in a sandbox is worth. -/
noncomputable def Try.pinned : Pinned := { name := "ytmnadhgepopefaa", sum := "010a9546ff4b4a17056b643c2e6b12d9b0555674f3a1afac67bd741a29e14357", checked := Try.checked }
namespace Rows
def none {H : Type} : Left H := { results := [], args := [] }

/-- 'laws.FnExactIsMatrix': WHATEVER THE INPUT: true; the input reads as it did. -/
def fnExactIsMatrixSpec : ChangeSpec := { name := "fnExactIsMatrix", fn := fun _ => fun
  | [d] => { results := [.lit (.bool true)], args := [d] }
  | _ => none }
def fnExactIsMatrixRow : OpenClaim := { program := "ytmnadhgepopefaa", sum := "010a9546ff4b4a17056b643c2e6b12d9b0555674f3a1afac67bd741a29e14357", func := "loop.example/g03406/laws.FnExactIsMatrix", spec := "fnExactIsMatrix", apart := false }
def FnExactIsMatrixSaid : Prop := fnExactIsMatrixRow.holds Try.pinned (OpenSpec.ofChange fnExactIsMatrixSpec)

/-- ITS FALSE NEIGHBOUR: 'it returns false'. Refute it at one input. -/
def fnExactIsMatrixWrong : ChangeSpec := { name := "fnExactIsMatrix", fn := fun _ => fun
  | [d] => { results := [.lit (.bool false)], args := [d] }
  | _ => none }
def FnExactIsMatrixWrongFalsely : Prop := fnExactIsMatrixRow.holds Try.pinned (OpenSpec.ofChange fnExactIsMatrixWrong)

/-- 'laws.FnExactIsFactor': WHATEVER THE INPUT: true; the input reads as it did. -/
def fnExactIsFactorSpec : ChangeSpec := { name := "fnExactIsFactor", fn := fun _ => fun
  | [d] => { results := [.lit (.bool true)], args := [d] }
  | _ => none }
def fnExactIsFactorRow : OpenClaim := { program := "ytmnadhgepopefaa", sum := "010a9546ff4b4a17056b643c2e6b12d9b0555674f3a1afac67bd741a29e14357", func := "loop.example/g03406/laws.FnExactIsFactor", spec := "fnExactIsFactor", recurses := true, loops := true, apart := false }
def FnExactIsFactorSaid : Prop := fnExactIsFactorRow.holds Try.pinned (OpenSpec.ofChange fnExactIsFactorSpec)

/-- ITS FALSE NEIGHBOUR: 'it returns false'. Refute it at one input. -/
def fnExactIsFactorWrong : ChangeSpec := { name := "fnExactIsFactor", fn := fun _ => fun
  | [d] => { results := [.lit (.bool false)], args := [d] }
  | _ => none }
def FnExactIsFactorWrongFalsely : Prop := fnExactIsFactorRow.holds Try.pinned (OpenSpec.ofChange fnExactIsFactorWrong)

/-- 'laws.FnExactIsFrame': WHATEVER THE INPUT: true; the input reads as it did. -/
def fnExactIsFrameSpec : ChangeSpec := { name := "fnExactIsFrame", fn := fun _ => fun
  | [d] => { results := [.lit (.bool true)], args := [d] }
  | _ => none }
def fnExactIsFrameRow : OpenClaim := { program := "ytmnadhgepopefaa", sum := "010a9546ff4b4a17056b643c2e6b12d9b0555674f3a1afac67bd741a29e14357", func := "loop.example/g03406/laws.FnExactIsFrame", spec := "fnExactIsFrame", recurses := true, loops := true, apart := false }
def FnExactIsFrameSaid : Prop := fnExactIsFrameRow.holds Try.pinned (OpenSpec.ofChange fnExactIsFrameSpec)

/-- ITS FALSE NEIGHBOUR: 'it returns false'. Refute it at one input. -/
def fnExactIsFrameWrong : ChangeSpec := { name := "fnExactIsFrame", fn := fun _ => fun
  | [d] => { results := [.lit (.bool false)], args := [d] }
  | _ => none }
def FnExactIsFrameWrongFalsely : Prop := fnExactIsFrameRow.holds Try.pinned (OpenSpec.ofChange fnExactIsFrameWrong)

/-- 'laws.FnExactRowsOf': WHATEVER THE INPUT: true; the input reads as it did. -/
def fnExactRowsOfSpec : ChangeSpec := { name := "fnExactRowsOf", fn := fun _ => fun
  | [d] => { results := [.lit (.bool true)], args := [d] }
  | _ => none }
def fnExactRowsOfRow : OpenClaim := { program := "ytmnadhgepopefaa", sum := "010a9546ff4b4a17056b643c2e6b12d9b0555674f3a1afac67bd741a29e14357", func := "loop.example/g03406/laws.FnExactRowsOf", spec := "fnExactRowsOf", recurses := true, loops := true, apart := false }
def FnExactRowsOfSaid : Prop := fnExactRowsOfRow.holds Try.pinned (OpenSpec.ofChange fnExactRowsOfSpec)

/-- ITS FALSE NEIGHBOUR: 'it returns false'. Refute it at one input. -/
def fnExactRowsOfWrong : ChangeSpec := { name := "fnExactRowsOf", fn := fun _ => fun
  | [d] => { results := [.lit (.bool false)], args := [d] }
  | _ => none }
def FnExactRowsOfWrongFalsely : Prop := fnExactRowsOfRow.holds Try.pinned (OpenSpec.ofChange fnExactRowsOfWrong)

/-- 'laws.FnExactCompleteRows': WHATEVER THE INPUT: true; the input reads as it did. -/
def fnExactCompleteRowsSpec : ChangeSpec := { name := "fnExactCompleteRows", fn := fun _ => fun
  | [d] => { results := [.lit (.bool true)], args := [d] }
  | _ => none }
def fnExactCompleteRowsRow : OpenClaim := { program := "ytmnadhgepopefaa", sum := "010a9546ff4b4a17056b643c2e6b12d9b0555674f3a1afac67bd741a29e14357", func := "loop.example/g03406/laws.FnExactCompleteRows", spec := "fnExactCompleteRows", recurses := true, loops := true, apart := false }
def FnExactCompleteRowsSaid : Prop := fnExactCompleteRowsRow.holds Try.pinned (OpenSpec.ofChange fnExactCompleteRowsSpec)

/-- ITS FALSE NEIGHBOUR: 'it returns false'. Refute it at one input. -/
def fnExactCompleteRowsWrong : ChangeSpec := { name := "fnExactCompleteRows", fn := fun _ => fun
  | [d] => { results := [.lit (.bool false)], args := [d] }
  | _ => none }
def FnExactCompleteRowsWrongFalsely : Prop := fnExactCompleteRowsRow.holds Try.pinned (OpenSpec.ofChange fnExactCompleteRowsWrong)

/-- 'laws.FnExactIsKey': WHATEVER THE INPUT: true; the input reads as it did. -/
def fnExactIsKeySpec : ChangeSpec := { name := "fnExactIsKey", fn := fun _ => fun
  | [d1, d2] => { results := [.lit (.bool true)], args := [d1, d2] }
  | _ => none }
def fnExactIsKeyRow : OpenClaim := { program := "ytmnadhgepopefaa", sum := "010a9546ff4b4a17056b643c2e6b12d9b0555674f3a1afac67bd741a29e14357", func := "loop.example/g03406/laws.FnExactIsKey", spec := "fnExactIsKey", recurses := true, loops := true, apart := false }
def FnExactIsKeySaid : Prop := fnExactIsKeyRow.holds Try.pinned (OpenSpec.ofChange fnExactIsKeySpec)

/-- ITS FALSE NEIGHBOUR: 'it returns false'. Refute it at one input. -/
def fnExactIsKeyWrong : ChangeSpec := { name := "fnExactIsKey", fn := fun _ => fun
  | [d1, d2] => { results := [.lit (.bool false)], args := [d1, d2] }
  | _ => none }
def FnExactIsKeyWrongFalsely : Prop := fnExactIsKeyRow.holds Try.pinned (OpenSpec.ofChange fnExactIsKeyWrong)

/- THE SECOND FORM. 'bulk': how many values and letters a reading holds, each counted each time it is reached (what is shared counts as often as it is met; a slice's spare places count too). A statement '..UptoSaid' is the law's where the arguments, and the package variables that the reading takes, are together of bulk at most 1048576: NARROWER than '..Said'. Prove '..Said' where nothing that the law and all that it calls make is longer than what came in: it says more and counts as full. Else prove '..UptoSaid'. A law counts once. -/
mutual
def uptoBulk {H : Type} : DataW H → Nat
  | .lit (.string bytes) => bytes.length + 1
  | .lit _ => 1
  | .nil => 1
  | .ptr d => uptoBulk d + 1
  | .slice elems spare => uptoBulkAll elems + uptoBulkAll spare + 1
  | .agg parts => uptoBulkAll parts + 1
  | .iface _ d => uptoBulk d + 1
  | .map entries => uptoBulkEntries entries + 1
  | .held _ => 1
def uptoBulkAll {H : Type} : List (DataW H) → Nat
  | [] => 0
  | d :: r => uptoBulk d + uptoBulkAll r
def uptoBulkEntries {H : Type} : List (Lit × DataW H) → Nat
  | [] => 0
  | x :: r => uptoBulkEntry x + uptoBulkEntries r
def uptoBulkEntry {H : Type} : Lit × DataW H → Nat
  | (.string bytes, d) => bytes.length + uptoBulk d + 1
  | (_, d) => uptoBulk d + 1
 end
def uptoSmall : (H : Type) → List (DataW H) → Bool := fun _ ds => decide (uptoBulkAll ds ≤ 1048576)
def OpenSpec.upto (s : _root_.Go.ChangeSpec) : _root_.Go.OpenSpec := { _root_.Go.OpenSpec.ofChange s with cond := some uptoSmall }

/-- 'laws.FnExactIsMatrix', WHERE WHAT IT READS IS OF BULK AT MOST 1048576: true; the input reads as it did. -/
def fnExactIsMatrixUptoRow : OpenClaim := { program := "ytmnadhgepopefaa", sum := "010a9546ff4b4a17056b643c2e6b12d9b0555674f3a1afac67bd741a29e14357", func := "loop.example/g03406/laws.FnExactIsMatrix", spec := "fnExactIsMatrix", apart := false, narrowed := true }
def FnExactIsMatrixUptoSaid : Prop := fnExactIsMatrixUptoRow.holds Try.pinned (OpenSpec.upto fnExactIsMatrixSpec)

/-- 'laws.FnExactIsFactor', WHERE WHAT IT READS IS OF BULK AT MOST 1048576: true; the input reads as it did. -/
def fnExactIsFactorUptoRow : OpenClaim := { program := "ytmnadhgepopefaa", sum := "010a9546ff4b4a17056b643c2e6b12d9b0555674f3a1afac67bd741a29e14357", func := "loop.example/g03406/laws.FnExactIsFactor", spec := "fnExactIsFactor", recurses := true, loops := true, apart := false, narrowed := true }
def FnExactIsFactorUptoSaid : Prop := fnExactIsFactorUptoRow.holds Try.pinned (OpenSpec.upto fnExactIsFactorSpec)

/-- 'laws.FnExactIsFrame', WHERE WHAT IT READS IS OF BULK AT MOST 1048576: true; the input reads as it did. -/
def fnExactIsFrameUptoRow : OpenClaim := { program := "ytmnadhgepopefaa", sum := "010a9546ff4b4a17056b643c2e6b12d9b0555674f3a1afac67bd741a29e14357", func := "loop.example/g03406/laws.FnExactIsFrame", spec := "fnExactIsFrame", recurses := true, loops := true, apart := false, narrowed := true }
def FnExactIsFrameUptoSaid : Prop := fnExactIsFrameUptoRow.holds Try.pinned (OpenSpec.upto fnExactIsFrameSpec)

/-- 'laws.FnExactRowsOf', WHERE WHAT IT READS IS OF BULK AT MOST 1048576: true; the input reads as it did. -/
def fnExactRowsOfUptoRow : OpenClaim := { program := "ytmnadhgepopefaa", sum := "010a9546ff4b4a17056b643c2e6b12d9b0555674f3a1afac67bd741a29e14357", func := "loop.example/g03406/laws.FnExactRowsOf", spec := "fnExactRowsOf", recurses := true, loops := true, apart := false, narrowed := true }
def FnExactRowsOfUptoSaid : Prop := fnExactRowsOfUptoRow.holds Try.pinned (OpenSpec.upto fnExactRowsOfSpec)

/-- 'laws.FnExactCompleteRows', WHERE WHAT IT READS IS OF BULK AT MOST 1048576: true; the input reads as it did. -/
def fnExactCompleteRowsUptoRow : OpenClaim := { program := "ytmnadhgepopefaa", sum := "010a9546ff4b4a17056b643c2e6b12d9b0555674f3a1afac67bd741a29e14357", func := "loop.example/g03406/laws.FnExactCompleteRows", spec := "fnExactCompleteRows", recurses := true, loops := true, apart := false, narrowed := true }
def FnExactCompleteRowsUptoSaid : Prop := fnExactCompleteRowsUptoRow.holds Try.pinned (OpenSpec.upto fnExactCompleteRowsSpec)

/-- 'laws.FnExactIsKey', WHERE WHAT IT READS IS OF BULK AT MOST 1048576: true; the input reads as it did. -/
def fnExactIsKeyUptoRow : OpenClaim := { program := "ytmnadhgepopefaa", sum := "010a9546ff4b4a17056b643c2e6b12d9b0555674f3a1afac67bd741a29e14357", func := "loop.example/g03406/laws.FnExactIsKey", spec := "fnExactIsKey", recurses := true, loops := true, apart := false, narrowed := true }
def FnExactIsKeyUptoSaid : Prop := fnExactIsKeyUptoRow.holds Try.pinned (OpenSpec.upto fnExactIsKeySpec)

end Rows
end Go.Proofs.Ytmnadhgepopefaa
