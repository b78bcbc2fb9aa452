/-
  No cell of these rows narrows 'for every input' (looked for: loops, veiled, ifaces, maps, wideKeys, modest, calm, conditions, laid).
  DERIVED. THE GIVEN ROWS OF THIS SEAT. 2 by the template 'for every input the law returns true; each argument reads behind the call as it read before'; 0 by the template 'total and deterministic' (their statements: YtckhmpcmlochpaaGreatTotals.lean).
  GIVEN WITH THE SEED: the statements are not yours to turn. If you find one false, say at which input.
  Laid BY PROGRAM, IN A SANDBOX (cutbox-rows.mjs): the forced cells as the released guide's own fill.sh prints them over the translation 523875e8595e67c9… (all of the seat's roots in one cut). By AI agents, Wed Nov 11 2026. No macro, syntax, notation, axiom, sorry.
-/
import Derived.Test.YtckhmpcmlochpaaGreatChecked
import GoSem.Claim
import GoSem.ClaimJoined
import GoSem.ClaimMapViews
import Derived.JoinedTies
import Derived.KernelRfl
namespace Go.Proofs.YtckhmpcmlochpaaGreat
/- THE CELL 'sum', in the pinned program and in every row, IS THE sha256 OF THE DUMP (.gsa) THAT YtckhmpcmlochpaaGreatProg.lean LOADS. Nothing in Lean hashes anything: it is a label: what it is worth is what the hold of that sum in a sandbox is worth. -/
noncomputable def Tryz.pinned : Pinned := { name := "ytckhmpcmlochpaagreat", sum := "523875e8595e67c958650c7123fcd8b6a4d25aa474ba13f388f89a8e3e657bf0", checked := Tryz.checked }
namespace Rows
def none {H : Type} : Left H := { results := [], args := [] }

/-- 'stooklaw09.EvalPlays': WHATEVER THE INPUT: true; the input reads as it did. -/
def evalPlaysSpec : ChangeSpec := { name := "evalPlays", fn := fun _ => fun
  | [d1, d2, d3] => { results := [.lit (.bool true)], args := [d1, d2, d3] }
  | _ => none }
def evalPlaysRow : OpenClaim := { program := "ytckhmpcmlochpaagreat", sum := "523875e8595e67c958650c7123fcd8b6a4d25aa474ba13f388f89a8e3e657bf0", func := "stook/stooklaw09.EvalPlays", spec := "evalPlays", inPlace := ["internal/bytealg.IndexByteString", "internal/bytealg.abigen_runtime_cmpstring", "internal/abi.NoEscape"], unfollowed := true, recurses := true, apart := false }
def EvalPlaysSaid : Prop := evalPlaysRow.holds Tryz.pinned (OpenSpec.ofChange evalPlaysSpec)

/-- ITS FALSE NEIGHBOUR: 'it returns false'. Refute it at one input. -/
def evalPlaysWrong : ChangeSpec := { name := "evalPlays", fn := fun _ => fun
  | [d1, d2, d3] => { results := [.lit (.bool false)], args := [d1, d2, d3] }
  | _ => none }
def EvalPlaysWrongFalsely : Prop := evalPlaysRow.holds Tryz.pinned (OpenSpec.ofChange evalPlaysWrong)

/-- 'stooklaw09.EvalSteps': WHATEVER THE INPUT: true; the input reads as it did. -/
def evalStepsSpec : ChangeSpec := { name := "evalSteps", fn := fun _ => fun
  | [d1, d2] => { results := [.lit (.bool true)], args := [d1, d2] }
  | _ => none }
def evalStepsRow : OpenClaim := { program := "ytckhmpcmlochpaagreat", sum := "523875e8595e67c958650c7123fcd8b6a4d25aa474ba13f388f89a8e3e657bf0", func := "stook/stooklaw09.EvalSteps", spec := "evalSteps", inPlace := ["internal/bytealg.IndexByteString", "internal/bytealg.abigen_runtime_cmpstring", "internal/abi.NoEscape"], unfollowed := true, recurses := true, apart := false }
def EvalStepsSaid : Prop := evalStepsRow.holds Tryz.pinned (OpenSpec.ofChange evalStepsSpec)

/-- ITS FALSE NEIGHBOUR: 'it returns false'. Refute it at one input. -/
def evalStepsWrong : ChangeSpec := { name := "evalSteps", fn := fun _ => fun
  | [d1, d2] => { results := [.lit (.bool false)], args := [d1, d2] }
  | _ => none }
def EvalStepsWrongFalsely : Prop := evalStepsRow.holds Tryz.pinned (OpenSpec.ofChange evalStepsWrong)

/- THE SECOND FORM. 'bulk': how many values and letters a reading holds, each counted each time it is reached (what is shared counts as often as it is met; a slice's spare places count too). A statement '..UptoSaid' is the law's where the arguments, and the package variables that the reading takes, are together of bulk at most 1048576: NARROWER than '..Said'. Prove '..Said' where nothing that the law and all that it calls make is longer than what came in: it says more and counts as full. Else prove '..UptoSaid'. A law counts once. -/
mutual
def uptoBulk {H : Type} : DataW H → Nat
  | .lit (.string bytes) => bytes.length + 1
  | .lit _ => 1
  | .nil => 1
  | .ptr d => uptoBulk d + 1
  | .slice elems spare => uptoBulkAll elems + uptoBulkAll spare + 1
  | .agg parts => uptoBulkAll parts + 1
  | .iface _ d => uptoBulk d + 1
  | .map entries => uptoBulkEntries entries + 1
  | .held _ => 1
def uptoBulkAll {H : Type} : List (DataW H) → Nat
  | [] => 0
  | d :: r => uptoBulk d + uptoBulkAll r
def uptoBulkEntries {H : Type} : List (Lit × DataW H) → Nat
  | [] => 0
  | x :: r => uptoBulkEntry x + uptoBulkEntries r
def uptoBulkEntry {H : Type} : Lit × DataW H → Nat
  | (.string bytes, d) => bytes.length + uptoBulk d + 1
  | (_, d) => uptoBulk d + 1
 end
def uptoSmall : (H : Type) → List (DataW H) → Bool := fun _ ds => decide (uptoBulkAll ds ≤ 1048576)
def OpenSpec.upto (s : _root_.Go.ChangeSpec) : _root_.Go.OpenSpec := { _root_.Go.OpenSpec.ofChange s with cond := some uptoSmall }

/-- 'stooklaw09.EvalPlays', WHERE WHAT IT READS IS OF BULK AT MOST 1048576: true; the input reads as it did. -/
def evalPlaysUptoRow : OpenClaim := { program := "ytckhmpcmlochpaagreat", sum := "523875e8595e67c958650c7123fcd8b6a4d25aa474ba13f388f89a8e3e657bf0", func := "stook/stooklaw09.EvalPlays", spec := "evalPlays", inPlace := ["internal/bytealg.IndexByteString", "internal/bytealg.abigen_runtime_cmpstring", "internal/abi.NoEscape"], unfollowed := true, recurses := true, apart := false, narrowed := true }
def EvalPlaysUptoSaid : Prop := evalPlaysUptoRow.holds Tryz.pinned (OpenSpec.upto evalPlaysSpec)

/-- 'stooklaw09.EvalSteps', WHERE WHAT IT READS IS OF BULK AT MOST 1048576: true; the input reads as it did. -/
def evalStepsUptoRow : OpenClaim := { program := "ytckhmpcmlochpaagreat", sum := "523875e8595e67c958650c7123fcd8b6a4d25aa474ba13f388f89a8e3e657bf0", func := "stook/stooklaw09.EvalSteps", spec := "evalSteps", inPlace := ["internal/bytealg.IndexByteString", "internal/bytealg.abigen_runtime_cmpstring", "internal/abi.NoEscape"], unfollowed := true, recurses := true, apart := false, narrowed := true }
def EvalStepsUptoSaid : Prop := evalStepsUptoRow.holds Tryz.pinned (OpenSpec.upto evalStepsSpec)

end Rows
end Go.Proofs.YtckhmpcmlochpaaGreat
