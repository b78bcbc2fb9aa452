/-
  No cell of these rows narrows 'for every input' (looked for: loops, veiled, ifaces, maps, wideKeys, modest, calm, conditions, laid).
  DERIVED. THE GIVEN ROWS OF THIS SEAT. 4 by the template 'for every input the law returns true; each argument reads behind the call as it read before'; 0 by the template 'total and deterministic' (their statements: YtkedlkcknhinoaaTotals.lean).
  GIVEN WITH THE SEED: the statements are not yours to turn. If you find one false, say at which input.
  Laid BY PROGRAM, IN A SANDBOX (cutbox-rows.mjs): the forced cells as the released guide's own fill.sh prints them over the translation 6397c00c235c906c… (all of the seat's roots in one cut). By AI agents, Wed Nov 11 2026. No macro, syntax, notation, axiom, sorry.
-/
import Derived.Test.YtkedlkcknhinoaaChecked
import GoSem.Claim
import GoSem.ClaimJoined
import GoSem.ClaimMapViews
import Derived.JoinedTies
import Derived.KernelRfl
namespace Go.Proofs.Ytkedlkcknhinoaa
/- THE CELL 'sum', in the pinned program and in every row, IS THE sha256 OF THE DUMP (.gsa) THAT YtkedlkcknhinoaaProg.lean LOADS. Nothing in Lean hashes anything: it is a label: what it is worth is what the hold of that sum in a sandbox is worth. -/
noncomputable def Try.pinned : Pinned := { name := "ytkedlkcknhinoaa", sum := "6397c00c235c906c72ba08006bcab252b1481a2363f04af1eaf2300eda189dfc", checked := Try.checked }
namespace Rows
def none {H : Type} : Left H := { results := [], args := [] }

/-- 'stooklaw08.ExprEnds': WHATEVER THE INPUT: true; the input reads as it did. -/
def exprEndsSpec : ChangeSpec := { name := "exprEnds", fn := fun _ => fun
  | [d1, d2] => { results := [.lit (.bool true)], args := [d1, d2] }
  | _ => none }
def exprEndsRow : OpenClaim := { program := "ytkedlkcknhinoaa", sum := "6397c00c235c906c72ba08006bcab252b1481a2363f04af1eaf2300eda189dfc", func := "stook/stooklaw08.ExprEnds", spec := "exprEnds", inPlace := ["internal/bytealg.IndexByteString"], unfollowed := true, recurses := true, apart := false }
def ExprEndsSaid : Prop := exprEndsRow.holds Try.pinned (OpenSpec.ofChange exprEndsSpec)

/-- ITS FALSE NEIGHBOUR: 'it returns false'. Refute it at one input. -/
def exprEndsWrong : ChangeSpec := { name := "exprEnds", fn := fun _ => fun
  | [d1, d2] => { results := [.lit (.bool false)], args := [d1, d2] }
  | _ => none }
def ExprEndsWrongFalsely : Prop := exprEndsRow.holds Try.pinned (OpenSpec.ofChange exprEndsWrong)

/-- 'stooklaw08.ExprBack': WHATEVER THE INPUT: true; the input reads as it did. -/
def exprBackSpec : ChangeSpec := { name := "exprBack", fn := fun _ => fun
  | [d] => { results := [.lit (.bool true)], args := [d] }
  | _ => none }
def exprBackRow : OpenClaim := { program := "ytkedlkcknhinoaa", sum := "6397c00c235c906c72ba08006bcab252b1481a2363f04af1eaf2300eda189dfc", func := "stook/stooklaw08.ExprBack", spec := "exprBack", inPlace := ["internal/bytealg.IndexByteString", "internal/abi.NoEscape"], unfollowed := true, recurses := true, apart := false }
def ExprBackSaid : Prop := exprBackRow.holds Try.pinned (OpenSpec.ofChange exprBackSpec)

/-- ITS FALSE NEIGHBOUR: 'it returns false'. Refute it at one input. -/
def exprBackWrong : ChangeSpec := { name := "exprBack", fn := fun _ => fun
  | [d] => { results := [.lit (.bool false)], args := [d] }
  | _ => none }
def ExprBackWrongFalsely : Prop := exprBackRow.holds Try.pinned (OpenSpec.ofChange exprBackWrong)

/-- 'stooklaw08.ExprRight': WHATEVER THE INPUT: true; the input reads as it did. -/
def exprRightSpec : ChangeSpec := { name := "exprRight", fn := fun _ => fun
  | [d] => { results := [.lit (.bool true)], args := [d] }
  | _ => none }
def exprRightRow : OpenClaim := { program := "ytkedlkcknhinoaa", sum := "6397c00c235c906c72ba08006bcab252b1481a2363f04af1eaf2300eda189dfc", func := "stook/stooklaw08.ExprRight", spec := "exprRight", inPlace := ["internal/bytealg.IndexByteString", "internal/abi.NoEscape"], unfollowed := true, recurses := true, apart := false }
def ExprRightSaid : Prop := exprRightRow.holds Try.pinned (OpenSpec.ofChange exprRightSpec)

/-- ITS FALSE NEIGHBOUR: 'it returns false'. Refute it at one input. -/
def exprRightWrong : ChangeSpec := { name := "exprRight", fn := fun _ => fun
  | [d] => { results := [.lit (.bool false)], args := [d] }
  | _ => none }
def ExprRightWrongFalsely : Prop := exprRightRow.holds Try.pinned (OpenSpec.ofChange exprRightWrong)

/-- 'stooklaw08.ExprPlays': WHATEVER THE INPUT: true; the input reads as it did. -/
def exprPlaysSpec : ChangeSpec := { name := "exprPlays", fn := fun _ => fun
  | [d1, d2, d3] => { results := [.lit (.bool true)], args := [d1, d2, d3] }
  | _ => none }
def exprPlaysRow : OpenClaim := { program := "ytkedlkcknhinoaa", sum := "6397c00c235c906c72ba08006bcab252b1481a2363f04af1eaf2300eda189dfc", func := "stook/stooklaw08.ExprPlays", spec := "exprPlays", inPlace := ["internal/bytealg.IndexByteString", "internal/abi.NoEscape"], unfollowed := true, recurses := true, apart := false }
def ExprPlaysSaid : Prop := exprPlaysRow.holds Try.pinned (OpenSpec.ofChange exprPlaysSpec)

/-- ITS FALSE NEIGHBOUR: 'it returns false'. Refute it at one input. -/
def exprPlaysWrong : ChangeSpec := { name := "exprPlays", fn := fun _ => fun
  | [d1, d2, d3] => { results := [.lit (.bool false)], args := [d1, d2, d3] }
  | _ => none }
def ExprPlaysWrongFalsely : Prop := exprPlaysRow.holds Try.pinned (OpenSpec.ofChange exprPlaysWrong)

/- THE SECOND FORM. 'bulk': how many values and letters a reading holds, each counted each time it is reached (what is shared counts as often as it is met; a slice's spare places count too). A statement '..UptoSaid' is the law's where the arguments, and the package variables that the reading takes, are together of bulk at most 1048576: NARROWER than '..Said'. Prove '..Said' where nothing that the law and all that it calls make is longer than what came in: it says more and counts as full. Else prove '..UptoSaid'. A law counts once. -/
mutual
def uptoBulk {H : Type} : DataW H → Nat
  | .lit (.string bytes) => bytes.length + 1
  | .lit _ => 1
  | .nil => 1
  | .ptr d => uptoBulk d + 1
  | .slice elems spare => uptoBulkAll elems + uptoBulkAll spare + 1
  | .agg parts => uptoBulkAll parts + 1
  | .iface _ d => uptoBulk d + 1
  | .map entries => uptoBulkEntries entries + 1
  | .held _ => 1
def uptoBulkAll {H : Type} : List (DataW H) → Nat
  | [] => 0
  | d :: r => uptoBulk d + uptoBulkAll r
def uptoBulkEntries {H : Type} : List (Lit × DataW H) → Nat
  | [] => 0
  | x :: r => uptoBulkEntry x + uptoBulkEntries r
def uptoBulkEntry {H : Type} : Lit × DataW H → Nat
  | (.string bytes, d) => bytes.length + uptoBulk d + 1
  | (_, d) => uptoBulk d + 1
 end
def uptoSmall : (H : Type) → List (DataW H) → Bool := fun _ ds => decide (uptoBulkAll ds ≤ 1048576)
def OpenSpec.upto (s : _root_.Go.ChangeSpec) : _root_.Go.OpenSpec := { _root_.Go.OpenSpec.ofChange s with cond := some uptoSmall }

/-- 'stooklaw08.ExprEnds', WHERE WHAT IT READS IS OF BULK AT MOST 1048576: true; the input reads as it did. -/
def exprEndsUptoRow : OpenClaim := { program := "ytkedlkcknhinoaa", sum := "6397c00c235c906c72ba08006bcab252b1481a2363f04af1eaf2300eda189dfc", func := "stook/stooklaw08.ExprEnds", spec := "exprEnds", inPlace := ["internal/bytealg.IndexByteString"], unfollowed := true, recurses := true, apart := false, narrowed := true }
def ExprEndsUptoSaid : Prop := exprEndsUptoRow.holds Try.pinned (OpenSpec.upto exprEndsSpec)

/-- 'stooklaw08.ExprBack', WHERE WHAT IT READS IS OF BULK AT MOST 1048576: true; the input reads as it did. -/
def exprBackUptoRow : OpenClaim := { program := "ytkedlkcknhinoaa", sum := "6397c00c235c906c72ba08006bcab252b1481a2363f04af1eaf2300eda189dfc", func := "stook/stooklaw08.ExprBack", spec := "exprBack", inPlace := ["internal/bytealg.IndexByteString", "internal/abi.NoEscape"], unfollowed := true, recurses := true, apart := false, narrowed := true }
def ExprBackUptoSaid : Prop := exprBackUptoRow.holds Try.pinned (OpenSpec.upto exprBackSpec)

/-- 'stooklaw08.ExprRight', WHERE WHAT IT READS IS OF BULK AT MOST 1048576: true; the input reads as it did. -/
def exprRightUptoRow : OpenClaim := { program := "ytkedlkcknhinoaa", sum := "6397c00c235c906c72ba08006bcab252b1481a2363f04af1eaf2300eda189dfc", func := "stook/stooklaw08.ExprRight", spec := "exprRight", inPlace := ["internal/bytealg.IndexByteString", "internal/abi.NoEscape"], unfollowed := true, recurses := true, apart := false, narrowed := true }
def ExprRightUptoSaid : Prop := exprRightUptoRow.holds Try.pinned (OpenSpec.upto exprRightSpec)

/-- 'stooklaw08.ExprPlays', WHERE WHAT IT READS IS OF BULK AT MOST 1048576: true; the input reads as it did. -/
def exprPlaysUptoRow : OpenClaim := { program := "ytkedlkcknhinoaa", sum := "6397c00c235c906c72ba08006bcab252b1481a2363f04af1eaf2300eda189dfc", func := "stook/stooklaw08.ExprPlays", spec := "exprPlays", inPlace := ["internal/bytealg.IndexByteString", "internal/abi.NoEscape"], unfollowed := true, recurses := true, apart := false, narrowed := true }
def ExprPlaysUptoSaid : Prop := exprPlaysUptoRow.holds Try.pinned (OpenSpec.upto exprPlaysSpec)

end Rows
end Go.Proofs.Ytkedlkcknhinoaa
