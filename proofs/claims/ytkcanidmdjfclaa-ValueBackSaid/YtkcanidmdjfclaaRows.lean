/-
  No cell of these rows narrows 'for every input' (looked for: loops, veiled, ifaces, maps, wideKeys, modest, calm, conditions, laid).
  DERIVED. THE GIVEN ROWS OF THIS SEAT. 4 by the template 'for every input the law returns true; each argument reads behind the call as it read before'; 0 by the template 'total and deterministic' (their statements: YtkcanidmdjfclaaTotals.lean).
  GIVEN WITH THE SEED: the statements are not yours to turn. If you find one false, say at which input.
  Laid BY PROGRAM, IN A SANDBOX (cutbox-rows.mjs): the forced cells as the released guide's own fill.sh prints them over the translation f92b7f00467f093d… (all of the seat's roots in one cut). By AI agents, Wed Nov 11 2026. No macro, syntax, notation, axiom, sorry.
-/
import Derived.Test.YtkcanidmdjfclaaChecked
import GoSem.Claim
import GoSem.ClaimJoined
import GoSem.ClaimMapViews
import Derived.JoinedTies
import Derived.KernelRfl
namespace Go.Proofs.Ytkcanidmdjfclaa
/- THE CELL 'sum', in the pinned program and in every row, IS THE sha256 OF THE DUMP (.gsa) THAT YtkcanidmdjfclaaProg.lean LOADS. Nothing in Lean hashes anything: it is a label: what it is worth is what the hold of that sum in a sandbox is worth. -/
noncomputable def Try.pinned : Pinned := { name := "ytkcanidmdjfclaa", sum := "f92b7f00467f093dfd019781749332d48bd6bdad1cf252203dbd87ecd6e3887e", checked := Try.checked }
namespace Rows
def none {H : Type} : Left H := { results := [], args := [] }

/-- 'stooklaw07.ValueOrder': WHATEVER THE INPUT: true; the input reads as it did. -/
def valueOrderSpec : ChangeSpec := { name := "valueOrder", fn := fun _ => fun
  | [d1, d2, d3] => { results := [.lit (.bool true)], args := [d1, d2, d3] }
  | _ => none }
def valueOrderRow : OpenClaim := { program := "ytkcanidmdjfclaa", sum := "f92b7f00467f093dfd019781749332d48bd6bdad1cf252203dbd87ecd6e3887e", func := "stook/stooklaw07.ValueOrder", spec := "valueOrder", inPlace := ["internal/bytealg.IndexByteString", "internal/abi.NoEscape", "internal/bytealg.abigen_runtime_cmpstring"], recurses := true, apart := false }
def ValueOrderSaid : Prop := valueOrderRow.holds Try.pinned (OpenSpec.ofChange valueOrderSpec)

/-- ITS FALSE NEIGHBOUR: 'it returns false'. Refute it at one input. -/
def valueOrderWrong : ChangeSpec := { name := "valueOrder", fn := fun _ => fun
  | [d1, d2, d3] => { results := [.lit (.bool false)], args := [d1, d2, d3] }
  | _ => none }
def ValueOrderWrongFalsely : Prop := valueOrderRow.holds Try.pinned (OpenSpec.ofChange valueOrderWrong)

/-- 'stooklaw07.ValuePlays': WHATEVER THE INPUT: true; the input reads as it did. -/
def valuePlaysSpec : ChangeSpec := { name := "valuePlays", fn := fun _ => fun
  | [d1, d2] => { results := [.lit (.bool true)], args := [d1, d2] }
  | _ => none }
def valuePlaysRow : OpenClaim := { program := "ytkcanidmdjfclaa", sum := "f92b7f00467f093dfd019781749332d48bd6bdad1cf252203dbd87ecd6e3887e", func := "stook/stooklaw07.ValuePlays", spec := "valuePlays", inPlace := ["internal/bytealg.IndexByteString", "internal/abi.NoEscape", "internal/bytealg.abigen_runtime_cmpstring"], recurses := true, apart := false }
def ValuePlaysSaid : Prop := valuePlaysRow.holds Try.pinned (OpenSpec.ofChange valuePlaysSpec)

/-- ITS FALSE NEIGHBOUR: 'it returns false'. Refute it at one input. -/
def valuePlaysWrong : ChangeSpec := { name := "valuePlays", fn := fun _ => fun
  | [d1, d2] => { results := [.lit (.bool false)], args := [d1, d2] }
  | _ => none }
def ValuePlaysWrongFalsely : Prop := valuePlaysRow.holds Try.pinned (OpenSpec.ofChange valuePlaysWrong)

/-- 'stooklaw07.ValueOne': WHATEVER THE INPUT: true; the input reads as it did. -/
def valueOneSpec : ChangeSpec := { name := "valueOne", fn := fun _ => fun
  | [d1, d2] => { results := [.lit (.bool true)], args := [d1, d2] }
  | _ => none }
def valueOneRow : OpenClaim := { program := "ytkcanidmdjfclaa", sum := "f92b7f00467f093dfd019781749332d48bd6bdad1cf252203dbd87ecd6e3887e", func := "stook/stooklaw07.ValueOne", spec := "valueOne", inPlace := ["internal/bytealg.IndexByteString", "internal/abi.NoEscape", "internal/bytealg.abigen_runtime_cmpstring"], recurses := true, apart := false }
def ValueOneSaid : Prop := valueOneRow.holds Try.pinned (OpenSpec.ofChange valueOneSpec)

/-- ITS FALSE NEIGHBOUR: 'it returns false'. Refute it at one input. -/
def valueOneWrong : ChangeSpec := { name := "valueOne", fn := fun _ => fun
  | [d1, d2] => { results := [.lit (.bool false)], args := [d1, d2] }
  | _ => none }
def ValueOneWrongFalsely : Prop := valueOneRow.holds Try.pinned (OpenSpec.ofChange valueOneWrong)

/-- 'stooklaw07.ValueBack': WHATEVER THE INPUT: true; the input reads as it did. -/
def valueBackSpec : ChangeSpec := { name := "valueBack", fn := fun _ => fun
  | [d1, d2] => { results := [.lit (.bool true)], args := [d1, d2] }
  | _ => none }
def valueBackRow : OpenClaim := { program := "ytkcanidmdjfclaa", sum := "f92b7f00467f093dfd019781749332d48bd6bdad1cf252203dbd87ecd6e3887e", func := "stook/stooklaw07.ValueBack", spec := "valueBack", inPlace := ["internal/bytealg.IndexByteString", "internal/abi.NoEscape"], unfollowed := true, recurses := true, apart := false }
def ValueBackSaid : Prop := valueBackRow.holds Try.pinned (OpenSpec.ofChange valueBackSpec)

/-- ITS FALSE NEIGHBOUR: 'it returns false'. Refute it at one input. -/
def valueBackWrong : ChangeSpec := { name := "valueBack", fn := fun _ => fun
  | [d1, d2] => { results := [.lit (.bool false)], args := [d1, d2] }
  | _ => none }
def ValueBackWrongFalsely : Prop := valueBackRow.holds Try.pinned (OpenSpec.ofChange valueBackWrong)

/- THE SECOND FORM. 'bulk': how many values and letters a reading holds, each counted each time it is reached (what is shared counts as often as it is met; a slice's spare places count too). A statement '..UptoSaid' is the law's where the arguments, and the package variables that the reading takes, are together of bulk at most 1048576: NARROWER than '..Said'. Prove '..Said' where nothing that the law and all that it calls make is longer than what came in: it says more and counts as full. Else prove '..UptoSaid'. A law counts once. -/
mutual
def uptoBulk {H : Type} : DataW H → Nat
  | .lit (.string bytes) => bytes.length + 1
  | .lit _ => 1
  | .nil => 1
  | .ptr d => uptoBulk d + 1
  | .slice elems spare => uptoBulkAll elems + uptoBulkAll spare + 1
  | .agg parts => uptoBulkAll parts + 1
  | .iface _ d => uptoBulk d + 1
  | .map entries => uptoBulkEntries entries + 1
  | .held _ => 1
def uptoBulkAll {H : Type} : List (DataW H) → Nat
  | [] => 0
  | d :: r => uptoBulk d + uptoBulkAll r
def uptoBulkEntries {H : Type} : List (Lit × DataW H) → Nat
  | [] => 0
  | x :: r => uptoBulkEntry x + uptoBulkEntries r
def uptoBulkEntry {H : Type} : Lit × DataW H → Nat
  | (.string bytes, d) => bytes.length + uptoBulk d + 1
  | (_, d) => uptoBulk d + 1
 end
def uptoSmall : (H : Type) → List (DataW H) → Bool := fun _ ds => decide (uptoBulkAll ds ≤ 1048576)
def OpenSpec.upto (s : _root_.Go.ChangeSpec) : _root_.Go.OpenSpec := { _root_.Go.OpenSpec.ofChange s with cond := some uptoSmall }

/-- 'stooklaw07.ValueOrder', WHERE WHAT IT READS IS OF BULK AT MOST 1048576: true; the input reads as it did. -/
def valueOrderUptoRow : OpenClaim := { program := "ytkcanidmdjfclaa", sum := "f92b7f00467f093dfd019781749332d48bd6bdad1cf252203dbd87ecd6e3887e", func := "stook/stooklaw07.ValueOrder", spec := "valueOrder", inPlace := ["internal/bytealg.IndexByteString", "internal/abi.NoEscape", "internal/bytealg.abigen_runtime_cmpstring"], recurses := true, apart := false, narrowed := true }
def ValueOrderUptoSaid : Prop := valueOrderUptoRow.holds Try.pinned (OpenSpec.upto valueOrderSpec)

/-- 'stooklaw07.ValuePlays', WHERE WHAT IT READS IS OF BULK AT MOST 1048576: true; the input reads as it did. -/
def valuePlaysUptoRow : OpenClaim := { program := "ytkcanidmdjfclaa", sum := "f92b7f00467f093dfd019781749332d48bd6bdad1cf252203dbd87ecd6e3887e", func := "stook/stooklaw07.ValuePlays", spec := "valuePlays", inPlace := ["internal/bytealg.IndexByteString", "internal/abi.NoEscape", "internal/bytealg.abigen_runtime_cmpstring"], recurses := true, apart := false, narrowed := true }
def ValuePlaysUptoSaid : Prop := valuePlaysUptoRow.holds Try.pinned (OpenSpec.upto valuePlaysSpec)

/-- 'stooklaw07.ValueOne', WHERE WHAT IT READS IS OF BULK AT MOST 1048576: true; the input reads as it did. -/
def valueOneUptoRow : OpenClaim := { program := "ytkcanidmdjfclaa", sum := "f92b7f00467f093dfd019781749332d48bd6bdad1cf252203dbd87ecd6e3887e", func := "stook/stooklaw07.ValueOne", spec := "valueOne", inPlace := ["internal/bytealg.IndexByteString", "internal/abi.NoEscape", "internal/bytealg.abigen_runtime_cmpstring"], recurses := true, apart := false, narrowed := true }
def ValueOneUptoSaid : Prop := valueOneUptoRow.holds Try.pinned (OpenSpec.upto valueOneSpec)

/-- 'stooklaw07.ValueBack', WHERE WHAT IT READS IS OF BULK AT MOST 1048576: true; the input reads as it did. -/
def valueBackUptoRow : OpenClaim := { program := "ytkcanidmdjfclaa", sum := "f92b7f00467f093dfd019781749332d48bd6bdad1cf252203dbd87ecd6e3887e", func := "stook/stooklaw07.ValueBack", spec := "valueBack", inPlace := ["internal/bytealg.IndexByteString", "internal/abi.NoEscape"], unfollowed := true, recurses := true, apart := false, narrowed := true }
def ValueBackUptoSaid : Prop := valueBackUptoRow.holds Try.pinned (OpenSpec.upto valueBackSpec)

end Rows
end Go.Proofs.Ytkcanidmdjfclaa
