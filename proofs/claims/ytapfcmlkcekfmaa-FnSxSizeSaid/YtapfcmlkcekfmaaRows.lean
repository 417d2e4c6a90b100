/-
  NARROWER THAN 'FOR EVERY INPUT', by the rows' own cells (each row's printed sentence says how): FnExactEqualSExpr: loops · FnExactSExprDepth: loops.
  DERIVED. THE GIVEN ROWS OF THIS SEAT. 6 by the template 'for every input the law returns true; each argument reads behind the call as it read before'; 0 by the template 'total and deterministic' (their statements: YtapfcmlkcekfmaaTotals.lean).
  GIVEN WITH THE SEED: the statements are not yours to turn. If you find one false, say at which input.
  Laid BY PROGRAM, IN A SANDBOX (cutbox-rows.mjs): the forced cells as the released guide's own fill.sh prints them over the translation 8f1ca5956dd29843… (all of the seat's roots in one cut). By AI agents, Wed Nov 11 2026. No macro, syntax, notation, axiom, sorry.
-/
import Derived.Test.YtapfcmlkcekfmaaChecked
import GoSem.Claim
import GoSem.ClaimJoined
import GoSem.ClaimMapViews
import Derived.JoinedTies
import Derived.KernelRfl
namespace Go.Proofs.Ytapfcmlkcekfmaa
/- THE CELL 'sum', in the pinned program and in every row, IS THE sha256 OF THE DUMP (.gsa) THAT YtapfcmlkcekfmaaProg.lean LOADS. Nothing in Lean hashes anything: it is a label: what it is worth is what the hold of that sum in a sandbox is worth. -/
noncomputable def Try.pinned : Pinned := { name := "ytapfcmlkcekfmaa", sum := "8f1ca5956dd29843c8c30c1f706a986e1c3b2f4c08dd6c85b77422c9bdad8511", checked := Try.checked }
namespace Rows
def none {H : Type} : Left H := { results := [], args := [] }

/-- 'laws.FnExactEqualSExpr': WHATEVER THE INPUT: true; the input reads as it did. -/
def fnExactEqualSExprSpec : ChangeSpec := { name := "fnExactEqualSExpr", fn := fun _ => fun
  | [d1, d2] => { results := [.lit (.bool true)], args := [d1, d2] }
  | _ => none }
def fnExactEqualSExprRow : OpenClaim := { program := "ytapfcmlkcekfmaa", sum := "8f1ca5956dd29843c8c30c1f706a986e1c3b2f4c08dd6c85b77422c9bdad8511", func := "loop.example/g00508/laws.FnExactEqualSExpr", spec := "fnExactEqualSExpr", unfollowed := true, recurses := true, loops := true, apart := false }
def FnExactEqualSExprSaid : Prop := fnExactEqualSExprRow.holds Try.pinned (OpenSpec.ofChange fnExactEqualSExprSpec)

/-- ITS FALSE NEIGHBOUR: 'it returns false'. Refute it at one input. -/
def fnExactEqualSExprWrong : ChangeSpec := { name := "fnExactEqualSExpr", fn := fun _ => fun
  | [d1, d2] => { results := [.lit (.bool false)], args := [d1, d2] }
  | _ => none }
def FnExactEqualSExprWrongFalsely : Prop := fnExactEqualSExprRow.holds Try.pinned (OpenSpec.ofChange fnExactEqualSExprWrong)

/-- 'laws.FnExactSExprDepth': WHATEVER THE INPUT: true; the input reads as it did. -/
def fnExactSExprDepthSpec : ChangeSpec := { name := "fnExactSExprDepth", fn := fun _ => fun
  | [d] => { results := [.lit (.bool true)], args := [d] }
  | _ => none }
def fnExactSExprDepthRow : OpenClaim := { program := "ytapfcmlkcekfmaa", sum := "8f1ca5956dd29843c8c30c1f706a986e1c3b2f4c08dd6c85b77422c9bdad8511", func := "loop.example/g00508/laws.FnExactSExprDepth", spec := "fnExactSExprDepth", recurses := true, loops := true, apart := false }
def FnExactSExprDepthSaid : Prop := fnExactSExprDepthRow.holds Try.pinned (OpenSpec.ofChange fnExactSExprDepthSpec)

/-- ITS FALSE NEIGHBOUR: 'it returns false'. Refute it at one input. -/
def fnExactSExprDepthWrong : ChangeSpec := { name := "fnExactSExprDepth", fn := fun _ => fun
  | [d] => { results := [.lit (.bool false)], args := [d] }
  | _ => none }
def FnExactSExprDepthWrongFalsely : Prop := fnExactSExprDepthRow.holds Try.pinned (OpenSpec.ofChange fnExactSExprDepthWrong)

/-- 'laws.FnSxSize': WHATEVER THE INPUT: true; the input reads as it did. -/
def fnSxSizeSpec : ChangeSpec := { name := "fnSxSize", fn := fun _ => fun
  | [d] => { results := [.lit (.bool true)], args := [d] }
  | _ => none }
def fnSxSizeRow : OpenClaim := { program := "ytapfcmlkcekfmaa", sum := "8f1ca5956dd29843c8c30c1f706a986e1c3b2f4c08dd6c85b77422c9bdad8511", func := "loop.example/g00508/laws.FnSxSize", spec := "fnSxSize", recurses := true, apart := false }
def FnSxSizeSaid : Prop := fnSxSizeRow.holds Try.pinned (OpenSpec.ofChange fnSxSizeSpec)

/-- ITS FALSE NEIGHBOUR: 'it returns false'. Refute it at one input. -/
def fnSxSizeWrong : ChangeSpec := { name := "fnSxSize", fn := fun _ => fun
  | [d] => { results := [.lit (.bool false)], args := [d] }
  | _ => none }
def FnSxSizeWrongFalsely : Prop := fnSxSizeRow.holds Try.pinned (OpenSpec.ofChange fnSxSizeWrong)

/-- 'laws.FnExactJoin': WHATEVER THE INPUT: true; the input reads as it did. -/
def fnExactJoinSpec : ChangeSpec := { name := "fnExactJoin", fn := fun _ => fun
  | [d1, d2] => { results := [.lit (.bool true)], args := [d1, d2] }
  | _ => none }
def fnExactJoinRow : OpenClaim := { program := "ytapfcmlkcekfmaa", sum := "8f1ca5956dd29843c8c30c1f706a986e1c3b2f4c08dd6c85b77422c9bdad8511", func := "loop.example/g00508/laws.FnExactJoin", spec := "fnExactJoin", inPlace := ["internal/abi.NoEscape", "internal/bytealg.MakeNoZero"], apart := false }
def FnExactJoinSaid : Prop := fnExactJoinRow.holds Try.pinned (OpenSpec.ofChange fnExactJoinSpec)

/-- ITS FALSE NEIGHBOUR: 'it returns false'. Refute it at one input. -/
def fnExactJoinWrong : ChangeSpec := { name := "fnExactJoin", fn := fun _ => fun
  | [d1, d2] => { results := [.lit (.bool false)], args := [d1, d2] }
  | _ => none }
def FnExactJoinWrongFalsely : Prop := fnExactJoinRow.holds Try.pinned (OpenSpec.ofChange fnExactJoinWrong)

/-- 'laws.FnExactUnion': WHATEVER THE INPUT: true; the input reads as it did. -/
def fnExactUnionSpec : ChangeSpec := { name := "fnExactUnion", fn := fun _ => fun
  | [d1, d2] => { results := [.lit (.bool true)], args := [d1, d2] }
  | _ => none }
def fnExactUnionRow : OpenClaim := { program := "ytapfcmlkcekfmaa", sum := "8f1ca5956dd29843c8c30c1f706a986e1c3b2f4c08dd6c85b77422c9bdad8511", func := "loop.example/g00508/laws.FnExactUnion", spec := "fnExactUnion", apart := false }
def FnExactUnionSaid : Prop := fnExactUnionRow.holds Try.pinned (OpenSpec.ofChange fnExactUnionSpec)

/-- ITS FALSE NEIGHBOUR: 'it returns false'. Refute it at one input. -/
def fnExactUnionWrong : ChangeSpec := { name := "fnExactUnion", fn := fun _ => fun
  | [d1, d2] => { results := [.lit (.bool false)], args := [d1, d2] }
  | _ => none }
def FnExactUnionWrongFalsely : Prop := fnExactUnionRow.holds Try.pinned (OpenSpec.ofChange fnExactUnionWrong)

/-- 'laws.FnUnion': WHATEVER THE INPUT: true; the input reads as it did. -/
def fnUnionSpec : ChangeSpec := { name := "fnUnion", fn := fun _ => fun
  | [d] => { results := [.lit (.bool true)], args := [d] }
  | _ => none }
def fnUnionRow : OpenClaim := { program := "ytapfcmlkcekfmaa", sum := "8f1ca5956dd29843c8c30c1f706a986e1c3b2f4c08dd6c85b77422c9bdad8511", func := "loop.example/g00508/laws.FnUnion", spec := "fnUnion", apart := false }
def FnUnionSaid : Prop := fnUnionRow.holds Try.pinned (OpenSpec.ofChange fnUnionSpec)

/-- ITS FALSE NEIGHBOUR: 'it returns false'. Refute it at one input. -/
def fnUnionWrong : ChangeSpec := { name := "fnUnion", fn := fun _ => fun
  | [d] => { results := [.lit (.bool false)], args := [d] }
  | _ => none }
def FnUnionWrongFalsely : Prop := fnUnionRow.holds Try.pinned (OpenSpec.ofChange fnUnionWrong)

/- THE SECOND FORM. 'bulk': how many values and letters a reading holds, each counted each time it is reached (what is shared counts as often as it is met; a slice's spare places count too). A statement '..UptoSaid' is the law's where the arguments, and the package variables that the reading takes, are together of bulk at most 1048576: NARROWER than '..Said'. Prove '..Said' where nothing that the law and all that it calls make is longer than what came in: it says more and counts as full. Else prove '..UptoSaid'. A law counts once. -/
mutual
def uptoBulk {H : Type} : DataW H → Nat
  | .lit (.string bytes) => bytes.length + 1
  | .lit _ => 1
  | .nil => 1
  | .ptr d => uptoBulk d + 1
  | .slice elems spare => uptoBulkAll elems + uptoBulkAll spare + 1
  | .agg parts => uptoBulkAll parts + 1
  | .iface _ d => uptoBulk d + 1
  | .map entries => uptoBulkEntries entries + 1
  | .held _ => 1
def uptoBulkAll {H : Type} : List (DataW H) → Nat
  | [] => 0
  | d :: r => uptoBulk d + uptoBulkAll r
def uptoBulkEntries {H : Type} : List (Lit × DataW H) → Nat
  | [] => 0
  | x :: r => uptoBulkEntry x + uptoBulkEntries r
def uptoBulkEntry {H : Type} : Lit × DataW H → Nat
  | (.string bytes, d) => bytes.length + uptoBulk d + 1
  | (_, d) => uptoBulk d + 1
 end
def uptoSmall : (H : Type) → List (DataW H) → Bool := fun _ ds => decide (uptoBulkAll ds ≤ 1048576)
def OpenSpec.upto (s : _root_.Go.ChangeSpec) : _root_.Go.OpenSpec := { _root_.Go.OpenSpec.ofChange s with cond := some uptoSmall }

/-- 'laws.FnExactEqualSExpr', WHERE WHAT IT READS IS OF BULK AT MOST 1048576: true; the input reads as it did. -/
def fnExactEqualSExprUptoRow : OpenClaim := { program := "ytapfcmlkcekfmaa", sum := "8f1ca5956dd29843c8c30c1f706a986e1c3b2f4c08dd6c85b77422c9bdad8511", func := "loop.example/g00508/laws.FnExactEqualSExpr", spec := "fnExactEqualSExpr", unfollowed := true, recurses := true, loops := true, apart := false, narrowed := true }
def FnExactEqualSExprUptoSaid : Prop := fnExactEqualSExprUptoRow.holds Try.pinned (OpenSpec.upto fnExactEqualSExprSpec)

/-- 'laws.FnExactSExprDepth', WHERE WHAT IT READS IS OF BULK AT MOST 1048576: true; the input reads as it did. -/
def fnExactSExprDepthUptoRow : OpenClaim := { program := "ytapfcmlkcekfmaa", sum := "8f1ca5956dd29843c8c30c1f706a986e1c3b2f4c08dd6c85b77422c9bdad8511", func := "loop.example/g00508/laws.FnExactSExprDepth", spec := "fnExactSExprDepth", recurses := true, loops := true, apart := false, narrowed := true }
def FnExactSExprDepthUptoSaid : Prop := fnExactSExprDepthUptoRow.holds Try.pinned (OpenSpec.upto fnExactSExprDepthSpec)

/-- 'laws.FnSxSize', WHERE WHAT IT READS IS OF BULK AT MOST 1048576: true; the input reads as it did. -/
def fnSxSizeUptoRow : OpenClaim := { program := "ytapfcmlkcekfmaa", sum := "8f1ca5956dd29843c8c30c1f706a986e1c3b2f4c08dd6c85b77422c9bdad8511", func := "loop.example/g00508/laws.FnSxSize", spec := "fnSxSize", recurses := true, apart := false, narrowed := true }
def FnSxSizeUptoSaid : Prop := fnSxSizeUptoRow.holds Try.pinned (OpenSpec.upto fnSxSizeSpec)

/-- 'laws.FnExactJoin', WHERE WHAT IT READS IS OF BULK AT MOST 1048576: true; the input reads as it did. -/
def fnExactJoinUptoRow : OpenClaim := { program := "ytapfcmlkcekfmaa", sum := "8f1ca5956dd29843c8c30c1f706a986e1c3b2f4c08dd6c85b77422c9bdad8511", func := "loop.example/g00508/laws.FnExactJoin", spec := "fnExactJoin", inPlace := ["internal/abi.NoEscape", "internal/bytealg.MakeNoZero"], apart := false, narrowed := true }
def FnExactJoinUptoSaid : Prop := fnExactJoinUptoRow.holds Try.pinned (OpenSpec.upto fnExactJoinSpec)

/-- 'laws.FnExactUnion', WHERE WHAT IT READS IS OF BULK AT MOST 1048576: true; the input reads as it did. -/
def fnExactUnionUptoRow : OpenClaim := { program := "ytapfcmlkcekfmaa", sum := "8f1ca5956dd29843c8c30c1f706a986e1c3b2f4c08dd6c85b77422c9bdad8511", func := "loop.example/g00508/laws.FnExactUnion", spec := "fnExactUnion", apart := false, narrowed := true }
def FnExactUnionUptoSaid : Prop := fnExactUnionUptoRow.holds Try.pinned (OpenSpec.upto fnExactUnionSpec)

/-- 'laws.FnUnion', WHERE WHAT IT READS IS OF BULK AT MOST 1048576: true; the input reads as it did. -/
def fnUnionUptoRow : OpenClaim := { program := "ytapfcmlkcekfmaa", sum := "8f1ca5956dd29843c8c30c1f706a986e1c3b2f4c08dd6c85b77422c9bdad8511", func := "loop.example/g00508/laws.FnUnion", spec := "fnUnion", apart := false, narrowed := true }
def FnUnionUptoSaid : Prop := fnUnionUptoRow.holds Try.pinned (OpenSpec.upto fnUnionSpec)

end Rows
end Go.Proofs.Ytapfcmlkcekfmaa
