/-
  NARROWER THAN 'FOR EVERY INPUT', by the rows' own cells (each row's printed sentence says how): FnExactSExprSize: loops · FnExactTypeSize: loops · FnExactHeadName: loops · FnExactHasProjection: loops · FnExactTypeDepth: loops.
  DERIVED. THE GIVEN ROWS OF THIS SEAT. 12 by the template 'for every input the law returns true; each argument reads behind the call as it read before'; 0 by the template 'total and deterministic' (their statements: YtjhlinnagpjbaaaTotals.lean).
  GIVEN WITH THE SEED: the statements are not yours to turn. If you find one false, say at which input.
  Laid BY PROGRAM, IN A SANDBOX (cutbox-rows.mjs): the forced cells as the released guide's own fill.sh prints them over the translation 307b206b16905a3a… (all of the seat's roots in one cut). By AI agents, Wed Nov 11 2026. No macro, syntax, notation, axiom, sorry.
-/
import Derived.Test.YtjhlinnagpjbaaaChecked
import GoSem.Claim
import GoSem.ClaimJoined
import GoSem.ClaimMapViews
import Derived.JoinedTies
import Derived.KernelRfl
namespace Go.Proofs.Ytjhlinnagpjbaaa
/- THE CELL 'sum', in the pinned program and in every row, IS THE sha256 OF THE DUMP (.gsa) THAT YtjhlinnagpjbaaaProg.lean LOADS. Nothing in Lean hashes anything: it is a label: what it is worth is what the hold of that sum in a sandbox is worth. -/
noncomputable def Try.pinned : Pinned := { name := "ytjhlinnagpjbaaa", sum := "307b206b16905a3a4b8e20c807116fa9aa3d8873b84bc863cc6af29c706976bf", checked := Try.checked }
namespace Rows
def none {H : Type} : Left H := { results := [], args := [] }

/-- 'laws.FnExactConstants': WHATEVER THE INPUT: true; the input reads as it did. -/
def fnExactConstantsSpec : ChangeSpec := { name := "fnExactConstants", fn := fun _ => fun
  | [] => { results := [.lit (.bool true)], args := [] }
  | _ => none }
def fnExactConstantsRow : OpenClaim := { program := "ytjhlinnagpjbaaa", sum := "307b206b16905a3a4b8e20c807116fa9aa3d8873b84bc863cc6af29c706976bf", func := "loop.example/g00508/laws.FnExactConstants", spec := "fnExactConstants", apart := false }
def FnExactConstantsSaid : Prop := fnExactConstantsRow.holds Try.pinned (OpenSpec.ofChange fnExactConstantsSpec)

/-- ITS FALSE NEIGHBOUR: 'it returns false'. Refute it at one input. -/
def fnExactConstantsWrong : ChangeSpec := { name := "fnExactConstants", fn := fun _ => fun
  | [] => { results := [.lit (.bool false)], args := [] }
  | _ => none }
def FnExactConstantsWrongFalsely : Prop := fnExactConstantsRow.holds Try.pinned (OpenSpec.ofChange fnExactConstantsWrong)

/-- 'laws.FnExactIsReserved': WHATEVER THE INPUT: true; the input reads as it did. -/
def fnExactIsReservedSpec : ChangeSpec := { name := "fnExactIsReserved", fn := fun _ => fun
  | [d] => { results := [.lit (.bool true)], args := [d] }
  | _ => none }
def fnExactIsReservedRow : OpenClaim := { program := "ytjhlinnagpjbaaa", sum := "307b206b16905a3a4b8e20c807116fa9aa3d8873b84bc863cc6af29c706976bf", func := "loop.example/g00508/laws.FnExactIsReserved", spec := "fnExactIsReserved", apart := false }
def FnExactIsReservedSaid : Prop := fnExactIsReservedRow.holds Try.pinned (OpenSpec.ofChange fnExactIsReservedSpec)

/-- ITS FALSE NEIGHBOUR: 'it returns false'. Refute it at one input. -/
def fnExactIsReservedWrong : ChangeSpec := { name := "fnExactIsReserved", fn := fun _ => fun
  | [d] => { results := [.lit (.bool false)], args := [d] }
  | _ => none }
def FnExactIsReservedWrongFalsely : Prop := fnExactIsReservedRow.holds Try.pinned (OpenSpec.ofChange fnExactIsReservedWrong)

/-- 'laws.FnExactIsValidAtom': WHATEVER THE INPUT: true; the input reads as it did. -/
def fnExactIsValidAtomSpec : ChangeSpec := { name := "fnExactIsValidAtom", fn := fun _ => fun
  | [d] => { results := [.lit (.bool true)], args := [d] }
  | _ => none }
def fnExactIsValidAtomRow : OpenClaim := { program := "ytjhlinnagpjbaaa", sum := "307b206b16905a3a4b8e20c807116fa9aa3d8873b84bc863cc6af29c706976bf", func := "loop.example/g00508/laws.FnExactIsValidAtom", spec := "fnExactIsValidAtom", inPlace := ["internal/bytealg.IndexByteString"], apart := false }
def FnExactIsValidAtomSaid : Prop := fnExactIsValidAtomRow.holds Try.pinned (OpenSpec.ofChange fnExactIsValidAtomSpec)

/-- ITS FALSE NEIGHBOUR: 'it returns false'. Refute it at one input. -/
def fnExactIsValidAtomWrong : ChangeSpec := { name := "fnExactIsValidAtom", fn := fun _ => fun
  | [d] => { results := [.lit (.bool false)], args := [d] }
  | _ => none }
def FnExactIsValidAtomWrongFalsely : Prop := fnExactIsValidAtomRow.holds Try.pinned (OpenSpec.ofChange fnExactIsValidAtomWrong)

/-- 'laws.FnExactIndexOf': WHATEVER THE INPUT: true; the input reads as it did. -/
def fnExactIndexOfSpec : ChangeSpec := { name := "fnExactIndexOf", fn := fun _ => fun
  | [d1, d2] => { results := [.lit (.bool true)], args := [d1, d2] }
  | _ => none }
def fnExactIndexOfRow : OpenClaim := { program := "ytjhlinnagpjbaaa", sum := "307b206b16905a3a4b8e20c807116fa9aa3d8873b84bc863cc6af29c706976bf", func := "loop.example/g00508/laws.FnExactIndexOf", spec := "fnExactIndexOf", apart := false }
def FnExactIndexOfSaid : Prop := fnExactIndexOfRow.holds Try.pinned (OpenSpec.ofChange fnExactIndexOfSpec)

/-- ITS FALSE NEIGHBOUR: 'it returns false'. Refute it at one input. -/
def fnExactIndexOfWrong : ChangeSpec := { name := "fnExactIndexOf", fn := fun _ => fun
  | [d1, d2] => { results := [.lit (.bool false)], args := [d1, d2] }
  | _ => none }
def FnExactIndexOfWrongFalsely : Prop := fnExactIndexOfRow.holds Try.pinned (OpenSpec.ofChange fnExactIndexOfWrong)

/-- 'laws.FnExactIsValidName': WHATEVER THE INPUT: true; the input reads as it did. -/
def fnExactIsValidNameSpec : ChangeSpec := { name := "fnExactIsValidName", fn := fun _ => fun
  | [d] => { results := [.lit (.bool true)], args := [d] }
  | _ => none }
def fnExactIsValidNameRow : OpenClaim := { program := "ytjhlinnagpjbaaa", sum := "307b206b16905a3a4b8e20c807116fa9aa3d8873b84bc863cc6af29c706976bf", func := "loop.example/g00508/laws.FnExactIsValidName", spec := "fnExactIsValidName", apart := false }
def FnExactIsValidNameSaid : Prop := fnExactIsValidNameRow.holds Try.pinned (OpenSpec.ofChange fnExactIsValidNameSpec)

/-- ITS FALSE NEIGHBOUR: 'it returns false'. Refute it at one input. -/
def fnExactIsValidNameWrong : ChangeSpec := { name := "fnExactIsValidName", fn := fun _ => fun
  | [d] => { results := [.lit (.bool false)], args := [d] }
  | _ => none }
def FnExactIsValidNameWrongFalsely : Prop := fnExactIsValidNameRow.holds Try.pinned (OpenSpec.ofChange fnExactIsValidNameWrong)

/-- 'laws.FnExactAllDistinct': WHATEVER THE INPUT: true; the input reads as it did. -/
def fnExactAllDistinctSpec : ChangeSpec := { name := "fnExactAllDistinct", fn := fun _ => fun
  | [d] => { results := [.lit (.bool true)], args := [d] }
  | _ => none }
def fnExactAllDistinctRow : OpenClaim := { program := "ytjhlinnagpjbaaa", sum := "307b206b16905a3a4b8e20c807116fa9aa3d8873b84bc863cc6af29c706976bf", func := "loop.example/g00508/laws.FnExactAllDistinct", spec := "fnExactAllDistinct", apart := false }
def FnExactAllDistinctSaid : Prop := fnExactAllDistinctRow.holds Try.pinned (OpenSpec.ofChange fnExactAllDistinctSpec)

/-- ITS FALSE NEIGHBOUR: 'it returns false'. Refute it at one input. -/
def fnExactAllDistinctWrong : ChangeSpec := { name := "fnExactAllDistinct", fn := fun _ => fun
  | [d] => { results := [.lit (.bool false)], args := [d] }
  | _ => none }
def FnExactAllDistinctWrongFalsely : Prop := fnExactAllDistinctRow.holds Try.pinned (OpenSpec.ofChange fnExactAllDistinctWrong)

/-- 'laws.FnExactSExprSize': WHATEVER THE INPUT: true; the input reads as it did. -/
def fnExactSExprSizeSpec : ChangeSpec := { name := "fnExactSExprSize", fn := fun _ => fun
  | [d] => { results := [.lit (.bool true)], args := [d] }
  | _ => none }
def fnExactSExprSizeRow : OpenClaim := { program := "ytjhlinnagpjbaaa", sum := "307b206b16905a3a4b8e20c807116fa9aa3d8873b84bc863cc6af29c706976bf", func := "loop.example/g00508/laws.FnExactSExprSize", spec := "fnExactSExprSize", recurses := true, loops := true, apart := false }
def FnExactSExprSizeSaid : Prop := fnExactSExprSizeRow.holds Try.pinned (OpenSpec.ofChange fnExactSExprSizeSpec)

/-- ITS FALSE NEIGHBOUR: 'it returns false'. Refute it at one input. -/
def fnExactSExprSizeWrong : ChangeSpec := { name := "fnExactSExprSize", fn := fun _ => fun
  | [d] => { results := [.lit (.bool false)], args := [d] }
  | _ => none }
def FnExactSExprSizeWrongFalsely : Prop := fnExactSExprSizeRow.holds Try.pinned (OpenSpec.ofChange fnExactSExprSizeWrong)

/-- 'laws.FnExactParseType': WHATEVER THE INPUT: true; the input reads as it did. -/
def fnExactParseTypeSpec : ChangeSpec := { name := "fnExactParseType", fn := fun _ => fun
  | [d] => { results := [.lit (.bool true)], args := [d] }
  | _ => none }
def fnExactParseTypeRow : OpenClaim := { program := "ytjhlinnagpjbaaa", sum := "307b206b16905a3a4b8e20c807116fa9aa3d8873b84bc863cc6af29c706976bf", func := "loop.example/g00508/laws.FnExactParseType", spec := "fnExactParseType", inPlace := ["internal/bytealg.IndexByteString"], unfollowed := true, recurses := true, apart := false }
def FnExactParseTypeSaid : Prop := fnExactParseTypeRow.holds Try.pinned (OpenSpec.ofChange fnExactParseTypeSpec)

/-- ITS FALSE NEIGHBOUR: 'it returns false'. Refute it at one input. -/
def fnExactParseTypeWrong : ChangeSpec := { name := "fnExactParseType", fn := fun _ => fun
  | [d] => { results := [.lit (.bool false)], args := [d] }
  | _ => none }
def FnExactParseTypeWrongFalsely : Prop := fnExactParseTypeRow.holds Try.pinned (OpenSpec.ofChange fnExactParseTypeWrong)

/-- 'laws.FnExactTypeSize': WHATEVER THE INPUT: true; the input reads as it did. -/
def fnExactTypeSizeSpec : ChangeSpec := { name := "fnExactTypeSize", fn := fun _ => fun
  | [d] => { results := [.lit (.bool true)], args := [d] }
  | _ => none }
def fnExactTypeSizeRow : OpenClaim := { program := "ytjhlinnagpjbaaa", sum := "307b206b16905a3a4b8e20c807116fa9aa3d8873b84bc863cc6af29c706976bf", func := "loop.example/g00508/laws.FnExactTypeSize", spec := "fnExactTypeSize", recurses := true, loops := true, apart := false }
def FnExactTypeSizeSaid : Prop := fnExactTypeSizeRow.holds Try.pinned (OpenSpec.ofChange fnExactTypeSizeSpec)

/-- ITS FALSE NEIGHBOUR: 'it returns false'. Refute it at one input. -/
def fnExactTypeSizeWrong : ChangeSpec := { name := "fnExactTypeSize", fn := fun _ => fun
  | [d] => { results := [.lit (.bool false)], args := [d] }
  | _ => none }
def FnExactTypeSizeWrongFalsely : Prop := fnExactTypeSizeRow.holds Try.pinned (OpenSpec.ofChange fnExactTypeSizeWrong)

/-- 'laws.FnExactHeadName': WHATEVER THE INPUT: true; the input reads as it did. -/
def fnExactHeadNameSpec : ChangeSpec := { name := "fnExactHeadName", fn := fun _ => fun
  | [d] => { results := [.lit (.bool true)], args := [d] }
  | _ => none }
def fnExactHeadNameRow : OpenClaim := { program := "ytjhlinnagpjbaaa", sum := "307b206b16905a3a4b8e20c807116fa9aa3d8873b84bc863cc6af29c706976bf", func := "loop.example/g00508/laws.FnExactHeadName", spec := "fnExactHeadName", recurses := true, loops := true, apart := false }
def FnExactHeadNameSaid : Prop := fnExactHeadNameRow.holds Try.pinned (OpenSpec.ofChange fnExactHeadNameSpec)

/-- ITS FALSE NEIGHBOUR: 'it returns false'. Refute it at one input. -/
def fnExactHeadNameWrong : ChangeSpec := { name := "fnExactHeadName", fn := fun _ => fun
  | [d] => { results := [.lit (.bool false)], args := [d] }
  | _ => none }
def FnExactHeadNameWrongFalsely : Prop := fnExactHeadNameRow.holds Try.pinned (OpenSpec.ofChange fnExactHeadNameWrong)

/-- 'laws.FnExactHasProjection': WHATEVER THE INPUT: true; the input reads as it did. -/
def fnExactHasProjectionSpec : ChangeSpec := { name := "fnExactHasProjection", fn := fun _ => fun
  | [d] => { results := [.lit (.bool true)], args := [d] }
  | _ => none }
def fnExactHasProjectionRow : OpenClaim := { program := "ytjhlinnagpjbaaa", sum := "307b206b16905a3a4b8e20c807116fa9aa3d8873b84bc863cc6af29c706976bf", func := "loop.example/g00508/laws.FnExactHasProjection", spec := "fnExactHasProjection", unfollowed := true, recurses := true, loops := true, apart := false }
def FnExactHasProjectionSaid : Prop := fnExactHasProjectionRow.holds Try.pinned (OpenSpec.ofChange fnExactHasProjectionSpec)

/-- ITS FALSE NEIGHBOUR: 'it returns false'. Refute it at one input. -/
def fnExactHasProjectionWrong : ChangeSpec := { name := "fnExactHasProjection", fn := fun _ => fun
  | [d] => { results := [.lit (.bool false)], args := [d] }
  | _ => none }
def FnExactHasProjectionWrongFalsely : Prop := fnExactHasProjectionRow.holds Try.pinned (OpenSpec.ofChange fnExactHasProjectionWrong)

/-- 'laws.FnExactTypeDepth': WHATEVER THE INPUT: true; the input reads as it did. -/
def fnExactTypeDepthSpec : ChangeSpec := { name := "fnExactTypeDepth", fn := fun _ => fun
  | [d] => { results := [.lit (.bool true)], args := [d] }
  | _ => none }
def fnExactTypeDepthRow : OpenClaim := { program := "ytjhlinnagpjbaaa", sum := "307b206b16905a3a4b8e20c807116fa9aa3d8873b84bc863cc6af29c706976bf", func := "loop.example/g00508/laws.FnExactTypeDepth", spec := "fnExactTypeDepth", recurses := true, loops := true, apart := false }
def FnExactTypeDepthSaid : Prop := fnExactTypeDepthRow.holds Try.pinned (OpenSpec.ofChange fnExactTypeDepthSpec)

/-- ITS FALSE NEIGHBOUR: 'it returns false'. Refute it at one input. -/
def fnExactTypeDepthWrong : ChangeSpec := { name := "fnExactTypeDepth", fn := fun _ => fun
  | [d] => { results := [.lit (.bool false)], args := [d] }
  | _ => none }
def FnExactTypeDepthWrongFalsely : Prop := fnExactTypeDepthRow.holds Try.pinned (OpenSpec.ofChange fnExactTypeDepthWrong)

/- THE SECOND FORM. 'bulk': how many values and letters a reading holds, each counted each time it is reached (what is shared counts as often as it is met; a slice's spare places count too). A statement '..UptoSaid' is the law's where the arguments, and the package variables that the reading takes, are together of bulk at most 1048576: NARROWER than '..Said'. Prove '..Said' where nothing that the law and all that it calls make is longer than what came in: it says more and counts as full. Else prove '..UptoSaid'. A law counts once. -/
mutual
def uptoBulk {H : Type} : DataW H → Nat
  | .lit (.string bytes) => bytes.length + 1
  | .lit _ => 1
  | .nil => 1
  | .ptr d => uptoBulk d + 1
  | .slice elems spare => uptoBulkAll elems + uptoBulkAll spare + 1
  | .agg parts => uptoBulkAll parts + 1
  | .iface _ d => uptoBulk d + 1
  | .map entries => uptoBulkEntries entries + 1
  | .held _ => 1
def uptoBulkAll {H : Type} : List (DataW H) → Nat
  | [] => 0
  | d :: r => uptoBulk d + uptoBulkAll r
def uptoBulkEntries {H : Type} : List (Lit × DataW H) → Nat
  | [] => 0
  | x :: r => uptoBulkEntry x + uptoBulkEntries r
def uptoBulkEntry {H : Type} : Lit × DataW H → Nat
  | (.string bytes, d) => bytes.length + uptoBulk d + 1
  | (_, d) => uptoBulk d + 1
 end
def uptoSmall : (H : Type) → List (DataW H) → Bool := fun _ ds => decide (uptoBulkAll ds ≤ 1048576)
def OpenSpec.upto (s : _root_.Go.ChangeSpec) : _root_.Go.OpenSpec := { _root_.Go.OpenSpec.ofChange s with cond := some uptoSmall }

/-- 'laws.FnExactConstants', WHERE WHAT IT READS IS OF BULK AT MOST 1048576: true; the input reads as it did. -/
def fnExactConstantsUptoRow : OpenClaim := { program := "ytjhlinnagpjbaaa", sum := "307b206b16905a3a4b8e20c807116fa9aa3d8873b84bc863cc6af29c706976bf", func := "loop.example/g00508/laws.FnExactConstants", spec := "fnExactConstants", apart := false, narrowed := true }
def FnExactConstantsUptoSaid : Prop := fnExactConstantsUptoRow.holds Try.pinned (OpenSpec.upto fnExactConstantsSpec)

/-- 'laws.FnExactIsReserved', WHERE WHAT IT READS IS OF BULK AT MOST 1048576: true; the input reads as it did. -/
def fnExactIsReservedUptoRow : OpenClaim := { program := "ytjhlinnagpjbaaa", sum := "307b206b16905a3a4b8e20c807116fa9aa3d8873b84bc863cc6af29c706976bf", func := "loop.example/g00508/laws.FnExactIsReserved", spec := "fnExactIsReserved", apart := false, narrowed := true }
def FnExactIsReservedUptoSaid : Prop := fnExactIsReservedUptoRow.holds Try.pinned (OpenSpec.upto fnExactIsReservedSpec)

/-- 'laws.FnExactIsValidAtom', WHERE WHAT IT READS IS OF BULK AT MOST 1048576: true; the input reads as it did. -/
def fnExactIsValidAtomUptoRow : OpenClaim := { program := "ytjhlinnagpjbaaa", sum := "307b206b16905a3a4b8e20c807116fa9aa3d8873b84bc863cc6af29c706976bf", func := "loop.example/g00508/laws.FnExactIsValidAtom", spec := "fnExactIsValidAtom", inPlace := ["internal/bytealg.IndexByteString"], apart := false, narrowed := true }
def FnExactIsValidAtomUptoSaid : Prop := fnExactIsValidAtomUptoRow.holds Try.pinned (OpenSpec.upto fnExactIsValidAtomSpec)

/-- 'laws.FnExactIndexOf', WHERE WHAT IT READS IS OF BULK AT MOST 1048576: true; the input reads as it did. -/
def fnExactIndexOfUptoRow : OpenClaim := { program := "ytjhlinnagpjbaaa", sum := "307b206b16905a3a4b8e20c807116fa9aa3d8873b84bc863cc6af29c706976bf", func := "loop.example/g00508/laws.FnExactIndexOf", spec := "fnExactIndexOf", apart := false, narrowed := true }
def FnExactIndexOfUptoSaid : Prop := fnExactIndexOfUptoRow.holds Try.pinned (OpenSpec.upto fnExactIndexOfSpec)

/-- 'laws.FnExactIsValidName', WHERE WHAT IT READS IS OF BULK AT MOST 1048576: true; the input reads as it did. -/
def fnExactIsValidNameUptoRow : OpenClaim := { program := "ytjhlinnagpjbaaa", sum := "307b206b16905a3a4b8e20c807116fa9aa3d8873b84bc863cc6af29c706976bf", func := "loop.example/g00508/laws.FnExactIsValidName", spec := "fnExactIsValidName", apart := false, narrowed := true }
def FnExactIsValidNameUptoSaid : Prop := fnExactIsValidNameUptoRow.holds Try.pinned (OpenSpec.upto fnExactIsValidNameSpec)

/-- 'laws.FnExactAllDistinct', WHERE WHAT IT READS IS OF BULK AT MOST 1048576: true; the input reads as it did. -/
def fnExactAllDistinctUptoRow : OpenClaim := { program := "ytjhlinnagpjbaaa", sum := "307b206b16905a3a4b8e20c807116fa9aa3d8873b84bc863cc6af29c706976bf", func := "loop.example/g00508/laws.FnExactAllDistinct", spec := "fnExactAllDistinct", apart := false, narrowed := true }
def FnExactAllDistinctUptoSaid : Prop := fnExactAllDistinctUptoRow.holds Try.pinned (OpenSpec.upto fnExactAllDistinctSpec)

/-- 'laws.FnExactSExprSize', WHERE WHAT IT READS IS OF BULK AT MOST 1048576: true; the input reads as it did. -/
def fnExactSExprSizeUptoRow : OpenClaim := { program := "ytjhlinnagpjbaaa", sum := "307b206b16905a3a4b8e20c807116fa9aa3d8873b84bc863cc6af29c706976bf", func := "loop.example/g00508/laws.FnExactSExprSize", spec := "fnExactSExprSize", recurses := true, loops := true, apart := false, narrowed := true }
def FnExactSExprSizeUptoSaid : Prop := fnExactSExprSizeUptoRow.holds Try.pinned (OpenSpec.upto fnExactSExprSizeSpec)

/-- 'laws.FnExactParseType', WHERE WHAT IT READS IS OF BULK AT MOST 1048576: true; the input reads as it did. -/
def fnExactParseTypeUptoRow : OpenClaim := { program := "ytjhlinnagpjbaaa", sum := "307b206b16905a3a4b8e20c807116fa9aa3d8873b84bc863cc6af29c706976bf", func := "loop.example/g00508/laws.FnExactParseType", spec := "fnExactParseType", inPlace := ["internal/bytealg.IndexByteString"], unfollowed := true, recurses := true, apart := false, narrowed := true }
def FnExactParseTypeUptoSaid : Prop := fnExactParseTypeUptoRow.holds Try.pinned (OpenSpec.upto fnExactParseTypeSpec)

/-- 'laws.FnExactTypeSize', WHERE WHAT IT READS IS OF BULK AT MOST 1048576: true; the input reads as it did. -/
def fnExactTypeSizeUptoRow : OpenClaim := { program := "ytjhlinnagpjbaaa", sum := "307b206b16905a3a4b8e20c807116fa9aa3d8873b84bc863cc6af29c706976bf", func := "loop.example/g00508/laws.FnExactTypeSize", spec := "fnExactTypeSize", recurses := true, loops := true, apart := false, narrowed := true }
def FnExactTypeSizeUptoSaid : Prop := fnExactTypeSizeUptoRow.holds Try.pinned (OpenSpec.upto fnExactTypeSizeSpec)

/-- 'laws.FnExactHeadName', WHERE WHAT IT READS IS OF BULK AT MOST 1048576: true; the input reads as it did. -/
def fnExactHeadNameUptoRow : OpenClaim := { program := "ytjhlinnagpjbaaa", sum := "307b206b16905a3a4b8e20c807116fa9aa3d8873b84bc863cc6af29c706976bf", func := "loop.example/g00508/laws.FnExactHeadName", spec := "fnExactHeadName", recurses := true, loops := true, apart := false, narrowed := true }
def FnExactHeadNameUptoSaid : Prop := fnExactHeadNameUptoRow.holds Try.pinned (OpenSpec.upto fnExactHeadNameSpec)

/-- 'laws.FnExactHasProjection', WHERE WHAT IT READS IS OF BULK AT MOST 1048576: true; the input reads as it did. -/
def fnExactHasProjectionUptoRow : OpenClaim := { program := "ytjhlinnagpjbaaa", sum := "307b206b16905a3a4b8e20c807116fa9aa3d8873b84bc863cc6af29c706976bf", func := "loop.example/g00508/laws.FnExactHasProjection", spec := "fnExactHasProjection", unfollowed := true, recurses := true, loops := true, apart := false, narrowed := true }
def FnExactHasProjectionUptoSaid : Prop := fnExactHasProjectionUptoRow.holds Try.pinned (OpenSpec.upto fnExactHasProjectionSpec)

/-- 'laws.FnExactTypeDepth', WHERE WHAT IT READS IS OF BULK AT MOST 1048576: true; the input reads as it did. -/
def fnExactTypeDepthUptoRow : OpenClaim := { program := "ytjhlinnagpjbaaa", sum := "307b206b16905a3a4b8e20c807116fa9aa3d8873b84bc863cc6af29c706976bf", func := "loop.example/g00508/laws.FnExactTypeDepth", spec := "fnExactTypeDepth", recurses := true, loops := true, apart := false, narrowed := true }
def FnExactTypeDepthUptoSaid : Prop := fnExactTypeDepthUptoRow.holds Try.pinned (OpenSpec.upto fnExactTypeDepthSpec)

end Rows
end Go.Proofs.Ytjhlinnagpjbaaa
