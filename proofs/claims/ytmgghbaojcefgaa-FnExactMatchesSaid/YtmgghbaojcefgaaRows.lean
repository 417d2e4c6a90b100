/-
  NARROWER THAN 'FOR EVERY INPUT', by the rows' own cells (each row's printed sentence says how): FnExactCountTypeVariable: loops · FnExactOccursIn: loops · FnExactIsGround: loops · FnExactTypeNames: loops · FnExactTypeVariables: loops · FnExactEqualBindings: loops · FnExactMatches: loops · FnExactAtLeastAsSpecific: loops · FnExactLookup: loops · FnExactMatchAll: loops · FnExactMatch: loops · FnExactIsValidSubstitution: loops.
  DERIVED. THE GIVEN ROWS OF THIS SEAT. 12 by the template 'for every input the law returns true; each argument reads behind the call as it read before'; 0 by the template 'total and deterministic' (their statements: YtmgghbaojcefgaaTotals.lean).
  GIVEN WITH THE SEED: the statements are not yours to turn. If you find one false, say at which input.
  Laid BY PROGRAM, IN A SANDBOX (cutbox-rows.mjs): the forced cells as the released guide's own fill.sh prints them over the translation b6e1541808976ef3… (all of the seat's roots in one cut). By AI agents, Wed Nov 11 2026. No macro, syntax, notation, axiom, sorry.
-/
import Derived.Test.YtmgghbaojcefgaaChecked
import GoSem.Claim
import GoSem.ClaimJoined
import GoSem.ClaimMapViews
import Derived.JoinedTies
import Derived.KernelRfl
namespace Go.Proofs.Ytmgghbaojcefgaa
/- THE CELL 'sum', in the pinned program and in every row, IS THE sha256 OF THE DUMP (.gsa) THAT YtmgghbaojcefgaaProg.lean LOADS. Nothing in Lean hashes anything: it is a label: what it is worth is what the hold of that sum in a sandbox is worth. -/
noncomputable def Try.pinned : Pinned := { name := "ytmgghbaojcefgaa", sum := "b6e1541808976ef3cb8033b940b247f9b86f180352577d23b34f01b2faf1f52c", checked := Try.checked }
namespace Rows
def none {H : Type} : Left H := { results := [], args := [] }

/-- 'laws.FnExactCountTypeVariable': WHATEVER THE INPUT: true; the input reads as it did. -/
def fnExactCountTypeVariableSpec : ChangeSpec := { name := "fnExactCountTypeVariable", fn := fun _ => fun
  | [d1, d2] => { results := [.lit (.bool true)], args := [d1, d2] }
  | _ => none }
def fnExactCountTypeVariableRow : OpenClaim := { program := "ytmgghbaojcefgaa", sum := "b6e1541808976ef3cb8033b940b247f9b86f180352577d23b34f01b2faf1f52c", func := "loop.example/g00508/laws.FnExactCountTypeVariable", spec := "fnExactCountTypeVariable", unfollowed := true, recurses := true, loops := true, apart := false }
def FnExactCountTypeVariableSaid : Prop := fnExactCountTypeVariableRow.holds Try.pinned (OpenSpec.ofChange fnExactCountTypeVariableSpec)

/-- ITS FALSE NEIGHBOUR: 'it returns false'. Refute it at one input. -/
def fnExactCountTypeVariableWrong : ChangeSpec := { name := "fnExactCountTypeVariable", fn := fun _ => fun
  | [d1, d2] => { results := [.lit (.bool false)], args := [d1, d2] }
  | _ => none }
def FnExactCountTypeVariableWrongFalsely : Prop := fnExactCountTypeVariableRow.holds Try.pinned (OpenSpec.ofChange fnExactCountTypeVariableWrong)

/-- 'laws.FnExactOccursIn': WHATEVER THE INPUT: true; the input reads as it did. -/
def fnExactOccursInSpec : ChangeSpec := { name := "fnExactOccursIn", fn := fun _ => fun
  | [d1, d2] => { results := [.lit (.bool true)], args := [d1, d2] }
  | _ => none }
def fnExactOccursInRow : OpenClaim := { program := "ytmgghbaojcefgaa", sum := "b6e1541808976ef3cb8033b940b247f9b86f180352577d23b34f01b2faf1f52c", func := "loop.example/g00508/laws.FnExactOccursIn", spec := "fnExactOccursIn", unfollowed := true, recurses := true, loops := true, apart := false }
def FnExactOccursInSaid : Prop := fnExactOccursInRow.holds Try.pinned (OpenSpec.ofChange fnExactOccursInSpec)

/-- ITS FALSE NEIGHBOUR: 'it returns false'. Refute it at one input. -/
def fnExactOccursInWrong : ChangeSpec := { name := "fnExactOccursIn", fn := fun _ => fun
  | [d1, d2] => { results := [.lit (.bool false)], args := [d1, d2] }
  | _ => none }
def FnExactOccursInWrongFalsely : Prop := fnExactOccursInRow.holds Try.pinned (OpenSpec.ofChange fnExactOccursInWrong)

/-- 'laws.FnExactIsGround': WHATEVER THE INPUT: true; the input reads as it did. -/
def fnExactIsGroundSpec : ChangeSpec := { name := "fnExactIsGround", fn := fun _ => fun
  | [d] => { results := [.lit (.bool true)], args := [d] }
  | _ => none }
def fnExactIsGroundRow : OpenClaim := { program := "ytmgghbaojcefgaa", sum := "b6e1541808976ef3cb8033b940b247f9b86f180352577d23b34f01b2faf1f52c", func := "loop.example/g00508/laws.FnExactIsGround", spec := "fnExactIsGround", unfollowed := true, recurses := true, loops := true, apart := false }
def FnExactIsGroundSaid : Prop := fnExactIsGroundRow.holds Try.pinned (OpenSpec.ofChange fnExactIsGroundSpec)

/-- ITS FALSE NEIGHBOUR: 'it returns false'. Refute it at one input. -/
def fnExactIsGroundWrong : ChangeSpec := { name := "fnExactIsGround", fn := fun _ => fun
  | [d] => { results := [.lit (.bool false)], args := [d] }
  | _ => none }
def FnExactIsGroundWrongFalsely : Prop := fnExactIsGroundRow.holds Try.pinned (OpenSpec.ofChange fnExactIsGroundWrong)

/-- 'laws.FnExactTypeNames': WHATEVER THE INPUT: true; the input reads as it did. -/
def fnExactTypeNamesSpec : ChangeSpec := { name := "fnExactTypeNames", fn := fun _ => fun
  | [d] => { results := [.lit (.bool true)], args := [d] }
  | _ => none }
def fnExactTypeNamesRow : OpenClaim := { program := "ytmgghbaojcefgaa", sum := "b6e1541808976ef3cb8033b940b247f9b86f180352577d23b34f01b2faf1f52c", func := "loop.example/g00508/laws.FnExactTypeNames", spec := "fnExactTypeNames", unfollowed := true, recurses := true, loops := true, apart := false }
def FnExactTypeNamesSaid : Prop := fnExactTypeNamesRow.holds Try.pinned (OpenSpec.ofChange fnExactTypeNamesSpec)

/-- ITS FALSE NEIGHBOUR: 'it returns false'. Refute it at one input. -/
def fnExactTypeNamesWrong : ChangeSpec := { name := "fnExactTypeNames", fn := fun _ => fun
  | [d] => { results := [.lit (.bool false)], args := [d] }
  | _ => none }
def FnExactTypeNamesWrongFalsely : Prop := fnExactTypeNamesRow.holds Try.pinned (OpenSpec.ofChange fnExactTypeNamesWrong)

/-- 'laws.FnExactTypeVariables': WHATEVER THE INPUT: true; the input reads as it did. -/
def fnExactTypeVariablesSpec : ChangeSpec := { name := "fnExactTypeVariables", fn := fun _ => fun
  | [d] => { results := [.lit (.bool true)], args := [d] }
  | _ => none }
def fnExactTypeVariablesRow : OpenClaim := { program := "ytmgghbaojcefgaa", sum := "b6e1541808976ef3cb8033b940b247f9b86f180352577d23b34f01b2faf1f52c", func := "loop.example/g00508/laws.FnExactTypeVariables", spec := "fnExactTypeVariables", unfollowed := true, recurses := true, loops := true, apart := false }
def FnExactTypeVariablesSaid : Prop := fnExactTypeVariablesRow.holds Try.pinned (OpenSpec.ofChange fnExactTypeVariablesSpec)

/-- ITS FALSE NEIGHBOUR: 'it returns false'. Refute it at one input. -/
def fnExactTypeVariablesWrong : ChangeSpec := { name := "fnExactTypeVariables", fn := fun _ => fun
  | [d] => { results := [.lit (.bool false)], args := [d] }
  | _ => none }
def FnExactTypeVariablesWrongFalsely : Prop := fnExactTypeVariablesRow.holds Try.pinned (OpenSpec.ofChange fnExactTypeVariablesWrong)

/-- 'laws.FnExactEqualBindings': WHATEVER THE INPUT: true; the input reads as it did. -/
def fnExactEqualBindingsSpec : ChangeSpec := { name := "fnExactEqualBindings", fn := fun _ => fun
  | [d1, d2] => { results := [.lit (.bool true)], args := [d1, d2] }
  | _ => none }
def fnExactEqualBindingsRow : OpenClaim := { program := "ytmgghbaojcefgaa", sum := "b6e1541808976ef3cb8033b940b247f9b86f180352577d23b34f01b2faf1f52c", func := "loop.example/g00508/laws.FnExactEqualBindings", spec := "fnExactEqualBindings", unfollowed := true, recurses := true, loops := true, apart := false }
def FnExactEqualBindingsSaid : Prop := fnExactEqualBindingsRow.holds Try.pinned (OpenSpec.ofChange fnExactEqualBindingsSpec)

/-- ITS FALSE NEIGHBOUR: 'it returns false'. Refute it at one input. -/
def fnExactEqualBindingsWrong : ChangeSpec := { name := "fnExactEqualBindings", fn := fun _ => fun
  | [d1, d2] => { results := [.lit (.bool false)], args := [d1, d2] }
  | _ => none }
def FnExactEqualBindingsWrongFalsely : Prop := fnExactEqualBindingsRow.holds Try.pinned (OpenSpec.ofChange fnExactEqualBindingsWrong)

/-- 'laws.FnExactMatches': WHATEVER THE INPUT: true; the input reads as it did. -/
def fnExactMatchesSpec : ChangeSpec := { name := "fnExactMatches", fn := fun _ => fun
  | [d1, d2] => { results := [.lit (.bool true)], args := [d1, d2] }
  | _ => none }
def fnExactMatchesRow : OpenClaim := { program := "ytmgghbaojcefgaa", sum := "b6e1541808976ef3cb8033b940b247f9b86f180352577d23b34f01b2faf1f52c", func := "loop.example/g00508/laws.FnExactMatches", spec := "fnExactMatches", unfollowed := true, recurses := true, loops := true, apart := false }
def FnExactMatchesSaid : Prop := fnExactMatchesRow.holds Try.pinned (OpenSpec.ofChange fnExactMatchesSpec)

/-- ITS FALSE NEIGHBOUR: 'it returns false'. Refute it at one input. -/
def fnExactMatchesWrong : ChangeSpec := { name := "fnExactMatches", fn := fun _ => fun
  | [d1, d2] => { results := [.lit (.bool false)], args := [d1, d2] }
  | _ => none }
def FnExactMatchesWrongFalsely : Prop := fnExactMatchesRow.holds Try.pinned (OpenSpec.ofChange fnExactMatchesWrong)

/-- 'laws.FnExactAtLeastAsSpecific': WHATEVER THE INPUT: true; the input reads as it did. -/
def fnExactAtLeastAsSpecificSpec : ChangeSpec := { name := "fnExactAtLeastAsSpecific", fn := fun _ => fun
  | [d1, d2] => { results := [.lit (.bool true)], args := [d1, d2] }
  | _ => none }
def fnExactAtLeastAsSpecificRow : OpenClaim := { program := "ytmgghbaojcefgaa", sum := "b6e1541808976ef3cb8033b940b247f9b86f180352577d23b34f01b2faf1f52c", func := "loop.example/g00508/laws.FnExactAtLeastAsSpecific", spec := "fnExactAtLeastAsSpecific", unfollowed := true, recurses := true, loops := true, apart := false }
def FnExactAtLeastAsSpecificSaid : Prop := fnExactAtLeastAsSpecificRow.holds Try.pinned (OpenSpec.ofChange fnExactAtLeastAsSpecificSpec)

/-- ITS FALSE NEIGHBOUR: 'it returns false'. Refute it at one input. -/
def fnExactAtLeastAsSpecificWrong : ChangeSpec := { name := "fnExactAtLeastAsSpecific", fn := fun _ => fun
  | [d1, d2] => { results := [.lit (.bool false)], args := [d1, d2] }
  | _ => none }
def FnExactAtLeastAsSpecificWrongFalsely : Prop := fnExactAtLeastAsSpecificRow.holds Try.pinned (OpenSpec.ofChange fnExactAtLeastAsSpecificWrong)

/-- 'laws.FnExactLookup': WHATEVER THE INPUT: true; the input reads as it did. -/
def fnExactLookupSpec : ChangeSpec := { name := "fnExactLookup", fn := fun _ => fun
  | [d1, d2] => { results := [.lit (.bool true)], args := [d1, d2] }
  | _ => none }
def fnExactLookupRow : OpenClaim := { program := "ytmgghbaojcefgaa", sum := "b6e1541808976ef3cb8033b940b247f9b86f180352577d23b34f01b2faf1f52c", func := "loop.example/g00508/laws.FnExactLookup", spec := "fnExactLookup", recurses := true, loops := true, apart := false }
def FnExactLookupSaid : Prop := fnExactLookupRow.holds Try.pinned (OpenSpec.ofChange fnExactLookupSpec)

/-- ITS FALSE NEIGHBOUR: 'it returns false'. Refute it at one input. -/
def fnExactLookupWrong : ChangeSpec := { name := "fnExactLookup", fn := fun _ => fun
  | [d1, d2] => { results := [.lit (.bool false)], args := [d1, d2] }
  | _ => none }
def FnExactLookupWrongFalsely : Prop := fnExactLookupRow.holds Try.pinned (OpenSpec.ofChange fnExactLookupWrong)

/-- 'laws.FnExactMatchAll': WHATEVER THE INPUT: true; the input reads as it did. -/
def fnExactMatchAllSpec : ChangeSpec := { name := "fnExactMatchAll", fn := fun _ => fun
  | [d1, d2] => { results := [.lit (.bool true)], args := [d1, d2] }
  | _ => none }
def fnExactMatchAllRow : OpenClaim := { program := "ytmgghbaojcefgaa", sum := "b6e1541808976ef3cb8033b940b247f9b86f180352577d23b34f01b2faf1f52c", func := "loop.example/g00508/laws.FnExactMatchAll", spec := "fnExactMatchAll", unfollowed := true, recurses := true, loops := true, apart := false }
def FnExactMatchAllSaid : Prop := fnExactMatchAllRow.holds Try.pinned (OpenSpec.ofChange fnExactMatchAllSpec)

/-- ITS FALSE NEIGHBOUR: 'it returns false'. Refute it at one input. -/
def fnExactMatchAllWrong : ChangeSpec := { name := "fnExactMatchAll", fn := fun _ => fun
  | [d1, d2] => { results := [.lit (.bool false)], args := [d1, d2] }
  | _ => none }
def FnExactMatchAllWrongFalsely : Prop := fnExactMatchAllRow.holds Try.pinned (OpenSpec.ofChange fnExactMatchAllWrong)

/-- 'laws.FnExactMatch': WHATEVER THE INPUT: true; the input reads as it did. -/
def fnExactMatchSpec : ChangeSpec := { name := "fnExactMatch", fn := fun _ => fun
  | [d1, d2] => { results := [.lit (.bool true)], args := [d1, d2] }
  | _ => none }
def fnExactMatchRow : OpenClaim := { program := "ytmgghbaojcefgaa", sum := "b6e1541808976ef3cb8033b940b247f9b86f180352577d23b34f01b2faf1f52c", func := "loop.example/g00508/laws.FnExactMatch", spec := "fnExactMatch", unfollowed := true, recurses := true, loops := true, apart := false }
def FnExactMatchSaid : Prop := fnExactMatchRow.holds Try.pinned (OpenSpec.ofChange fnExactMatchSpec)

/-- ITS FALSE NEIGHBOUR: 'it returns false'. Refute it at one input. -/
def fnExactMatchWrong : ChangeSpec := { name := "fnExactMatch", fn := fun _ => fun
  | [d1, d2] => { results := [.lit (.bool false)], args := [d1, d2] }
  | _ => none }
def FnExactMatchWrongFalsely : Prop := fnExactMatchRow.holds Try.pinned (OpenSpec.ofChange fnExactMatchWrong)

/-- 'laws.FnExactIsValidSubstitution': WHATEVER THE INPUT: true; the input reads as it did. -/
def fnExactIsValidSubstitutionSpec : ChangeSpec := { name := "fnExactIsValidSubstitution", fn := fun _ => fun
  | [d] => { results := [.lit (.bool true)], args := [d] }
  | _ => none }
def fnExactIsValidSubstitutionRow : OpenClaim := { program := "ytmgghbaojcefgaa", sum := "b6e1541808976ef3cb8033b940b247f9b86f180352577d23b34f01b2faf1f52c", func := "loop.example/g00508/laws.FnExactIsValidSubstitution", spec := "fnExactIsValidSubstitution", unfollowed := true, recurses := true, loops := true, apart := false }
def FnExactIsValidSubstitutionSaid : Prop := fnExactIsValidSubstitutionRow.holds Try.pinned (OpenSpec.ofChange fnExactIsValidSubstitutionSpec)

/-- ITS FALSE NEIGHBOUR: 'it returns false'. Refute it at one input. -/
def fnExactIsValidSubstitutionWrong : ChangeSpec := { name := "fnExactIsValidSubstitution", fn := fun _ => fun
  | [d] => { results := [.lit (.bool false)], args := [d] }
  | _ => none }
def FnExactIsValidSubstitutionWrongFalsely : Prop := fnExactIsValidSubstitutionRow.holds Try.pinned (OpenSpec.ofChange fnExactIsValidSubstitutionWrong)

/- THE SECOND FORM. 'bulk': how many values and letters a reading holds, each counted each time it is reached (what is shared counts as often as it is met; a slice's spare places count too). A statement '..UptoSaid' is the law's where the arguments, and the package variables that the reading takes, are together of bulk at most 1048576: NARROWER than '..Said'. Prove '..Said' where nothing that the law and all that it calls make is longer than what came in: it says more and counts as full. Else prove '..UptoSaid'. A law counts once. -/
mutual
def uptoBulk {H : Type} : DataW H → Nat
  | .lit (.string bytes) => bytes.length + 1
  | .lit _ => 1
  | .nil => 1
  | .ptr d => uptoBulk d + 1
  | .slice elems spare => uptoBulkAll elems + uptoBulkAll spare + 1
  | .agg parts => uptoBulkAll parts + 1
  | .iface _ d => uptoBulk d + 1
  | .map entries => uptoBulkEntries entries + 1
  | .held _ => 1
def uptoBulkAll {H : Type} : List (DataW H) → Nat
  | [] => 0
  | d :: r => uptoBulk d + uptoBulkAll r
def uptoBulkEntries {H : Type} : List (Lit × DataW H) → Nat
  | [] => 0
  | x :: r => uptoBulkEntry x + uptoBulkEntries r
def uptoBulkEntry {H : Type} : Lit × DataW H → Nat
  | (.string bytes, d) => bytes.length + uptoBulk d + 1
  | (_, d) => uptoBulk d + 1
 end
def uptoSmall : (H : Type) → List (DataW H) → Bool := fun _ ds => decide (uptoBulkAll ds ≤ 1048576)
def OpenSpec.upto (s : _root_.Go.ChangeSpec) : _root_.Go.OpenSpec := { _root_.Go.OpenSpec.ofChange s with cond := some uptoSmall }

/-- 'laws.FnExactCountTypeVariable', WHERE WHAT IT READS IS OF BULK AT MOST 1048576: true; the input reads as it did. -/
def fnExactCountTypeVariableUptoRow : OpenClaim := { program := "ytmgghbaojcefgaa", sum := "b6e1541808976ef3cb8033b940b247f9b86f180352577d23b34f01b2faf1f52c", func := "loop.example/g00508/laws.FnExactCountTypeVariable", spec := "fnExactCountTypeVariable", unfollowed := true, recurses := true, loops := true, apart := false, narrowed := true }
def FnExactCountTypeVariableUptoSaid : Prop := fnExactCountTypeVariableUptoRow.holds Try.pinned (OpenSpec.upto fnExactCountTypeVariableSpec)

/-- 'laws.FnExactOccursIn', WHERE WHAT IT READS IS OF BULK AT MOST 1048576: true; the input reads as it did. -/
def fnExactOccursInUptoRow : OpenClaim := { program := "ytmgghbaojcefgaa", sum := "b6e1541808976ef3cb8033b940b247f9b86f180352577d23b34f01b2faf1f52c", func := "loop.example/g00508/laws.FnExactOccursIn", spec := "fnExactOccursIn", unfollowed := true, recurses := true, loops := true, apart := false, narrowed := true }
def FnExactOccursInUptoSaid : Prop := fnExactOccursInUptoRow.holds Try.pinned (OpenSpec.upto fnExactOccursInSpec)

/-- 'laws.FnExactIsGround', WHERE WHAT IT READS IS OF BULK AT MOST 1048576: true; the input reads as it did. -/
def fnExactIsGroundUptoRow : OpenClaim := { program := "ytmgghbaojcefgaa", sum := "b6e1541808976ef3cb8033b940b247f9b86f180352577d23b34f01b2faf1f52c", func := "loop.example/g00508/laws.FnExactIsGround", spec := "fnExactIsGround", unfollowed := true, recurses := true, loops := true, apart := false, narrowed := true }
def FnExactIsGroundUptoSaid : Prop := fnExactIsGroundUptoRow.holds Try.pinned (OpenSpec.upto fnExactIsGroundSpec)

/-- 'laws.FnExactTypeNames', WHERE WHAT IT READS IS OF BULK AT MOST 1048576: true; the input reads as it did. -/
def fnExactTypeNamesUptoRow : OpenClaim := { program := "ytmgghbaojcefgaa", sum := "b6e1541808976ef3cb8033b940b247f9b86f180352577d23b34f01b2faf1f52c", func := "loop.example/g00508/laws.FnExactTypeNames", spec := "fnExactTypeNames", unfollowed := true, recurses := true, loops := true, apart := false, narrowed := true }
def FnExactTypeNamesUptoSaid : Prop := fnExactTypeNamesUptoRow.holds Try.pinned (OpenSpec.upto fnExactTypeNamesSpec)

/-- 'laws.FnExactTypeVariables', WHERE WHAT IT READS IS OF BULK AT MOST 1048576: true; the input reads as it did. -/
def fnExactTypeVariablesUptoRow : OpenClaim := { program := "ytmgghbaojcefgaa", sum := "b6e1541808976ef3cb8033b940b247f9b86f180352577d23b34f01b2faf1f52c", func := "loop.example/g00508/laws.FnExactTypeVariables", spec := "fnExactTypeVariables", unfollowed := true, recurses := true, loops := true, apart := false, narrowed := true }
def FnExactTypeVariablesUptoSaid : Prop := fnExactTypeVariablesUptoRow.holds Try.pinned (OpenSpec.upto fnExactTypeVariablesSpec)

/-- 'laws.FnExactEqualBindings', WHERE WHAT IT READS IS OF BULK AT MOST 1048576: true; the input reads as it did. -/
def fnExactEqualBindingsUptoRow : OpenClaim := { program := "ytmgghbaojcefgaa", sum := "b6e1541808976ef3cb8033b940b247f9b86f180352577d23b34f01b2faf1f52c", func := "loop.example/g00508/laws.FnExactEqualBindings", spec := "fnExactEqualBindings", unfollowed := true, recurses := true, loops := true, apart := false, narrowed := true }
def FnExactEqualBindingsUptoSaid : Prop := fnExactEqualBindingsUptoRow.holds Try.pinned (OpenSpec.upto fnExactEqualBindingsSpec)

/-- 'laws.FnExactMatches', WHERE WHAT IT READS IS OF BULK AT MOST 1048576: true; the input reads as it did. -/
def fnExactMatchesUptoRow : OpenClaim := { program := "ytmgghbaojcefgaa", sum := "b6e1541808976ef3cb8033b940b247f9b86f180352577d23b34f01b2faf1f52c", func := "loop.example/g00508/laws.FnExactMatches", spec := "fnExactMatches", unfollowed := true, recurses := true, loops := true, apart := false, narrowed := true }
def FnExactMatchesUptoSaid : Prop := fnExactMatchesUptoRow.holds Try.pinned (OpenSpec.upto fnExactMatchesSpec)

/-- 'laws.FnExactAtLeastAsSpecific', WHERE WHAT IT READS IS OF BULK AT MOST 1048576: true; the input reads as it did. -/
def fnExactAtLeastAsSpecificUptoRow : OpenClaim := { program := "ytmgghbaojcefgaa", sum := "b6e1541808976ef3cb8033b940b247f9b86f180352577d23b34f01b2faf1f52c", func := "loop.example/g00508/laws.FnExactAtLeastAsSpecific", spec := "fnExactAtLeastAsSpecific", unfollowed := true, recurses := true, loops := true, apart := false, narrowed := true }
def FnExactAtLeastAsSpecificUptoSaid : Prop := fnExactAtLeastAsSpecificUptoRow.holds Try.pinned (OpenSpec.upto fnExactAtLeastAsSpecificSpec)

/-- 'laws.FnExactLookup', WHERE WHAT IT READS IS OF BULK AT MOST 1048576: true; the input reads as it did. -/
def fnExactLookupUptoRow : OpenClaim := { program := "ytmgghbaojcefgaa", sum := "b6e1541808976ef3cb8033b940b247f9b86f180352577d23b34f01b2faf1f52c", func := "loop.example/g00508/laws.FnExactLookup", spec := "fnExactLookup", recurses := true, loops := true, apart := false, narrowed := true }
def FnExactLookupUptoSaid : Prop := fnExactLookupUptoRow.holds Try.pinned (OpenSpec.upto fnExactLookupSpec)

/-- 'laws.FnExactMatchAll', WHERE WHAT IT READS IS OF BULK AT MOST 1048576: true; the input reads as it did. -/
def fnExactMatchAllUptoRow : OpenClaim := { program := "ytmgghbaojcefgaa", sum := "b6e1541808976ef3cb8033b940b247f9b86f180352577d23b34f01b2faf1f52c", func := "loop.example/g00508/laws.FnExactMatchAll", spec := "fnExactMatchAll", unfollowed := true, recurses := true, loops := true, apart := false, narrowed := true }
def FnExactMatchAllUptoSaid : Prop := fnExactMatchAllUptoRow.holds Try.pinned (OpenSpec.upto fnExactMatchAllSpec)

/-- 'laws.FnExactMatch', WHERE WHAT IT READS IS OF BULK AT MOST 1048576: true; the input reads as it did. -/
def fnExactMatchUptoRow : OpenClaim := { program := "ytmgghbaojcefgaa", sum := "b6e1541808976ef3cb8033b940b247f9b86f180352577d23b34f01b2faf1f52c", func := "loop.example/g00508/laws.FnExactMatch", spec := "fnExactMatch", unfollowed := true, recurses := true, loops := true, apart := false, narrowed := true }
def FnExactMatchUptoSaid : Prop := fnExactMatchUptoRow.holds Try.pinned (OpenSpec.upto fnExactMatchSpec)

/-- 'laws.FnExactIsValidSubstitution', WHERE WHAT IT READS IS OF BULK AT MOST 1048576: true; the input reads as it did. -/
def fnExactIsValidSubstitutionUptoRow : OpenClaim := { program := "ytmgghbaojcefgaa", sum := "b6e1541808976ef3cb8033b940b247f9b86f180352577d23b34f01b2faf1f52c", func := "loop.example/g00508/laws.FnExactIsValidSubstitution", spec := "fnExactIsValidSubstitution", unfollowed := true, recurses := true, loops := true, apart := false, narrowed := true }
def FnExactIsValidSubstitutionUptoSaid : Prop := fnExactIsValidSubstitutionUptoRow.holds Try.pinned (OpenSpec.upto fnExactIsValidSubstitutionSpec)

end Rows
end Go.Proofs.Ytmgghbaojcefgaa
