/-
  NARROWER THAN 'FOR EVERY INPUT', by the rows' own cells (each row's printed sentence says how): FnExactApplyAll: loops · FnExactApply: loops · FnExactRestrictTo: loops.
  DERIVED. THE GIVEN ROWS OF THIS SEAT. 6 by the template 'for every input the law returns true; each argument reads behind the call as it read before'; 0 by the template 'total and deterministic' (their statements: YtkpdkemkfgcamaaTotals.lean).
  GIVEN WITH THE SEED: the statements are not yours to turn. If you find one false, say at which input.
  Laid BY PROGRAM, IN A SANDBOX (cutbox-rows.mjs): the forced cells as the released guide's own fill.sh prints them over the translation bf4eede15495a686… (all of the seat's roots in one cut). By AI agents, Wed Nov 11 2026. No macro, syntax, notation, axiom, sorry.
-/
import Derived.Test.YtkpdkemkfgcamaaChecked
import GoSem.Claim
import GoSem.ClaimJoined
import GoSem.ClaimMapViews
import Derived.JoinedTies
import Derived.KernelRfl
namespace Go.Proofs.Ytkpdkemkfgcamaa
/- THE CELL 'sum', in the pinned program and in every row, IS THE sha256 OF THE DUMP (.gsa) THAT YtkpdkemkfgcamaaProg.lean LOADS. Nothing in Lean hashes anything: it is a label: what it is worth is what the hold of that sum in a sandbox is worth. -/
noncomputable def Try.pinned : Pinned := { name := "ytkpdkemkfgcamaa", sum := "bf4eede15495a6869adce9c480a93b756630fb9687fe340748a97ec220946d36", checked := Try.checked }
namespace Rows
def none {H : Type} : Left H := { results := [], args := [] }

/-- 'laws.FnExactApplyAll': WHATEVER THE INPUT: true; the input reads as it did. -/
def fnExactApplyAllSpec : ChangeSpec := { name := "fnExactApplyAll", fn := fun _ => fun
  | [d1, d2] => { results := [.lit (.bool true)], args := [d1, d2] }
  | _ => none }
def fnExactApplyAllRow : OpenClaim := { program := "ytkpdkemkfgcamaa", sum := "bf4eede15495a6869adce9c480a93b756630fb9687fe340748a97ec220946d36", func := "loop.example/g00508/laws.FnExactApplyAll", spec := "fnExactApplyAll", recurses := true, loops := true, apart := false }
def FnExactApplyAllSaid : Prop := fnExactApplyAllRow.holds Try.pinned (OpenSpec.ofChange fnExactApplyAllSpec)

/-- ITS FALSE NEIGHBOUR: 'it returns false'. Refute it at one input. -/
def fnExactApplyAllWrong : ChangeSpec := { name := "fnExactApplyAll", fn := fun _ => fun
  | [d1, d2] => { results := [.lit (.bool false)], args := [d1, d2] }
  | _ => none }
def FnExactApplyAllWrongFalsely : Prop := fnExactApplyAllRow.holds Try.pinned (OpenSpec.ofChange fnExactApplyAllWrong)

/-- 'laws.FnExactApply': WHATEVER THE INPUT: true; the input reads as it did. -/
def fnExactApplySpec : ChangeSpec := { name := "fnExactApply", fn := fun _ => fun
  | [d1, d2] => { results := [.lit (.bool true)], args := [d1, d2] }
  | _ => none }
def fnExactApplyRow : OpenClaim := { program := "ytkpdkemkfgcamaa", sum := "bf4eede15495a6869adce9c480a93b756630fb9687fe340748a97ec220946d36", func := "loop.example/g00508/laws.FnExactApply", spec := "fnExactApply", recurses := true, loops := true, apart := false }
def FnExactApplySaid : Prop := fnExactApplyRow.holds Try.pinned (OpenSpec.ofChange fnExactApplySpec)

/-- ITS FALSE NEIGHBOUR: 'it returns false'. Refute it at one input. -/
def fnExactApplyWrong : ChangeSpec := { name := "fnExactApply", fn := fun _ => fun
  | [d1, d2] => { results := [.lit (.bool false)], args := [d1, d2] }
  | _ => none }
def FnExactApplyWrongFalsely : Prop := fnExactApplyRow.holds Try.pinned (OpenSpec.ofChange fnExactApplyWrong)

/-- 'laws.FnMatchAll': WHATEVER THE INPUT: true; the input reads as it did. -/
def fnMatchAllSpec : ChangeSpec := { name := "fnMatchAll", fn := fun _ => fun
  | [d] => { results := [.lit (.bool true)], args := [d] }
  | _ => none }
def fnMatchAllRow : OpenClaim := { program := "ytkpdkemkfgcamaa", sum := "bf4eede15495a6869adce9c480a93b756630fb9687fe340748a97ec220946d36", func := "loop.example/g00508/laws.FnMatchAll", spec := "fnMatchAll", unfollowed := true, recurses := true, apart := false }
def FnMatchAllSaid : Prop := fnMatchAllRow.holds Try.pinned (OpenSpec.ofChange fnMatchAllSpec)

/-- ITS FALSE NEIGHBOUR: 'it returns false'. Refute it at one input. -/
def fnMatchAllWrong : ChangeSpec := { name := "fnMatchAll", fn := fun _ => fun
  | [d] => { results := [.lit (.bool false)], args := [d] }
  | _ => none }
def FnMatchAllWrongFalsely : Prop := fnMatchAllRow.holds Try.pinned (OpenSpec.ofChange fnMatchAllWrong)

/-- 'laws.FnMatch': WHATEVER THE INPUT: true; the input reads as it did. -/
def fnMatchSpec : ChangeSpec := { name := "fnMatch", fn := fun _ => fun
  | [d] => { results := [.lit (.bool true)], args := [d] }
  | _ => none }
def fnMatchRow : OpenClaim := { program := "ytkpdkemkfgcamaa", sum := "bf4eede15495a6869adce9c480a93b756630fb9687fe340748a97ec220946d36", func := "loop.example/g00508/laws.FnMatch", spec := "fnMatch", unfollowed := true, recurses := true, apart := false }
def FnMatchSaid : Prop := fnMatchRow.holds Try.pinned (OpenSpec.ofChange fnMatchSpec)

/-- ITS FALSE NEIGHBOUR: 'it returns false'. Refute it at one input. -/
def fnMatchWrong : ChangeSpec := { name := "fnMatch", fn := fun _ => fun
  | [d] => { results := [.lit (.bool false)], args := [d] }
  | _ => none }
def FnMatchWrongFalsely : Prop := fnMatchRow.holds Try.pinned (OpenSpec.ofChange fnMatchWrong)

/-- 'laws.FnExactRestrictTo': WHATEVER THE INPUT: true; the input reads as it did. -/
def fnExactRestrictToSpec : ChangeSpec := { name := "fnExactRestrictTo", fn := fun _ => fun
  | [d1, d2] => { results := [.lit (.bool true)], args := [d1, d2] }
  | _ => none }
def fnExactRestrictToRow : OpenClaim := { program := "ytkpdkemkfgcamaa", sum := "bf4eede15495a6869adce9c480a93b756630fb9687fe340748a97ec220946d36", func := "loop.example/g00508/laws.FnExactRestrictTo", spec := "fnExactRestrictTo", unfollowed := true, recurses := true, loops := true, apart := false }
def FnExactRestrictToSaid : Prop := fnExactRestrictToRow.holds Try.pinned (OpenSpec.ofChange fnExactRestrictToSpec)

/-- ITS FALSE NEIGHBOUR: 'it returns false'. Refute it at one input. -/
def fnExactRestrictToWrong : ChangeSpec := { name := "fnExactRestrictTo", fn := fun _ => fun
  | [d1, d2] => { results := [.lit (.bool false)], args := [d1, d2] }
  | _ => none }
def FnExactRestrictToWrongFalsely : Prop := fnExactRestrictToRow.holds Try.pinned (OpenSpec.ofChange fnExactRestrictToWrong)

/-- 'laws.FnApplied': WHATEVER THE INPUT: true; the input reads as it did. -/
def fnAppliedSpec : ChangeSpec := { name := "fnApplied", fn := fun _ => fun
  | [d] => { results := [.lit (.bool true)], args := [d] }
  | _ => none }
def fnAppliedRow : OpenClaim := { program := "ytkpdkemkfgcamaa", sum := "bf4eede15495a6869adce9c480a93b756630fb9687fe340748a97ec220946d36", func := "loop.example/g00508/laws.FnApplied", spec := "fnApplied", unfollowed := true, recurses := true, apart := false }
def FnAppliedSaid : Prop := fnAppliedRow.holds Try.pinned (OpenSpec.ofChange fnAppliedSpec)

/-- ITS FALSE NEIGHBOUR: 'it returns false'. Refute it at one input. -/
def fnAppliedWrong : ChangeSpec := { name := "fnApplied", fn := fun _ => fun
  | [d] => { results := [.lit (.bool false)], args := [d] }
  | _ => none }
def FnAppliedWrongFalsely : Prop := fnAppliedRow.holds Try.pinned (OpenSpec.ofChange fnAppliedWrong)

/- THE SECOND FORM. 'bulk': how many values and letters a reading holds, each counted each time it is reached (what is shared counts as often as it is met; a slice's spare places count too). A statement '..UptoSaid' is the law's where the arguments, and the package variables that the reading takes, are together of bulk at most 1048576: NARROWER than '..Said'. Prove '..Said' where nothing that the law and all that it calls make is longer than what came in: it says more and counts as full. Else prove '..UptoSaid'. A law counts once. -/
mutual
def uptoBulk {H : Type} : DataW H → Nat
  | .lit (.string bytes) => bytes.length + 1
  | .lit _ => 1
  | .nil => 1
  | .ptr d => uptoBulk d + 1
  | .slice elems spare => uptoBulkAll elems + uptoBulkAll spare + 1
  | .agg parts => uptoBulkAll parts + 1
  | .iface _ d => uptoBulk d + 1
  | .map entries => uptoBulkEntries entries + 1
  | .held _ => 1
def uptoBulkAll {H : Type} : List (DataW H) → Nat
  | [] => 0
  | d :: r => uptoBulk d + uptoBulkAll r
def uptoBulkEntries {H : Type} : List (Lit × DataW H) → Nat
  | [] => 0
  | x :: r => uptoBulkEntry x + uptoBulkEntries r
def uptoBulkEntry {H : Type} : Lit × DataW H → Nat
  | (.string bytes, d) => bytes.length + uptoBulk d + 1
  | (_, d) => uptoBulk d + 1
 end
def uptoSmall : (H : Type) → List (DataW H) → Bool := fun _ ds => decide (uptoBulkAll ds ≤ 1048576)
def OpenSpec.upto (s : _root_.Go.ChangeSpec) : _root_.Go.OpenSpec := { _root_.Go.OpenSpec.ofChange s with cond := some uptoSmall }

/-- 'laws.FnExactApplyAll', WHERE WHAT IT READS IS OF BULK AT MOST 1048576: true; the input reads as it did. -/
def fnExactApplyAllUptoRow : OpenClaim := { program := "ytkpdkemkfgcamaa", sum := "bf4eede15495a6869adce9c480a93b756630fb9687fe340748a97ec220946d36", func := "loop.example/g00508/laws.FnExactApplyAll", spec := "fnExactApplyAll", recurses := true, loops := true, apart := false, narrowed := true }
def FnExactApplyAllUptoSaid : Prop := fnExactApplyAllUptoRow.holds Try.pinned (OpenSpec.upto fnExactApplyAllSpec)

/-- 'laws.FnExactApply', WHERE WHAT IT READS IS OF BULK AT MOST 1048576: true; the input reads as it did. -/
def fnExactApplyUptoRow : OpenClaim := { program := "ytkpdkemkfgcamaa", sum := "bf4eede15495a6869adce9c480a93b756630fb9687fe340748a97ec220946d36", func := "loop.example/g00508/laws.FnExactApply", spec := "fnExactApply", recurses := true, loops := true, apart := false, narrowed := true }
def FnExactApplyUptoSaid : Prop := fnExactApplyUptoRow.holds Try.pinned (OpenSpec.upto fnExactApplySpec)

/-- 'laws.FnMatchAll', WHERE WHAT IT READS IS OF BULK AT MOST 1048576: true; the input reads as it did. -/
def fnMatchAllUptoRow : OpenClaim := { program := "ytkpdkemkfgcamaa", sum := "bf4eede15495a6869adce9c480a93b756630fb9687fe340748a97ec220946d36", func := "loop.example/g00508/laws.FnMatchAll", spec := "fnMatchAll", unfollowed := true, recurses := true, apart := false, narrowed := true }
def FnMatchAllUptoSaid : Prop := fnMatchAllUptoRow.holds Try.pinned (OpenSpec.upto fnMatchAllSpec)

/-- 'laws.FnMatch', WHERE WHAT IT READS IS OF BULK AT MOST 1048576: true; the input reads as it did. -/
def fnMatchUptoRow : OpenClaim := { program := "ytkpdkemkfgcamaa", sum := "bf4eede15495a6869adce9c480a93b756630fb9687fe340748a97ec220946d36", func := "loop.example/g00508/laws.FnMatch", spec := "fnMatch", unfollowed := true, recurses := true, apart := false, narrowed := true }
def FnMatchUptoSaid : Prop := fnMatchUptoRow.holds Try.pinned (OpenSpec.upto fnMatchSpec)

/-- 'laws.FnExactRestrictTo', WHERE WHAT IT READS IS OF BULK AT MOST 1048576: true; the input reads as it did. -/
def fnExactRestrictToUptoRow : OpenClaim := { program := "ytkpdkemkfgcamaa", sum := "bf4eede15495a6869adce9c480a93b756630fb9687fe340748a97ec220946d36", func := "loop.example/g00508/laws.FnExactRestrictTo", spec := "fnExactRestrictTo", unfollowed := true, recurses := true, loops := true, apart := false, narrowed := true }
def FnExactRestrictToUptoSaid : Prop := fnExactRestrictToUptoRow.holds Try.pinned (OpenSpec.upto fnExactRestrictToSpec)

/-- 'laws.FnApplied', WHERE WHAT IT READS IS OF BULK AT MOST 1048576: true; the input reads as it did. -/
def fnAppliedUptoRow : OpenClaim := { program := "ytkpdkemkfgcamaa", sum := "bf4eede15495a6869adce9c480a93b756630fb9687fe340748a97ec220946d36", func := "loop.example/g00508/laws.FnApplied", spec := "fnApplied", unfollowed := true, recurses := true, apart := false, narrowed := true }
def FnAppliedUptoSaid : Prop := fnAppliedUptoRow.holds Try.pinned (OpenSpec.upto fnAppliedSpec)

end Rows
end Go.Proofs.Ytkpdkemkfgcamaa
