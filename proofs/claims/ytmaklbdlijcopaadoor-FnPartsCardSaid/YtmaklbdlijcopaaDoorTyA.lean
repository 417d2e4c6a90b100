/- Contracts: the laws' helpers on Type: sizes, copies. Conditions: none. -/
import Derived.Test.YtmaklbdlijcopaaDoorSxA
namespace Go.Proofs.YtmaklbdlijcopaaDoor
open Go.RowKit

abbrev TLab : Type := Int × ByteArray
/-- A Type's own cells before its arguments. -/
def encT (s : TLab) : List Value := [.int .i64 s.1, .string s.2]
theorem encT_sz : ∀ l, (encT l).length + 1 = 3 := fun _ => rfl
abbrev Tp : Type := Rose TLab
/-- A Type's weight: its letters and nodes. -/
abbrev szT (ks : List Tp) : Nat := Rose.wtL (fun l => l.2.size) ks


/-- What a function hands back that makes a forest. -/
def NewTys (w : World) (ks : List Tp) (r : Value) (w' : World) : Prop := Ext w w' ∧ ∃ bs, Kids encT w' r ks bs ∧ Fresh w.heap.size w' bs
/-- What a function hands back that makes a Type. -/
def NewTy (w : World) (l : TLab) (ks : List Tp) (r : Value) (w' : World) : Prop := Ext w w' ∧ ∃ v bs, r = .agg #[.int .i64 l.1, .string l.2, v] ∧ Kids encT w' v ks bs ∧ Fresh w.heap.size w' bs

end Go.Proofs.YtmaklbdlijcopaaDoor
