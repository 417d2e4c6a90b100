/- Contracts: the laws' helpers on SExpr: sizes, copies, equality. Conditions: none. -/
import Derived.Test.YtmaklbdlijcopaaDoorTree
import Derived.Test.YtmaklbdlijcopaaDoorStrB
namespace Go.Proofs.YtmaklbdlijcopaaDoor
open Go.RowKit

theorem take_succ_get {α : Type} {ks : List α} {k : Nat} {t : α} (h : ks[k]? = some t) : ks.take (k + 1) = ks.take k ++ [t] := by
  obtain ⟨hi, rfl⟩ := List.getElem?_eq_some_iff.1 h
  exact List.take_succ_eq_append_getElem hi

/-- An SExpr's own cells before its list. -/
def encS (s : ByteArray) : List Value := [.string s]
theorem encS_sz : ∀ l, (encS l).length + 1 = 2 := fun _ => rfl
abbrev Sx : Type := Rose ByteArray
/-- An SExpr's weight: its letters and nodes. -/
abbrev szS (ks : List Sx) : Nat := Rose.wtL ByteArray.size ks

/-- The struct in a box of its own. -/
theorem Blk.at0 {w : World} {b : Nat} {e : TypeId} {x : Value} {cs : List Value} (h : Blk w b e (x :: cs)) : w.cell? ((⟨b, 0, none⟩ : Addr).add 0) = some x := by
  rw [Addr.add_lit, h.cell]; rfl
theorem Blk.at1 {w : World} {b : Nat} {e : TypeId} {x y : Value} {cs : List Value} (h : Blk w b e (x :: y :: cs)) : w.cell? ((⟨b, 0, none⟩ : Addr).add 1) = some y := by
  rw [Addr.add_lit, h.cell]; rfl
theorem Blk.at2 {w : World} {b : Nat} {e : TypeId} {x y z : Value} {cs : List Value} (h : Blk w b e (x :: y :: z :: cs)) : w.cell? ((⟨b, 0, none⟩ : Addr).add 2) = some z := by
  rw [Addr.add_lit, h.cell]; rfl

/-- What sz.. answer: what is left, or -1. -/
def Left (left need : Nat) (r : Value) : Prop := r = .int .i64 (-1) ∨ ∃ m : Nat, r = .int .i64 m ∧ m + need = left


/-- What a function hands back that makes a forest. -/
def NewKids (w : World) (ks : List Sx) (r : Value) (w' : World) : Prop := Ext w w' ∧ ∃ bs, Kids encS w' r ks bs ∧ Fresh w.heap.size w' bs
/-- What a function hands back that makes an SExpr. -/
def NewSx (w : World) (l : ByteArray) (ks : List Sx) (r : Value) (w' : World) : Prop := Ext w w' ∧ ∃ v bs, r = .agg #[.string l, v] ∧ Kids encS w' v ks bs ∧ Fresh w.heap.size w' bs

end Go.Proofs.YtmaklbdlijcopaaDoor
