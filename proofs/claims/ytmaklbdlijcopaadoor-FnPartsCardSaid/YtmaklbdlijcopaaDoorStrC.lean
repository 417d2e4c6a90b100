/- Contracts: bytes, atoms, names. Conditions: none. -/
import Derived.Test.YtmaklbdlijcopaaDoorStrB
import Derived.Laws.Externs
namespace Go.Proofs.YtmaklbdlijcopaaDoor
open Go.RowKit

def LowP (n : Nat) : Prop := 97 ≤ n ∧ n ≤ 122
def DigP (n : Nat) : Prop := 48 ≤ n ∧ n ≤ 57
def AtomP (n : Nat) : Prop := LowP n ∨ DigP n ∨ n = 39 ∨ n = 45 ∨ n = 43 ∨ n = 42 ∨ n = 60 ∨ n = 61 ∨ n = 46
instance (n : Nat) : Decidable (LowP n) := by unfold LowP; infer_instance
instance (n : Nat) : Decidable (DigP n) := by unfold DigP; infer_instance
instance (n : Nat) : Decidable (AtomP n) := by unfold AtomP; infer_instance

theorem vb_t {p : Prop} {_ : Decidable p} (h : p) : Value.bool true = Value.bool (decide p) := by rw [decide_eq_true h]
theorem vb_f {p : Prop} {_ : Decidable p} (h : ¬ p) : Value.bool false = Value.bool (decide p) := by rw [decide_eq_false h]





/-- A valid atom. -/
def AtomOk (s : ByteArray) : Prop := (∀ i, ∀ h : i < s.size, AtomP s[i].toNat) ∧ 1 ≤ s.size ∧ s.size ≤ 12
instance (s : ByteArray) : Decidable (AtomOk s) := by unfold AtomOk; infer_instance



end Go.Proofs.YtmaklbdlijcopaaDoor
