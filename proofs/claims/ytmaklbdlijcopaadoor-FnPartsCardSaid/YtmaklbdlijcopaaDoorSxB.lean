/- Contracts: equality of SExprs, three times. Conditions: none. -/
import Derived.Test.YtmaklbdlijcopaaDoorSxA
namespace Go.Proofs.YtmaklbdlijcopaaDoor
open Go.RowKit

/-- An answer that says whether p. -/
def Says (p : Prop) (r : Value) : Prop := ∃ b, r = .bool b ∧ (b = true ↔ p)
theorem Says.t {p : Prop} (h : p) : Says p (.bool true) := ⟨true, rfl, by simp [h]⟩
theorem Says.f {p : Prop} (h : ¬ p) : Says p (.bool false) := ⟨false, rfl, by simp [h]⟩

theorem take_succ_ne {α : Type} {xs ys : List α} {k : Nat} {x y : α} (hx : xs[k]? = some x) (hy : ys[k]? = some y) (h : x ≠ y) : xs ≠ ys := by
  rintro rfl
  rw [hx] at hy
  exact h (by simpa using hy)

theorem Rose.ext {α : Type} {t u : Rose α} (h1 : t.lab = u.lab) (h2 : t.kids = u.kids) : t = u := by
  rw [← t.eta, ← u.eta, h1, h2]




end Go.Proofs.YtmaklbdlijcopaaDoor
