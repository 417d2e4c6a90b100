/- Contracts: bytes, atoms, names. Conditions: none. -/
import Derived.Test.YtkpdkemkfgcamaaStrB
import Derived.Laws.Externs
namespace Go.Proofs.Ytkpdkemkfgcamaa
open Go.RowKit

/-- spec.l1In -/
theorem c_l1In {w : World} (x lo hi : Int) : Ret Try.prog 100 [.int .i64 x, .int .i64 lo, .int .i64 hi] w fun r w' => r = .bool (decide (lo ≤ x ∧ x ≤ hi)) ∧ w' = w := by
  refine ret_of_vc ttOk Try.func100 rfl (by kernel_rfl) (by kernel_rfl) ?_
  refine Cm.s (fun h => ?_) (fun h => ?_)
  · refine Cm.s (fun h2 => ?_) (fun h2 => ?_)
    · exact ⟨by rw [decide_eq_true (show lo ≤ x ∧ x ≤ hi from ⟨h, h2⟩)], rfl⟩
    · exact ⟨by rw [decide_eq_false (show ¬ (lo ≤ x ∧ x ≤ hi) from fun e => h2 e.2)], rfl⟩
  · exact ⟨by rw [decide_eq_false (show ¬ (lo ≤ x ∧ x ≤ hi) from fun e => h e.1)], rfl⟩

def LowP (n : Nat) : Prop := 97 ≤ n ∧ n ≤ 122
def DigP (n : Nat) : Prop := 48 ≤ n ∧ n ≤ 57
def AtomP (n : Nat) : Prop := LowP n ∨ DigP n ∨ n = 39 ∨ n = 45 ∨ n = 43 ∨ n = 42 ∨ n = 60 ∨ n = 61 ∨ n = 46
instance (n : Nat) : Decidable (LowP n) := by unfold LowP; infer_instance
instance (n : Nat) : Decidable (DigP n) := by unfold DigP; infer_instance
instance (n : Nat) : Decidable (AtomP n) := by unfold AtomP; infer_instance

theorem vb_t {p : Prop} {_ : Decidable p} (h : p) : Value.bool true = Value.bool (decide p) := by rw [decide_eq_true h]
theorem vb_f {p : Prop} {_ : Decidable p} (h : ¬ p) : Value.bool false = Value.bool (decide p) := by rw [decide_eq_false h]


/-- impl.isLower -/
theorem c_isLower {w : World} (n : Nat) : Ret Try.prog 113 [.int .u8 n] w fun r w' => r = .bool (decide (LowP n)) ∧ w' = w := by
  refine ret_of_vc ttOk Try.func113 rfl (by kernel_rfl) (by kernel_rfl) ?_
  repeat' (refine Cm.s (fun h => ?_) (fun h => ?_))
  all_goals first
    | exact ⟨vb_t (by unfold LowP; omega), rfl⟩
    | exact ⟨vb_f (by unfold LowP; omega), rfl⟩

/-- impl.isDigit -/
theorem c_isDigit {w : World} (n : Nat) : Ret Try.prog 114 [.int .u8 n] w fun r w' => r = .bool (decide (DigP n)) ∧ w' = w := by
  refine ret_of_vc ttOk Try.func114 rfl (by kernel_rfl) (by kernel_rfl) ?_
  repeat' (refine Cm.s (fun h => ?_) (fun h => ?_))
  all_goals first
    | exact ⟨vb_t (by unfold DigP; omega), rfl⟩
    | exact ⟨vb_f (by unfold DigP; omega), rfl⟩



/-- A valid atom. -/
def AtomOk (s : ByteArray) : Prop := (∀ i, ∀ h : i < s.size, AtomP s[i].toNat) ∧ 1 ≤ s.size ∧ s.size ≤ 12
instance (s : ByteArray) : Decidable (AtomOk s) := by unfold AtomOk; infer_instance



end Go.Proofs.Ytkpdkemkfgcamaa
