/- Contracts: a valid Type. Conditions: none. -/
import Derived.Test.YtmecmdnnhldjpaaDoorTyF
import Derived.Test.YtmecmdnnhldjpaaDoorTyD
import Derived.Test.YtmecmdnnhldjpaaDoorStrE
namespace Go.Proofs.YtmecmdnnhldjpaaDoor
open Go.RowKit

/-- Does a node satisfy the rule of its kind? -/
def headP (l : TLab) (n : Nat) : Prop := (l.1 = 1 ∨ l.1 = 4) ∧ NameOk l.2 ∧ n = 0 ∨ l.1 = 3 ∧ NameOk l.2 ∧ n = 1 ∨ l.1 = 2 ∧ (NameOk l.2 ∧ n ≤ 3 ∨ baseN l.2 = true ∧ n = 0)
mutual
/-- Does every node? -/
def fmT : Tp → Prop
  | .mk l ks => headP l ks.length ∧ fmTL ks
def fmTL : List Tp → Prop
  | [] => True
  | k :: ks => fmT k ∧ fmTL ks
end
theorem fmTL_iff (ks : List Tp) : fmTL ks ↔ ∀ t ∈ ks, fmT t := by
  induction ks with
  | nil => simp [fmTL]
  | cons k ks ih => simp only [fmTL, ih, List.mem_cons, forall_eq_or_imp]
theorem fmT_iff {l : TLab} {ks : List Tp} : fmT (.mk l ks) ↔ headP l ks.length ∧ ∀ t ∈ ks, fmT t := by simp [fmT, fmTL_iff]
def leftM (left need : Nat) : Int := if need ≤ left then ((left - need : Nat) : Int) else -1

/-- A valid Type. -/
def okT (t : Tp) : Prop := 1 + Rose.cnt t.kids ≤ 60 ∧ fmT t ∧ dpTL t.kids ≤ 6

end Go.Proofs.YtmecmdnnhldjpaaDoor
