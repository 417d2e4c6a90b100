/- Contracts: l1Has, slices.Index and slices.Contains at []string. Conditions: none. -/
import Derived.Test.YtmaklbdlijcopaaDoorTy
namespace Go.Proofs.YtmaklbdlijcopaaDoor
open Go.RowKit

def has (ss : List ByteArray) (s : ByteArray) : Bool := ss.any fun t => decide (t = s)
theorem has_iff {ss : List ByteArray} {s : ByteArray} : has ss s = true ↔ s ∈ ss := by simp [has]
theorem has_t {ss : List ByteArray} {s : ByteArray} (h : s ∈ ss) : has ss s = true := has_iff.2 h
theorem has_f {ss : List ByteArray} {s : ByteArray} (h : s ∉ ss) : has ss s = false := by
  cases e : has ss s
  · rfl
  · exact absurd (has_iff.1 e) h

end Go.Proofs.YtmaklbdlijcopaaDoor
