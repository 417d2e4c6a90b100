/- Contract: laws.big. Conditions: none. -/
import Derived.Test.YtmaklbdlijcopaaDoorStrI
namespace Go.Proofs.YtmaklbdlijcopaaDoor
open Go.ChangeShapes Go.WideShapes Go.ChangeAt Go.RowKit

/-- laws.big -/
theorem c_big {w : World} {v : Value} (hv : OCode w v) : Ret Tryd.prog 9 [v] w fun r w' => (∃ b, r = .bool b) ∧ w' = w := by
  obtain ⟨zs, bs, hr⟩ := hv
  obtain ⟨ao, cap, rfl, hm, hcap⟩ := hr.form
  refine ret_of_vc ttOkD Tryd.func9 rfl (by kernel_rfl) (by kernel_rfl) ?_
  exact Cm.s (fun _ => ⟨⟨_, rfl⟩, rfl⟩) (fun _ => ⟨⟨_, rfl⟩, rfl⟩)

end Go.Proofs.YtmaklbdlijcopaaDoor
