/- FnExactIsValidAtom returns true, for all arguments. Conditions: none. -/
import Derived.Test.YtjhlinnagpjbaaaLaw
import Derived.Test.YtjhlinnagpjbaaaStrC
namespace Go.Proofs.Ytjhlinnagpjbaaa
open Go.ChangeShapes Go.WideShapes Go.ChangeAt Go.RowKit

theorem fnExactIsValidAtom_ret {W : World} {v : Value} (h : OStr W v) : Ret Try.prog 5 [v] W fun r w' => r = .bool true ∧ Ext W w' := by
  obtain ⟨s, rfl, hs⟩ := h
  refine ret_of_vc ttOk Try.func5 rfl (by kernel_rfl) (by kernel_rfl) ?_
  refine Cm.s (fun _ => ⟨rfl, Chg.refl _ _⟩) (fun _ => ?_)
  refine (c_sIsValidAtom s hs).mono ?_
  rintro r w1 ⟨rfl, rfl⟩
  refine (c_iIsValidAtom s hs).mono ?_
  rintro r w2 ⟨rfl, rfl⟩
  refine Cm.v (c := false) (by simp) ?_
  exact ⟨rfl, Chg.refl _ _⟩

set_option maxRecDepth 100000 in
theorem fnExactIsValidAtom_lifted (os : Os) (started : os.Started) (H : Type) (enc : TypeId × Value → H) :
    ReturnsInHanded {} Try.checked os 5 .any (Rows.fnExactIsValidAtomSpec.pre6 enc Try.prog Try.f5 Rows.fnExactIsValidAtomRow.domain false) (Rows.fnExactIsValidAtomSpec.post enc Try.prog Try.f5 false true false false) := by
  refine returnsInHanded_of_change (C := Try.checked) Try.own started (by kernel_rfl) Try.func5
    (ChangeSpec.witness6 (enc := enc) (C := Try.checked) false ⟨#[], #[.string ⟨#[]⟩], []⟩ 8 (by kernel_rfl) (by kernel_rfl) (by kernel_rfl) (by kernel_rfl)) ?_
  intro W base args ds gs before hval0 hW _ _
  have hval : ∀ (j : Nat) t v, Try.f5.params[j]? = some t → args[j]? = some v → Value.okWide Try.prog W .any base t v := hval0
  have hA0 := hW
  obtain ⟨p, q, hA1, _, _, _, _⟩ := hA0
  have hA : DataW.TrodAll enc Try.prog W 0 (fun _ => true) true Try.f5.params.toList args.toList ds p := hA1
  rw [Try.params5] at hA hval
  obtain ⟨v0, vs0, d0, ds0, p0, q0, hargs, rfl, rfl, h0, r0⟩ := trodAll_cons hA
  obtain ⟨rfl, rfl, rfl⟩ := trodAll_nil r0
  obtain rfl : args = #[v0] := by cases args; simp_all
  have o0 := oStr Try.underlying9 (hval 0 9 v0 rfl rfl) h0
  refine (Ret.calls Try.func5 rfl (by kernel_rfl) (fnExactIsValidAtom_ret o0)).mono ?_
  rintro e W' ⟨v, rfl, rfl, hx⟩
  exact ⟨_, rfl, law_post Try.laidOut (by kernel_rfl) rfl Try.underlying4 rfl rfl hW hx⟩

theorem fnExactIsValidAtom_holds : Rows.FnExactIsValidAtomSaid :=
  OpenClaim.holds_of_wide 5 Try.f5 rfl rfl rfl rfl rfl rfl rfl ⟨rfl, rfl, rfl, rfl, rfl⟩ rfl rfl rfl rfl rfl (by kernel_rfl) Try.func5 (by kernel_rfl)
    (of_decide_eq_true (by kernel_rfl)) (by unfold Func.isWrapper; first | (rw [if_pos (by decide +kernel)]; kernel_rfl) | (rw [if_neg (by decide +kernel)]; exact ⟨rfl, rfl⟩))
    (fun os started H enc _ => fnExactIsValidAtom_lifted os started H enc)
end Go.Proofs.Ytjhlinnagpjbaaa
