/- FnExactIsValidName returns true, for all arguments. Conditions: none. -/
import Derived.Test.YtjhlinnagpjbaaaLaw
import Derived.Test.YtjhlinnagpjbaaaStrE
namespace Go.Proofs.Ytjhlinnagpjbaaa
open Go.ChangeShapes Go.WideShapes Go.ChangeAt Go.RowKit

theorem fnExactIsValidName_ret {W : World} {v : Value} (h : OStr W v) : Ret Try.prog 7 [v] W fun r w' => r = .bool true ∧ Ext W w' := by
  obtain ⟨s, rfl, hs⟩ := h
  refine ret_of_vc ttOk Try.func7 rfl (by kernel_rfl) (by kernel_rfl) ?_
  refine Cm.s (fun _ => ⟨rfl, Chg.refl _ _⟩) (fun _ => ?_)
  refine (c_sIsValidName s hs).mono ?_
  rintro r w1 ⟨rfl, hx1⟩
  refine (c_iIsValidName s hs).mono ?_
  rintro r w2 ⟨rfl, hx2⟩
  refine Cm.v (c := false) (by simp) ?_
  exact ⟨rfl, hx1.trans hx2⟩

set_option maxRecDepth 100000 in
theorem fnExactIsValidName_lifted (os : Os) (started : os.Started) (H : Type) (enc : TypeId × Value → H) :
    ReturnsInHanded {} Try.checked os 7 .any (Rows.fnExactIsValidNameSpec.pre6 enc Try.prog Try.f7 Rows.fnExactIsValidNameRow.domain false) (Rows.fnExactIsValidNameSpec.post enc Try.prog Try.f7 false true false false) := by
  refine returnsInHanded_of_change (C := Try.checked) Try.own started (by kernel_rfl) Try.func7
    (ChangeSpec.witness6 (enc := enc) (C := Try.checked) false ⟨#[], #[.string ⟨#[]⟩], []⟩ 8 (by kernel_rfl) (by kernel_rfl) (by kernel_rfl) (by kernel_rfl)) ?_
  intro W base args ds gs before hval0 hW _ _
  have hval : ∀ (j : Nat) t v, Try.f7.params[j]? = some t → args[j]? = some v → Value.okWide Try.prog W .any base t v := hval0
  have hA0 := hW
  obtain ⟨p, q, hA1, _, _, _, _⟩ := hA0
  have hA : DataW.TrodAll enc Try.prog W 0 (fun _ => true) true Try.f7.params.toList args.toList ds p := hA1
  rw [Try.params7] at hA hval
  obtain ⟨v0, vs0, d0, ds0, p0, q0, hargs, rfl, rfl, h0, r0⟩ := trodAll_cons hA
  obtain ⟨rfl, rfl, rfl⟩ := trodAll_nil r0
  obtain rfl : args = #[v0] := by cases args; simp_all
  have o0 := oStr Try.underlying9 (hval 0 9 v0 rfl rfl) h0
  refine (Ret.calls Try.func7 rfl (by kernel_rfl) (fnExactIsValidName_ret o0)).mono ?_
  rintro e W' ⟨v, rfl, rfl, hx⟩
  exact ⟨_, rfl, law_post Try.laidOut (by kernel_rfl) rfl Try.underlying4 rfl rfl hW hx⟩

theorem fnExactIsValidName_holds : Rows.FnExactIsValidNameSaid :=
  OpenClaim.holds_of_wide 7 Try.f7 rfl rfl rfl rfl rfl rfl rfl ⟨rfl, rfl, rfl, rfl, rfl⟩ rfl rfl rfl rfl rfl (by kernel_rfl) Try.func7 (by kernel_rfl)
    (of_decide_eq_true (by kernel_rfl)) (by unfold Func.isWrapper; first | (rw [if_pos (by decide +kernel)]; kernel_rfl) | (rw [if_neg (by decide +kernel)]; exact ⟨rfl, rfl⟩))
    (fun os started H enc _ => fnExactIsValidName_lifted os started H enc)
end Go.Proofs.Ytjhlinnagpjbaaa
