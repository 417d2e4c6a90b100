/- FnExactIsValidSubstitution returns true, for all arguments. Conditions: none. -/
import Derived.Test.YtmgghbaojcefgaaLawB
import Derived.Test.YtmgghbaojcefgaaBdJ
namespace Go.Proofs.Ytmgghbaojcefgaa
open Go.ChangeShapes Go.WideShapes Go.ChangeAt Go.RowKit

theorem fnExactIsValidSubstitution_ret {W : World} {a0 : Value} (g0 : OBds W a0) : Ret Try.prog 14 [a0] W fun r w' => r = .bool true ∧ Ext W w' := by
  obtain ⟨ks0, bs0, hk0, ha0⟩ := g0
  refine ret_of_vc ttOk Try.func14 rfl (by kernel_rfl) (by kernel_rfl) ?_
  refine (c_szBindingS ha0 hk0 1048576 (by omega)).mono ?_
  rintro r w1 ⟨hw1, rfl | ⟨m0, rfl, hm0⟩⟩
  · refine Cm.t (by omega) ?_
    exact ⟨rfl, hw1⟩
  refine Cm.f (by omega) ?_
  have hc0 := szB_cnt hm0 (by omega)
  have hq0 := hc0
  have hg0 := Nat.le_trans hc0 (show 1048576 ≤ 4294967000 by decide)
  replace hc0 := Nat.le_trans hc0 (show 1048576 ≤ 4294967296 by decide)
  refine (c_toBindingS (hk0.ext hw1) hc0).mono ?_
  rintro xu0 w2 ⟨hw2, bsu0, ku0, fu0⟩
  refine (c_sIsValidSub ha0 ku0).mono ?_
  rintro r w3 ⟨⟨bq1, rfl, hbq1⟩, hw3⟩
  refine (c_toBindingS (hk0.ext ((hw1.trans hw2).trans hw3)) hc0).mono ?_
  rintro xx0 w4 ⟨hw4, bsx0, kx0, fx0⟩
  refine (c_iIsValidSub ha0 hc0 kx0).mono ?_
  rintro r w5 ⟨⟨bq2, rfl, hbq2⟩, hw5⟩
  obtain rfl : bq2 = bq1 := by cases bq1 <;> cases bq2 <;> simp_all
  refine Cm.v (c := false) (by simp) ?_
  refine (c_toBindingS (hk0.ext ((((hw1.trans hw2).trans hw3).trans hw4).trans hw5)) hc0).mono ?_
  rintro xy0 w6 ⟨hw6, bsy0, ky0, fy0⟩
  refine (c_eqBindingS (kx0.ext (hw5.trans hw6)) ky0).mono ?_
  rintro r w7 ⟨⟨b, rfl, hb⟩, hw7⟩
  obtain rfl : b = true := hb.2 rfl
  exact ⟨rfl, ((((((hw1.trans hw2).trans hw3).trans hw4).trans hw5).trans hw6).trans hw7)⟩

set_option maxRecDepth 100000 in
theorem fnExactIsValidSubstitution_lifted (os : Os) (started : os.Started) (H : Type) (enc : TypeId × Value → H) :
    ReturnsInHanded {} Try.checked os 14 .any (Rows.fnExactIsValidSubstitutionSpec.pre6 enc Try.prog Try.f14 Rows.fnExactIsValidSubstitutionRow.domain false) (Rows.fnExactIsValidSubstitutionSpec.post enc Try.prog Try.f14 false true false false) := by
  refine returnsInHanded_of_change (C := Try.checked) Try.own started (by kernel_rfl) Try.func14
    (ChangeSpec.witness6 (enc := enc) (C := Try.checked) false ⟨#[], #[.slice none 0 0], []⟩ 8 (by kernel_rfl) (by kernel_rfl) (by kernel_rfl) (by kernel_rfl)) ?_
  intro W base args ds gs before hval0 hW _ _
  have hval : ∀ (j : Nat) t v, Try.f14.params[j]? = some t → args[j]? = some v → Value.okWide Try.prog W .any base t v := hval0
  have hA0 := hW
  obtain ⟨p, q, hA1, _, _, _, _⟩ := hA0
  have hA : DataW.TrodAll enc Try.prog W 0 (fun _ => true) true Try.f14.params.toList args.toList ds p := hA1
  rw [Try.params14] at hA hval
  obtain ⟨v0, vs0, d0, ds0, p0, q0, hargs, rfl, rfl, h0, r0⟩ := trodAll_cons hA
  obtain ⟨rfl, rfl, rfl⟩ := trodAll_nil r0
  obtain rfl : args = #[v0] := by cases args; simp_all
  have o0 := oBds (hval 0 42 v0 rfl rfl) h0
  refine (Ret.calls Try.func14 rfl (by kernel_rfl) (fnExactIsValidSubstitution_ret o0)).mono ?_
  rintro e W' ⟨v, rfl, rfl, hx⟩
  exact ⟨_, rfl, law_post Try.laidOut (by kernel_rfl) rfl Try.underlying4 rfl rfl hW hx⟩

theorem fnExactIsValidSubstitution_holds : Rows.FnExactIsValidSubstitutionSaid :=
  OpenClaim.holds_of_wide 14 Try.f14 rfl rfl rfl rfl rfl rfl rfl ⟨rfl, rfl, rfl, rfl, rfl⟩ rfl rfl rfl rfl rfl (by kernel_rfl) Try.func14 (by kernel_rfl)
    (of_decide_eq_true (by kernel_rfl)) (by unfold Func.isWrapper; first | (rw [if_pos (by decide +kernel)]; kernel_rfl) | (rw [if_neg (by decide +kernel)]; exact ⟨rfl, rfl⟩))
    (fun os started H enc _ => fnExactIsValidSubstitution_lifted os started H enc)
end Go.Proofs.Ytmgghbaojcefgaa
