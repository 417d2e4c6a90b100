/- FnExactEqualBindings returns true, for all arguments. Conditions: none. -/
import Derived.Test.YtmgghbaojcefgaaLawB
import Derived.Test.YtmgghbaojcefgaaBdB
namespace Go.Proofs.Ytmgghbaojcefgaa
open Go.ChangeShapes Go.WideShapes Go.ChangeAt Go.RowKit

theorem fnExactEqualBindings_ret {W : World} {a0 a1 : Value} (g0 : OBds W a0) (g1 : OBds W a1) : Ret Try.prog 8 [a0, a1] W fun r w' => r = .bool true ∧ Ext W w' := by
  obtain ⟨ks0, bs0, hk0, ha0⟩ := g0
  obtain ⟨ks1, bs1, hk1, ha1⟩ := g1
  refine ret_of_vc ttOk Try.func8 rfl (by kernel_rfl) (by kernel_rfl) ?_
  refine (c_szBindingS ha0 hk0 1048576 (by omega)).mono ?_
  rintro r w1 ⟨hw1, rfl | ⟨m0, rfl, hm0⟩⟩
  · refine Cm.t (by omega) ?_
    exact ⟨rfl, hw1⟩
  refine Cm.f (by omega) ?_
  have hc0 := szB_cnt hm0 (by omega)
  have hq0 := hc0
  have hg0 := Nat.le_trans hc0 (show 1048576 ≤ 4294967000 by decide)
  replace hc0 := Nat.le_trans hc0 (show 1048576 ≤ 4294967296 by decide)
  refine (c_szBindingS ha1 (hk1.ext hw1) m0 (by omega)).mono ?_
  rintro r w2 ⟨hw2, rfl | ⟨m1, rfl, hm1⟩⟩
  · refine Cm.t (by omega) ?_
    exact ⟨rfl, (hw1.trans hw2)⟩
  refine Cm.f (by omega) ?_
  have hc1 := szB_cnt hm1 (by omega)
  have hq1 := hc1
  have hg1 := Nat.le_trans hc1 (show 1048576 ≤ 4294967000 by decide)
  replace hc1 := Nat.le_trans hc1 (show 1048576 ≤ 4294967296 by decide)
  refine (c_toBindingS (hk0.ext (hw1.trans hw2)) hc0).mono ?_
  rintro xu0 w3 ⟨hw3, bsu0, ku0, fu0⟩
  refine (c_toBindingS (hk1.ext ((hw1.trans hw2).trans hw3)) hc1).mono ?_
  rintro xu1 w4 ⟨hw4, bsu1, ku1, fu1⟩
  refine (c_sEqualBindings (ku0.ext hw4) ku1).mono ?_
  rintro r w5 ⟨⟨bq1, rfl, hbq1⟩, hw5⟩
  refine (c_toBindingS (hk0.ext ((((hw1.trans hw2).trans hw3).trans hw4).trans hw5)) hc0).mono ?_
  rintro xx0 w6 ⟨hw6, bsx0, kx0, fx0⟩
  refine (c_toBindingS (hk1.ext (((((hw1.trans hw2).trans hw3).trans hw4).trans hw5).trans hw6)) hc1).mono ?_
  rintro xx1 w7 ⟨hw7, bsx1, kx1, fx1⟩
  refine (c_iEqualBindings (kx0.ext hw7) kx1).mono ?_
  rintro r w8 ⟨⟨bq2, rfl, hbq2⟩, hw8⟩
  obtain rfl : bq2 = bq1 := by cases bq1 <;> cases bq2 <;> simp_all
  refine Cm.v (c := false) (by simp) ?_
  refine (c_toBindingS (hk0.ext (((((((hw1.trans hw2).trans hw3).trans hw4).trans hw5).trans hw6).trans hw7).trans hw8)) hc0).mono ?_
  rintro xy0 w9 ⟨hw9, bsy0, ky0, fy0⟩
  refine (c_eqBindingS (kx0.ext ((hw7.trans hw8).trans hw9)) ky0).mono ?_
  rintro r w10 ⟨⟨b, rfl, hb⟩, hw10⟩
  obtain rfl : b = true := hb.2 rfl
  refine (c_toBindingS (hk1.ext (((((((((hw1.trans hw2).trans hw3).trans hw4).trans hw5).trans hw6).trans hw7).trans hw8).trans hw9).trans hw10)) hc1).mono ?_
  rintro xy1 w11 ⟨hw11, bsy1, ky1, fy1⟩
  refine (c_eqBindingS (kx1.ext (((hw8.trans hw9).trans hw10).trans hw11)) ky1).mono ?_
  rintro r w12 ⟨⟨b, rfl, hb⟩, hw12⟩
  obtain rfl : b = true := hb.2 rfl
  exact ⟨rfl, (((((((((((hw1.trans hw2).trans hw3).trans hw4).trans hw5).trans hw6).trans hw7).trans hw8).trans hw9).trans hw10).trans hw11).trans hw12)⟩

set_option maxRecDepth 100000 in
theorem fnExactEqualBindings_lifted (os : Os) (started : os.Started) (H : Type) (enc : TypeId × Value → H) :
    ReturnsInHanded {} Try.checked os 8 .any (Rows.fnExactEqualBindingsSpec.pre6 enc Try.prog Try.f8 Rows.fnExactEqualBindingsRow.domain false) (Rows.fnExactEqualBindingsSpec.post enc Try.prog Try.f8 false true false false) := by
  refine returnsInHanded_of_change (C := Try.checked) Try.own started (by kernel_rfl) Try.func8
    (ChangeSpec.witness6 (enc := enc) (C := Try.checked) false ⟨#[], #[.slice none 0 0, .slice none 0 0], []⟩ 8 (by kernel_rfl) (by kernel_rfl) (by kernel_rfl) (by kernel_rfl)) ?_
  intro W base args ds gs before hval0 hW _ _
  have hval : ∀ (j : Nat) t v, Try.f8.params[j]? = some t → args[j]? = some v → Value.okWide Try.prog W .any base t v := hval0
  have hA0 := hW
  obtain ⟨p, q, hA1, _, _, _, _⟩ := hA0
  have hA : DataW.TrodAll enc Try.prog W 0 (fun _ => true) true Try.f8.params.toList args.toList ds p := hA1
  rw [Try.params8] at hA hval
  obtain ⟨v0, vs0, d0, ds0, p0, q0, hargs, rfl, rfl, h0, r0⟩ := trodAll_cons hA
  obtain ⟨v1, vs1, d1, ds1, p1, q1, rfl, rfl, rfl, h1, r1⟩ := trodAll_cons r0
  obtain ⟨rfl, rfl, rfl⟩ := trodAll_nil r1
  obtain rfl : args = #[v0, v1] := by cases args; simp_all
  have o0 := oBds (hval 0 42 v0 rfl rfl) h0
  have o1 := oBds (hval 1 42 v1 rfl rfl) h1
  refine (Ret.calls Try.func8 rfl (by kernel_rfl) (fnExactEqualBindings_ret o0 o1)).mono ?_
  rintro e W' ⟨v, rfl, rfl, hx⟩
  exact ⟨_, rfl, law_post Try.laidOut (by kernel_rfl) rfl Try.underlying4 rfl rfl hW hx⟩

theorem fnExactEqualBindings_holds : Rows.FnExactEqualBindingsSaid :=
  OpenClaim.holds_of_wide 8 Try.f8 rfl rfl rfl rfl rfl rfl rfl ⟨rfl, rfl, rfl, rfl, rfl⟩ rfl rfl rfl rfl rfl (by kernel_rfl) Try.func8 (by kernel_rfl)
    (of_decide_eq_true (by kernel_rfl)) (by unfold Func.isWrapper; first | (rw [if_pos (by decide +kernel)]; kernel_rfl) | (rw [if_neg (by decide +kernel)]; exact ⟨rfl, rfl⟩))
    (fun os started H enc _ => fnExactEqualBindings_lifted os started H enc)
end Go.Proofs.Ytmgghbaojcefgaa
