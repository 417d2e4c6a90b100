/- FnExactJoin returns true, for all arguments. Conditions: none. -/
import Derived.Test.YtapfcmlkcekfmaaLawU
import Derived.Test.YtapfcmlkcekfmaaShJ
namespace Go.Proofs.Ytapfcmlkcekfmaa
open Go.ChangeShapes Go.WideShapes Go.ChangeAt Go.RowKit

theorem fnExactJoin_ret {W : World} {a0 a1 : Value} (g0 : OStrs W a0) (g1 : OStr W a1) : Ret Try.prog 6 [a0, a1] W fun r w' => r = .bool true ∧ Ext W w' := by
  obtain ⟨ss0, bs0, hk0, hz0⟩ := g0
  obtain ⟨s1, rfl, hz1⟩ := g1
  refine ret_of_vc ttOk Try.func6 rfl (by kernel_rfl) (by kernel_rfl) ?_
  refine Cm.s (fun _ => ⟨rfl, (Chg.refl _ _)⟩) (fun hgt1 => ?_)
  refine (c_szStringS hk0 hz0 1048576 (by omega)).mono ?_
  rintro r w ⟨hww, hrr⟩
  obtain rfl : W = w := hww.symm
  rcases hrr with rfl | ⟨m0, rfl, hm0⟩
  · refine Cm.t (by omega) ?_
    exact ⟨rfl, (Chg.refl _ _)⟩
  refine Cm.f (by omega) ?_
  have hc0 : ss0.length ≤ 1048576 := by omega
  have hq0 := hc0
  have hg0 := Nat.le_trans hc0 (show 1048576 ≤ 4294967000 by decide)
  replace hc0 := Nat.le_trans hc0 (show 1048576 ≤ 4294967296 by decide)
  refine (c_toStringS hk0 hc0).mono ?_
  rintro xu0 w2 ⟨hw2, bsu0, ku0, fu0⟩
  refine (c_sJoin (jn_b hm0 hgt1) (by omega) ku0).mono ?_
  rintro r w3 ⟨rfl, hw3⟩
  refine (c_toStringS (hk0.ext (hw2.trans hw3)) hc0).mono ?_
  rintro xx0 w4 ⟨hw4, bsx0, kx0, fx0⟩
  refine (c_iJoin (Nat.le_trans (jn_b hm0 hgt1) (by decide)) (by omega) kx0 fx0).mono ?_
  rintro r w5 ⟨rfl, hw5⟩
  refine Cm.v (c := false) (by simp) ?_
  refine (c_toStringS (hk0.ext (((hw2.trans hw3).trans hw4).trans hw5)) hc0).mono ?_
  rintro xy0 w6 ⟨hw6, bsy0, ky0, fy0⟩
  refine (c_eqStringS (kx0.ext (hw5.trans hw6)) ky0).mono ?_
  rintro r w7 ⟨rfl, hw7⟩
  rw [decide_eq_true rfl]
  exact ⟨rfl, (((((hw2.trans hw3).trans hw4).trans hw5).trans hw6).trans hw7)⟩

set_option maxRecDepth 100000 in
theorem fnExactJoin_lifted (os : Os) (started : os.Started) (H : Type) (enc : TypeId × Value → H) :
    ReturnsInHanded {} Try.checked os 6 .any (Rows.fnExactJoinSpec.pre6 enc Try.prog Try.f6 Rows.fnExactJoinRow.domain false) (Rows.fnExactJoinSpec.post enc Try.prog Try.f6 false true false false) := by
  refine returnsInHanded_of_change (C := Try.checked) Try.own started (by kernel_rfl) Try.func6
    (ChangeSpec.witness6 (enc := enc) (C := Try.checked) false ⟨#[], #[.slice none 0 0, .string ⟨#[]⟩], []⟩ 8 (by kernel_rfl) (by kernel_rfl) (by kernel_rfl) (by kernel_rfl)) ?_
  intro W base args ds gs before hval0 hW _ _
  have hval : ∀ (j : Nat) t v, Try.f6.params[j]? = some t → args[j]? = some v → Value.okWide Try.prog W .any base t v := hval0
  have hA0 := hW
  obtain ⟨p, q, hA1, _, _, _, _⟩ := hA0
  have hA : DataW.TrodAll enc Try.prog W 0 (fun _ => true) true Try.f6.params.toList args.toList ds p := hA1
  rw [Try.params6] at hA hval
  obtain ⟨v0, vs0, d0, ds0, p0, q0, hargs, rfl, rfl, h0, r0⟩ := trodAll_cons hA
  obtain ⟨v1, vs1, d1, ds1, p1, q1, rfl, rfl, rfl, h1, r1⟩ := trodAll_cons r0
  obtain ⟨rfl, rfl, rfl⟩ := trodAll_nil r1
  obtain rfl : args = #[v0, v1] := by cases args; simp_all
  have o0 := oStrs Try.underlying37 Try.underlying9 (by kernel_rfl) (hval 0 37 v0 rfl rfl) h0
  have o1 := oStr Try.underlying9 (hval 1 9 v1 rfl rfl) h1
  refine (Ret.calls Try.func6 rfl (by kernel_rfl) (fnExactJoin_ret o0 o1)).mono ?_
  rintro e W' ⟨v, rfl, rfl, hx⟩
  exact ⟨_, rfl, law_post Try.laidOut (by kernel_rfl) rfl Try.underlying4 rfl rfl hW hx⟩

theorem fnExactJoin_holds : Rows.FnExactJoinSaid :=
  OpenClaim.holds_of_wide 6 Try.f6 rfl rfl rfl rfl rfl rfl rfl ⟨rfl, rfl, rfl, rfl, rfl⟩ rfl rfl rfl rfl rfl (by kernel_rfl) Try.func6 (by kernel_rfl)
    (of_decide_eq_true (by kernel_rfl)) (by unfold Func.isWrapper; first | (rw [if_pos (by decide +kernel)]; kernel_rfl) | (rw [if_neg (by decide +kernel)]; exact ⟨rfl, rfl⟩))
    (fun os started H enc _ => fnExactJoin_lifted os started H enc)
end Go.Proofs.Ytapfcmlkcekfmaa
