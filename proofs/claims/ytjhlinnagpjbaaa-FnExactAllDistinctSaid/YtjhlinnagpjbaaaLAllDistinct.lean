/- FnExactAllDistinct returns true, for all arguments. Conditions: none. -/
import Derived.Test.YtjhlinnagpjbaaaLaw
import Derived.Test.YtjhlinnagpjbaaaStrD
namespace Go.Proofs.Ytjhlinnagpjbaaa
open Go.ChangeShapes Go.WideShapes Go.ChangeAt Go.RowKit

theorem fnExactAllDistinct_ret {W : World} {v : Value} (h : OStrs W v) : Ret Try.prog 8 [v] W fun r w' => r = .bool true ∧ Ext W w' := by
  obtain ⟨ss, bs, hss, hz⟩ := h
  refine ret_of_vc ttOk Try.func8 rfl (by kernel_rfl) (by kernel_rfl) ?_
  refine (c_szStringS hss hz 1048576 (Nat.le_refl _)).mono ?_
  rintro r w1 ⟨rfl, rfl | ⟨m, rfl, hm⟩⟩
  · refine Cm.t (by omega) ?_
    exact ⟨rfl, Chg.refl _ _⟩
  refine Cm.f (by omega) ?_
  have hle : ss.length ≤ 4294967296 := by omega
  refine (c_toStringS hss hle).mono ?_
  rintro r w2 ⟨hx2, cs, h2, _⟩
  refine (c_sAllDistinct h2).mono ?_
  rintro r w3 ⟨⟨b, rfl, hb⟩, hx3⟩
  refine (c_toStringS (hss.ext (hx2.trans hx3)) hle).mono ?_
  rintro x0 w4 ⟨hx4, ds, h4, _⟩
  refine (c_iAllDistinct h4).mono ?_
  rintro r w5 ⟨⟨c, rfl, hc⟩, hx5⟩
  have hbc : b = c := by
    cases b <;> cases c <;> simp_all
  subst hbc
  refine Cm.v (c := false) (by simp) ?_
  refine (c_toStringS (hss.ext (((hx2.trans hx3).trans hx4).trans hx5)) hle).mono ?_
  rintro r w6 ⟨hx6, es, h6, _⟩
  refine (c_eqStringS ((h4.ext hx5).ext hx6) h6).mono ?_
  rintro r w7 ⟨rfl, hx7⟩
  rw [decide_eq_true rfl]
  exact ⟨rfl, ((((hx2.trans hx3).trans hx4).trans hx5).trans hx6).trans hx7⟩

set_option maxRecDepth 100000 in
theorem fnExactAllDistinct_lifted (os : Os) (started : os.Started) (H : Type) (enc : TypeId × Value → H) :
    ReturnsInHanded {} Try.checked os 8 .any (Rows.fnExactAllDistinctSpec.pre6 enc Try.prog Try.f8 Rows.fnExactAllDistinctRow.domain false) (Rows.fnExactAllDistinctSpec.post enc Try.prog Try.f8 false true false false) := by
  refine returnsInHanded_of_change (C := Try.checked) Try.own started (by kernel_rfl) Try.func8
    (ChangeSpec.witness6 (enc := enc) (C := Try.checked) false ⟨#[], #[.slice none 0 0], []⟩ 8 (by kernel_rfl) (by kernel_rfl) (by kernel_rfl) (by kernel_rfl)) ?_
  intro W base args ds gs before hval0 hW _ _
  have hval : ∀ (j : Nat) t v, Try.f8.params[j]? = some t → args[j]? = some v → Value.okWide Try.prog W .any base t v := hval0
  have hA0 := hW
  obtain ⟨p, q, hA1, _, _, _, _⟩ := hA0
  have hA : DataW.TrodAll enc Try.prog W 0 (fun _ => true) true Try.f8.params.toList args.toList ds p := hA1
  rw [Try.params8] at hA hval
  obtain ⟨v0, vs0, d0, ds0, p0, q0, hargs, rfl, rfl, h0, r0⟩ := trodAll_cons hA
  obtain ⟨rfl, rfl, rfl⟩ := trodAll_nil r0
  obtain rfl : args = #[v0] := by cases args; simp_all
  have o0 := oStrs Try.underlying24 Try.underlying9 (by kernel_rfl) (hval 0 24 v0 rfl rfl) h0
  refine (Ret.calls Try.func8 rfl (by kernel_rfl) (fnExactAllDistinct_ret o0)).mono ?_
  rintro e W' ⟨v, rfl, rfl, hx⟩
  exact ⟨_, rfl, law_post Try.laidOut (by kernel_rfl) rfl Try.underlying4 rfl rfl hW hx⟩

theorem fnExactAllDistinct_holds : Rows.FnExactAllDistinctSaid :=
  OpenClaim.holds_of_wide 8 Try.f8 rfl rfl rfl rfl rfl rfl rfl ⟨rfl, rfl, rfl, rfl, rfl⟩ rfl rfl rfl rfl rfl (by kernel_rfl) Try.func8 (by kernel_rfl)
    (of_decide_eq_true (by kernel_rfl)) (by unfold Func.isWrapper; first | (rw [if_pos (by decide +kernel)]; kernel_rfl) | (rw [if_neg (by decide +kernel)]; exact ⟨rfl, rfl⟩))
    (fun os started H enc _ => fnExactAllDistinct_lifted os started H enc)
end Go.Proofs.Ytjhlinnagpjbaaa
