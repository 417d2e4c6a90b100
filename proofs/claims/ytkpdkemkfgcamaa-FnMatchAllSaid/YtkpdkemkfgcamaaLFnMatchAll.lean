/- FnMatchAll returns true, for all arguments. Conditions: none. -/
import Derived.Test.YtkpdkemkfgcamaaBdP
namespace Go.Proofs.Ytkpdkemkfgcamaa
open Go.ChangeShapes Go.WideShapes Go.ChangeAt Go.RowKit

theorem fnMatchAll_ret {W : World} {a0 : Value} (g0 : OCode W a0) : Ret Try.prog 5 [a0] W fun r w' => r = .bool true ∧ Ext W w' := by
  have hM : maxLen = 9223372036854775807 := rfl
  obtain ⟨zs, bs, hr⟩ := g0
  refine ret_of_vc ttOkD Try.func5 rfl (by kernel_rfl) (by kernel_rfl) ?_
  refine (c_big2 hr).mono ?_
  rintro _ w ⟨⟨b, rfl, hz⟩, hww⟩
  obtain rfl : W = w := hww.symm
  obtain rfl | rfl : b = true ∨ b = false := by cases b <;> simp
  · exact ⟨rfl, Chg.refl _ _⟩
  refine (c_DrawMatchAll hr (hz rfl)).mono ?_
  rintro _ w1 ⟨hx1, ps, ts, vp, vt, bp, bt, rfl, hkp, hkt, hcp, hct⟩
  refine (c_iMatchAll (by omega) hkp hkt).mono ?_
  rintro _ w2 ⟨hx2, r1, b1, rfl, hb1, _⟩
  refine (c_sMatchAll (by omega) (hkp.ext hx2) (hkt.ext hx2)).mono ?_
  rintro _ w3 ⟨hx3, r2, b2, rfl, hb2, _⟩
  refine Cm.nf rfl ?_
  refine (c_sEqualBindings (hb1.ext hx3) hb2).mono ?_
  rintro _ w4 ⟨⟨b, rfl, hb⟩, hx4⟩
  obtain rfl : b = true := hb.2 rfl
  have hx13 := hx2.trans hx3
  have hx14 := hx13.trans hx4
  have hcn := @mAll_cnt ps ts
  cases hm : mAll ps ts [] with
  | none => exact ⟨rfl, hx1.trans hx14⟩
  | some ys =>
    rw [hm] at hb1 hcn
    simp only [Option.getD_some] at hb1 hcn
    refine (c_iApplyAll (by omega) ps (by omega) w4 _ _ b1 bp (hb1.ext (hx3.trans hx4)) (hkp.ext hx14)).mono ?_
    rintro v5 w5 ⟨hx5, b5, hk5, _⟩
    refine (c_equalTypes hk5 (hkt.ext (hx14.trans hx5))).mono ?_
    rintro _ w6 ⟨⟨b, rfl, hb⟩, hx6⟩
    obtain rfl : b = true := hb.2 (mAll_ap hm)
    exact ⟨rfl, hx1.trans ((hx14.trans hx5).trans hx6)⟩

set_option maxRecDepth 100000 in
theorem fnMatchAll_lifted (os : Os) (started : os.Started) (H : Type) (enc : TypeId × Value → H) :
    ReturnsInHanded {} Try.checked os 5 .any (Rows.fnMatchAllSpec.pre6 enc Try.prog Try.f5 Rows.fnMatchAllRow.domain false) (Rows.fnMatchAllSpec.post enc Try.prog Try.f5 false true false false) := by
  refine returnsInHanded_of_change (C := Try.checked) Try.own started (by kernel_rfl) Try.func5
    (ChangeSpec.witness6 (enc := enc) (C := Try.checked) false ⟨#[], #[.slice none 0 0], []⟩ 8 (by kernel_rfl) (by kernel_rfl) (by kernel_rfl) (by kernel_rfl)) ?_
  intro W base args ds gs before hval0 hW _ _
  have hval : ∀ (j : Nat) t v, Try.f5.params[j]? = some t → args[j]? = some v → Value.okWide Try.prog W .any base t v := hval0
  have hA0 := hW
  obtain ⟨p, q, hA1, _, _, _, _⟩ := hA0
  have hA : DataW.TrodAll enc Try.prog W 0 (fun _ => true) true Try.f5.params.toList args.toList ds p := hA1
  rw [Try.params5] at hA hval
  obtain ⟨v0, vs0, d0, ds0, p0, q0, hargs, rfl, rfl, h0, r0⟩ := trodAll_cons hA
  obtain ⟨rfl, rfl, rfl⟩ := trodAll_nil r0
  obtain rfl : args = #[v0] := by cases args; simp_all
  have o0 := oCode Try.underlying46 Try.underlying5 (by kernel_rfl) (hval 0 46 v0 rfl rfl) h0
  refine (Ret.calls Try.func5 rfl (by kernel_rfl) (fnMatchAll_ret o0)).mono ?_
  rintro e W' ⟨v, rfl, rfl, hx⟩
  exact ⟨_, rfl, law_post Try.laidOut (by kernel_rfl) rfl Try.underlying4 rfl rfl hW hx⟩

theorem fnMatchAll_holds : Rows.FnMatchAllSaid :=
  OpenClaim.holds_of_wide 5 Try.f5 rfl rfl rfl rfl rfl rfl rfl ⟨rfl, rfl, rfl, rfl, rfl⟩ rfl rfl rfl rfl rfl (by kernel_rfl) Try.func5 (by kernel_rfl)
    (of_decide_eq_true (by kernel_rfl)) (by unfold Func.isWrapper; first | (rw [if_pos (by decide +kernel)]; kernel_rfl) | (rw [if_neg (by decide +kernel)]; exact ⟨rfl, rfl⟩))
    (fun os started H enc _ => fnMatchAll_lifted os started H enc)
end Go.Proofs.Ytkpdkemkfgcamaa
