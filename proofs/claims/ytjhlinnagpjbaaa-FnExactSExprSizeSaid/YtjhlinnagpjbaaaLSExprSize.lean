/- FnExactSExprSize returns true, for all arguments. Conditions: none. -/
import Derived.Test.YtjhlinnagpjbaaaLawT
import Derived.Test.YtjhlinnagpjbaaaSxC
namespace Go.Proofs.Ytjhlinnagpjbaaa
open Go.ChangeShapes Go.WideShapes Go.ChangeAt Go.RowKit

theorem fnExactSExprSize_ret {W : World} {v : Value} (h : OSx W v) : Ret Try.prog 9 [v] W fun r w' => r = .bool true ∧ Ext W w' := by
  obtain ⟨l, ks, v, bs, rfl, hk, hl, ha⟩ := h
  obtain ⟨ao, cap, rfl, _, _⟩ := hk.form
  refine ret_of_vc ttOk Try.func9 rfl (by kernel_rfl) (by kernel_rfl) ?_
  refine Go1.bx ?_
  intro w1 hx1 hb1
  refine Ld.agg (vs := [.string l, .slice ao ks.length cap]) (Blk.lc0 (post := []) hb1) ?_
  refine (c_szSExpr hl ha (hk.ext hx1) 1048576 (Nat.le_refl _)).mono ?_
  rintro r w2 ⟨hx2, rfl | ⟨m, rfl, hm⟩⟩
  · refine Cm.t (by omega) ?_
    exact ⟨rfl, hx1.trans hx2⟩
  refine Cm.f (by omega) ?_
  have hcn : Rose.cnt ks ≤ 4294967296 := by have := Rose.cnt_le ByteArray.size ks; simp only [szS] at hm; omega
  have hx := hx1.trans hx2
  refine Ld.agg (vs := [.string l, .slice ao ks.length cap]) (Blk.lc0 (post := []) (hb1.ext hx2)) ?_
  refine (c_toSExpr hcn (hk.ext hx)).mono ?_
  rintro r w3 ⟨hx3, v3, b3, rfl, k3, _⟩
  have hx := hx.trans hx3
  refine (c_sSExprSize ks hcn _ _ _ _ k3).mono ?_
  rintro r w4 ⟨rfl, hx4⟩
  have hx := hx.trans hx4
  refine Ld.agg (vs := [.string l, .slice ao ks.length cap]) (Blk.lc0 (post := []) (hb1.ext ((hx2.trans hx3).trans hx4))) ?_
  refine (c_toSExpr hcn (hk.ext hx)).mono ?_
  rintro r w5 ⟨hx5, v5, b5, rfl, k5, _⟩
  have hx := hx.trans hx5
  obtain ⟨a5, c5, rfl, _, _⟩ := k5.form
  refine Go1.al tiSx ?_
  intro w6 hx6 hb6
  have lt6 := hb6.lt
  have sz6 := hx6.size
  have sz5 := hx5.size
  refine Go0.st (off := 0) (vs := [.string l, .slice a5 ks.length c5]) hb6 rfl rfl (by simp [Value.cells]) (by simp [Value.oneCell']) ?_
  intro w7 hx07 hb07 _
  have hb7 : Blk w7 w5.heap.size 38 [.string l, .slice a5 ks.length c5] := hb07
  have hx7 : Ext w5 w7 := hx6.chg hx07 (by omega)
  have hx := hx.trans hx7
  refine Ld.agg (vs := [.string l, .slice a5 ks.length c5]) (Blk.lc0 (post := []) hb7) ?_
  refine (c_iSExprSize ks hcn _ _ _ _ (k5.ext hx7)).mono ?_
  rintro r w8 ⟨rfl, hx8⟩
  have hx := hx.trans hx8
  refine Cm.v (c := false) (by simp) ?_
  refine Dr.x [0, 1, 2, 3, 4] ttOk ?_
  refine LdS.xn (vs := [.string l, .slice a5 ks.length c5]) (Blk.lc0 (post := []) (hb7.ext hx8)) ?_
  refine LdS.xn (vs := [.string l, .slice ao ks.length cap]) (Blk.lc0 (post := []) (hb1.ext (((((hx2.trans hx3).trans hx4).trans hx5).trans hx7).trans hx8))) ?_
  refine ⟨fun w9 hx9 => ?_⟩
  have hx := hx.trans hx9
  refine (c_toSExpr hcn (hk.ext hx)).mono ?_
  rintro r w10 ⟨hx10, v10, b10, rfl, k10, _⟩
  have hx := hx.trans hx10
  refine Af.ext (hx9.trans hx10) ?_
  refine ⟨fun w11 hx11 => ?_⟩
  have hx := hx.trans hx11
  refine (c_eqSExpr (k5.ext ((((hx7.trans hx8).trans hx9).trans hx10).trans hx11)) (k10.ext hx11)).mono ?_
  rintro r w12 ⟨⟨b, rfl, hb⟩, hx12⟩
  have hx := hx.trans hx12
  obtain rfl : b = true := hb.2 ⟨rfl, rfl⟩
  refine Af.ext (hx11.trans hx12) ?_
  intro w13 hx13
  exact ⟨rfl, hx.trans hx13⟩

set_option maxRecDepth 100000 in
theorem fnExactSExprSize_lifted (os : Os) (started : os.Started) (H : Type) (enc : TypeId × Value → H) :
    ReturnsInHanded {} Try.checked os 9 .any (Rows.fnExactSExprSizeSpec.pre6 enc Try.prog Try.f9 Rows.fnExactSExprSizeRow.domain false) (Rows.fnExactSExprSizeSpec.post enc Try.prog Try.f9 false true false false) := by
  refine returnsInHanded_of_change (C := Try.checked) Try.own started (by kernel_rfl) Try.func9
    (ChangeSpec.witness6 (enc := enc) (C := Try.checked) false ⟨#[], #[.agg #[.string ⟨#[]⟩, .slice none 0 0]], []⟩ 8 (by kernel_rfl) (by kernel_rfl) (by kernel_rfl) (by kernel_rfl)) ?_
  intro W base args ds gs before hval0 hW _ _
  have hval : ∀ (j : Nat) t v, Try.f9.params[j]? = some t → args[j]? = some v → Value.okWide Try.prog W .any base t v := hval0
  have hA0 := hW
  obtain ⟨p, q, hA1, _, _, _, _⟩ := hA0
  have hA : DataW.TrodAll enc Try.prog W 0 (fun _ => true) true Try.f9.params.toList args.toList ds p := hA1
  rw [Try.params9] at hA hval
  obtain ⟨v0, vs0, d0, ds0, p0, q0, hargs, rfl, rfl, h0, r0⟩ := trodAll_cons hA
  obtain ⟨rfl, rfl, rfl⟩ := trodAll_nil r0
  obtain rfl : args = #[v0] := by cases args; simp_all
  have o0 := oSx (hval 0 33 v0 rfl rfl) h0
  refine (Ret.calls Try.func9 rfl (by kernel_rfl) (fnExactSExprSize_ret o0)).mono ?_
  rintro e W' ⟨v, rfl, rfl, hx⟩
  exact ⟨_, rfl, law_post Try.laidOut (by kernel_rfl) rfl Try.underlying4 rfl rfl hW hx⟩

theorem fnExactSExprSize_holds : Rows.FnExactSExprSizeSaid :=
  OpenClaim.holds_of_wide 9 Try.f9 rfl rfl rfl rfl rfl rfl rfl ⟨rfl, rfl, rfl, rfl, rfl⟩ rfl rfl rfl rfl rfl (by kernel_rfl) Try.func9 (by kernel_rfl)
    (of_decide_eq_true (by kernel_rfl)) (by unfold Func.isWrapper; first | (rw [if_pos (by decide +kernel)]; kernel_rfl) | (rw [if_neg (by decide +kernel)]; exact ⟨rfl, rfl⟩))
    (fun os started H enc _ => fnExactSExprSize_lifted os started H enc)
end Go.Proofs.Ytjhlinnagpjbaaa
