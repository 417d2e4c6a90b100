/- FnExactFormatType returns true, for all arguments. Conditions: none. -/
import Derived.Test.YtdoanmhiedemaaaLawU
import Derived.Test.YtdoanmhiedemaaaTyB
import Derived.Test.YtdoanmhiedemaaaTyK
namespace Go.Proofs.Ytdoanmhiedemaaa
open Go.ChangeShapes Go.WideShapes Go.ChangeAt Go.RowKit

theorem fnExactFormatType_ret {W : World} {a0 : Value} (g0 : OTy W a0) : Ret Try.prog 12 [a0] W fun r w' => r = .bool true ∧ Ext W w' := by
  obtain ⟨l0, ks0, v0, bs0, rfl, hk0, hl0, ha0⟩ := g0
  obtain ⟨ao0, cap0, rfl, _, _⟩ := hk0.form
  refine ret_of_vc ttOk Try.func12 rfl (by kernel_rfl) (by kernel_rfl) ?_
  refine Go1.bx ?_
  intro w1 hw1 hb0
  refine Ld.agg (vs := [.int .i64 l0.1, .string l0.2, .slice ao0 ks0.length cap0]) (Blk.lc0 (post := []) hb0) ?_
  refine (c_szType hl0 ha0 (hk0.ext hw1) 1048576 (by omega)).mono ?_
  rintro r w2 ⟨hw2, rfl | ⟨m0, rfl, hm0⟩⟩
  · refine Cm.t (by omega) ?_
    exact ⟨rfl, (hw1.trans hw2)⟩
  refine Cm.f (by omega) ?_
  have hc0 : Rose.cnt ks0 ≤ 1048576 := by have := Rose.cnt_le (fun l : TLab => l.2.size) ks0; simp only [szT] at hm0; omega
  have hq0 := hc0
  have hg0 := Nat.le_trans hc0 (show 1048576 ≤ 4294967000 by decide)
  replace hc0 := Nat.le_trans hc0 (show 1048576 ≤ 4294967296 by decide)
  refine Ld.agg (vs := [.int .i64 l0.1, .string l0.2, .slice ao0 ks0.length cap0]) (Blk.lc0 (post := []) (hb0.ext hw2)) ?_
  refine (c_toType hc0 (hk0.ext (hw1.trans hw2))).mono ?_
  rintro r w3 ⟨hw3, vu0, bsu0, rfl, ku0, fu0⟩
  refine (c_sFormatType hl0 ha0 hc0 ku0).mono ?_
  rintro r w4 ⟨rfl, hw4⟩
  refine Ld.agg (vs := [.int .i64 l0.1, .string l0.2, .slice ao0 ks0.length cap0]) (Blk.lc0 (post := []) (hb0.ext ((hw2.trans hw3).trans hw4))) ?_
  refine (c_toType hc0 (hk0.ext (((hw1.trans hw2).trans hw3).trans hw4))).mono ?_
  rintro r w5 ⟨hw5, vx0, bsx0, rfl, kx0, fx0⟩
  obtain ⟨ax0, cx0, rfl, _, _⟩ := kx0.form
  refine Go1.al tiTy ?_
  intro w6 hw6 hbw6
  have ltw6 := hbw6.lt
  have szw6 := hw6.size
  refine Go0.st (off := 0) (vs := [.int .i64 l0.1, .string l0.2, .slice ax0 ks0.length cx0]) hbw6 rfl rfl (by simp [Value.cells]) (by simp [Value.oneCell']) ?_
  intro w7 hcw7 hb0w7 _
  have hxb0 : Blk w7 w5.heap.size 29 [.int .i64 l0.1, .string l0.2, .slice ax0 ks0.length cx0] := hb0w7
  have hw7 : Ext w5 w7 := hw6.chg hcw7 (by omega)
  refine Ld.agg (vs := [.int .i64 l0.1, .string l0.2, .slice ax0 ks0.length cx0]) (Blk.lc0 (post := []) hxb0) ?_
  refine (c_iFormatType hl0 ha0 hc0 (kx0.ext hw7)).mono ?_
  rintro r w8 ⟨rfl, hw8⟩
  refine Cm.v (c := false) (by simp) ?_
  refine Dr.x [0, 1, 2, 3, 4] ttOk ?_
  refine LdS.xn (vs := [.int .i64 l0.1, .string l0.2, .slice ax0 ks0.length cx0]) (Blk.lc0 (post := []) (hxb0.ext hw8)) ?_
  refine LdS.xn (vs := [.int .i64 l0.1, .string l0.2, .slice ao0 ks0.length cap0]) (Blk.lc0 (post := []) (hb0.ext (((((hw2.trans hw3).trans hw4).trans hw5).trans hw7).trans hw8))) ?_
  refine ⟨fun w9 hw9 => ?_⟩
  refine (c_toType hc0 (hk0.ext (((((((hw1.trans hw2).trans hw3).trans hw4).trans hw5).trans hw7).trans hw8).trans hw9))).mono ?_
  rintro r w10 ⟨hw10, vy0, bsy0, rfl, ky0, fy0⟩
  refine Af.ext (hw9.trans hw10) ?_
  refine ⟨fun w11 hw11 => ?_⟩
  refine (c_eqType (kx0.ext ((((hw7.trans hw8).trans hw9).trans hw10).trans hw11)) (ky0.ext hw11)).mono ?_
  rintro r w12 ⟨⟨b, rfl, hb⟩, hw12⟩
  obtain rfl : b = true := hb.2 ⟨rfl, rfl⟩
  refine Af.ext (hw11.trans hw12) ?_
  intro w13 hw13
  exact ⟨rfl, (((((((((((hw1.trans hw2).trans hw3).trans hw4).trans hw5).trans hw7).trans hw8).trans hw9).trans hw10).trans hw11).trans hw12).trans hw13)⟩

set_option maxRecDepth 100000 in
theorem fnExactFormatType_lifted (os : Os) (started : os.Started) (H : Type) (enc : TypeId × Value → H) :
    ReturnsInHanded {} Try.checked os 12 .any (Rows.fnExactFormatTypeSpec.pre6 enc Try.prog Try.f12 Rows.fnExactFormatTypeRow.domain false) (Rows.fnExactFormatTypeSpec.post enc Try.prog Try.f12 false true false false) := by
  refine returnsInHanded_of_change (C := Try.checked) Try.own started (by kernel_rfl) Try.func12
    (ChangeSpec.witness6 (enc := enc) (C := Try.checked) false ⟨#[], #[.agg #[.int .i64 0, .string ⟨#[]⟩, .slice none 0 0]], []⟩ 8 (by kernel_rfl) (by kernel_rfl) (by kernel_rfl) (by kernel_rfl)) ?_
  intro W base args ds gs before hval0 hW _ _
  have hval : ∀ (j : Nat) t v, Try.f12.params[j]? = some t → args[j]? = some v → Value.okWide Try.prog W .any base t v := hval0
  have hA0 := hW
  obtain ⟨p, q, hA1, _, _, _, _⟩ := hA0
  have hA : DataW.TrodAll enc Try.prog W 0 (fun _ => true) true Try.f12.params.toList args.toList ds p := hA1
  rw [Try.params12] at hA hval
  obtain ⟨v0, vs0, d0, ds0, p0, q0, hargs, rfl, rfl, h0, r0⟩ := trodAll_cons hA
  obtain ⟨rfl, rfl, rfl⟩ := trodAll_nil r0
  obtain rfl : args = #[v0] := by cases args; simp_all
  have o0 := oTy (hval 0 24 v0 rfl rfl) h0
  refine (Ret.calls Try.func12 rfl (by kernel_rfl) (fnExactFormatType_ret o0)).mono ?_
  rintro e W' ⟨v, rfl, rfl, hx⟩
  exact ⟨_, rfl, law_post Try.laidOut (by kernel_rfl) rfl Try.underlying4 rfl rfl hW hx⟩

theorem fnExactFormatType_holds : Rows.FnExactFormatTypeSaid :=
  OpenClaim.holds_of_wide 12 Try.f12 rfl rfl rfl rfl rfl rfl rfl ⟨rfl, rfl, rfl, rfl, rfl⟩ rfl rfl rfl rfl rfl (by kernel_rfl) Try.func12 (by kernel_rfl)
    (of_decide_eq_true (by kernel_rfl)) (by unfold Func.isWrapper; first | (rw [if_pos (by decide +kernel)]; kernel_rfl) | (rw [if_neg (by decide +kernel)]; exact ⟨rfl, rfl⟩))
    (fun os started H enc _ => fnExactFormatType_lifted os started H enc)
end Go.Proofs.Ytdoanmhiedemaaa
