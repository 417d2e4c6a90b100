/- FnSxSize returns true, for all arguments. Conditions: none. -/
import Derived.Test.YtapfcmlkcekfmaaSxG
import Derived.Test.YtapfcmlkcekfmaaLFnBig
namespace Go.Proofs.Ytapfcmlkcekfmaa
open Go.ChangeShapes Go.WideShapes Go.ChangeAt Go.RowKit

theorem fnSxSize_ret {W : World} {a0 : Value} (g0 : OCode W a0) : Ret Try.prog 5 [a0] W fun r w' => r = .bool true ∧ Ext W w' := by
  have hM : maxLen = 9223372036854775807 := rfl
  refine ret_of_vc ttOkD Try.func5 rfl (by kernel_rfl) (by kernel_rfl) ?_
  refine (c_big g0).mono ?_
  rintro _ w ⟨⟨b, rfl⟩, hww⟩
  obtain rfl : W = w := hww.symm
  obtain rfl | rfl : b = true ∨ b = false := by cases b <;> simp
  · exact ⟨rfl, Chg.refl _ _⟩
  refine (c_DrawSExprSize g0).mono ?_
  rintro _ w1 ⟨hx1, T, u, bs, rfl, hk, hcn⟩
  obtain ⟨l, ks⟩ := T
  simp only [Rose.lab, Rose.kids] at hk hcn ⊢
  obtain ⟨ao, cap, rfl, hm, _⟩ := hk.form
  have hlk : ks.length ≤ Rose.cnt ks := Rose.wtL_length _ _
  refine Go1.al tiSx ?_
  intro w2 hx2 hb2
  have lt2 := hb2.lt
  refine Go0.st (off := 0) (vs := [.string l, .slice ao ks.length cap]) hb2 rfl rfl (by simp [Value.cells]) (by simp [Value.oneCell']) ?_
  intro w3 hc3 hb3 _
  have hb3 : Blk w3 w1.heap.size 29 [.string l, .slice ao ks.length cap] := hb3
  have hx13 : Ext w1 w3 := hx2.chg hc3 (by omega)
  have hx03 := hx1.trans hx13
  have hk3 := hk.ext hx13
  have hdl := dpSL_le ks
  refine Lp.go ttOkD (by kernel_rfl) (fun k : Nat => [(3, .pointer (some ⟨w1.heap.size, 0, none⟩)), (4, .int .i64 (1 + Rose.cnt (ks.take k) : Nat)), (5, .int .i64 (dpSL (ks.take k) : Nat)), (6, .int .i64 k)]) (fun k w' => Ext w3 w' ∧ k ≤ ks.length) (fun k => ks.length - k) 0
    ⟨rfl, by rw [List.take_zero, show Rose.cnt ([] : List Sx) = 0 from Rose.wtL_nil _]; rfl, by rw [List.take_zero, dpSL_nil]; rfl, rfl, trivial⟩ ⟨Chg.refl _ _, Nat.zero_le _⟩ ?_
  rintro k w4 ⟨hx4, hk4⟩
  have hb4 := hb3.ext hx4
  refine Go1.fl 1 (Ld.one hb4.at1 ?_)
  refine Cm.s (fun hlt => ?_) (fun hge => ?_)
  · have hlt : k < ks.length := by omega
    obtain ⟨a, t, v1, b1, rfl, ht, hc, hkt, _⟩ := (hk3.ext hx4).get encS_sz hlt
    have htm := List.mem_of_getElem? ht
    have hcm := Rose.cnt_mem htm
    have hct : Rose.cnt (ks.take (k + 1)) = Rose.cnt (ks.take k) + (1 + Rose.cnt t.kids) := by
      show Rose.wtL _ _ = Rose.wtL _ _ + _
      rw [Rose.wtL_take_succ _ ht]
    have hcl : Rose.cnt (ks.take (k + 1)) ≤ Rose.cnt ks := by
      have := Rose.wtL_append (fun _ : ByteArray => 0) (ks.take (k + 1)) (ks.drop (k + 1))
      rw [List.take_append_drop] at this
      have e1 : Rose.cnt ks = Rose.wtL (fun _ => 0) ks := rfl
      have e2 : Rose.cnt (ks.take (k + 1)) = Rose.wtL (fun _ => 0) (ks.take (k + 1)) := rfl
      omega
    refine Go1.fl 1 (Ld.one hb4.at1 ?_)
    refine Go1.ix 2 hlt (Ld.agg hc ?_)
    refine (c_iSExprSize t.kids (by omega) t.lab w4 v1 b1 hkt).mono ?_
    rintro _ w5 ⟨rfl, hx5⟩
    refine Wr.n (1 + Rose.cnt (ks.take (k + 1))) (by rw [hct]; omega) (by omega) ?_
    have hb5 := hb4.ext hx5
    refine Go1.fl 1 (Ld.one hb5.at1 ?_)
    refine Go1.ix 2 hlt (Ld.agg (hc.chg hx5 (.inr id)) ?_)
    refine (c_iSExprDepth t.kids (by omega) t.lab w5 v1 b1 (hkt.ext hx5)).mono ?_
    rw [t.eta]
    rintro _ w6 ⟨rfl, hx6⟩
    have hdt := dpSL_take ht
    refine Cm.s (fun hgt => ?_) (fun hle => ?_)
    · refine Wr.n (k + 1) (by omega) (by omega) ?_
      refine ⟨k + 1, ⟨rfl, rfl, ?_, rfl, trivial⟩, ⟨(hx4.trans hx5).trans hx6, hlt⟩, by omega⟩
      rw [hdt, Nat.max_eq_right (by omega)]
      rfl
    · refine Wr.n (k + 1) (by omega) (by omega) ?_
      refine ⟨k + 1, ⟨rfl, rfl, ?_, rfl, trivial⟩, ⟨(hx4.trans hx5).trans hx6, hlt⟩, by omega⟩
      rw [hdt, Nat.max_eq_left (by omega)]
      rfl
  · have hke : k = ks.length := by omega
    subst hke
    rw [List.take_length]
    have hld := fun (u : World) (hu : Ext w4 u) => Blk.lc0 (post := []) (xs := [.string l, .slice ao ks.length cap]) (hb4.ext hu)
    refine Dr.x [0, 2, 1, 3, 4, 5, 6, 7, 8, 9, 11, 12, 10, 13, 14, 15, 16, 17, 19, 18, 20, 21, 22, 23] ttOkD ?_
    refine LdS.xn (vs := [.string l, .slice ao ks.length cap]) (hld w4 (Chg.refl _ _)) ?_
    refine ⟨fun wa hxa => ?_⟩
    refine (c_iSExprSize ks (by omega) l wa _ bs ((hk3.ext hx4).ext hxa)).mono ?_
    rintro _ wb ⟨rfl, hxb⟩
    have h4b := hxa.trans hxb
    refine Af.ext h4b ?_
    refine Cm.t (by omega) ?_
    refine GoS.fl 0 (LdS.x1 (hb4.ext h4b).at0 ?_)
    have fin : ∀ wc, Ext w4 wc → Ext W wc := fun wc h => (hx03.trans hx4).trans h
    refine Cm.ns (fun hne => ?_) (fun he => ?_)
    · refine LdS.xn (vs := [.string l, .slice ao ks.length cap]) (hld wb h4b) ?_
      refine LdS.xn (vs := [.string l, .slice ao ks.length cap]) (hld wb h4b) ?_
      refine ⟨fun wc hxc => ?_⟩
      refine (c_iSExprDepth ks (by omega) l wc _ bs ((hk3.ext hx4).ext (h4b.trans hxc))).mono ?_
      rintro _ wd ⟨rfl, hxd⟩
      refine Af.ext (hxc.trans hxd) ?_
      refine ⟨fun we hxe => ?_⟩
      refine (c_sSExprDepth ks (by omega) l we _ bs ((hk3.ext hx4).ext ((h4b.trans (hxc.trans hxd)).trans hxe))).mono ?_
      rintro _ wf ⟨rfl, hxf⟩
      refine Af.ext (hxe.trans hxf) ?_
      refine Cm.t rfl ?_
      intro wg hxg
      exact ⟨rfl, fin _ (((h4b.trans (hxc.trans hxd)).trans (hxe.trans hxf)).trans hxg)⟩
    · refine LdS.xn (vs := [.string l, .slice ao ks.length cap]) (hld wb h4b) ?_
      refine Wr.n (dpSL ks + 1) (by omega) (by omega) ?_
      refine ⟨fun w5 hx5 => ?_⟩
      refine (c_iSExprDepth ks (by omega) l w5 _ bs ((hk3.ext hx4).ext (h4b.trans hx5))).mono ?_
      rintro _ w6 ⟨rfl, hx6⟩
      refine Af.ext (hx5.trans hx6) ?_
      have hdp := dpS_list (ks := ks) he
      refine Cm.t (by rw [hdp]) ?_
      have h4c := h4b.trans (hx5.trans hx6)
      refine LdS.xn (vs := [.string l, .slice ao ks.length cap]) (hld w6 h4c) ?_
      refine LdS.xn (vs := [.string l, .slice ao ks.length cap]) (hld w6 h4c) ?_
      refine ⟨fun wc hxc => ?_⟩
      refine (c_iSExprDepth ks (by omega) l wc _ bs ((hk3.ext hx4).ext (h4c.trans hxc))).mono ?_
      rintro _ wd ⟨rfl, hxd⟩
      refine Af.ext (hxc.trans hxd) ?_
      refine ⟨fun we hxe => ?_⟩
      refine (c_sSExprDepth ks (by omega) l we _ bs ((hk3.ext hx4).ext ((h4c.trans (hxc.trans hxd)).trans hxe))).mono ?_
      rintro _ wf ⟨rfl, hxf⟩
      refine Af.ext (hxe.trans hxf) ?_
      refine Cm.t rfl ?_
      intro wg hxg
      exact ⟨rfl, fin _ (((h4c.trans (hxc.trans hxd)).trans (hxe.trans hxf)).trans hxg)⟩

set_option maxRecDepth 100000 in
theorem fnSxSize_lifted (os : Os) (started : os.Started) (H : Type) (enc : TypeId × Value → H) :
    ReturnsInHanded {} Try.checked os 5 .any (Rows.fnSxSizeSpec.pre6 enc Try.prog Try.f5 Rows.fnSxSizeRow.domain false) (Rows.fnSxSizeSpec.post enc Try.prog Try.f5 false true false false) := by
  refine returnsInHanded_of_change (C := Try.checked) Try.own started (by kernel_rfl) Try.func5
    (ChangeSpec.witness6 (enc := enc) (C := Try.checked) false ⟨#[], #[.slice none 0 0], []⟩ 8 (by kernel_rfl) (by kernel_rfl) (by kernel_rfl) (by kernel_rfl)) ?_
  intro W base args ds gs before hval0 hW _ _
  have hval : ∀ (j : Nat) t v, Try.f5.params[j]? = some t → args[j]? = some v → Value.okWide Try.prog W .any base t v := hval0
  have hA0 := hW
  obtain ⟨p, q, hA1, _, _, _, _⟩ := hA0
  have hA : DataW.TrodAll enc Try.prog W 0 (fun _ => true) true Try.f5.params.toList args.toList ds p := hA1
  rw [Try.params5] at hA hval
  obtain ⟨v0, vs0, d0, ds0, p0, q0, hargs, rfl, rfl, h0, r0⟩ := trodAll_cons hA
  obtain ⟨rfl, rfl, rfl⟩ := trodAll_nil r0
  obtain rfl : args = #[v0] := by cases args; simp_all
  have o0 := oCode Try.underlying34 Try.underlying5 (by kernel_rfl) (hval 0 34 v0 rfl rfl) h0
  refine (Ret.calls Try.func5 rfl (by kernel_rfl) (fnSxSize_ret o0)).mono ?_
  rintro e W' ⟨v, rfl, rfl, hx⟩
  exact ⟨_, rfl, law_post Try.laidOut (by kernel_rfl) rfl Try.underlying4 rfl rfl hW hx⟩

theorem fnSxSize_holds : Rows.FnSxSizeSaid :=
  OpenClaim.holds_of_wide 5 Try.f5 rfl rfl rfl rfl rfl rfl rfl ⟨rfl, rfl, rfl, rfl, rfl⟩ rfl rfl rfl rfl rfl (by kernel_rfl) Try.func5 (by kernel_rfl)
    (of_decide_eq_true (by kernel_rfl)) (by unfold Func.isWrapper; first | (rw [if_pos (by decide +kernel)]; kernel_rfl) | (rw [if_neg (by decide +kernel)]; exact ⟨rfl, rfl⟩))
    (fun os started H enc _ => fnSxSize_lifted os started H enc)
end Go.Proofs.Ytapfcmlkcekfmaa
