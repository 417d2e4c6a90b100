/- FnApplied returns true, for all arguments. Conditions: none. -/
import Derived.Test.YtkpdkemkfgcamaaBdS
namespace Go.Proofs.Ytkpdkemkfgcamaa
open Go.ChangeShapes Go.WideShapes Go.ChangeAt Go.RowKit

/-- laws.contains -/
theorem c_contains {ss : List ByteArray} {w : World} {v : Value} {bs : List Nat} (hk : Strs w v ss bs) (s : ByteArray) :
    Ret Try.prog 51 [v, .string s] w fun r w' => r = .bool (has ss s) ∧ Ext w w' := by
  obtain ⟨ao, cap, rfl, hm, hcap⟩ := hk.form
  refine ret_of_vc ttOkD Try.func51 rfl (by kernel_rfl) (by kernel_rfl) ?_
  refine (c_sIndexOf hk s).mono ?_
  rintro r w1 ⟨rfl, hw⟩
  have hm := @idx_mem s ss 0
  refine Cm.s (fun h => ⟨by rw [has_t (hm.1 h)], ?_⟩) (fun h => ⟨by rw [has_f fun e => h (hm.2 e)], ?_⟩)
  all_goals first | exact hw ▸ Chg.refl _ _ | exact hw

theorem fnApplied_ret {W : World} {a0 : Value} (g0 : OCode W a0) : Ret Try.prog 8 [a0] W fun r w' => r = .bool true ∧ Ext W w' := by
  have hM : maxLen = 9223372036854775807 := rfl
  obtain ⟨zs, bs, hr⟩ := g0
  refine ret_of_vc ttOkD Try.func8 rfl (by kernel_rfl) (by kernel_rfl) ?_
  refine (c_big2 hr).mono ?_
  rintro _ w ⟨⟨b, rfl, hz⟩, hww⟩
  obtain rfl : W = w := hww.symm
  obtain rfl | rfl : b = true ∨ b = false := by cases b <;> simp
  · exact ⟨rfl, Chg.refl _ _⟩
  refine (c_DrawApply ⟨zs, bs, hr⟩).mono ?_
  rintro _ w1 ⟨hx1, xs, t, vx, vt, bx, bt, rfl, hbx, hkt, hqx, hqt⟩
  have hct := hqt.1
  have hcx := hqx.1
  obtain ⟨ax, cx, rfl, _, _⟩ := hbx.form
  obtain ⟨ay, cy, rfl, _, _⟩ := hkt.form
  refine Go1.al tiTy ?_
  intro w2 hx2 hbt
  have lt2 := hbt.lt
  refine Go0.st (off := 0) (vs := [.int .i64 t.lab.1, .string t.lab.2, .slice ay t.kids.length cy]) hbt rfl rfl (by simp [Value.cells]) (by simp [Value.oneCell']) ?_
  intro w3 hc3 hbt _
  have hbt : Blk w3 w1.heap.size 40 [.int .i64 t.lab.1, .string t.lab.2, .slice ay t.kids.length cy] := hbt
  have hx13 : Ext w1 w3 := hx2.chg hc3 (by omega)
  have hldt := fun (u : World) (hu : Ext w3 u) => Blk.lc0 (post := []) (xs := [.int .i64 t.lab.1, .string t.lab.2, .slice ay t.kids.length cy]) (hbt.ext hu)
  have hbx := hbx.ext hx13
  have hkt := hkt.ext hx13
  refine Ld.agg (vs := [.int .i64 t.lab.1, .string t.lab.2, .slice ay t.kids.length cy]) (hldt w3 (Chg.refl _ _)) ?_
  refine (c_iApply (by omega) (by omega) hbx hkt).mono ?_
  rintro _ w4 ⟨hx4, vu, bu, rfl, hku, _⟩
  have hcu := apT_cnt xs t.lab t.kids
  have hcu2 : (1 + Rose.cnt t.kids) * (1 + cntB xs) ≤ 128 * 1025 := Nat.mul_le_mul (by omega) (by omega)
  rw [t.eta] at hku hcu ⊢
  obtain ⟨au, cu, rfl, _, _⟩ := hku.form
  refine Go1.al tiTy ?_
  intro w5 hx5 hbu
  have lt5 := hbu.lt
  refine Go0.st (off := 0) (vs := [.int .i64 (apT xs t).lab.1, .string (apT xs t).lab.2, .slice au (apT xs t).kids.length cu]) hbu rfl rfl (by simp [Value.cells]) (by simp [Value.oneCell']) ?_
  intro w6 hc6 hbu _
  have hbu : Blk w6 w4.heap.size 40 [.int .i64 (apT xs t).lab.1, .string (apT xs t).lab.2, .slice au (apT xs t).kids.length cu] := hbu
  have hx46 : Ext w4 w6 := hx5.chg hc6 (by omega)
  have hx36 := hx4.trans hx46
  have hbx := hbx.ext hx36
  have hkt := hkt.ext hx36
  have hku := hku.ext hx46
  have hldt := fun (u : World) (hu : Ext w6 u) => hldt u (hx36.trans hu)
  have hldu := fun (u : World) (hu : Ext w6 u) => Blk.lc0 (post := []) (xs := [.int .i64 (apT xs t).lab.1, .string (apT xs t).lab.2, .slice au (apT xs t).kids.length cu]) (hbu.ext hu)
  have hx6 : Ext W w6 := hx1.trans (hx13.trans hx36)
  refine Dr.x [0, 1, 2, 3, 4, 5, 6, 7, 9, 8, 10, 11, 12, 13, 14, 16, 15, 17, 18, 19] ttOkD ?_
  refine LdS.xn (vs := [.int .i64 (apT xs t).lab.1, .string (apT xs t).lab.2, .slice au (apT xs t).kids.length cu]) (hldu w6 (Chg.refl _ _)) ?_
  refine LdS.xn (vs := [.int .i64 t.lab.1, .string t.lab.2, .slice ay t.kids.length cy]) (hldt w6 (Chg.refl _ _)) ?_
  refine ⟨fun u1 hu1 => ?_⟩
  refine (c_sApply (by omega) (by omega) (hbx.ext hu1) (hkt.ext hu1)).mono ?_
  rintro _ u2 ⟨hu2, v2, d2, rfl, hk2, _⟩
  rw [t.eta] at hk2 ⊢
  obtain ⟨a2, c2, rfl, _, _⟩ := hk2.form
  refine Af.ext (hu1.trans hu2) ?_
  refine ⟨fun u3 hu3 => ?_⟩
  have h63 := (hu1.trans hu2).trans hu3
  refine (c_sEqualType (hku.ext h63) (hk2.ext hu3)).mono ?_
  rintro _ u4 ⟨⟨b, rfl, hb⟩, hu4⟩
  obtain rfl : b = true := hb.2 ⟨rfl, rfl⟩
  have h64 := h63.trans hu4
  refine Af.ext (hu3.trans hu4) ?_
  refine LdS.xn (vs := [.int .i64 t.lab.1, .string t.lab.2, .slice ay t.kids.length cy]) (hldt u4 h64) ?_
  refine LdS.xn (vs := [.int .i64 t.lab.1, .string t.lab.2, .slice ay t.kids.length cy]) (hldt u4 h64) ?_
  refine ⟨fun u5 hu5 => ?_⟩
  refine (c_iApply (xs := []) (by decide) (by omega) Bds.nil (hkt.ext (h64.trans hu5))).mono ?_
  rintro _ u6 ⟨hu6, v6, d6, rfl, hk6, _⟩
  rw [t.eta, apT_none] at hk6 ⊢
  obtain ⟨a6, c6, rfl, _, _⟩ := hk6.form
  refine Af.ext (hu5.trans hu6) ?_
  refine ⟨fun u7 hu7 => ?_⟩
  have h67 := (h64.trans (hu5.trans hu6)).trans hu7
  refine (c_sEqualType (hk6.ext hu7) (hkt.ext h67)).mono ?_
  rintro _ u8 ⟨⟨b, rfl, hb⟩, hu8⟩
  obtain rfl : b = true := hb.2 ⟨rfl, rfl⟩
  refine Af.ext (hu7.trans hu8) ?_
  refine ⟨fun u9 hu9 => ?_⟩
  have h69 := (h67.trans hu8).trans hu9
  refine (c_iIsValidSub hqx.al (by omega) (hbx.ext h69)).mono ?_
  rintro _ u10 ⟨⟨b1, rfl, hb1⟩, hu10⟩
  refine Af.ext (hu9.trans hu10) ?_
  refine ⟨fun u11 hu11 => ?_⟩
  have h611 := (h69.trans hu10).trans hu11
  refine (c_sIsValidSub hqx.al (hbx.ext h611)).mono ?_
  rintro _ u12 ⟨⟨b2, rfl, hb2⟩, hu12⟩
  obtain rfl : b1 = b2 := by rw [Bool.eq_iff_iff, hb1, hb2]
  refine Af.ext (hu11.trans hu12) ?_
  refine Cm.nf rfl ?_
  intro w7 hx7
  have hx67 := (h611.trans hu12).trans hx7
  refine Ld.agg (vs := [.int .i64 t.lab.1, .string t.lab.2, .slice ay t.kids.length cy]) (hldt w7 hx67) ?_
  refine (c_iTypeVariables (by omega) (hkt.ext hx67)).mono ?_
  rintro vv w8 ⟨hx8, dv, hv8, _⟩
  have hx68 := hx67.trans hx8
  obtain ⟨av, cv, rfl, _, _⟩ := hv8.form
  refine Dr.x [0, 1, 3, 5, 2, 4, 6, 7] ttOkD ?_
  refine LdS.xn (vs := [.int .i64 t.lab.1, .string t.lab.2, .slice ay t.kids.length cy]) (hldt w8 hx68) ?_
  refine LdS.xn (vs := [.int .i64 (apT xs t).lab.1, .string (apT xs t).lab.2, .slice au (apT xs t).kids.length cu]) (hldu w8 hx68) ?_
  refine ⟨fun y1 hy1 => ?_⟩
  refine (c_iRestrictTo (by omega) (hbx.ext (hx68.trans hy1)) (Row.ext hy1 hv8)).mono ?_
  rintro vz y2 ⟨hy2, bz, hbz, _⟩
  refine Af.ext (hy1.trans hy2) ?_
  refine ⟨fun y3 hy3 => ?_⟩
  have h83 := (hy1.trans hy2).trans hy3
  refine (c_iApply (by have := cntB_filter (fun x => has (coll isV (t.lab :: Rose.preL t.kids) []) x.1) xs; omega) (by omega) (hbz.ext hy3) (hkt.ext (hx68.trans h83))).mono ?_
  rintro _ y4 ⟨hy4, v4, d4, rfl, hk4, _⟩
  rw [t.eta, apT_restrict] at hk4 ⊢
  obtain ⟨a4, c4, rfl, _, _⟩ := hk4.form
  refine Af.ext (hy3.trans hy4) ?_
  refine ⟨fun y5 hy5 => ?_⟩
  have h85 := (h83.trans hy4).trans hy5
  refine (c_sEqualType (hk4.ext hy5) (hku.ext (hx68.trans h85))).mono ?_
  rintro _ y6 ⟨⟨b, rfl, hb⟩, hy6⟩
  obtain rfl : b = true := hb.2 ⟨rfl, rfl⟩
  refine Af.ext (hy5.trans hy6) ?_
  intro w9 hx9
  have hx89 := (h85.trans hy6).trans hx9
  have hle := coll_le isV (t.lab :: Rose.preL t.kids) []
  have hpl := preL_length t.kids
  simp only [List.length_nil, List.length_cons, hpl] at hle
  have hkeep : ∀ s ∈ coll isV (t.lab :: Rose.preL t.kids) [], lookO s xs = none → s ∈ coll isV ((apT xs t).lab :: Rose.preL (apT xs t).kids) [] := fun s hs hl => apT_keeps (fun x hx => (hqx.2 x hx).1) hqt.2.2 hs hl
  generalize hvs : coll isV (t.lab :: Rose.preL t.kids) [] = vs at hv8 hle hkeep
  refine Lp.go ttOkD (by kernel_rfl) (fun k : Nat => [(3, .slice ax xs.length cx), (5, .pointer (some ⟨w4.heap.size, 0, none⟩)), (6, .slice av vs.length cv), (7, .int .i64 k)]) (fun k w' => Ext w8 w' ∧ k ≤ vs.length) (fun k => vs.length - k) 0
    ⟨rfl, rfl, rfl, rfl, trivial⟩ ⟨hx89, Nat.zero_le _⟩ ?_
  rintro k w10 ⟨hx10, hk⟩
  have h610 := hx68.trans hx10
  refine Cm.s (fun hlt1 => ?_) (fun hge => ?_)
  · have hlt1 : k < vs.length := by omega
    obtain ⟨a, rfl, hc⟩ := (Strs.get (Row.ext hx10 hv8) hlt1)
    refine Go1.ix 1 hlt1 (Ld.one hc ?_)
    refine (c_iLookup (by omega) vs[k] (hbx.ext h610)).mono ?_
    rintro _ w11 ⟨hx11, vL, bL, rfl, hkL, _⟩
    obtain ⟨aL, cL, rfl, _, _⟩ := hkL.form
    refine Go1.al tiTy ?_
    intro w12 hx12 hb12
    have lt12 := hb12.lt
    refine Go0.st (off := 0) (vs := [.int .i64 (lookT vs[k] xs).lab.1, .string (lookT vs[k] xs).lab.2, .slice aL (lookT vs[k] xs).kids.length cL]) hb12 rfl rfl (by simp [Value.cells]) (by simp [Value.oneCell']) ?_
    intro w13 hc13 hb13 _
    have hx1013 : Ext w10 w13 := hx11.trans (hx12.chg hc13 (by omega))
    have hx813 := hx10.trans hx1013
    have h613 := hx68.trans hx813
    cases hlk : lookO vs[k] xs with
    | some u =>
      refine Dr.x [0, 1, 2, 3, 5, 6, 7, 8, 4, 9, 10, 11] ttOkD ?_
      intro w14 hx14
      refine Wr.n (k + 1) (by omega) (by omega) ?_
      exact ⟨k + 1, ⟨rfl, rfl, rfl, rfl, trivial⟩, ⟨hx813.trans hx14, hlt1⟩, by omega⟩
    | none =>
      have hmem := hkeep vs[k] (List.getElem_mem hlt1) hlk
      refine Dr.x [0, 1, 2, 3, 5, 6, 7, 8, 4, 9, 10, 11] ttOkD ?_
      refine LdS.xn (vs := [.int .i64 (apT xs t).lab.1, .string (apT xs t).lab.2, .slice au (apT xs t).kids.length cu]) (hldu w13 h613) ?_
      refine GoS.ix 1 hlt1 (LdS.x1 (hx1013.cell hc) ?_)
      refine ⟨fun y1 hy1 => ?_⟩
      refine (c_iTypeVariables (by omega) (hku.ext (h613.trans hy1))).mono ?_
      rintro v1 y2 ⟨hy2, d1, hv1, _⟩
      obtain ⟨a1, c1, rfl, _, _⟩ := hv1.form
      refine Af.ext (hy1.trans hy2) ?_
      refine ⟨fun y3 hy3 => ?_⟩
      refine (c_contains (Row.ext hy3 hv1) vs[k]).mono ?_
      rintro _ y4 ⟨rfl, hy4⟩
      rw [has_t hmem]
      refine Af.ext (hy3.trans hy4) ?_
      intro w14 hx14
      refine Wr.n (k + 1) (by omega) (by omega) ?_
      exact ⟨k + 1, ⟨rfl, rfl, rfl, rfl, trivial⟩, ⟨hx813.trans (((hy1.trans hy2).trans (hy3.trans hy4)).trans hx14), hlt1⟩, by omega⟩
  · exact ⟨rfl, hx6.trans h610⟩

set_option maxRecDepth 100000 in
theorem fnApplied_lifted (os : Os) (started : os.Started) (H : Type) (enc : TypeId × Value → H) :
    ReturnsInHanded {} Try.checked os 8 .any (Rows.fnAppliedSpec.pre6 enc Try.prog Try.f8 Rows.fnAppliedRow.domain false) (Rows.fnAppliedSpec.post enc Try.prog Try.f8 false true false false) := by
  refine returnsInHanded_of_change (C := Try.checked) Try.own started (by kernel_rfl) Try.func8
    (ChangeSpec.witness6 (enc := enc) (C := Try.checked) false ⟨#[], #[.slice none 0 0], []⟩ 8 (by kernel_rfl) (by kernel_rfl) (by kernel_rfl) (by kernel_rfl)) ?_
  intro W base args ds gs before hval0 hW _ _
  have hval : ∀ (j : Nat) t v, Try.f8.params[j]? = some t → args[j]? = some v → Value.okWide Try.prog W .any base t v := hval0
  have hA0 := hW
  obtain ⟨p, q, hA1, _, _, _, _⟩ := hA0
  have hA : DataW.TrodAll enc Try.prog W 0 (fun _ => true) true Try.f8.params.toList args.toList ds p := hA1
  rw [Try.params8] at hA hval
  obtain ⟨v0, vs0, d0, ds0, p0, q0, hargs, rfl, rfl, h0, r0⟩ := trodAll_cons hA
  obtain ⟨rfl, rfl, rfl⟩ := trodAll_nil r0
  obtain rfl : args = #[v0] := by cases args; simp_all
  have o0 := oCode Try.underlying46 Try.underlying5 (by kernel_rfl) (hval 0 46 v0 rfl rfl) h0
  refine (Ret.calls Try.func8 rfl (by kernel_rfl) (fnApplied_ret o0)).mono ?_
  rintro e W' ⟨v, rfl, rfl, hx⟩
  exact ⟨_, rfl, law_post Try.laidOut (by kernel_rfl) rfl Try.underlying4 rfl rfl hW hx⟩

theorem fnApplied_holds : Rows.FnAppliedSaid :=
  OpenClaim.holds_of_wide 8 Try.f8 rfl rfl rfl rfl rfl rfl rfl ⟨rfl, rfl, rfl, rfl, rfl⟩ rfl rfl rfl rfl rfl (by kernel_rfl) Try.func8 (by kernel_rfl)
    (of_decide_eq_true (by kernel_rfl)) (by unfold Func.isWrapper; first | (rw [if_pos (by decide +kernel)]; kernel_rfl) | (rw [if_neg (by decide +kernel)]; exact ⟨rfl, rfl⟩))
    (fun os started H enc _ => fnApplied_lifted os started H enc)
end Go.Proofs.Ytkpdkemkfgcamaa
