/- FnCanon returns true, for all arguments. Conditions: none. -/
import Derived.Test.YtmecmdnnhldjpaaDoorCd
import Derived.Test.YtmecmdnnhldjpaaDoorCnA
import Derived.Test.YtmecmdnnhldjpaaDoorJDrawH
namespace Go.Proofs.YtmecmdnnhldjpaaDoor
open Go.ChangeShapes Go.WideShapes Go.ChangeAt Go.RowKit

theorem cnT_le {l : TLab} {ks : List Tp} (h : 1 + Rose.cnt ks ≤ 66) : 1 + Rose.cnt (cnT (.mk l ks)).kids ≤ 66 * 67 := by
  have h1 := apT_cnt (crn [.mk l ks]) l ks
  have h2 := crn_le [Rose.mk l ks]
  have hc1 : Rose.cnt [Rose.mk l ks] = 1 + 0 + Rose.cnt ks + Rose.cnt ([] : List Tp) := Rose.wtL_cons _ _ _
  rw [show Rose.cnt ([] : List Tp) = 0 from Rose.wtL_nil _] at hc1
  exact Nat.le_trans h1 (Nat.mul_le_mul h (by omega))

theorem fnCanon_ret {W : World} {a0 : Value} (hI : ItoaOk W) (g0 : OCode W a0) : Ret Tryd.prog 7 [a0] W fun r w' => r = .bool true ∧ Ext W w' := by
  have hM : maxLen = 9223372036854775807 := rfl
  refine ret_of_vc ttOkD Tryd.func7 rfl (by kernel_rfl) (by kernel_rfl) ?_
  refine (c_big g0).mono ?_
  rintro _ w ⟨⟨b, rfl⟩, hww⟩
  obtain rfl : W = w := hww.symm
  obtain rfl | rfl : b = true ∨ b = false := by cases b <;> simp
  · exact ⟨rfl, Chg.refl _ _⟩
  refine (c_DrawAlpha g0).mono ?_
  rintro _ w1 ⟨hx1, P, T, vp, vt, bp, bt, rfl, hkp, hkt, hvp, hvt, hcp, hct⟩
  obtain ⟨l, ks⟩ := P
  obtain ⟨m, ls⟩ := T
  simp only [Rose.lab, Rose.kids] at hkp hkt hcp hct ⊢
  obtain ⟨ao, cap, rfl, _, _⟩ := hkp.form
  obtain ⟨ao2, cap2, rfl, _, _⟩ := hkt.form
  refine Go1.al tiTy ?_
  intro w2 hx2 hb2
  have lt2 := hb2.lt
  have sz2 := hx2.size
  refine Go1.al tiTy ?_
  intro w3 hx3 hb3
  have lt3 := hb3.lt
  refine Go0.st (off := 0) (vs := [.int .i64 l.1, .string l.2, .slice ao ks.length cap]) (hb2.ext hx3) rfl rfl (by simp [Value.cells]) (by simp [Value.oneCell']) ?_
  intro w4 hc4 hb4 _
  have hb4 : Blk w4 w1.heap.size 38 [.int .i64 l.1, .string l.2, .slice ao ks.length cap] := hb4
  refine Go0.st (off := 0) (vs := [.int .i64 m.1, .string m.2, .slice ao2 ls.length cap2]) (hb3.chg hc4 (by omega)) rfl rfl (by simp [Value.cells]) (by simp [Value.oneCell']) ?_
  intro w5 hc5 hb5 _
  have hb5 : Blk w5 w2.heap.size 38 [.int .i64 m.1, .string m.2, .slice ao2 ls.length cap2] := hb5
  have hbA : Blk w5 w1.heap.size 38 [.int .i64 l.1, .string l.2, .slice ao ks.length cap] := hb4.chg hc5 (by omega)
  have hx15 : Ext w1 w5 := ((hx2.trans hx3).chg hc4 (by omega)).chg hc5 (by omega)
  have hx05 := hx1.trans hx15
  have hkA5 := hkp.ext hx15
  have hkB5 := hkt.ext hx15
  refine Ld.agg (vs := [.int .i64 l.1, .string l.2, .slice ao ks.length cap]) (Blk.lc0 (post := []) hbA) ?_
  refine Ld.agg (vs := [.int .i64 m.1, .string m.2, .slice ao2 ls.length cap2]) (Blk.lc0 (post := []) hb5) ?_
  refine (c_iAlpha (l := l) (ks := ks) (m := m) (ls := ls) (by omega) (by omega) (hI.ext hx05) hkA5 hkB5).mono ?_
  rintro _ w6 ⟨⟨b1, rfl, hb1⟩, hx6⟩
  have hx06 := hx05.trans hx6
  refine Ld.agg (vs := [.int .i64 l.1, .string l.2, .slice ao ks.length cap]) (Blk.lc0 (post := []) (hbA.ext hx6)) ?_
  refine (c_iCanon (l := l) (ks := ks) (by omega) (hI.ext hx06) (hkA5.ext hx6)).mono ?_
  have hXc := cnT_le (l := l) hcp
  have hXX := cn_cn hvp
  generalize hX : cnT (.mk l ks) = X at hXc hXX ⊢
  rintro _ w7 ⟨hx7, vx, bx, rfl, hkx, _⟩
  obtain ⟨aox, capx, rfl, _, _⟩ := hkx.form
  refine Go1.al tiTy ?_
  intro w8 hx8 hb8
  have lt8 := hb8.lt
  refine Go0.st (off := 0) (vs := [.int .i64 X.lab.1, .string X.lab.2, .slice aox X.kids.length capx]) hb8 rfl rfl (by simp [Value.cells]) (by simp [Value.oneCell']) ?_
  intro wg hcg hbg _
  have hbg : Blk wg w7.heap.size 38 [.int .i64 X.lab.1, .string X.lab.2, .slice aox X.kids.length capx] := hbg
  have hx7g : Ext w7 wg := hx8.chg hcg (by omega)
  have hx5g := (hx6.trans hx7).trans hx7g
  have hx0 := hx05.trans hx5g
  have hkA := hkA5.ext hx5g
  have hkB := hkB5.ext hx5g
  have hkX := hkx.ext hx7g
  have ldA := fun (u : World) (hu : Ext wg u) => Blk.lc0 (post := []) (xs := [.int .i64 l.1, .string l.2, .slice ao ks.length cap]) ((hbA.ext hx5g).ext hu)
  have ldB := fun (u : World) (hu : Ext wg u) => Blk.lc0 (post := []) (xs := [.int .i64 m.1, .string m.2, .slice ao2 ls.length cap2]) ((hb5.ext hx5g).ext hu)
  have ldX := fun (u : World) (hu : Ext wg u) => Blk.lc0 (post := []) (xs := [.int .i64 X.lab.1, .string X.lab.2, .slice aox X.kids.length capx]) (hbg.ext hu)
  clear hb2 hb3 hb4 hb8
  have hiff := cn_iff hvp hvt
  rw [hX] at hb1
  rw [hX] at hiff
  refine Dr.t [0, 1, 2, 3, 4, 5, 6, 7, 8, 9, 10, 11, 12, 13, 14, 15, 16, 17, 18, 20, 19, 21, 22, 23, 24, 25, 26, 27, 28] [0, 0, 0, 6, 15, 31, 63, 63, 63, 447, 959, 1983, 1983, 8127, 16319, 32767, 65535, 131071, 262143, 524287, 262143, 2097151, 4194303, 8388607, 16777215, 16777215, 67108863, 134217727, 268435455] [2, 8, 12, 19, 20, 25] ttOkD ?_
  refine LdS.xn (vs := [.int .i64 l.1, .string l.2, .slice ao ks.length cap]) (ldA wg (Chg.refl _ _)) ?_
  refine LdS.xn (vs := [.int .i64 m.1, .string m.2, .slice ao2 ls.length cap2]) (ldB wg (Chg.refl _ _)) ?_
  refine ⟨fun u1 hu1 => ?_⟩
  refine (c_sAlpha (l := l) (ks := ks) (m := m) (ls := ls) (by omega) (by omega) (hkA.ext hu1) (hkB.ext hu1)).mono ?_
  rw [hX]
  rintro _ u2 ⟨⟨b2, rfl, hb2⟩, hu2⟩
  obtain rfl : b1 = b2 := by rw [Bool.eq_iff_iff, hb1, hb2]
  refine Af.ext (hu1.trans hu2) ?_
  have h2 := hu1.trans hu2
  refine Cm.t rfl ?_
  refine LdS.xn (vs := [.int .i64 l.1, .string l.2, .slice ao ks.length cap]) (ldA _ h2) ?_
  refine LdS.xn (vs := [.int .i64 m.1, .string m.2, .slice ao2 ls.length cap2]) (ldB _ h2) ?_
  refine ⟨fun u3 hu3 => ?_⟩
  refine (c_iMatches (l := l) (ks := ks) (m := m) (ls := ls) (by omega) (hkA.ext (h2.trans hu3)) (hkB.ext (h2.trans hu3))).mono ?_
  generalize (mAll [.mk l ks] [.mk m ls] []).isSome = c3 at hiff ⊢
  rintro _ u4 ⟨rfl, hu4⟩
  refine Af.ext (hu3.trans hu4) ?_
  have h4 := h2.trans (hu3.trans hu4)
  cases c3 with
  | false =>
    obtain rfl : b1 = false := by
      cases b1 with
      | false => rfl
      | true => exact absurd (hiff.1 (hb1.1 rfl)).1 (by simp)
    refine Cm.t rfl ?_
    refine LdS.xn (vs := [.int .i64 X.lab.1, .string X.lab.2, .slice aox X.kids.length capx]) (ldX _ h4) ?_
    refine LdS.xn (vs := [.int .i64 X.lab.1, .string X.lab.2, .slice aox X.kids.length capx]) (ldX _ h4) ?_
    refine ⟨fun v1 hv1 => ?_⟩
    refine (c_iCanon (l := X.lab) (ks := X.kids) (by omega) (hI.ext (hx0.trans (h4.trans hv1))) (hkX.ext (h4.trans hv1))).mono ?_
    rw [X.eta, hXX]
    rintro _ v2 ⟨hv2, vx2, bx2, rfl, hkx2, _⟩
    refine Af.ext (hv1.trans hv2) ?_
    have k2 := h4.trans (hv1.trans hv2)
    refine ⟨fun v3 hv3 => ?_⟩
    refine (c_sEqualType (hkx2.ext hv3) (hkX.ext (k2.trans hv3))).mono ?_
    rintro _ v4 ⟨⟨b5, rfl, hb5⟩, hv4⟩
    obtain rfl : b5 = true := hb5.2 ⟨rfl, rfl⟩
    refine Af.ext (hv3.trans hv4) ?_
    have k4 := k2.trans (hv3.trans hv4)
    refine LdS.xn (vs := [.int .i64 l.1, .string l.2, .slice ao ks.length cap]) (ldA _ k4) ?_
    refine LdS.xn (vs := [.int .i64 X.lab.1, .string X.lab.2, .slice aox X.kids.length capx]) (ldX _ k4) ?_
    refine ⟨fun v5 hv5 => ?_⟩
    refine (c_iAlpha (l := l) (ks := ks) (m := X.lab) (ls := X.kids) (by omega) (by omega) (hI.ext (hx0.trans (k4.trans hv5))) (hkA.ext (k4.trans hv5)) (hkX.ext (k4.trans hv5))).mono ?_
    rw [X.eta]
    rintro _ v6 ⟨⟨b6, rfl, hb6⟩, hv6⟩
    obtain rfl : b6 = true := hb6.2 (hX.trans hXX.symm)
    refine Af.ext (hv5.trans hv6) ?_
    intro uz huz
    exact ⟨rfl, hx0.trans ((k4.trans (hv5.trans hv6)).trans huz)⟩
  | true =>
    refine LdS.xn (vs := [.int .i64 m.1, .string m.2, .slice ao2 ls.length cap2]) (ldB _ h4) ?_
    refine LdS.xn (vs := [.int .i64 l.1, .string l.2, .slice ao ks.length cap]) (ldA _ h4) ?_
    refine ⟨fun u5 hu5 => ?_⟩
    refine (c_iMatches (l := m) (ks := ls) (m := l) (ls := ks) (by omega) (hkB.ext (h4.trans hu5)) (hkA.ext (h4.trans hu5))).mono ?_
    generalize (mAll [.mk m ls] [.mk l ks] []).isSome = c4 at hiff ⊢
    rintro _ u6 ⟨rfl, hu6⟩
    refine Af.ext (hu5.trans hu6) ?_
    have h6 := h4.trans (hu5.trans hu6)
    obtain rfl : b1 = c4 := by
      rw [Bool.eq_iff_iff, hb1, hiff]
      simp
    refine Cm.t rfl ?_
    refine LdS.xn (vs := [.int .i64 X.lab.1, .string X.lab.2, .slice aox X.kids.length capx]) (ldX _ h6) ?_
    refine LdS.xn (vs := [.int .i64 X.lab.1, .string X.lab.2, .slice aox X.kids.length capx]) (ldX _ h6) ?_
    refine ⟨fun v1 hv1 => ?_⟩
    refine (c_iCanon (l := X.lab) (ks := X.kids) (by omega) (hI.ext (hx0.trans (h6.trans hv1))) (hkX.ext (h6.trans hv1))).mono ?_
    rw [X.eta, hXX]
    rintro _ v2 ⟨hv2, vx2, bx2, rfl, hkx2, _⟩
    refine Af.ext (hv1.trans hv2) ?_
    have k2 := h6.trans (hv1.trans hv2)
    refine ⟨fun v3 hv3 => ?_⟩
    refine (c_sEqualType (hkx2.ext hv3) (hkX.ext (k2.trans hv3))).mono ?_
    rintro _ v4 ⟨⟨b5, rfl, hb5⟩, hv4⟩
    obtain rfl : b5 = true := hb5.2 ⟨rfl, rfl⟩
    refine Af.ext (hv3.trans hv4) ?_
    have k4 := k2.trans (hv3.trans hv4)
    refine LdS.xn (vs := [.int .i64 l.1, .string l.2, .slice ao ks.length cap]) (ldA _ k4) ?_
    refine LdS.xn (vs := [.int .i64 X.lab.1, .string X.lab.2, .slice aox X.kids.length capx]) (ldX _ k4) ?_
    refine ⟨fun v5 hv5 => ?_⟩
    refine (c_iAlpha (l := l) (ks := ks) (m := X.lab) (ls := X.kids) (by omega) (by omega) (hI.ext (hx0.trans (k4.trans hv5))) (hkA.ext (k4.trans hv5)) (hkX.ext (k4.trans hv5))).mono ?_
    rw [X.eta]
    rintro _ v6 ⟨⟨b6, rfl, hb6⟩, hv6⟩
    obtain rfl : b6 = true := hb6.2 (hX.trans hXX.symm)
    refine Af.ext (hv5.trans hv6) ?_
    intro uz huz
    exact ⟨rfl, hx0.trans ((k4.trans (hv5.trans hv6)).trans huz)⟩

set_option maxRecDepth 100000 in
theorem fnCanon_lifted (os : Os) (started : os.Started) (H : Type) (enc : TypeId × Value → H) :
    ReturnsInHanded {} Tryd.checked os 7 .any (fun w args => (Rows.fnCanonSpec.pre enc Tryd.prog Tryd.f7 [] false w args ∧ laidMetH Tryd.prog Rows.fnCanonRow.laid w) ∧ sizedMet enc Tryd.prog Tryd.f7 (OpenSpec.ofChange Rows.fnCanonSpec) false w args)
      (Rows.fnCanonSpec.post enc Tryd.prog Tryd.f7 false true false false) := by
  refine handed_card (C := Tryd.checked) (X := fun w _ => laidMetH Tryd.prog Rows.fnCanonRow.laid w) (fun _ _ _ hh h => h.of_heap hh) Tryd.own started (by kernel_rfl) Tryd.func7
    (ChangeSpec.witness_shaped (enc := enc) (C := Tryd.checked) (os := os) (X := fun w _ => laidMetH Tryd.prog Rows.fnCanonRow.laid w) false (World.laidAll Tryd.prog os Rows.fnCanonRow.laid) #[.slice none 0 0] 8 (World.laidAll_os _ _ _)
      (World.shaped_of_ZipB (by kernel_rfl) (by kernel_rfl)) (by kernel_rfl) (by kernel_rfl) (by kernel_rfl)
      (by rw [MakeChecks.laidMetH_plain _ _ _ (by kernel_rfl)]; exact laidMet_laidAll _ (by kernel_rfl) (by kernel_rfl))) ?_
  intro W base args ds gs before hval0 hW hsh hL
  rw [MakeChecks.laidMetH_plain _ _ _ (by kernel_rfl)] at hL
  have hM : laidMet Tryd.prog Rows.fnCanonRow.laid W := hL
  have hval : ∀ (j : Nat) t v, Tryd.f7.params[j]? = some t → args[j]? = some v → Value.okWide Tryd.prog W .any base t v := hval0
  have hA0 := hW
  obtain ⟨p, q, hA1, _, _, _, _⟩ := hA0
  have hA : DataW.TrodAll enc Tryd.prog W 0 (fun _ => true) true Tryd.f7.params.toList args.toList ds p := hA1
  rw [Tryd.params7] at hA hval
  obtain ⟨v0, vs0, d0, ds0, p0, q0, hargs, rfl, rfl, h0, r0⟩ := trodAll_cons hA
  obtain ⟨rfl, rfl, rfl⟩ := trodAll_nil r0
  obtain rfl : args = #[v0] := by cases args; simp_all
  have o0 := oCode Tryd.underlying45 Tryd.underlying5 (by kernel_rfl) (hval 0 45 v0 rfl rfl) h0
  refine (Ret.calls Tryd.func7 rfl (by kernel_rfl) (fnCanon_ret (itoaOk_of (by kernel_rfl) (fun n w1 h0 h1 ht => Any.strconv_Itoa sh_laysM171 n h0 h1 w1 ht) (laidMet.tail (laidMet.tail hM))) o0)).mono ?_
  rintro e W' ⟨v, rfl, rfl, hx⟩
  exact ⟨_, rfl, law_post Tryd.laidOut (by kernel_rfl) rfl Tryd.underlying4 rfl rfl hW hx⟩

theorem fnCanon_row : Rows.FnCanonSaid :=
  OpenClaim.holds_of_wide 7 Tryd.f7 rfl rfl rfl rfl rfl rfl rfl ⟨rfl, rfl, rfl, rfl, rfl⟩ rfl rfl rfl rfl rfl (by kernel_rfl) Tryd.func7 (by kernel_rfl)
    (of_decide_eq_true (by kernel_rfl)) (by unfold Func.isWrapper; first | (rw [if_pos (by decide +kernel)]; kernel_rfl) | (rw [if_neg (by decide +kernel)]; exact ⟨rfl, rfl⟩))
    (fun os started H enc _ => fnCanon_lifted os started H enc)

theorem fnCanon_holds : Rows.FnCanonCardSaid := by
  unfold Rows.FnCanonCardSaid Rows.fnCanonCard
  exact Claim7.holds_tied_plain_at .later [] _ true _ false fnCanon_row (fun _ h => by cases h) (by kernel_rfl) (fun _ h => by cases h) fnCanon_row_tie rfl ⟨rfl, rfl⟩ (by kernel_rfl) rfl
    (fun f fn hf hfn => by
      obtain rfl : f = 7 := Option.some.inj ((show Tryd.prog.funcNamed Rows.fnCanonRow.func = some 7 by kernel_rfl).symm.trans hf) |>.symm
      obtain rfl : fn = Tryd.f7 := (Option.some.inj (Tryd.func7.symm.trans hfn)).symm
      exact ⟨by kernel_rfl, fun j t ht => by
        rw [Tryd.params7] at ht
        have hm : t ∈ [45] := by simpa using Array.mem_of_getElem? ht
        have hall : ([45].all fun u => !Tryd.prog.wantsStandIn u) = true := by kernel_rfl
        exact (show Tryd.prog.wantsStandIn t = false by simpa using List.all_eq_true.1 hall t hm)⟩)
    (by kernel_rfl)
end Go.Proofs.YtmecmdnnhldjpaaDoor
