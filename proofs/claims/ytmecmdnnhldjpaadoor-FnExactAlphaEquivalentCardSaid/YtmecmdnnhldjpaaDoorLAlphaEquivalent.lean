/- FnExactAlphaEquivalent returns true, for all arguments. Conditions: none. -/
import Derived.Test.YtmecmdnnhldjpaaDoorLawB
import Derived.Test.YtmecmdnnhldjpaaDoorCnA
import Derived.Test.YtmecmdnnhldjpaaDoorBdE
import Derived.Test.YtmecmdnnhldjpaaDoorDrawC
import Derived.Test.YtmecmdnnhldjpaaDoorCard
namespace Go.Proofs.YtmecmdnnhldjpaaDoor
open Go.ChangeShapes Go.WideShapes Go.ChangeAt Go.RowKit

theorem fnExactAlphaEquivalent_ret {W : World} {a0 a1 : Value} (hI : ItoaOk W) (g0 : OTy W a0) (g1 : OTy W a1) : Ret Tryd.prog 4 [a0, a1] W fun r w' => r = .bool true ∧ Ext W w' := by
  obtain ⟨l0, ks0, v0, bs0, rfl, hk0, hl0, ha0⟩ := g0
  obtain ⟨ao0, cap0, rfl, _, _⟩ := hk0.form
  obtain ⟨l1, ks1, v1, bs1, rfl, hk1, hl1, ha1⟩ := g1
  obtain ⟨ao1, cap1, rfl, _, _⟩ := hk1.form
  refine ret_of_vc ttOk Tryd.func4 rfl (by kernel_rfl) (by kernel_rfl) ?_
  refine Go1.bx ?_
  intro w1 hw1 hb0
  refine Go1.bx ?_
  intro w2 hw2 hb1
  refine Ld.agg (vs := [.int .i64 l0.1, .string l0.2, .slice ao0 ks0.length cap0]) (Blk.lc0 (post := []) (hb0.ext hw2)) ?_
  refine (c_szType hl0 ha0 (hk0.ext (hw1.trans hw2)) 1048576 (by omega)).mono ?_
  rintro r w3 ⟨hw3, rfl | ⟨m0, rfl, hm0⟩⟩
  · refine Cm.t (by omega) ?_
    exact ⟨rfl, ((hw1.trans hw2).trans hw3)⟩
  refine Cm.f (by omega) ?_
  have hc0 : Rose.cnt ks0 ≤ 1048576 := by have := Rose.cnt_le (fun l : TLab => l.2.size) ks0; simp only [szT] at hm0; omega
  have hq0 := hc0
  have hg0 := Nat.le_trans hc0 (show 1048576 ≤ 4294967000 by decide)
  replace hc0 := Nat.le_trans hc0 (show 1048576 ≤ 4294967296 by decide)
  refine Ld.agg (vs := [.int .i64 l1.1, .string l1.2, .slice ao1 ks1.length cap1]) (Blk.lc0 (post := []) (hb1.ext hw3)) ?_
  refine (c_szType hl1 ha1 (hk1.ext ((hw1.trans hw2).trans hw3)) m0 (by omega)).mono ?_
  rintro r w4 ⟨hw4, rfl | ⟨m1, rfl, hm1⟩⟩
  · refine Cm.t (by omega) ?_
    exact ⟨rfl, (((hw1.trans hw2).trans hw3).trans hw4)⟩
  refine Cm.f (by omega) ?_
  have hc1 : Rose.cnt ks1 ≤ 1048576 := by have := Rose.cnt_le (fun l : TLab => l.2.size) ks1; simp only [szT] at hm1; omega
  have hq1 := hc1
  have hg1 := Nat.le_trans hc1 (show 1048576 ≤ 4294967000 by decide)
  replace hc1 := Nat.le_trans hc1 (show 1048576 ≤ 4294967296 by decide)
  refine Dr.x [0, 2, 1, 3, 4, 5] ttOk ?_
  refine LdS.xn (vs := [.int .i64 l0.1, .string l0.2, .slice ao0 ks0.length cap0]) (Blk.lc0 (post := []) (hb0.ext ((hw2.trans hw3).trans hw4))) ?_
  refine LdS.xn (vs := [.int .i64 l1.1, .string l1.2, .slice ao1 ks1.length cap1]) (Blk.lc0 (post := []) (hb1.ext (hw3.trans hw4))) ?_
  refine ⟨fun w5 hw5 => ?_⟩
  refine (c_toType hc0 (hk0.ext ((((hw1.trans hw2).trans hw3).trans hw4).trans hw5))).mono ?_
  rintro r w6 ⟨hw6, vu0, bsu0, rfl, ku0, fu0⟩
  refine Af.ext (hw5.trans hw6) ?_
  refine ⟨fun w7 hw7 => ?_⟩
  refine (c_toType hc1 (hk1.ext ((((((hw1.trans hw2).trans hw3).trans hw4).trans hw5).trans hw6).trans hw7))).mono ?_
  rintro r w8 ⟨hw8, vu1, bsu1, rfl, ku1, fu1⟩
  refine Af.ext (hw7.trans hw8) ?_
  refine ⟨fun w9 hw9 => ?_⟩
  refine (c_sAlpha (by omega) (by omega) (ku0.ext ((hw7.trans hw8).trans hw9)) (ku1.ext hw9)).mono ?_
  rintro r w10 ⟨⟨bq1, rfl, hbq1⟩, hw10⟩
  refine Af.ext (hw9.trans hw10) ?_
  intro w11 hw11
  refine Ld.agg (vs := [.int .i64 l0.1, .string l0.2, .slice ao0 ks0.length cap0]) (Blk.lc0 (post := []) (hb0.ext (((((((((hw2.trans hw3).trans hw4).trans hw5).trans hw6).trans hw7).trans hw8).trans hw9).trans hw10).trans hw11))) ?_
  refine (c_toType hc0 (hk0.ext ((((((((((hw1.trans hw2).trans hw3).trans hw4).trans hw5).trans hw6).trans hw7).trans hw8).trans hw9).trans hw10).trans hw11))).mono ?_
  rintro r w12 ⟨hw12, vx0, bsx0, rfl, kx0, fx0⟩
  obtain ⟨ax0, cx0, rfl, _, _⟩ := kx0.form
  refine Go1.al tiTy ?_
  intro w13 hw13 hbw13
  have ltw13 := hbw13.lt
  have szw13 := hw13.size
  refine Go0.st (off := 0) (vs := [.int .i64 l0.1, .string l0.2, .slice ax0 ks0.length cx0]) hbw13 rfl rfl (by simp [Value.cells]) (by simp [Value.oneCell']) ?_
  intro w14 hcw14 hb0w14 _
  have hxb0 : Blk w14 w12.heap.size 38 [.int .i64 l0.1, .string l0.2, .slice ax0 ks0.length cx0] := hb0w14
  have hw14 : Ext w12 w14 := hw13.chg hcw14 (by omega)
  refine Ld.agg (vs := [.int .i64 l1.1, .string l1.2, .slice ao1 ks1.length cap1]) (Blk.lc0 (post := []) (hb1.ext ((((((((((hw3.trans hw4).trans hw5).trans hw6).trans hw7).trans hw8).trans hw9).trans hw10).trans hw11).trans hw12).trans hw14))) ?_
  refine (c_toType hc1 (hk1.ext ((((((((((((hw1.trans hw2).trans hw3).trans hw4).trans hw5).trans hw6).trans hw7).trans hw8).trans hw9).trans hw10).trans hw11).trans hw12).trans hw14))).mono ?_
  rintro r w15 ⟨hw15, vx1, bsx1, rfl, kx1, fx1⟩
  obtain ⟨ax1, cx1, rfl, _, _⟩ := kx1.form
  refine Go1.al tiTy ?_
  intro w16 hw16 hbw16
  have ltw16 := hbw16.lt
  have szw16 := hw16.size
  refine Go0.st (off := 0) (vs := [.int .i64 l1.1, .string l1.2, .slice ax1 ks1.length cx1]) hbw16 rfl rfl (by simp [Value.cells]) (by simp [Value.oneCell']) ?_
  intro w17 hcw17 hb0w17 _
  have hxb1 : Blk w17 w15.heap.size 38 [.int .i64 l1.1, .string l1.2, .slice ax1 ks1.length cx1] := hb0w17
  have hw17 : Ext w15 w17 := hw16.chg hcw17 (by omega)
  refine Ld.agg (vs := [.int .i64 l0.1, .string l0.2, .slice ax0 ks0.length cx0]) (Blk.lc0 (post := []) (hxb0.ext (hw15.trans hw17))) ?_
  refine Ld.agg (vs := [.int .i64 l1.1, .string l1.2, .slice ax1 ks1.length cx1]) (Blk.lc0 (post := []) hxb1) ?_
  refine (c_iAlpha (by omega) (by omega) (hI.ext ((((((((((((((hw1.trans hw2).trans hw3).trans hw4).trans hw5).trans hw6).trans hw7).trans hw8).trans hw9).trans hw10).trans hw11).trans hw12).trans hw14).trans hw15).trans hw17)) (kx0.ext ((hw14.trans hw15).trans hw17)) (kx1.ext hw17)).mono ?_
  rintro r w18 ⟨⟨bq2, rfl, hbq2⟩, hw18⟩
  obtain rfl : bq2 = bq1 := by cases bq1 <;> cases bq2 <;> simp_all
  refine Cm.v (c := false) (by simp) ?_
  refine Dr.x [0, 1, 2, 3, 4] ttOk ?_
  refine LdS.xn (vs := [.int .i64 l0.1, .string l0.2, .slice ax0 ks0.length cx0]) (Blk.lc0 (post := []) (hxb0.ext ((hw15.trans hw17).trans hw18))) ?_
  refine LdS.xn (vs := [.int .i64 l0.1, .string l0.2, .slice ao0 ks0.length cap0]) (Blk.lc0 (post := []) (hb0.ext ((((((((((((((hw2.trans hw3).trans hw4).trans hw5).trans hw6).trans hw7).trans hw8).trans hw9).trans hw10).trans hw11).trans hw12).trans hw14).trans hw15).trans hw17).trans hw18))) ?_
  refine ⟨fun w19 hw19 => ?_⟩
  refine (c_toType hc0 (hk0.ext ((((((((((((((((hw1.trans hw2).trans hw3).trans hw4).trans hw5).trans hw6).trans hw7).trans hw8).trans hw9).trans hw10).trans hw11).trans hw12).trans hw14).trans hw15).trans hw17).trans hw18).trans hw19))).mono ?_
  rintro r w20 ⟨hw20, vy0, bsy0, rfl, ky0, fy0⟩
  refine Af.ext (hw19.trans hw20) ?_
  refine ⟨fun w21 hw21 => ?_⟩
  refine (c_eqType (kx0.ext ((((((hw14.trans hw15).trans hw17).trans hw18).trans hw19).trans hw20).trans hw21)) (ky0.ext hw21)).mono ?_
  rintro r w22 ⟨⟨b, rfl, hb⟩, hw22⟩
  obtain rfl : b = true := hb.2 ⟨rfl, rfl⟩
  refine Af.ext (hw21.trans hw22) ?_
  intro w23 hw23
  refine Dr.x [0, 1, 2, 3, 4] ttOk ?_
  refine LdS.xn (vs := [.int .i64 l1.1, .string l1.2, .slice ax1 ks1.length cx1]) (Blk.lc0 (post := []) (hxb1.ext (((((hw18.trans hw19).trans hw20).trans hw21).trans hw22).trans hw23))) ?_
  refine LdS.xn (vs := [.int .i64 l1.1, .string l1.2, .slice ao1 ks1.length cap1]) (Blk.lc0 (post := []) (hb1.ext ((((((((((((((((((hw3.trans hw4).trans hw5).trans hw6).trans hw7).trans hw8).trans hw9).trans hw10).trans hw11).trans hw12).trans hw14).trans hw15).trans hw17).trans hw18).trans hw19).trans hw20).trans hw21).trans hw22).trans hw23))) ?_
  refine ⟨fun w24 hw24 => ?_⟩
  refine (c_toType hc1 (hk1.ext (((((((((((((((((((((hw1.trans hw2).trans hw3).trans hw4).trans hw5).trans hw6).trans hw7).trans hw8).trans hw9).trans hw10).trans hw11).trans hw12).trans hw14).trans hw15).trans hw17).trans hw18).trans hw19).trans hw20).trans hw21).trans hw22).trans hw23).trans hw24))).mono ?_
  rintro r w25 ⟨hw25, vy1, bsy1, rfl, ky1, fy1⟩
  refine Af.ext (hw24.trans hw25) ?_
  refine ⟨fun w26 hw26 => ?_⟩
  refine (c_eqType (kx1.ext (((((((((hw17.trans hw18).trans hw19).trans hw20).trans hw21).trans hw22).trans hw23).trans hw24).trans hw25).trans hw26)) (ky1.ext hw26)).mono ?_
  rintro r w27 ⟨⟨b, rfl, hb⟩, hw27⟩
  obtain rfl : b = true := hb.2 ⟨rfl, rfl⟩
  refine Af.ext (hw26.trans hw27) ?_
  intro w28 hw28
  exact ⟨rfl, (((((((((((((((((((((((((hw1.trans hw2).trans hw3).trans hw4).trans hw5).trans hw6).trans hw7).trans hw8).trans hw9).trans hw10).trans hw11).trans hw12).trans hw14).trans hw15).trans hw17).trans hw18).trans hw19).trans hw20).trans hw21).trans hw22).trans hw23).trans hw24).trans hw25).trans hw26).trans hw27).trans hw28)⟩

set_option maxRecDepth 100000 in
theorem fnExactAlphaEquivalent_lifted (os : Os) (started : os.Started) (H : Type) (enc : TypeId × Value → H) :
    ReturnsInHanded {} Tryd.checked os 4 .any (fun w args => (Rows.fnExactAlphaEquivalentSpec.pre enc Tryd.prog Tryd.f4 [] false w args ∧ laidMetH Tryd.prog Rows.fnExactAlphaEquivalentRow.laid w) ∧ sizedMet enc Tryd.prog Tryd.f4 (OpenSpec.ofChange Rows.fnExactAlphaEquivalentSpec) false w args)
      (Rows.fnExactAlphaEquivalentSpec.post enc Tryd.prog Tryd.f4 false true false false) := by
  refine handed_card (C := Tryd.checked) (X := fun w _ => laidMetH Tryd.prog Rows.fnExactAlphaEquivalentRow.laid w) (fun _ _ _ hh h => h.of_heap hh) Tryd.own started (by kernel_rfl) Tryd.func4
    (ChangeSpec.witness_shaped (enc := enc) (C := Tryd.checked) (os := os) (X := fun w _ => laidMetH Tryd.prog Rows.fnExactAlphaEquivalentRow.laid w) false (World.laidAll Tryd.prog os Rows.fnExactAlphaEquivalentRow.laid) #[.agg #[.int .i64 0, .string ⟨#[]⟩, .slice none 0 0], .agg #[.int .i64 0, .string ⟨#[]⟩, .slice none 0 0]] 8 (World.laidAll_os _ _ _)
      (World.shaped_of_ZipB (by kernel_rfl) (by kernel_rfl)) (by kernel_rfl) (by kernel_rfl) (by kernel_rfl)
      (by rw [MakeChecks.laidMetH_plain _ _ _ (by kernel_rfl)]; exact laidMet_laidAll _ (by kernel_rfl) (by kernel_rfl))) ?_
  intro W base args ds gs before hval0 hW hsh hL
  rw [MakeChecks.laidMetH_plain _ _ _ (by kernel_rfl)] at hL
  have hM : laidMet Tryd.prog Rows.fnExactAlphaEquivalentRow.laid W := hL
  have hval : ∀ (j : Nat) t v, Tryd.f4.params[j]? = some t → args[j]? = some v → Value.okWide Tryd.prog W .any base t v := hval0
  have hA0 := hW
  obtain ⟨p, q, hA1, _, _, _, _⟩ := hA0
  have hA : DataW.TrodAll enc Tryd.prog W 0 (fun _ => true) true Tryd.f4.params.toList args.toList ds p := hA1
  rw [Tryd.params4] at hA hval
  obtain ⟨v0, vs0, d0, ds0, p0, q0, hargs, rfl, rfl, h0, r0⟩ := trodAll_cons hA
  obtain ⟨v1, vs1, d1, ds1, p1, q1, rfl, rfl, rfl, h1, r1⟩ := trodAll_cons r0
  obtain ⟨rfl, rfl, rfl⟩ := trodAll_nil r1
  obtain rfl : args = #[v0, v1] := by cases args; simp_all
  have o0 := oTy (hval 0 34 v0 rfl rfl) h0
  have o1 := oTy (hval 1 34 v1 rfl rfl) h1
  refine (Ret.calls Tryd.func4 rfl (by kernel_rfl) (fnExactAlphaEquivalent_ret (itoaOk_of (by kernel_rfl) (fun n w1 h0 h1 ht => Any.strconv_Itoa sh_laysM171 n h0 h1 w1 ht) (laidMet.tail (laidMet.tail hM))) o0 o1)).mono ?_
  rintro e W' ⟨v, rfl, rfl, hx⟩
  exact ⟨_, rfl, law_post Tryd.laidOut (by kernel_rfl) rfl Tryd.underlying4 rfl rfl hW hx⟩

theorem fnExactAlphaEquivalent_row : Rows.FnExactAlphaEquivalentSaid :=
  OpenClaim.holds_of_wide 4 Tryd.f4 rfl rfl rfl rfl rfl rfl rfl ⟨rfl, rfl, rfl, rfl, rfl⟩ rfl rfl rfl rfl rfl (by kernel_rfl) Tryd.func4 (by kernel_rfl)
    (of_decide_eq_true (by kernel_rfl)) (by unfold Func.isWrapper; first | (rw [if_pos (by decide +kernel)]; kernel_rfl) | (rw [if_neg (by decide +kernel)]; exact ⟨rfl, rfl⟩))
    (fun os started H enc _ => fnExactAlphaEquivalent_lifted os started H enc)

theorem fnExactAlphaEquivalent_holds : Rows.FnExactAlphaEquivalentCardSaid := by
  unfold Rows.FnExactAlphaEquivalentCardSaid Rows.fnExactAlphaEquivalentCard
  exact Claim7.holds_tied_plain_at .later [] _ true _ false fnExactAlphaEquivalent_row (fun _ h => by cases h) (by kernel_rfl) (fun _ h => by cases h) fnExactAlphaEquivalent_row_tie rfl ⟨rfl, rfl⟩ (by kernel_rfl) rfl
    (fun f fn hf hfn => by
      obtain rfl : f = 4 := Option.some.inj ((show Tryd.prog.funcNamed Rows.fnExactAlphaEquivalentRow.func = some 4 by kernel_rfl).symm.trans hf) |>.symm
      obtain rfl : fn = Tryd.f4 := (Option.some.inj (Tryd.func4.symm.trans hfn)).symm
      exact ⟨by kernel_rfl, fun j t ht => by
        rw [Tryd.params4] at ht
        have hm : t ∈ [34, 34] := by simpa using Array.mem_of_getElem? ht
        have hall : ([34, 34].all fun u => !Tryd.prog.wantsStandIn u) = true := by kernel_rfl
        exact (show Tryd.prog.wantsStandIn t = false by simpa using List.all_eq_true.1 hall t hm)⟩)
    (by kernel_rfl)
end Go.Proofs.YtmecmdnnhldjpaaDoor
