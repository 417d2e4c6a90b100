/- FnExactCanonicalize returns true, for all arguments. Conditions: none. -/
import Derived.Test.YtmecmdnnhldjpaaDoorLawB
import Derived.Test.YtmecmdnnhldjpaaDoorCnA
import Derived.Test.YtmecmdnnhldjpaaDoorBdE
import Derived.Test.YtmecmdnnhldjpaaDoorDrawC
import Derived.Test.YtmecmdnnhldjpaaDoorCard
namespace Go.Proofs.YtmecmdnnhldjpaaDoor
open Go.ChangeShapes Go.WideShapes Go.ChangeAt Go.RowKit

theorem cnT_cnt (l : TLab) {ks : List Tp} (h : Rose.cnt ks ≤ 1048576) : Rose.cnt (cnT (.mk l ks)).kids ≤ 1048577 * 1048578 := by
  have h1 := apT_cnt (crn [.mk l ks]) l ks
  have h2 := crn_le [Rose.mk l ks]
  have hc1 : Rose.cnt [Rose.mk l ks] = 1 + 0 + Rose.cnt ks + Rose.cnt ([] : List Tp) := Rose.wtL_cons _ _ _
  rw [show Rose.cnt ([] : List Tp) = 0 from Rose.wtL_nil _] at hc1
  have h3 : (1 + Rose.cnt ks) * (1 + cntB (crn [.mk l ks])) ≤ 1048577 * 1048578 := Nat.mul_le_mul (by omega) (by omega)
  show Rose.cnt (apT (crn [.mk l ks]) (.mk l ks)).kids ≤ _
  omega
theorem fnExactCanonicalize_ret {W : World} {a0 : Value} (hI : ItoaOk W) (g0 : OTy W a0) : Ret Tryd.prog 6 [a0] W fun r w' => r = .bool true ∧ Ext W w' := by
  obtain ⟨l0, ks0, v0, bs0, rfl, hk0, hl0, ha0⟩ := g0
  obtain ⟨ao0, cap0, rfl, _, _⟩ := hk0.form
  refine ret_of_vc ttOk Tryd.func6 rfl (by kernel_rfl) (by kernel_rfl) ?_
  refine Go1.bx ?_
  intro w1 hw1 hb0
  refine Ld.agg (vs := [.int .i64 l0.1, .string l0.2, .slice ao0 ks0.length cap0]) (Blk.lc0 (post := []) hb0) ?_
  refine (c_szType hl0 ha0 (hk0.ext hw1) 1048576 (by omega)).mono ?_
  rintro r w2 ⟨hw2, rfl | ⟨m0, rfl, hm0⟩⟩
  · refine Cm.t (by omega) ?_
    exact ⟨rfl, (hw1.trans hw2)⟩
  refine Cm.f (by omega) ?_
  have hc0 : Rose.cnt ks0 ≤ 1048576 := by have := Rose.cnt_le (fun l : TLab => l.2.size) ks0; simp only [szT] at hm0; omega
  have hq0 := hc0
  have hg0 := Nat.le_trans hc0 (show 1048576 ≤ 4294967000 by decide)
  replace hc0 := Nat.le_trans hc0 (show 1048576 ≤ 4294967296 by decide)
  have hap := cnT_cnt l0 hq0
  refine Ld.agg (vs := [.int .i64 l0.1, .string l0.2, .slice ao0 ks0.length cap0]) (Blk.lc0 (post := []) (hb0.ext hw2)) ?_
  refine (c_toType hc0 (hk0.ext (hw1.trans hw2))).mono ?_
  rintro r w3 ⟨hw3, vu0, bsu0, rfl, ku0, fu0⟩
  refine (c_sCanon (by omega) ku0).mono ?_
  rintro _ w4 ⟨hw4, vw, bsw, rfl, kw, fw⟩
  obtain ⟨arw, crw, rfl, _, _⟩ := kw.form
  refine Go1.al tiTy ?_
  intro w5 hw5 hbw5
  have ltw5 := hbw5.lt
  have szw5 := hw5.size
  refine Go0.st (off := 0) (vs := [.int .i64 (cnT (.mk l0 ks0)).lab.1, .string (cnT (.mk l0 ks0)).lab.2, .slice arw (cnT (.mk l0 ks0)).kids.length crw]) hbw5 rfl rfl (by simp [Value.cells]) (by simp [Value.oneCell']) ?_
  intro w6 hcw6 hb0w6 _
  have hrbw : Blk w6 w4.heap.size 38 [.int .i64 (cnT (.mk l0 ks0)).lab.1, .string (cnT (.mk l0 ks0)).lab.2, .slice arw (cnT (.mk l0 ks0)).kids.length crw] := hb0w6
  have hw6 : Ext w4 w6 := hw5.chg hcw6 (by omega)
  have low := fw.lo
  have hiw := fw.lt
  refine Ld.agg (vs := [.int .i64 l0.1, .string l0.2, .slice ao0 ks0.length cap0]) (Blk.lc0 (post := []) (hb0.ext (((hw2.trans hw3).trans hw4).trans hw6))) ?_
  refine (c_toType hc0 (hk0.ext ((((hw1.trans hw2).trans hw3).trans hw4).trans hw6))).mono ?_
  rintro r w7 ⟨hw7, vx0, bsx0, rfl, kx0, fx0⟩
  obtain ⟨ax0, cx0, rfl, _, _⟩ := kx0.form
  refine Go1.al tiTy ?_
  intro w8 hw8 hbw8
  have ltw8 := hbw8.lt
  have szw8 := hw8.size
  refine Go0.st (off := 0) (vs := [.int .i64 l0.1, .string l0.2, .slice ax0 ks0.length cx0]) hbw8 rfl rfl (by simp [Value.cells]) (by simp [Value.oneCell']) ?_
  intro w9 hcw9 hb0w9 _
  have hxb0 : Blk w9 w7.heap.size 38 [.int .i64 l0.1, .string l0.2, .slice ax0 ks0.length cx0] := hb0w9
  have hw9 : Ext w7 w9 := hw8.chg hcw9 (by omega)
  have lox0 := fx0.lo
  have hix0 := fx0.lt
  refine Ld.agg (vs := [.int .i64 l0.1, .string l0.2, .slice ax0 ks0.length cx0]) (Blk.lc0 (post := []) hxb0) ?_
  refine (c_iCanon (by omega) (hI.ext ((((((hw1.trans hw2).trans hw3).trans hw4).trans hw6).trans hw7).trans hw9)) (kx0.ext hw9)).mono ?_
  rintro _ w10 ⟨hw10, vg, bsg, rfl, kg, fg⟩
  obtain ⟨arg, crg, rfl, _, _⟩ := kg.form
  refine Go1.al tiTy ?_
  intro w11 hw11 hbw11
  have ltw11 := hbw11.lt
  have szw11 := hw11.size
  refine Go0.st (off := 0) (vs := [.int .i64 (cnT (.mk l0 ks0)).lab.1, .string (cnT (.mk l0 ks0)).lab.2, .slice arg (cnT (.mk l0 ks0)).kids.length crg]) hbw11 rfl rfl (by simp [Value.cells]) (by simp [Value.oneCell']) ?_
  intro w12 hcw12 hb0w12 _
  have hrbg : Blk w12 w10.heap.size 38 [.int .i64 (cnT (.mk l0 ks0)).lab.1, .string (cnT (.mk l0 ks0)).lab.2, .slice arg (cnT (.mk l0 ks0)).kids.length crg] := hb0w12
  have hw12 : Ext w10 w12 := hw11.chg hcw12 (by omega)
  have log := fg.lo
  have hig := fg.lt
  refine Ld.agg (vs := [.int .i64 (cnT (.mk l0 ks0)).lab.1, .string (cnT (.mk l0 ks0)).lab.2, .slice arg (cnT (.mk l0 ks0)).kids.length crg]) (Blk.lc0 (post := []) hrbg) ?_
  refine Ld.agg (vs := [.int .i64 (cnT (.mk l0 ks0)).lab.1, .string (cnT (.mk l0 ks0)).lab.2, .slice arw (cnT (.mk l0 ks0)).kids.length crw]) (Blk.lc0 (post := []) (hrbw.ext (((hw7.trans hw9).trans hw10).trans hw12))) ?_
  refine (c_eqType (kg.ext hw12) (kw.ext ((((hw6.trans hw7).trans hw9).trans hw10).trans hw12))).mono ?_
  rintro r w13 ⟨⟨b, rfl, hb⟩, hw13⟩
  obtain rfl : b = true := hb.2 ⟨rfl, rfl⟩
  refine Dr.x [0, 1, 2, 3, 4] ttOk ?_
  refine LdS.xn (vs := [.int .i64 l0.1, .string l0.2, .slice ax0 ks0.length cx0]) (Blk.lc0 (post := []) (hxb0.ext ((hw10.trans hw12).trans hw13))) ?_
  refine LdS.xn (vs := [.int .i64 l0.1, .string l0.2, .slice ao0 ks0.length cap0]) (Blk.lc0 (post := []) (hb0.ext ((((((((hw2.trans hw3).trans hw4).trans hw6).trans hw7).trans hw9).trans hw10).trans hw12).trans hw13))) ?_
  refine ⟨fun w14 hw14 => ?_⟩
  refine (c_toType hc0 (hk0.ext ((((((((((hw1.trans hw2).trans hw3).trans hw4).trans hw6).trans hw7).trans hw9).trans hw10).trans hw12).trans hw13).trans hw14))).mono ?_
  rintro r w15 ⟨hw15, vy0, bsy0, rfl, ky0, fy0⟩
  refine Af.ext (hw14.trans hw15) ?_
  refine ⟨fun w16 hw16 => ?_⟩
  refine (c_eqType (kx0.ext ((((((hw9.trans hw10).trans hw12).trans hw13).trans hw14).trans hw15).trans hw16)) (ky0.ext hw16)).mono ?_
  rintro r w17 ⟨⟨b, rfl, hb⟩, hw17⟩
  obtain rfl : b = true := hb.2 ⟨rfl, rfl⟩
  refine Af.ext (hw16.trans hw17) ?_
  intro w18 hw18
  refine Ld.agg (vs := [.int .i64 l0.1, .string l0.2, .slice ax0 ks0.length cx0]) (Blk.lc0 (post := []) (hxb0.ext (((((((hw10.trans hw12).trans hw13).trans hw14).trans hw15).trans hw16).trans hw17).trans hw18))) ?_
  have zzw1 := hw1.size
  have zzw2 := hw2.size
  have zzw3 := hw3.size
  have zzw4 := hw4.size
  have zzw6 := hw6.size
  have zzw7 := hw7.size
  have zzw9 := hw9.size
  have zzw10 := hw10.size
  have zzw12 := hw12.size
  have zzw13 := hw13.size
  have zzw14 := hw14.size
  have zzw15 := hw15.size
  have zzw16 := hw16.size
  have zzw17 := hw17.size
  have zzw18 := hw18.size
  refine (c_markType (k := 1) (kx0.ext ((((((((hw9.trans hw10).trans hw12).trans hw13).trans hw14).trans hw15).trans hw16).trans hw17).trans hw18)) (fx0.ext ((((((((hw9.trans hw10).trans hw12).trans hw13).trans hw14).trans hw15).trans hw16).trans hw17).trans hw18)) (by omega)).mono ?_
  rintro r w19 ⟨rfl, hcw19, kmx0, fmx0⟩
  have zzw19 := hcw19.size
  have hWw19 : Ext W w19 := Chg.big ((((((((((((((hw1.trans hw2).trans hw3).trans hw4).trans hw6).trans hw7).trans hw9).trans hw10).trans hw12).trans hw13).trans hw14).trans hw15).trans hw16).trans hw17).trans hw18) hcw19 (fun b hb => by have := lox0 b hb; omega)
  replace fw := (fw.ext ((((((((((hw6.trans hw7).trans hw9).trans hw10).trans hw12).trans hw13).trans hw14).trans hw15).trans hw16).trans hw17).trans hw18)).chg hcw19 (fun b hb hb' => by have := lox0 b hb'; have := hix0 b hb'; have := low b hb; have := hiw b hb; omega)
  replace kw := (kw.ext ((((((((((hw6.trans hw7).trans hw9).trans hw10).trans hw12).trans hw13).trans hw14).trans hw15).trans hw16).trans hw17).trans hw18)).chg hcw19 (fun b hb hb' => by have := lox0 b hb'; have := hix0 b hb'; have := low b hb; have := hiw b hb; omega)
  replace fg := (fg.ext ((((((hw12.trans hw13).trans hw14).trans hw15).trans hw16).trans hw17).trans hw18)).chg hcw19 (fun b hb hb' => by have := lox0 b hb'; have := hix0 b hb'; have := log b hb; have := hig b hb; omega)
  replace kg := (kg.ext ((((((hw12.trans hw13).trans hw14).trans hw15).trans hw16).trans hw17).trans hw18)).chg hcw19 (fun b hb hb' => by have := lox0 b hb'; have := hix0 b hb'; have := log b hb; have := hig b hb; omega)
  have lthb0 := hb0.lt
  replace hb0 := (hb0.ext (((((((((((((hw2.trans hw3).trans hw4).trans hw6).trans hw7).trans hw9).trans hw10).trans hw12).trans hw13).trans hw14).trans hw15).trans hw16).trans hw17).trans hw18)).chg hcw19 (fun hb' => by have := lox0 _ hb'; have := hix0 _ hb'; omega)
  have lthrbw := hrbw.lt
  replace hrbw := (hrbw.ext (((((((((hw7.trans hw9).trans hw10).trans hw12).trans hw13).trans hw14).trans hw15).trans hw16).trans hw17).trans hw18)).chg hcw19 (fun hb' => by have := lox0 _ hb'; have := hix0 _ hb'; omega)
  have lthxb0 := hxb0.lt
  replace hxb0 := (hxb0.ext (((((((hw10.trans hw12).trans hw13).trans hw14).trans hw15).trans hw16).trans hw17).trans hw18)).chg hcw19 (fun hb' => by have := lox0 _ hb'; have := hix0 _ hb'; omega)
  have lthrbg := hrbg.lt
  replace hrbg := (hrbg.ext (((((hw13.trans hw14).trans hw15).trans hw16).trans hw17).trans hw18)).chg hcw19 (fun hb' => by have := lox0 _ hb'; have := hix0 _ hb'; omega)
  replace kx0 := kmx0
  replace fx0 := fmx0
  refine Cm.f (by omega) ?_
  refine Ld.agg (vs := [.int .i64 (cnT (.mk l0 ks0)).lab.1, .string (cnT (.mk l0 ks0)).lab.2, .slice arg (cnT (.mk l0 ks0)).kids.length crg]) (Blk.lc0 (post := []) hrbg) ?_
  refine Ld.agg (vs := [.int .i64 (cnT (.mk l0 ks0)).lab.1, .string (cnT (.mk l0 ks0)).lab.2, .slice arw (cnT (.mk l0 ks0)).kids.length crw]) (Blk.lc0 (post := []) hrbw) ?_
  refine (c_eqType kg kw).mono ?_
  rintro r w20 ⟨⟨b, rfl, hb⟩, hw20⟩
  obtain rfl : b = true := hb.2 ⟨rfl, rfl⟩
  refine Ld.agg (vs := [.int .i64 (cnT (.mk l0 ks0)).lab.1, .string (cnT (.mk l0 ks0)).lab.2, .slice arg (cnT (.mk l0 ks0)).kids.length crg]) (Blk.lc0 (post := []) (hrbg.ext hw20)) ?_
  have zzw20 := hw20.size
  refine (c_markType (k := 1) (kg.ext hw20) (fg.ext hw20) (by omega)).mono ?_
  rintro r w21 ⟨rfl, hcw21, kmg, fmg⟩
  have zzw21 := hcw21.size
  have hWw21 : Ext W w21 := Chg.big (hWw19.trans hw20) hcw21 (fun b hb => by have := log b hb; omega)
  replace fw := (fw.ext hw20).chg hcw21 (fun b hb hb' => by have := log b hb'; have := hig b hb'; have := low b hb; have := hiw b hb; omega)
  replace kw := (kw.ext hw20).chg hcw21 (fun b hb hb' => by have := log b hb'; have := hig b hb'; have := low b hb; have := hiw b hb; omega)
  have lthb0 := hb0.lt
  replace hb0 := (hb0.ext hw20).chg hcw21 (fun hb' => by have := log _ hb'; have := hig _ hb'; omega)
  have lthrbw := hrbw.lt
  replace hrbw := (hrbw.ext hw20).chg hcw21 (fun hb' => by have := log _ hb'; have := hig _ hb'; omega)
  have lthrbg := hrbg.lt
  replace hrbg := (hrbg.ext hw20).chg hcw21 (fun hb' => by have := log _ hb'; have := hig _ hb'; omega)
  replace kg := kmg
  replace fg := fmg
  refine Ld.agg (vs := [.int .i64 (cnT (.mk l0 ks0)).lab.1, .string (cnT (.mk l0 ks0)).lab.2, .slice arg (cnT (.mk l0 ks0)).kids.length crg]) (Blk.lc0 (post := []) hrbg) ?_
  refine (c_heldType (k := 1) kg (by omega)).mono ?_
  rintro r w22 ⟨rfl, hw22⟩
  refine Cm.f (by omega) ?_
  refine Cm.v (c := false) (by simp) ?_
  refine Ld.agg (vs := [.int .i64 l0.1, .string l0.2, .slice ao0 ks0.length cap0]) (Blk.lc0 (post := []) (hb0.ext hw22)) ?_
  refine (c_toType hc0 (hk0.ext (hWw21.trans hw22))).mono ?_
  rintro r w23 ⟨hw23, vy0, bsy0, rfl, ky0, fy0⟩
  refine (c_iCanon (by omega) (hI.ext (hWw21.trans (hw22.trans hw23))) ky0).mono ?_
  rintro _ w24 ⟨hw24, vh, bsh, rfl, kh, fh⟩
  obtain ⟨arh, crh, rfl, _, _⟩ := kh.form
  refine Go1.al tiTy ?_
  intro w25 hw25 hbw25
  have ltw25 := hbw25.lt
  have szw25 := hw25.size
  refine Go0.st (off := 0) (vs := [.int .i64 (cnT (.mk l0 ks0)).lab.1, .string (cnT (.mk l0 ks0)).lab.2, .slice arh (cnT (.mk l0 ks0)).kids.length crh]) hbw25 rfl rfl (by simp [Value.cells]) (by simp [Value.oneCell']) ?_
  intro w26 hcw26 hb0w26 _
  have hrbh : Blk w26 w24.heap.size 38 [.int .i64 (cnT (.mk l0 ks0)).lab.1, .string (cnT (.mk l0 ks0)).lab.2, .slice arh (cnT (.mk l0 ks0)).kids.length crh] := hb0w26
  have hw26 : Ext w24 w26 := hw25.chg hcw26 (by omega)
  have loh := fh.lo
  have hih := fh.lt
  refine Ld.agg (vs := [.int .i64 (cnT (.mk l0 ks0)).lab.1, .string (cnT (.mk l0 ks0)).lab.2, .slice arh (cnT (.mk l0 ks0)).kids.length crh]) (Blk.lc0 (post := []) hrbh) ?_
  refine Ld.agg (vs := [.int .i64 (cnT (.mk l0 ks0)).lab.1, .string (cnT (.mk l0 ks0)).lab.2, .slice arw (cnT (.mk l0 ks0)).kids.length crw]) (Blk.lc0 (post := []) (hrbw.ext (((hw22.trans hw23).trans hw24).trans hw26))) ?_
  refine (c_eqType (kh.ext hw26) (kw.ext (((hw22.trans hw23).trans hw24).trans hw26))).mono ?_
  rintro r w27 ⟨⟨b, rfl, hb⟩, hw27⟩
  obtain rfl : b = true := hb.2 ⟨rfl, rfl⟩
  refine Ld.agg (vs := [.int .i64 (cnT (.mk l0 ks0)).lab.1, .string (cnT (.mk l0 ks0)).lab.2, .slice arg (cnT (.mk l0 ks0)).kids.length crg]) (Blk.lc0 (post := []) (hrbg.ext ((((hw22.trans hw23).trans hw24).trans hw26).trans hw27))) ?_
  refine (c_heldType (k := 1) (kg.ext ((((hw22.trans hw23).trans hw24).trans hw26).trans hw27)) (by omega)).mono ?_
  rintro r w28 ⟨rfl, hw28⟩
  refine Cm.f (by omega) ?_
  refine Cm.v (c := false) (by simp) ?_
  exact ⟨rfl, (hWw21.trans (((((hw22.trans hw23).trans hw24).trans hw26).trans hw27).trans hw28))⟩

set_option maxRecDepth 100000 in
theorem fnExactCanonicalize_lifted (os : Os) (started : os.Started) (H : Type) (enc : TypeId × Value → H) :
    ReturnsInHanded {} Tryd.checked os 6 .any (fun w args => (Rows.fnExactCanonicalizeSpec.pre enc Tryd.prog Tryd.f6 [] false w args ∧ laidMetH Tryd.prog Rows.fnExactCanonicalizeRow.laid w) ∧ sizedMet enc Tryd.prog Tryd.f6 (OpenSpec.ofChange Rows.fnExactCanonicalizeSpec) false w args)
      (Rows.fnExactCanonicalizeSpec.post enc Tryd.prog Tryd.f6 false true false false) := by
  refine handed_card (C := Tryd.checked) (X := fun w _ => laidMetH Tryd.prog Rows.fnExactCanonicalizeRow.laid w) (fun _ _ _ hh h => h.of_heap hh) Tryd.own started (by kernel_rfl) Tryd.func6
    (ChangeSpec.witness_shaped (enc := enc) (C := Tryd.checked) (os := os) (X := fun w _ => laidMetH Tryd.prog Rows.fnExactCanonicalizeRow.laid w) false (World.laidAll Tryd.prog os Rows.fnExactCanonicalizeRow.laid) #[.agg #[.int .i64 0, .string ⟨#[]⟩, .slice none 0 0]] 8 (World.laidAll_os _ _ _)
      (World.shaped_of_ZipB (by kernel_rfl) (by kernel_rfl)) (by kernel_rfl) (by kernel_rfl) (by kernel_rfl)
      (by rw [MakeChecks.laidMetH_plain _ _ _ (by kernel_rfl)]; exact laidMet_laidAll _ (by kernel_rfl) (by kernel_rfl))) ?_
  intro W base args ds gs before hval0 hW hsh hL
  rw [MakeChecks.laidMetH_plain _ _ _ (by kernel_rfl)] at hL
  have hM : laidMet Tryd.prog Rows.fnExactCanonicalizeRow.laid W := hL
  have hval : ∀ (j : Nat) t v, Tryd.f6.params[j]? = some t → args[j]? = some v → Value.okWide Tryd.prog W .any base t v := hval0
  have hA0 := hW
  obtain ⟨p, q, hA1, _, _, _, _⟩ := hA0
  have hA : DataW.TrodAll enc Tryd.prog W 0 (fun _ => true) true Tryd.f6.params.toList args.toList ds p := hA1
  rw [Tryd.params6] at hA hval
  obtain ⟨v0, vs0, d0, ds0, p0, q0, hargs, rfl, rfl, h0, r0⟩ := trodAll_cons hA
  obtain ⟨rfl, rfl, rfl⟩ := trodAll_nil r0
  obtain rfl : args = #[v0] := by cases args; simp_all
  have o0 := oTy (hval 0 34 v0 rfl rfl) h0
  refine (Ret.calls Tryd.func6 rfl (by kernel_rfl) (fnExactCanonicalize_ret (itoaOk_of (by kernel_rfl) (fun n w1 h0 h1 ht => Any.strconv_Itoa sh_laysM171 n h0 h1 w1 ht) (laidMet.tail (laidMet.tail hM))) o0)).mono ?_
  rintro e W' ⟨v, rfl, rfl, hx⟩
  exact ⟨_, rfl, law_post Tryd.laidOut (by kernel_rfl) rfl Tryd.underlying4 rfl rfl hW hx⟩

theorem fnExactCanonicalize_row : Rows.FnExactCanonicalizeSaid :=
  OpenClaim.holds_of_wide 6 Tryd.f6 rfl rfl rfl rfl rfl rfl rfl ⟨rfl, rfl, rfl, rfl, rfl⟩ rfl rfl rfl rfl rfl (by kernel_rfl) Tryd.func6 (by kernel_rfl)
    (of_decide_eq_true (by kernel_rfl)) (by unfold Func.isWrapper; first | (rw [if_pos (by decide +kernel)]; kernel_rfl) | (rw [if_neg (by decide +kernel)]; exact ⟨rfl, rfl⟩))
    (fun os started H enc _ => fnExactCanonicalize_lifted os started H enc)

theorem fnExactCanonicalize_holds : Rows.FnExactCanonicalizeCardSaid := by
  unfold Rows.FnExactCanonicalizeCardSaid Rows.fnExactCanonicalizeCard
  exact Claim7.holds_tied_plain_at .later [] _ true _ false fnExactCanonicalize_row (fun _ h => by cases h) (by kernel_rfl) (fun _ h => by cases h) fnExactCanonicalize_row_tie rfl ⟨rfl, rfl⟩ (by kernel_rfl) rfl
    (fun f fn hf hfn => by
      obtain rfl : f = 6 := Option.some.inj ((show Tryd.prog.funcNamed Rows.fnExactCanonicalizeRow.func = some 6 by kernel_rfl).symm.trans hf) |>.symm
      obtain rfl : fn = Tryd.f6 := (Option.some.inj (Tryd.func6.symm.trans hfn)).symm
      exact ⟨by kernel_rfl, fun j t ht => by
        rw [Tryd.params6] at ht
        have hm : t ∈ [34] := by simpa using Array.mem_of_getElem? ht
        have hall : ([34].all fun u => !Tryd.prog.wantsStandIn u) = true := by kernel_rfl
        exact (show Tryd.prog.wantsStandIn t = false by simpa using List.all_eq_true.1 hall t hm)⟩)
    (by kernel_rfl)
end Go.Proofs.YtmecmdnnhldjpaaDoor
