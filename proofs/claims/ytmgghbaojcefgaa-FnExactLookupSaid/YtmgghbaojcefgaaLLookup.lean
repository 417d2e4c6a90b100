/- FnExactLookup returns true, for all arguments. Conditions: none. -/
import Derived.Test.YtmgghbaojcefgaaLawB
import Derived.Test.YtmgghbaojcefgaaBdD
namespace Go.Proofs.Ytmgghbaojcefgaa
open Go.ChangeShapes Go.WideShapes Go.ChangeAt Go.RowKit

theorem fnExactLookup_ret {W : World} {a0 a1 : Value} (g0 : OBds W a0) (g1 : OStr W a1) : Ret Try.prog 11 [a0, a1] W fun r w' => r = .bool true ∧ Ext W w' := by
  obtain ⟨ks0, bs0, hk0, ha0⟩ := g0
  obtain ⟨s1, rfl, hz1⟩ := g1
  refine ret_of_vc ttOk Try.func11 rfl (by kernel_rfl) (by kernel_rfl) ?_
  refine Cm.s (fun _ => ⟨rfl, (Chg.refl _ _)⟩) (fun hgt1 => ?_)
  refine (c_szBindingS ha0 hk0 1048576 (by omega)).mono ?_
  rintro r w1 ⟨hw1, rfl | ⟨m0, rfl, hm0⟩⟩
  · refine Cm.t (by omega) ?_
    exact ⟨rfl, hw1⟩
  refine Cm.f (by omega) ?_
  have hc0 := szB_cnt hm0 (by omega)
  have hq0 := hc0
  have hg0 := Nat.le_trans hc0 (show 1048576 ≤ 4294967000 by decide)
  replace hc0 := Nat.le_trans hc0 (show 1048576 ≤ 4294967296 by decide)
  have hlc := lookT_cnt s1 ks0
  have hmb := markB_le ks0
  refine (c_toBindingS (hk0.ext hw1) hc0).mono ?_
  rintro xu0 w2 ⟨hw2, bsu0, ku0, fu0⟩
  refine (c_sLookup hc0 s1 ku0).mono ?_
  rintro _ w3 ⟨hw3, vw, bsw, rfl, kw, fw⟩
  obtain ⟨arw, crw, rfl, _, _⟩ := kw.form
  refine Go1.al tiTy ?_
  intro w4 hw4 hbw4
  have ltw4 := hbw4.lt
  have szw4 := hw4.size
  refine Go0.st (off := 0) (vs := [.int .i64 (lookT s1 ks0).lab.1, .string (lookT s1 ks0).lab.2, .slice arw (lookT s1 ks0).kids.length crw]) hbw4 rfl rfl (by simp [Value.cells]) (by simp [Value.oneCell']) ?_
  intro w5 hcw5 hb0w5 _
  have hrbw : Blk w5 w3.heap.size 29 [.int .i64 (lookT s1 ks0).lab.1, .string (lookT s1 ks0).lab.2, .slice arw (lookT s1 ks0).kids.length crw] := hb0w5
  have hw5 : Ext w3 w5 := hw4.chg hcw5 (by omega)
  have low := fw.lo
  have hiw := fw.lt
  refine (c_toBindingS (hk0.ext (((hw1.trans hw2).trans hw3).trans hw5)) hc0).mono ?_
  rintro xx0 w6 ⟨hw6, bsx0, kx0, fx0⟩
  have lox0 := fx0.lo
  have hix0 := fx0.lt
  refine (c_iLookup hc0 s1 kx0).mono ?_
  rintro _ w7 ⟨hw7, vg, bsg, rfl, kg, fg⟩
  obtain ⟨arg, crg, rfl, _, _⟩ := kg.form
  refine Go1.al tiTy ?_
  intro w8 hw8 hbw8
  have ltw8 := hbw8.lt
  have szw8 := hw8.size
  refine Go0.st (off := 0) (vs := [.int .i64 (lookT s1 ks0).lab.1, .string (lookT s1 ks0).lab.2, .slice arg (lookT s1 ks0).kids.length crg]) hbw8 rfl rfl (by simp [Value.cells]) (by simp [Value.oneCell']) ?_
  intro w9 hcw9 hb0w9 _
  have hrbg : Blk w9 w7.heap.size 29 [.int .i64 (lookT s1 ks0).lab.1, .string (lookT s1 ks0).lab.2, .slice arg (lookT s1 ks0).kids.length crg] := hb0w9
  have hw9 : Ext w7 w9 := hw8.chg hcw9 (by omega)
  have log := fg.lo
  have hig := fg.lt
  refine Ld.agg (vs := [.int .i64 (lookT s1 ks0).lab.1, .string (lookT s1 ks0).lab.2, .slice arg (lookT s1 ks0).kids.length crg]) (Blk.lc0 (post := []) hrbg) ?_
  refine Ld.agg (vs := [.int .i64 (lookT s1 ks0).lab.1, .string (lookT s1 ks0).lab.2, .slice arw (lookT s1 ks0).kids.length crw]) (Blk.lc0 (post := []) (hrbw.ext ((hw6.trans hw7).trans hw9))) ?_
  refine (c_eqType (kg.ext hw9) (kw.ext (((hw5.trans hw6).trans hw7).trans hw9))).mono ?_
  rintro r w10 ⟨⟨b, rfl, hb⟩, hw10⟩
  obtain rfl : b = true := hb.2 ⟨rfl, rfl⟩
  refine Cm.v (c := false) (by simp) ?_
  refine (c_toBindingS (hk0.ext (((((((hw1.trans hw2).trans hw3).trans hw5).trans hw6).trans hw7).trans hw9).trans hw10)) hc0).mono ?_
  rintro xy0 w11 ⟨hw11, bsy0, ky0, fy0⟩
  refine (c_eqBindingS (kx0.ext (((hw7.trans hw9).trans hw10).trans hw11)) ky0).mono ?_
  rintro r w12 ⟨⟨b, rfl, hb⟩, hw12⟩
  obtain rfl : b = true := hb.2 rfl
  have zzw1 := hw1.size
  have zzw2 := hw2.size
  have zzw3 := hw3.size
  have zzw5 := hw5.size
  have zzw6 := hw6.size
  have zzw7 := hw7.size
  have zzw9 := hw9.size
  have zzw10 := hw10.size
  have zzw11 := hw11.size
  have zzw12 := hw12.size
  refine (c_markBindingS (k := 1) (kx0.ext ((((hw7.trans hw9).trans hw10).trans hw11).trans hw12)) (fx0.ext ((((hw7.trans hw9).trans hw10).trans hw11).trans hw12)) (by omega)).mono ?_
  rintro r w13 ⟨rfl, hcw13, kmx0, fmx0⟩
  have zzw13 := hcw13.size
  have hWw13 : Ext W w13 := Chg.big (((((((((hw1.trans hw2).trans hw3).trans hw5).trans hw6).trans hw7).trans hw9).trans hw10).trans hw11).trans hw12) hcw13 (fun b hb => by have := lox0 b hb; omega)
  replace fw := (fw.ext ((((((hw5.trans hw6).trans hw7).trans hw9).trans hw10).trans hw11).trans hw12)).chg hcw13 (fun b hb hb' => by have := lox0 b hb'; have := hix0 b hb'; have := low b hb; have := hiw b hb; omega)
  replace kw := (kw.ext ((((((hw5.trans hw6).trans hw7).trans hw9).trans hw10).trans hw11).trans hw12)).chg hcw13 (fun b hb hb' => by have := lox0 b hb'; have := hix0 b hb'; have := low b hb; have := hiw b hb; omega)
  replace fg := (fg.ext (((hw9.trans hw10).trans hw11).trans hw12)).chg hcw13 (fun b hb hb' => by have := lox0 b hb'; have := hix0 b hb'; have := log b hb; have := hig b hb; omega)
  replace kg := (kg.ext (((hw9.trans hw10).trans hw11).trans hw12)).chg hcw13 (fun b hb hb' => by have := lox0 b hb'; have := hix0 b hb'; have := log b hb; have := hig b hb; omega)
  have lthrbw := hrbw.lt
  replace hrbw := (hrbw.ext (((((hw6.trans hw7).trans hw9).trans hw10).trans hw11).trans hw12)).chg hcw13 (fun hb' => by have := lox0 _ hb'; have := hix0 _ hb'; omega)
  have lthrbg := hrbg.lt
  replace hrbg := (hrbg.ext ((hw10.trans hw11).trans hw12)).chg hcw13 (fun hb' => by have := lox0 _ hb'; have := hix0 _ hb'; omega)
  replace kx0 := kmx0
  replace fx0 := fmx0
  refine Cm.f (by omega) ?_
  refine Ld.agg (vs := [.int .i64 (lookT s1 ks0).lab.1, .string (lookT s1 ks0).lab.2, .slice arg (lookT s1 ks0).kids.length crg]) (Blk.lc0 (post := []) hrbg) ?_
  refine Ld.agg (vs := [.int .i64 (lookT s1 ks0).lab.1, .string (lookT s1 ks0).lab.2, .slice arw (lookT s1 ks0).kids.length crw]) (Blk.lc0 (post := []) hrbw) ?_
  refine (c_eqType kg kw).mono ?_
  rintro r w14 ⟨⟨b, rfl, hb⟩, hw14⟩
  obtain rfl : b = true := hb.2 ⟨rfl, rfl⟩
  refine Cm.v (c := false) (by simp) ?_
  refine Ld.agg (vs := [.int .i64 (lookT s1 ks0).lab.1, .string (lookT s1 ks0).lab.2, .slice arg (lookT s1 ks0).kids.length crg]) (Blk.lc0 (post := []) (hrbg.ext hw14)) ?_
  have zzw14 := hw14.size
  refine (c_markType (k := 1) (kg.ext hw14) (fg.ext hw14) (by omega)).mono ?_
  rintro r w15 ⟨rfl, hcw15, kmg, fmg⟩
  have zzw15 := hcw15.size
  have hWw15 : Ext W w15 := Chg.big (hWw13.trans hw14) hcw15 (fun b hb => by have := log b hb; omega)
  replace fw := (fw.ext hw14).chg hcw15 (fun b hb hb' => by have := log b hb'; have := hig b hb'; have := low b hb; have := hiw b hb; omega)
  replace kw := (kw.ext hw14).chg hcw15 (fun b hb hb' => by have := log b hb'; have := hig b hb'; have := low b hb; have := hiw b hb; omega)
  have lthrbw := hrbw.lt
  replace hrbw := (hrbw.ext hw14).chg hcw15 (fun hb' => by have := log _ hb'; have := hig _ hb'; omega)
  have lthrbg := hrbg.lt
  replace hrbg := (hrbg.ext hw14).chg hcw15 (fun hb' => by have := log _ hb'; have := hig _ hb'; omega)
  replace kg := kmg
  replace fg := fmg
  refine Ld.agg (vs := [.int .i64 (lookT s1 ks0).lab.1, .string (lookT s1 ks0).lab.2, .slice arg (lookT s1 ks0).kids.length crg]) (Blk.lc0 (post := []) hrbg) ?_
  refine (c_heldType (k := 1) kg (by omega)).mono ?_
  rintro r w16 ⟨rfl, hw16⟩
  refine Cm.f (by omega) ?_
  refine Cm.v (c := false) (by simp) ?_
  refine (c_toBindingS (hk0.ext (hWw15.trans hw16)) hc0).mono ?_
  rintro xy0 w17 ⟨hw17, bsy0, ky0, fy0⟩
  refine (c_iLookup hc0 s1 ky0).mono ?_
  rintro _ w18 ⟨hw18, vh, bsh, rfl, kh, fh⟩
  obtain ⟨arh, crh, rfl, _, _⟩ := kh.form
  refine Go1.al tiTy ?_
  intro w19 hw19 hbw19
  have ltw19 := hbw19.lt
  have szw19 := hw19.size
  refine Go0.st (off := 0) (vs := [.int .i64 (lookT s1 ks0).lab.1, .string (lookT s1 ks0).lab.2, .slice arh (lookT s1 ks0).kids.length crh]) hbw19 rfl rfl (by simp [Value.cells]) (by simp [Value.oneCell']) ?_
  intro w20 hcw20 hb0w20 _
  have hrbh : Blk w20 w18.heap.size 29 [.int .i64 (lookT s1 ks0).lab.1, .string (lookT s1 ks0).lab.2, .slice arh (lookT s1 ks0).kids.length crh] := hb0w20
  have hw20 : Ext w18 w20 := hw19.chg hcw20 (by omega)
  have loh := fh.lo
  have hih := fh.lt
  refine Ld.agg (vs := [.int .i64 (lookT s1 ks0).lab.1, .string (lookT s1 ks0).lab.2, .slice arh (lookT s1 ks0).kids.length crh]) (Blk.lc0 (post := []) hrbh) ?_
  refine Ld.agg (vs := [.int .i64 (lookT s1 ks0).lab.1, .string (lookT s1 ks0).lab.2, .slice arw (lookT s1 ks0).kids.length crw]) (Blk.lc0 (post := []) (hrbw.ext (((hw16.trans hw17).trans hw18).trans hw20))) ?_
  refine (c_eqType (kh.ext hw20) (kw.ext (((hw16.trans hw17).trans hw18).trans hw20))).mono ?_
  rintro r w21 ⟨⟨b, rfl, hb⟩, hw21⟩
  obtain rfl : b = true := hb.2 ⟨rfl, rfl⟩
  refine Cm.v (c := false) (by simp) ?_
  refine Ld.agg (vs := [.int .i64 (lookT s1 ks0).lab.1, .string (lookT s1 ks0).lab.2, .slice arg (lookT s1 ks0).kids.length crg]) (Blk.lc0 (post := []) (hrbg.ext ((((hw16.trans hw17).trans hw18).trans hw20).trans hw21))) ?_
  refine (c_heldType (k := 1) (kg.ext ((((hw16.trans hw17).trans hw18).trans hw20).trans hw21)) (by omega)).mono ?_
  rintro r w22 ⟨rfl, hw22⟩
  refine Cm.f (by omega) ?_
  refine Cm.v (c := false) (by simp) ?_
  exact ⟨rfl, (hWw15.trans (((((hw16.trans hw17).trans hw18).trans hw20).trans hw21).trans hw22))⟩

set_option maxRecDepth 100000 in
theorem fnExactLookup_lifted (os : Os) (started : os.Started) (H : Type) (enc : TypeId × Value → H) :
    ReturnsInHanded {} Try.checked os 11 .any (Rows.fnExactLookupSpec.pre6 enc Try.prog Try.f11 Rows.fnExactLookupRow.domain false) (Rows.fnExactLookupSpec.post enc Try.prog Try.f11 false true false false) := by
  refine returnsInHanded_of_change (C := Try.checked) Try.own started (by kernel_rfl) Try.func11
    (ChangeSpec.witness6 (enc := enc) (C := Try.checked) false ⟨#[], #[.slice none 0 0, .string ⟨#[]⟩], []⟩ 8 (by kernel_rfl) (by kernel_rfl) (by kernel_rfl) (by kernel_rfl)) ?_
  intro W base args ds gs before hval0 hW _ _
  have hval : ∀ (j : Nat) t v, Try.f11.params[j]? = some t → args[j]? = some v → Value.okWide Try.prog W .any base t v := hval0
  have hA0 := hW
  obtain ⟨p, q, hA1, _, _, _, _⟩ := hA0
  have hA : DataW.TrodAll enc Try.prog W 0 (fun _ => true) true Try.f11.params.toList args.toList ds p := hA1
  rw [Try.params11] at hA hval
  obtain ⟨v0, vs0, d0, ds0, p0, q0, hargs, rfl, rfl, h0, r0⟩ := trodAll_cons hA
  obtain ⟨v1, vs1, d1, ds1, p1, q1, rfl, rfl, rfl, h1, r1⟩ := trodAll_cons r0
  obtain ⟨rfl, rfl, rfl⟩ := trodAll_nil r1
  obtain rfl : args = #[v0, v1] := by cases args; simp_all
  have o0 := oBds (hval 0 42 v0 rfl rfl) h0
  have o1 := oStr Try.underlying9 (hval 1 9 v1 rfl rfl) h1
  refine (Ret.calls Try.func11 rfl (by kernel_rfl) (fnExactLookup_ret o0 o1)).mono ?_
  rintro e W' ⟨v, rfl, rfl, hx⟩
  exact ⟨_, rfl, law_post Try.laidOut (by kernel_rfl) rfl Try.underlying4 rfl rfl hW hx⟩

theorem fnExactLookup_holds : Rows.FnExactLookupSaid :=
  OpenClaim.holds_of_wide 11 Try.f11 rfl rfl rfl rfl rfl rfl rfl ⟨rfl, rfl, rfl, rfl, rfl⟩ rfl rfl rfl rfl rfl (by kernel_rfl) Try.func11 (by kernel_rfl)
    (of_decide_eq_true (by kernel_rfl)) (by unfold Func.isWrapper; first | (rw [if_pos (by decide +kernel)]; kernel_rfl) | (rw [if_neg (by decide +kernel)]; exact ⟨rfl, rfl⟩))
    (fun os started H enc _ => fnExactLookup_lifted os started H enc)
end Go.Proofs.Ytmgghbaojcefgaa
