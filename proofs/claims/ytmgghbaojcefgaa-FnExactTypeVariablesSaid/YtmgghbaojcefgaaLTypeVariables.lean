/- FnExactTypeVariables returns true, for all arguments. Conditions: none. -/
import Derived.Test.YtmgghbaojcefgaaLawU
import Derived.Test.YtmgghbaojcefgaaTyB
import Derived.Test.YtmgghbaojcefgaaTyG
import Derived.Test.YtmgghbaojcefgaaMarkV
namespace Go.Proofs.Ytmgghbaojcefgaa
open Go.ChangeShapes Go.WideShapes Go.ChangeAt Go.RowKit

theorem fnExactTypeVariables_ret {W : World} {a0 : Value} (g0 : OTy W a0) : Ret Try.prog 7 [a0] W fun r w' => r = .bool true ∧ Ext W w' := by
  obtain ⟨l0, ks0, v0, bs0, rfl, hk0, hl0, ha0⟩ := g0
  obtain ⟨ao0, cap0, rfl, _, _⟩ := hk0.form
  refine ret_of_vc ttOk Try.func7 rfl (by kernel_rfl) (by kernel_rfl) ?_
  refine Go1.bx ?_
  intro w1 hw1 hb0
  refine Ld.agg (vs := [.int .i64 l0.1, .string l0.2, .slice ao0 ks0.length cap0]) (Blk.lc0 (post := []) hb0) ?_
  refine (c_szType hl0 ha0 (hk0.ext hw1) 1048576 (by omega)).mono ?_
  rintro r w2 ⟨hw2, rfl | ⟨m0, rfl, hm0⟩⟩
  · refine Cm.t (by omega) ?_
    exact ⟨rfl, (hw1.trans hw2)⟩
  refine Cm.f (by omega) ?_
  have hc0 : Rose.cnt ks0 ≤ 1048576 := by have := Rose.cnt_le (fun l : TLab => l.2.size) ks0; simp only [szT] at hm0; omega
  have hq0 := hc0
  have hg0 := Nat.le_trans hc0 (show 1048576 ≤ 4294967000 by decide)
  replace hc0 := Nat.le_trans hc0 (show 1048576 ≤ 4294967296 by decide)
  have hle := coll_le isV (l0 :: Rose.preL ks0) []
  have hpl := preL_length ks0
  simp only [List.length_cons, List.length_nil] at hle
  refine Ld.agg (vs := [.int .i64 l0.1, .string l0.2, .slice ao0 ks0.length cap0]) (Blk.lc0 (post := []) (hb0.ext hw2)) ?_
  refine (c_toType hc0 (hk0.ext (hw1.trans hw2))).mono ?_
  rintro r w3 ⟨hw3, vu0, bsu0, rfl, ku0, fu0⟩
  refine (c_sTypeVariables (by omega) ku0).mono ?_
  rintro rw w4 ⟨hw4, bsw, kw, fw⟩
  have low := fw.lo
  have hiw := fw.lt
  refine Ld.agg (vs := [.int .i64 l0.1, .string l0.2, .slice ao0 ks0.length cap0]) (Blk.lc0 (post := []) (hb0.ext ((hw2.trans hw3).trans hw4))) ?_
  refine (c_toType hc0 (hk0.ext (((hw1.trans hw2).trans hw3).trans hw4))).mono ?_
  rintro r w5 ⟨hw5, vx0, bsx0, rfl, kx0, fx0⟩
  obtain ⟨ax0, cx0, rfl, _, _⟩ := kx0.form
  refine Go1.al tiTy ?_
  intro w6 hw6 hbw6
  have ltw6 := hbw6.lt
  have szw6 := hw6.size
  refine Go0.st (off := 0) (vs := [.int .i64 l0.1, .string l0.2, .slice ax0 ks0.length cx0]) hbw6 rfl rfl (by simp [Value.cells]) (by simp [Value.oneCell']) ?_
  intro w7 hcw7 hb0w7 _
  have hxb0 : Blk w7 w5.heap.size 29 [.int .i64 l0.1, .string l0.2, .slice ax0 ks0.length cx0] := hb0w7
  have hw7 : Ext w5 w7 := hw6.chg hcw7 (by omega)
  have lox0 := fx0.lo
  have hix0 := fx0.lt
  refine Ld.agg (vs := [.int .i64 l0.1, .string l0.2, .slice ax0 ks0.length cx0]) (Blk.lc0 (post := []) hxb0) ?_
  refine (c_iTypeVariables (by omega) (kx0.ext hw7)).mono ?_
  rintro rg w8 ⟨hw8, bsg, kg, fg⟩
  have log := fg.lo
  have hig := fg.lt
  refine (c_eqStringS kg (kw.ext ((hw5.trans hw7).trans hw8))).mono ?_
  rintro r w9 ⟨rfl, hw9⟩
  rw [decide_eq_true rfl]
  refine Dr.x [0, 1, 2, 3, 4] ttOk ?_
  refine LdS.xn (vs := [.int .i64 l0.1, .string l0.2, .slice ax0 ks0.length cx0]) (Blk.lc0 (post := []) (hxb0.ext (hw8.trans hw9))) ?_
  refine LdS.xn (vs := [.int .i64 l0.1, .string l0.2, .slice ao0 ks0.length cap0]) (Blk.lc0 (post := []) (hb0.ext ((((((hw2.trans hw3).trans hw4).trans hw5).trans hw7).trans hw8).trans hw9))) ?_
  refine ⟨fun w10 hw10 => ?_⟩
  refine (c_toType hc0 (hk0.ext ((((((((hw1.trans hw2).trans hw3).trans hw4).trans hw5).trans hw7).trans hw8).trans hw9).trans hw10))).mono ?_
  rintro r w11 ⟨hw11, vy0, bsy0, rfl, ky0, fy0⟩
  refine Af.ext (hw10.trans hw11) ?_
  refine ⟨fun w12 hw12 => ?_⟩
  refine (c_eqType (kx0.ext (((((hw7.trans hw8).trans hw9).trans hw10).trans hw11).trans hw12)) (ky0.ext hw12)).mono ?_
  rintro r w13 ⟨⟨b, rfl, hb⟩, hw13⟩
  obtain rfl : b = true := hb.2 ⟨rfl, rfl⟩
  refine Af.ext (hw12.trans hw13) ?_
  intro w14 hw14
  refine Ld.agg (vs := [.int .i64 l0.1, .string l0.2, .slice ax0 ks0.length cx0]) (Blk.lc0 (post := []) (hxb0.ext ((((((hw8.trans hw9).trans hw10).trans hw11).trans hw12).trans hw13).trans hw14))) ?_
  have zzw1 := hw1.size
  have zzw2 := hw2.size
  have zzw3 := hw3.size
  have zzw4 := hw4.size
  have zzw5 := hw5.size
  have zzw7 := hw7.size
  have zzw8 := hw8.size
  have zzw9 := hw9.size
  have zzw10 := hw10.size
  have zzw11 := hw11.size
  have zzw12 := hw12.size
  have zzw13 := hw13.size
  have zzw14 := hw14.size
  refine (c_markType (k := 1) (kx0.ext (((((((hw7.trans hw8).trans hw9).trans hw10).trans hw11).trans hw12).trans hw13).trans hw14)) (fx0.ext (((((((hw7.trans hw8).trans hw9).trans hw10).trans hw11).trans hw12).trans hw13).trans hw14)) (by omega)).mono ?_
  rintro r w15 ⟨rfl, hcw15, kmx0, fmx0⟩
  have zzw15 := hcw15.size
  have hWw15 : Ext W w15 := Chg.big ((((((((((((hw1.trans hw2).trans hw3).trans hw4).trans hw5).trans hw7).trans hw8).trans hw9).trans hw10).trans hw11).trans hw12).trans hw13).trans hw14) hcw15 (fun b hb => by have := lox0 b hb; omega)
  replace fw := (fw.ext ((((((((hw5.trans hw7).trans hw8).trans hw9).trans hw10).trans hw11).trans hw12).trans hw13).trans hw14)).chg hcw15 (fun b hb hb' => by have := lox0 b hb'; have := hix0 b hb'; have := low b hb; have := hiw b hb; omega)
  replace kw := (kw.ext ((((((((hw5.trans hw7).trans hw8).trans hw9).trans hw10).trans hw11).trans hw12).trans hw13).trans hw14)).chg hcw15 (fun b hb hb' => by have := lox0 b hb'; have := hix0 b hb'; have := low b hb; have := hiw b hb; omega)
  replace fg := (fg.ext (((((hw9.trans hw10).trans hw11).trans hw12).trans hw13).trans hw14)).chg hcw15 (fun b hb hb' => by have := lox0 b hb'; have := hix0 b hb'; have := log b hb; have := hig b hb; omega)
  replace kg := (kg.ext (((((hw9.trans hw10).trans hw11).trans hw12).trans hw13).trans hw14)).chg hcw15 (fun b hb hb' => by have := lox0 b hb'; have := hix0 b hb'; have := log b hb; have := hig b hb; omega)
  have lthb0 := hb0.lt
  replace hb0 := (hb0.ext (((((((((((hw2.trans hw3).trans hw4).trans hw5).trans hw7).trans hw8).trans hw9).trans hw10).trans hw11).trans hw12).trans hw13).trans hw14)).chg hcw15 (fun hb' => by have := lox0 _ hb'; have := hix0 _ hb'; omega)
  have lthxb0 := hxb0.lt
  replace hxb0 := (hxb0.ext ((((((hw8.trans hw9).trans hw10).trans hw11).trans hw12).trans hw13).trans hw14)).chg hcw15 (fun hb' => by have := lox0 _ hb'; have := hix0 _ hb'; omega)
  replace kx0 := kmx0
  replace fx0 := fmx0
  refine Cm.f (by omega) ?_
  refine (c_eqStringS kg kw).mono ?_
  rintro r w16 ⟨rfl, hw16⟩
  rw [decide_eq_true rfl]
  have zzw16 := hw16.size
  refine (c_markStringS (k := 1) (kg.ext hw16) (fg.ext hw16) (by omega)).mono ?_
  rintro r w17 ⟨rfl, hcw17, kmg, fmg⟩
  have zzw17 := hcw17.size
  have hWw17 : Ext W w17 := Chg.big (hWw15.trans hw16) hcw17 (fun b hb => by have := log b hb; omega)
  replace fw := (fw.ext hw16).chg hcw17 (fun b hb hb' => by have := log b hb'; have := hig b hb'; have := low b hb; have := hiw b hb; omega)
  replace kw := (kw.ext hw16).chg hcw17 (fun b hb hb' => by have := log b hb'; have := hig b hb'; have := low b hb; have := hiw b hb; omega)
  have lthb0 := hb0.lt
  replace hb0 := (hb0.ext hw16).chg hcw17 (fun hb' => by have := log _ hb'; have := hig _ hb'; omega)
  replace kg := kmg
  replace fg := fmg
  refine (c_heldStringS (k := 1) kg (by omega)).mono ?_
  rintro r w18 ⟨rfl, hw18⟩
  refine Cm.f (by omega) ?_
  refine Cm.v (c := false) (by simp) ?_
  refine Ld.agg (vs := [.int .i64 l0.1, .string l0.2, .slice ao0 ks0.length cap0]) (Blk.lc0 (post := []) (hb0.ext hw18)) ?_
  refine (c_toType hc0 (hk0.ext (hWw17.trans hw18))).mono ?_
  rintro r w19 ⟨hw19, vy0, bsy0, rfl, ky0, fy0⟩
  refine (c_iTypeVariables (by omega) ky0).mono ?_
  rintro rh w20 ⟨hw20, bsh, kh, fh⟩
  have loh := fh.lo
  have hih := fh.lt
  refine (c_eqStringS kh (kw.ext ((hw18.trans hw19).trans hw20))).mono ?_
  rintro r w21 ⟨rfl, hw21⟩
  rw [decide_eq_true rfl]
  refine (c_heldStringS (k := 1) (kg.ext (((hw18.trans hw19).trans hw20).trans hw21)) (by omega)).mono ?_
  rintro r w22 ⟨rfl, hw22⟩
  refine Cm.f (by omega) ?_
  refine Cm.v (c := false) (by simp) ?_
  exact ⟨rfl, (hWw17.trans ((((hw18.trans hw19).trans hw20).trans hw21).trans hw22))⟩

set_option maxRecDepth 100000 in
theorem fnExactTypeVariables_lifted (os : Os) (started : os.Started) (H : Type) (enc : TypeId × Value → H) :
    ReturnsInHanded {} Try.checked os 7 .any (Rows.fnExactTypeVariablesSpec.pre6 enc Try.prog Try.f7 Rows.fnExactTypeVariablesRow.domain false) (Rows.fnExactTypeVariablesSpec.post enc Try.prog Try.f7 false true false false) := by
  refine returnsInHanded_of_change (C := Try.checked) Try.own started (by kernel_rfl) Try.func7
    (ChangeSpec.witness6 (enc := enc) (C := Try.checked) false ⟨#[], #[.agg #[.int .i64 0, .string ⟨#[]⟩, .slice none 0 0]], []⟩ 8 (by kernel_rfl) (by kernel_rfl) (by kernel_rfl) (by kernel_rfl)) ?_
  intro W base args ds gs before hval0 hW _ _
  have hval : ∀ (j : Nat) t v, Try.f7.params[j]? = some t → args[j]? = some v → Value.okWide Try.prog W .any base t v := hval0
  have hA0 := hW
  obtain ⟨p, q, hA1, _, _, _, _⟩ := hA0
  have hA : DataW.TrodAll enc Try.prog W 0 (fun _ => true) true Try.f7.params.toList args.toList ds p := hA1
  rw [Try.params7] at hA hval
  obtain ⟨v0, vs0, d0, ds0, p0, q0, hargs, rfl, rfl, h0, r0⟩ := trodAll_cons hA
  obtain ⟨rfl, rfl, rfl⟩ := trodAll_nil r0
  obtain rfl : args = #[v0] := by cases args; simp_all
  have o0 := oTy (hval 0 24 v0 rfl rfl) h0
  refine (Ret.calls Try.func7 rfl (by kernel_rfl) (fnExactTypeVariables_ret o0)).mono ?_
  rintro e W' ⟨v, rfl, rfl, hx⟩
  exact ⟨_, rfl, law_post Try.laidOut (by kernel_rfl) rfl Try.underlying4 rfl rfl hW hx⟩

theorem fnExactTypeVariables_holds : Rows.FnExactTypeVariablesSaid :=
  OpenClaim.holds_of_wide 7 Try.f7 rfl rfl rfl rfl rfl rfl rfl ⟨rfl, rfl, rfl, rfl, rfl⟩ rfl rfl rfl rfl rfl (by kernel_rfl) Try.func7 (by kernel_rfl)
    (of_decide_eq_true (by kernel_rfl)) (by unfold Func.isWrapper; first | (rw [if_pos (by decide +kernel)]; kernel_rfl) | (rw [if_neg (by decide +kernel)]; exact ⟨rfl, rfl⟩))
    (fun os started H enc _ => fnExactTypeVariables_lifted os started H enc)
end Go.Proofs.Ytmgghbaojcefgaa
