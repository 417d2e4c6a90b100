/- FnExactRestrictTo returns true, for all arguments. Conditions: none. -/
import Derived.Test.YtkpdkemkfgcamaaLawB
import Derived.Test.YtkpdkemkfgcamaaBdE
import Derived.Test.YtkpdkemkfgcamaaMarkV
import Derived.Test.YtkpdkemkfgcamaaBdR
namespace Go.Proofs.Ytkpdkemkfgcamaa
open Go.ChangeShapes Go.WideShapes Go.ChangeAt Go.RowKit

theorem markB_filter (p : Bi → Bool) : ∀ xs : List Bi, markB (xs.filter p) ≤ markB xs
  | [] => by simp
  | x :: xs => by
    have ih := markB_filter p xs
    cases h : p x
    · simp only [List.filter_cons_of_neg (by simp [h] : ¬ p x = true), markB]; omega
    · simp only [List.filter_cons_of_pos h, markB]; omega

theorem fnExactRestrictTo_ret {W : World} {a0 a1 : Value} (g0 : OBds W a0) (g1 : OStrs W a1) : Ret Try.prog 7 [a0, a1] W fun r w' => r = .bool true ∧ Ext W w' := by
  obtain ⟨ks0, bs0, hk0, ha0⟩ := g0
  obtain ⟨ss1, bs1, hk1, hz1⟩ := g1
  refine ret_of_vc ttOk Try.func7 rfl (by kernel_rfl) (by kernel_rfl) ?_
  refine (c_szBindingS ha0 hk0 1048576 (by omega)).mono ?_
  rintro r w1 ⟨hw1, rfl | ⟨m0, rfl, hm0⟩⟩
  · refine Cm.t (by omega) ?_
    exact ⟨rfl, hw1⟩
  refine Cm.f (by omega) ?_
  have hc0 := szB_cnt hm0 (by omega)
  have hq0 := hc0
  have hg0 := Nat.le_trans hc0 (show 1048576 ≤ 4294967000 by decide)
  replace hc0 := Nat.le_trans hc0 (show 1048576 ≤ 4294967296 by decide)
  refine (c_szStringS (hk1.ext hw1) hz1 m0 (by omega)).mono ?_
  rintro r w ⟨hww, hrr⟩
  obtain rfl : w1 = w := hww.symm
  rcases hrr with rfl | ⟨m1, rfl, hm1⟩
  · refine Cm.t (by omega) ?_
    exact ⟨rfl, hw1⟩
  refine Cm.f (by omega) ?_
  have hc1 : ss1.length ≤ 1048576 := by omega
  have hq1 := hc1
  have hg1 := Nat.le_trans hc1 (show 1048576 ≤ 4294967000 by decide)
  replace hc1 := Nat.le_trans hc1 (show 1048576 ≤ 4294967296 by decide)
  have hmb := markB_le ks0
  have hmf := markB_filter (fun x => has ss1 x.1) ks0
  refine (c_toBindingS (hk0.ext hw1) hc0).mono ?_
  rintro xu0 w3 ⟨hw3, bsu0, ku0, fu0⟩
  refine (c_toStringS (hk1.ext (hw1.trans hw3)) hc1).mono ?_
  rintro xu1 w4 ⟨hw4, bsu1, ku1, fu1⟩
  refine (c_sRestrictTo hc0 (ku0.ext hw4) ku1).mono ?_
  rintro rw w5 ⟨hw5, bsw, kw, fw⟩
  have low := fw.lo
  have hiw := fw.lt
  refine (c_toBindingS (hk0.ext (((hw1.trans hw3).trans hw4).trans hw5)) hc0).mono ?_
  rintro xx0 w6 ⟨hw6, bsx0, kx0, fx0⟩
  refine (c_toStringS (hk1.ext ((((hw1.trans hw3).trans hw4).trans hw5).trans hw6)) hc1).mono ?_
  rintro xx1 w7 ⟨hw7, bsx1, kx1, fx1⟩
  have lox0 := fx0.lo
  have hix0 := fx0.lt
  have lox1 := fx1.lo
  have hix1 := fx1.lt
  refine (c_iRestrictTo hc0 (kx0.ext hw7) kx1).mono ?_
  rintro rg w8 ⟨hw8, bsg, kg, fg⟩
  have log := fg.lo
  have hig := fg.lt
  refine (c_eqBindingS kg (kw.ext ((hw6.trans hw7).trans hw8))).mono ?_
  rintro r w9 ⟨⟨b, rfl, hb⟩, hw9⟩
  obtain rfl : b = true := hb.2 rfl
  refine (c_toBindingS (hk0.ext (((((((hw1.trans hw3).trans hw4).trans hw5).trans hw6).trans hw7).trans hw8).trans hw9)) hc0).mono ?_
  rintro xy0 w10 ⟨hw10, bsy0, ky0, fy0⟩
  refine (c_eqBindingS (kx0.ext (((hw7.trans hw8).trans hw9).trans hw10)) ky0).mono ?_
  rintro r w11 ⟨⟨b, rfl, hb⟩, hw11⟩
  obtain rfl : b = true := hb.2 rfl
  refine (c_toStringS (hk1.ext (((((((((hw1.trans hw3).trans hw4).trans hw5).trans hw6).trans hw7).trans hw8).trans hw9).trans hw10).trans hw11)) hc1).mono ?_
  rintro xy1 w12 ⟨hw12, bsy1, ky1, fy1⟩
  refine (c_eqStringS (kx1.ext ((((hw8.trans hw9).trans hw10).trans hw11).trans hw12)) ky1).mono ?_
  rintro r w13 ⟨rfl, hw13⟩
  rw [decide_eq_true rfl]
  have zzw1 := hw1.size
  have zzw3 := hw3.size
  have zzw4 := hw4.size
  have zzw5 := hw5.size
  have zzw6 := hw6.size
  have zzw7 := hw7.size
  have zzw8 := hw8.size
  have zzw9 := hw9.size
  have zzw10 := hw10.size
  have zzw11 := hw11.size
  have zzw12 := hw12.size
  have zzw13 := hw13.size
  refine (c_markBindingS (k := 1) (kx0.ext ((((((hw7.trans hw8).trans hw9).trans hw10).trans hw11).trans hw12).trans hw13)) (fx0.ext ((((((hw7.trans hw8).trans hw9).trans hw10).trans hw11).trans hw12).trans hw13)) (by omega)).mono ?_
  rintro r w14 ⟨rfl, hcw14, kmx0, fmx0⟩
  have zzw14 := hcw14.size
  have hWw14 : Ext W w14 := Chg.big (((((((((((hw1.trans hw3).trans hw4).trans hw5).trans hw6).trans hw7).trans hw8).trans hw9).trans hw10).trans hw11).trans hw12).trans hw13) hcw14 (fun b hb => by have := lox0 b hb; omega)
  replace fw := (fw.ext (((((((hw6.trans hw7).trans hw8).trans hw9).trans hw10).trans hw11).trans hw12).trans hw13)).chg hcw14 (fun b hb hb' => by have := lox0 b hb'; have := hix0 b hb'; have := low b hb; have := hiw b hb; omega)
  replace kw := (kw.ext (((((((hw6.trans hw7).trans hw8).trans hw9).trans hw10).trans hw11).trans hw12).trans hw13)).chg hcw14 (fun b hb hb' => by have := lox0 b hb'; have := hix0 b hb'; have := low b hb; have := hiw b hb; omega)
  replace fx1 := (fx1.ext (((((hw8.trans hw9).trans hw10).trans hw11).trans hw12).trans hw13)).chg hcw14 (fun b hb hb' => by have := lox0 b hb'; have := hix0 b hb'; have := lox1 b hb; have := hix1 b hb; omega)
  replace kx1 := (kx1.ext (((((hw8.trans hw9).trans hw10).trans hw11).trans hw12).trans hw13)).chg hcw14 (fun b hb hb' => by have := lox0 b hb'; have := hix0 b hb'; have := lox1 b hb; have := hix1 b hb; omega)
  replace fg := (fg.ext ((((hw9.trans hw10).trans hw11).trans hw12).trans hw13)).chg hcw14 (fun b hb hb' => by have := lox0 b hb'; have := hix0 b hb'; have := log b hb; have := hig b hb; omega)
  replace kg := (kg.ext ((((hw9.trans hw10).trans hw11).trans hw12).trans hw13)).chg hcw14 (fun b hb hb' => by have := lox0 b hb'; have := hix0 b hb'; have := log b hb; have := hig b hb; omega)
  replace kx0 := kmx0
  replace fx0 := fmx0
  refine (c_markStringS (k := 1 + markB ks0) kx1 fx1 (by omega)).mono ?_
  rintro r w15 ⟨rfl, hcw15, kmx1, fmx1⟩
  have zzw15 := hcw15.size
  have hWw15 : Ext W w15 := Chg.big hWw14 hcw15 (fun b hb => by have := lox1 b hb; omega)
  replace fw := fw.chg hcw15 (fun b hb hb' => by have := lox1 b hb'; have := hix1 b hb'; have := low b hb; have := hiw b hb; omega)
  replace kw := kw.chg hcw15 (fun b hb hb' => by have := lox1 b hb'; have := hix1 b hb'; have := low b hb; have := hiw b hb; omega)
  replace fx0 := fx0.chg hcw15 (fun b hb hb' => by have := lox1 b hb'; have := hix1 b hb'; have := lox0 b hb; have := hix0 b hb; omega)
  replace kx0 := kx0.chg hcw15 (fun b hb hb' => by have := lox1 b hb'; have := hix1 b hb'; have := lox0 b hb; have := hix0 b hb; omega)
  replace fg := fg.chg hcw15 (fun b hb hb' => by have := lox1 b hb'; have := hix1 b hb'; have := log b hb; have := hig b hb; omega)
  replace kg := kg.chg hcw15 (fun b hb hb' => by have := lox1 b hb'; have := hix1 b hb'; have := log b hb; have := hig b hb; omega)
  replace kx1 := kmx1
  replace fx1 := fmx1
  refine Cm.f (by omega) ?_
  refine (c_eqBindingS kg kw).mono ?_
  rintro r w16 ⟨⟨b, rfl, hb⟩, hw16⟩
  obtain rfl : b = true := hb.2 rfl
  have zzw16 := hw16.size
  refine (c_markBindingS (k := 1) (kg.ext hw16) (fg.ext hw16) (by omega)).mono ?_
  rintro r w17 ⟨rfl, hcw17, kmg, fmg⟩
  have zzw17 := hcw17.size
  have hWw17 : Ext W w17 := Chg.big (hWw15.trans hw16) hcw17 (fun b hb => by have := log b hb; omega)
  replace fw := (fw.ext hw16).chg hcw17 (fun b hb hb' => by have := log b hb'; have := hig b hb'; have := low b hb; have := hiw b hb; omega)
  replace kw := (kw.ext hw16).chg hcw17 (fun b hb hb' => by have := log b hb'; have := hig b hb'; have := low b hb; have := hiw b hb; omega)
  replace kg := kmg
  replace fg := fmg
  refine (c_heldBindingS (k := 1) kg (by omega)).mono ?_
  rintro r w18 ⟨rfl, hw18⟩
  refine Cm.f (by omega) ?_
  refine Cm.v (c := false) (by simp) ?_
  refine (c_toBindingS (hk0.ext (hWw17.trans hw18)) hc0).mono ?_
  rintro xy0 w19 ⟨hw19, bsy0, ky0, fy0⟩
  refine (c_toStringS (hk1.ext (hWw17.trans (hw18.trans hw19))) hc1).mono ?_
  rintro xy1 w20 ⟨hw20, bsy1, ky1, fy1⟩
  refine (c_iRestrictTo hc0 (ky0.ext hw20) ky1).mono ?_
  rintro rh w21 ⟨hw21, bsh, kh, fh⟩
  have loh := fh.lo
  have hih := fh.lt
  refine (c_eqBindingS kh (kw.ext (((hw18.trans hw19).trans hw20).trans hw21))).mono ?_
  rintro r w22 ⟨⟨b, rfl, hb⟩, hw22⟩
  obtain rfl : b = true := hb.2 rfl
  refine (c_heldBindingS (k := 1) (kg.ext ((((hw18.trans hw19).trans hw20).trans hw21).trans hw22)) (by omega)).mono ?_
  rintro r w23 ⟨rfl, hw23⟩
  refine Cm.f (by omega) ?_
  refine Cm.v (c := false) (by simp) ?_
  exact ⟨rfl, (hWw17.trans (((((hw18.trans hw19).trans hw20).trans hw21).trans hw22).trans hw23))⟩

set_option maxRecDepth 100000 in
theorem fnExactRestrictTo_lifted (os : Os) (started : os.Started) (H : Type) (enc : TypeId × Value → H) :
    ReturnsInHanded {} Try.checked os 7 .any (Rows.fnExactRestrictToSpec.pre6 enc Try.prog Try.f7 Rows.fnExactRestrictToRow.domain false) (Rows.fnExactRestrictToSpec.post enc Try.prog Try.f7 false true false false) := by
  refine returnsInHanded_of_change (C := Try.checked) Try.own started (by kernel_rfl) Try.func7
    (ChangeSpec.witness6 (enc := enc) (C := Try.checked) false ⟨#[], #[.slice none 0 0, .slice none 0 0], []⟩ 8 (by kernel_rfl) (by kernel_rfl) (by kernel_rfl) (by kernel_rfl)) ?_
  intro W base args ds gs before hval0 hW _ _
  have hval : ∀ (j : Nat) t v, Try.f7.params[j]? = some t → args[j]? = some v → Value.okWide Try.prog W .any base t v := hval0
  have hA0 := hW
  obtain ⟨p, q, hA1, _, _, _, _⟩ := hA0
  have hA : DataW.TrodAll enc Try.prog W 0 (fun _ => true) true Try.f7.params.toList args.toList ds p := hA1
  rw [Try.params7] at hA hval
  obtain ⟨v0, vs0, d0, ds0, p0, q0, hargs, rfl, rfl, h0, r0⟩ := trodAll_cons hA
  obtain ⟨v1, vs1, d1, ds1, p1, q1, rfl, rfl, rfl, h1, r1⟩ := trodAll_cons r0
  obtain ⟨rfl, rfl, rfl⟩ := trodAll_nil r1
  obtain rfl : args = #[v0, v1] := by cases args; simp_all
  have o0 := oBds (hval 0 22 v0 rfl rfl) h0
  have o1 := oStrs Try.underlying55 Try.underlying9 (by kernel_rfl) (hval 1 55 v1 rfl rfl) h1
  refine (Ret.calls Try.func7 rfl (by kernel_rfl) (fnExactRestrictTo_ret o0 o1)).mono ?_
  rintro e W' ⟨v, rfl, rfl, hx⟩
  exact ⟨_, rfl, law_post Try.laidOut (by kernel_rfl) rfl Try.underlying4 rfl rfl hW hx⟩

theorem fnExactRestrictTo_holds : Rows.FnExactRestrictToSaid :=
  OpenClaim.holds_of_wide 7 Try.f7 rfl rfl rfl rfl rfl rfl rfl ⟨rfl, rfl, rfl, rfl, rfl⟩ rfl rfl rfl rfl rfl (by kernel_rfl) Try.func7 (by kernel_rfl)
    (of_decide_eq_true (by kernel_rfl)) (by unfold Func.isWrapper; first | (rw [if_pos (by decide +kernel)]; kernel_rfl) | (rw [if_neg (by decide +kernel)]; exact ⟨rfl, rfl⟩))
    (fun os started H enc _ => fnExactRestrictTo_lifted os started H enc)
end Go.Proofs.Ytkpdkemkfgcamaa
