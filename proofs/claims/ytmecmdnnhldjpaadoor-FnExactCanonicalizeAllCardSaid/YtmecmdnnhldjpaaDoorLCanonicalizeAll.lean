/- FnExactCanonicalizeAll returns true, for all arguments. Conditions: none. -/
import Derived.Test.YtmecmdnnhldjpaaDoorLawB
import Derived.Test.YtmecmdnnhldjpaaDoorCnA
import Derived.Test.YtmecmdnnhldjpaaDoorBdE
import Derived.Test.YtmecmdnnhldjpaaDoorDrawC
import Derived.Test.YtmecmdnnhldjpaaDoorCard
namespace Go.Proofs.YtmecmdnnhldjpaaDoor
open Go.ChangeShapes Go.WideShapes Go.ChangeAt Go.RowKit

theorem cnL_cnt {ks : List Tp} (h : Rose.cnt ks ≤ 1048576) : Rose.cnt (cnL ks) ≤ 1048577 * 1048578 := by
  have h1 := apL_cnt (crn ks) ks
  have h2 := crn_le ks
  have h3 : Rose.cnt ks * (1 + cntB (crn ks)) ≤ 1048577 * 1048578 := Nat.mul_le_mul (by omega) (by omega)
  show Rose.cnt (apL (crn ks) ks) ≤ _
  omega
theorem fnExactCanonicalizeAll_ret {W : World} {a0 : Value} (hI : ItoaOk W) (g0 : OTys W a0) : Ret Tryd.prog 5 [a0] W fun r w' => r = .bool true ∧ Ext W w' := by
  obtain ⟨ks0, bs0, hk0, ha0⟩ := g0
  refine ret_of_vc ttOk Tryd.func5 rfl (by kernel_rfl) (by kernel_rfl) ?_
  refine (c_szTypeS ks0 ha0 _ _ _ 1048576 hk0 (by omega)).mono ?_
  rintro r w1 ⟨hw1, rfl | ⟨m0, rfl, hm0⟩⟩
  · refine Cm.t (by omega) ?_
    exact ⟨rfl, hw1⟩
  refine Cm.f (by omega) ?_
  have hc0 : Rose.cnt ks0 ≤ 1048576 := by have := Rose.cnt_le (fun l : TLab => l.2.size) ks0; simp only [szT] at hm0; omega
  have hq0 := hc0
  have hg0 := Nat.le_trans hc0 (show 1048576 ≤ 4294967000 by decide)
  replace hc0 := Nat.le_trans hc0 (show 1048576 ≤ 4294967296 by decide)
  have hap := cnL_cnt hq0
  refine (c_toTypeS ks0 _ _ _ (hk0.ext hw1) hc0).mono ?_
  rintro xu0 w2 ⟨hw2, bsu0, ku0, fu0⟩
  refine (c_sCanonAll (by omega) ku0).mono ?_
  rintro rw w3 ⟨hw3, bsw, kw, fw⟩
  have low := fw.lo
  have hiw := fw.lt
  refine (c_toTypeS ks0 _ _ _ (hk0.ext ((hw1.trans hw2).trans hw3)) hc0).mono ?_
  rintro xx0 w4 ⟨hw4, bsx0, kx0, fx0⟩
  have lox0 := fx0.lo
  have hix0 := fx0.lt
  refine (c_iCanonAll (by omega) (hI.ext (((hw1.trans hw2).trans hw3).trans hw4)) kx0).mono ?_
  rintro rg w5 ⟨hw5, bsg, kg, fg⟩
  have log := fg.lo
  have hig := fg.lt
  refine (c_eqTypeS _ _ _ _ _ _ _ kg (kw.ext (hw4.trans hw5))).mono ?_
  rintro r w6 ⟨⟨b, rfl, hb⟩, hw6⟩
  obtain rfl : b = true := hb.2 rfl
  refine (c_toTypeS ks0 _ _ _ (hk0.ext (((((hw1.trans hw2).trans hw3).trans hw4).trans hw5).trans hw6)) hc0).mono ?_
  rintro xy0 w7 ⟨hw7, bsy0, ky0, fy0⟩
  refine (c_eqTypeS ks0 ks0 _ _ _ _ _ (kx0.ext ((hw5.trans hw6).trans hw7)) ky0).mono ?_
  rintro r w8 ⟨⟨b, rfl, hb⟩, hw8⟩
  obtain rfl : b = true := hb.2 rfl
  have zzw1 := hw1.size
  have zzw2 := hw2.size
  have zzw3 := hw3.size
  have zzw4 := hw4.size
  have zzw5 := hw5.size
  have zzw6 := hw6.size
  have zzw7 := hw7.size
  have zzw8 := hw8.size
  refine (c_markTypeS _ _ _ _ _ (1) (kx0.ext (((hw5.trans hw6).trans hw7).trans hw8)) (fx0.ext (((hw5.trans hw6).trans hw7).trans hw8)) (by omega)).mono ?_
  rintro r w9 ⟨rfl, hcw9, kmx0, fmx0⟩
  have zzw9 := hcw9.size
  have hWw9 : Ext W w9 := Chg.big (((((((hw1.trans hw2).trans hw3).trans hw4).trans hw5).trans hw6).trans hw7).trans hw8) hcw9 (fun b hb => by have := lox0 b hb; omega)
  replace fw := (fw.ext ((((hw4.trans hw5).trans hw6).trans hw7).trans hw8)).chg hcw9 (fun b hb hb' => by have := lox0 b hb'; have := hix0 b hb'; have := low b hb; have := hiw b hb; omega)
  replace kw := (kw.ext ((((hw4.trans hw5).trans hw6).trans hw7).trans hw8)).chg hcw9 (fun b hb hb' => by have := lox0 b hb'; have := hix0 b hb'; have := low b hb; have := hiw b hb; omega)
  replace fg := (fg.ext ((hw6.trans hw7).trans hw8)).chg hcw9 (fun b hb hb' => by have := lox0 b hb'; have := hix0 b hb'; have := log b hb; have := hig b hb; omega)
  replace kg := (kg.ext ((hw6.trans hw7).trans hw8)).chg hcw9 (fun b hb hb' => by have := lox0 b hb'; have := hix0 b hb'; have := log b hb; have := hig b hb; omega)
  replace kx0 := kmx0
  replace fx0 := fmx0
  refine Cm.f (by omega) ?_
  refine (c_eqTypeS _ _ _ _ _ _ _ kg kw).mono ?_
  rintro r w10 ⟨⟨b, rfl, hb⟩, hw10⟩
  obtain rfl : b = true := hb.2 rfl
  have zzw10 := hw10.size
  refine (c_markTypeS _ _ _ _ _ (1) (kg.ext hw10) (fg.ext hw10) (by omega)).mono ?_
  rintro r w11 ⟨rfl, hcw11, kmg, fmg⟩
  have zzw11 := hcw11.size
  have hWw11 : Ext W w11 := Chg.big (hWw9.trans hw10) hcw11 (fun b hb => by have := log b hb; omega)
  replace fw := (fw.ext hw10).chg hcw11 (fun b hb hb' => by have := log b hb'; have := hig b hb'; have := low b hb; have := hiw b hb; omega)
  replace kw := (kw.ext hw10).chg hcw11 (fun b hb hb' => by have := log b hb'; have := hig b hb'; have := low b hb; have := hiw b hb; omega)
  replace kg := kmg
  replace fg := fmg
  refine (c_heldTypeS _ _ _ _ 1 kg (by omega)).mono ?_
  rintro r w12 ⟨rfl, hw12⟩
  refine Cm.f (by omega) ?_
  refine Cm.v (c := false) (by simp) ?_
  refine (c_toTypeS ks0 _ _ _ (hk0.ext (hWw11.trans hw12)) hc0).mono ?_
  rintro xy0 w13 ⟨hw13, bsy0, ky0, fy0⟩
  refine (c_iCanonAll (by omega) (hI.ext (hWw11.trans (hw12.trans hw13))) ky0).mono ?_
  rintro rh w14 ⟨hw14, bsh, kh, fh⟩
  have loh := fh.lo
  have hih := fh.lt
  refine (c_eqTypeS _ _ _ _ _ _ _ kh (kw.ext ((hw12.trans hw13).trans hw14))).mono ?_
  rintro r w15 ⟨⟨b, rfl, hb⟩, hw15⟩
  obtain rfl : b = true := hb.2 rfl
  refine (c_heldTypeS _ _ _ _ 1 (kg.ext (((hw12.trans hw13).trans hw14).trans hw15)) (by omega)).mono ?_
  rintro r w16 ⟨rfl, hw16⟩
  refine Cm.f (by omega) ?_
  refine Cm.v (c := false) (by simp) ?_
  exact ⟨rfl, (hWw11.trans ((((hw12.trans hw13).trans hw14).trans hw15).trans hw16))⟩

set_option maxRecDepth 100000 in
theorem fnExactCanonicalizeAll_lifted (os : Os) (started : os.Started) (H : Type) (enc : TypeId × Value → H) :
    ReturnsInHanded {} Tryd.checked os 5 .any (fun w args => (Rows.fnExactCanonicalizeAllSpec.pre enc Tryd.prog Tryd.f5 [] false w args ∧ laidMetH Tryd.prog Rows.fnExactCanonicalizeAllRow.laid w) ∧ sizedMet enc Tryd.prog Tryd.f5 (OpenSpec.ofChange Rows.fnExactCanonicalizeAllSpec) false w args)
      (Rows.fnExactCanonicalizeAllSpec.post enc Tryd.prog Tryd.f5 false true false false) := by
  refine handed_card (C := Tryd.checked) (X := fun w _ => laidMetH Tryd.prog Rows.fnExactCanonicalizeAllRow.laid w) (fun _ _ _ hh h => h.of_heap hh) Tryd.own started (by kernel_rfl) Tryd.func5
    (ChangeSpec.witness_shaped (enc := enc) (C := Tryd.checked) (os := os) (X := fun w _ => laidMetH Tryd.prog Rows.fnExactCanonicalizeAllRow.laid w) false (World.laidAll Tryd.prog os Rows.fnExactCanonicalizeAllRow.laid) #[.slice none 0 0] 8 (World.laidAll_os _ _ _)
      (World.shaped_of_ZipB (by kernel_rfl) (by kernel_rfl)) (by kernel_rfl) (by kernel_rfl) (by kernel_rfl)
      (by rw [MakeChecks.laidMetH_plain _ _ _ (by kernel_rfl)]; exact laidMet_laidAll _ (by kernel_rfl) (by kernel_rfl))) ?_
  intro W base args ds gs before hval0 hW hsh hL
  rw [MakeChecks.laidMetH_plain _ _ _ (by kernel_rfl)] at hL
  have hM : laidMet Tryd.prog Rows.fnExactCanonicalizeAllRow.laid W := hL
  have hval : ∀ (j : Nat) t v, Tryd.f5.params[j]? = some t → args[j]? = some v → Value.okWide Tryd.prog W .any base t v := hval0
  have hA0 := hW
  obtain ⟨p, q, hA1, _, _, _, _⟩ := hA0
  have hA : DataW.TrodAll enc Tryd.prog W 0 (fun _ => true) true Tryd.f5.params.toList args.toList ds p := hA1
  rw [Tryd.params5] at hA hval
  obtain ⟨v0, vs0, d0, ds0, p0, q0, hargs, rfl, rfl, h0, r0⟩ := trodAll_cons hA
  obtain ⟨rfl, rfl, rfl⟩ := trodAll_nil r0
  obtain rfl : args = #[v0] := by cases args; simp_all
  have o0 := oTys (hval 0 22 v0 rfl rfl) h0
  refine (Ret.calls Tryd.func5 rfl (by kernel_rfl) (fnExactCanonicalizeAll_ret (itoaOk_of (by kernel_rfl) (fun n w1 h0 h1 ht => Any.strconv_Itoa sh_laysM171 n h0 h1 w1 ht) (laidMet.tail (laidMet.tail hM))) o0)).mono ?_
  rintro e W' ⟨v, rfl, rfl, hx⟩
  exact ⟨_, rfl, law_post Tryd.laidOut (by kernel_rfl) rfl Tryd.underlying4 rfl rfl hW hx⟩

theorem fnExactCanonicalizeAll_row : Rows.FnExactCanonicalizeAllSaid :=
  OpenClaim.holds_of_wide 5 Tryd.f5 rfl rfl rfl rfl rfl rfl rfl ⟨rfl, rfl, rfl, rfl, rfl⟩ rfl rfl rfl rfl rfl (by kernel_rfl) Tryd.func5 (by kernel_rfl)
    (of_decide_eq_true (by kernel_rfl)) (by unfold Func.isWrapper; first | (rw [if_pos (by decide +kernel)]; kernel_rfl) | (rw [if_neg (by decide +kernel)]; exact ⟨rfl, rfl⟩))
    (fun os started H enc _ => fnExactCanonicalizeAll_lifted os started H enc)

theorem fnExactCanonicalizeAll_holds : Rows.FnExactCanonicalizeAllCardSaid := by
  unfold Rows.FnExactCanonicalizeAllCardSaid Rows.fnExactCanonicalizeAllCard
  exact Claim7.holds_tied_plain_at .later [] _ true _ false fnExactCanonicalizeAll_row (fun _ h => by cases h) (by kernel_rfl) (fun _ h => by cases h) fnExactCanonicalizeAll_row_tie rfl ⟨rfl, rfl⟩ (by kernel_rfl) rfl
    (fun f fn hf hfn => by
      obtain rfl : f = 5 := Option.some.inj ((show Tryd.prog.funcNamed Rows.fnExactCanonicalizeAllRow.func = some 5 by kernel_rfl).symm.trans hf) |>.symm
      obtain rfl : fn = Tryd.f5 := (Option.some.inj (Tryd.func5.symm.trans hfn)).symm
      exact ⟨by kernel_rfl, fun j t ht => by
        rw [Tryd.params5] at ht
        have hm : t ∈ [22] := by simpa using Array.mem_of_getElem? ht
        have hall : ([22].all fun u => !Tryd.prog.wantsStandIn u) = true := by kernel_rfl
        exact (show Tryd.prog.wantsStandIn t = false by simpa using List.all_eq_true.1 hall t hm)⟩)
    (by kernel_rfl)
end Go.Proofs.YtmecmdnnhldjpaaDoor
