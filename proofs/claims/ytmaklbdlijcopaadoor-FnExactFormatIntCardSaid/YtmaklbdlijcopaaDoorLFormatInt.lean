/- FnExactFormatInt returns true, for all arguments. Conditions: none. -/
import Derived.Test.YtmaklbdlijcopaaDoorCard
namespace Go.Proofs.YtmaklbdlijcopaaDoor
open Go.ChangeShapes Go.WideShapes Go.ChangeAt Go.RowKit

theorem int_bounds {W : World} {v : Value} (g : OInt .i64 W v) : ∃ n : Int, v = .int .i64 n ∧ -9223372036854775808 ≤ n ∧ n ≤ 9223372036854775807 := by
  obtain ⟨n, rfl, h⟩ := g
  have hx : -9223372036854775808 ≤ n ∧ n ≤ 9223372036854775807 := by simpa [Lit.wf, IntKind.min, IntKind.max, IntKind.signed, IntKind.bits] using h
  exact ⟨n, rfl, hx.1, hx.2⟩
theorem fnExactFormatInt_ret {W : World} {a0 : Value} (hI : ItoaOk W) (g0 : OInt .i64 W a0) : Ret Tryd.prog 4 [a0] W fun r w' => r = .bool true ∧ Ext W w' := by
  obtain ⟨n, rfl, h0, h1⟩ := int_bounds g0
  refine ret_of_vc ttOk Tryd.func4 rfl (by kernel_rfl) (by kernel_rfl) ?_
  refine (c_sFormatInt n h0 h1).mono ?_
  rintro _ w1 ⟨rfl, hx1⟩
  refine (c_iFormatInt (hI.ext hx1) n h0 h1).mono ?_
  rintro _ w2 ⟨rfl, hx2⟩
  refine Cm.nf rfl ?_
  exact ⟨rfl, hx1.trans hx2⟩

set_option maxRecDepth 100000 in
theorem fnExactFormatInt_lifted (os : Os) (started : os.Started) (H : Type) (enc : TypeId × Value → H) :
    ReturnsInHanded {} Tryd.checked os 4 .any (fun w args => (Rows.fnExactFormatIntSpec.pre enc Tryd.prog Tryd.f4 [] false w args ∧ laidMetH Tryd.prog Rows.fnExactFormatIntRow.laid w) ∧ sizedMet enc Tryd.prog Tryd.f4 (OpenSpec.ofChange Rows.fnExactFormatIntSpec) false w args)
      (Rows.fnExactFormatIntSpec.post enc Tryd.prog Tryd.f4 false true false false) := by
  refine handed_card (C := Tryd.checked) (X := fun w _ => laidMetH Tryd.prog Rows.fnExactFormatIntRow.laid w) (fun _ _ _ hh h => h.of_heap hh) Tryd.own started (by kernel_rfl) Tryd.func4
    (ChangeSpec.witness_shaped (enc := enc) (C := Tryd.checked) (os := os) (X := fun w _ => laidMetH Tryd.prog Rows.fnExactFormatIntRow.laid w) false (World.laidAll Tryd.prog os Rows.fnExactFormatIntRow.laid) #[.int .i64 0] 8 (World.laidAll_os _ _ _)
      (World.shaped_of_ZipB (by kernel_rfl) (by kernel_rfl)) (by kernel_rfl) (by kernel_rfl) (by kernel_rfl)
      (by rw [MakeChecks.laidMetH_plain _ _ _ (by kernel_rfl)]; exact laidMet_laidAll _ (by kernel_rfl) (by kernel_rfl))) ?_
  intro W base args ds gs before hval0 hW hsh hL
  rw [MakeChecks.laidMetH_plain _ _ _ (by kernel_rfl)] at hL
  have hM : laidMet Tryd.prog Rows.fnExactFormatIntRow.laid W := hL
  have hval : ∀ (j : Nat) t v, Tryd.f4.params[j]? = some t → args[j]? = some v → Value.okWide Tryd.prog W .any base t v := hval0
  have hA0 := hW
  obtain ⟨p, q, hA1, _, _, _, _⟩ := hA0
  have hA : DataW.TrodAll enc Tryd.prog W 0 (fun _ => true) true Tryd.f4.params.toList args.toList ds p := hA1
  rw [Tryd.params4] at hA hval
  obtain ⟨v0, vs0, d0, ds0, p0, q0, hargs, rfl, rfl, h0, r0⟩ := trodAll_cons hA
  obtain ⟨rfl, rfl, rfl⟩ := trodAll_nil r0
  obtain rfl : args = #[v0] := by cases args; simp_all
  have o0 := oInt Tryd.underlying3 (hval 0 3 v0 rfl rfl) h0
  refine (Ret.calls Tryd.func4 rfl (by kernel_rfl) (fnExactFormatInt_ret (itoaOk_of (by kernel_rfl) (fun n w1 h0 h1 ht => Any.strconv_Itoa sh_laysM171 n h0 h1 w1 ht) (laidMet.tail (laidMet.tail hM))) o0)).mono ?_
  rintro e W' ⟨v, rfl, rfl, hx⟩
  exact ⟨_, rfl, law_post Tryd.laidOut (by kernel_rfl) rfl Tryd.underlying4 rfl rfl hW hx⟩

theorem fnExactFormatInt_row : Rows.FnExactFormatIntSaid :=
  OpenClaim.holds_of_wide 4 Tryd.f4 rfl rfl rfl rfl rfl rfl rfl ⟨rfl, rfl, rfl, rfl, rfl⟩ rfl rfl rfl rfl rfl (by kernel_rfl) Tryd.func4 (by kernel_rfl)
    (of_decide_eq_true (by kernel_rfl)) (by unfold Func.isWrapper; first | (rw [if_pos (by decide +kernel)]; kernel_rfl) | (rw [if_neg (by decide +kernel)]; exact ⟨rfl, rfl⟩))
    (fun os started H enc _ => fnExactFormatInt_lifted os started H enc)

theorem fnExactFormatInt_holds : Rows.FnExactFormatIntCardSaid := by
  unfold Rows.FnExactFormatIntCardSaid Rows.fnExactFormatIntCard
  exact Claim7.holds_tied_plain_at .later [] _ true _ true fnExactFormatInt_row (fun _ h => by cases h) (by kernel_rfl) (fun _ h => by cases h) fnExactFormatInt_row_tie rfl ⟨rfl, rfl⟩ (by kernel_rfl) rfl
    (fun f fn hf hfn => by
      obtain rfl : f = 4 := Option.some.inj ((show Tryd.prog.funcNamed Rows.fnExactFormatIntRow.func = some 4 by kernel_rfl).symm.trans hf) |>.symm
      obtain rfl : fn = Tryd.f4 := (Option.some.inj (Tryd.func4.symm.trans hfn)).symm
      exact ⟨by kernel_rfl, fun j t ht => by
        rw [Tryd.params4] at ht
        have hm : t ∈ [3] := by simpa using Array.mem_of_getElem? ht
        have hall : ([3].all fun u => !Tryd.prog.wantsStandIn u) = true := by kernel_rfl
        exact (show Tryd.prog.wantsStandIn t = false by simpa using List.all_eq_true.1 hall t hm)⟩)
    (by kernel_rfl)
end Go.Proofs.YtmaklbdlijcopaaDoor
