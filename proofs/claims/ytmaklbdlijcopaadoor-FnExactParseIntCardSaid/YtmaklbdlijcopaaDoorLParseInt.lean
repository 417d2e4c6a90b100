/- FnExactParseInt returns true, for all arguments. Conditions: none. -/
import Derived.Test.YtmaklbdlijcopaaDoorCard
namespace Go.Proofs.YtmaklbdlijcopaaDoor
open Go.ChangeShapes Go.WideShapes Go.ChangeAt Go.RowKit

theorem fnExactParseInt_ret {W : World} {a0 : Value} (hI : ItoaOk W) (hA : AtoiOk W) (g0 : OStr W a0) : Ret Tryd.prog 7 [a0] W fun r w' => r = .bool true ∧ Ext W w' := by
  obtain ⟨s, rfl, hs⟩ := g0
  refine ret_of_vc ttOk Tryd.func7 rfl (by kernel_rfl) (by kernel_rfl) ?_
  refine Cm.s (fun h => ?_) (fun h => ?_)
  · exact ⟨rfl, Chg.refl _ _⟩
  have h : s.size ≤ 1048576 := by have : ¬ (1048576 : Int) < (s.size : Int) := h; omega
  refine (c_sParseInt (by omega)).mono ?_
  rintro _ w1 ⟨rfl, hx1⟩
  refine (c_iParseInt (hI.ext hx1) (hA.ext hx1) (by omega)).mono ?_
  generalize numO (-999999999999) 999999999999 s = o
  rintro _ w2 ⟨rfl, hx2⟩
  refine Cm.nf rfl ?_
  refine Cm.v (c := false) (by cases o <;> rfl) ?_
  exact ⟨rfl, hx1.trans hx2⟩

set_option maxRecDepth 100000 in
theorem fnExactParseInt_lifted (os : Os) (started : os.Started) (H : Type) (enc : TypeId × Value → H) :
    ReturnsInHanded {} Tryd.checked os 7 .any (fun w args => (Rows.fnExactParseIntSpec.pre enc Tryd.prog Tryd.f7 [] false w args ∧ laidMetH Tryd.prog Rows.fnExactParseIntRow.laid w) ∧ sizedMet enc Tryd.prog Tryd.f7 (OpenSpec.ofChange Rows.fnExactParseIntSpec) false w args)
      (Rows.fnExactParseIntSpec.post enc Tryd.prog Tryd.f7 false true false false) := by
  refine handed_card (C := Tryd.checked) (X := fun w _ => laidMetH Tryd.prog Rows.fnExactParseIntRow.laid w) (fun _ _ _ hh h => h.of_heap hh) Tryd.own started (by kernel_rfl) Tryd.func7
    (ChangeSpec.witness_shaped (enc := enc) (C := Tryd.checked) (os := os) (X := fun w _ => laidMetH Tryd.prog Rows.fnExactParseIntRow.laid w) false (World.laidAll Tryd.prog os Rows.fnExactParseIntRow.laid) #[.string ⟨#[]⟩] 8 (World.laidAll_os _ _ _)
      (World.shaped_of_ZipB (by kernel_rfl) (by kernel_rfl)) (by kernel_rfl) (by kernel_rfl) (by kernel_rfl)
      (by rw [MakeChecks.laidMetH_plain _ _ _ (by kernel_rfl)]; exact laidMet_laidAll _ (by kernel_rfl) (by kernel_rfl))) ?_
  intro W base args ds gs before hval0 hW hsh hL
  rw [MakeChecks.laidMetH_plain _ _ _ (by kernel_rfl)] at hL
  have hM : laidMet Tryd.prog Rows.fnExactParseIntRow.laid W := hL
  have hval : ∀ (j : Nat) t v, Tryd.f7.params[j]? = some t → args[j]? = some v → Value.okWide Tryd.prog W .any base t v := hval0
  have hA0 := hW
  obtain ⟨p, q, hA1, _, _, _, _⟩ := hA0
  have hA : DataW.TrodAll enc Tryd.prog W 0 (fun _ => true) true Tryd.f7.params.toList args.toList ds p := hA1
  rw [Tryd.params7] at hA hval
  obtain ⟨v0, vs0, d0, ds0, p0, q0, hargs, rfl, rfl, h0, r0⟩ := trodAll_cons hA
  obtain ⟨rfl, rfl, rfl⟩ := trodAll_nil r0
  obtain rfl : args = #[v0] := by cases args; simp_all
  have o0 := oStr Tryd.underlying9 (hval 0 9 v0 rfl rfl) h0
  refine (Ret.calls Tryd.func7 rfl (by kernel_rfl) (fnExactParseInt_ret (itoaOk_of (by kernel_rfl) (fun n w1 h0 h1 ht => Any.strconv_Itoa sh_laysM171 n h0 h1 w1 ht) (laidMet.tail (laidMet.tail hM))) (atoiOk_of hM) o0)).mono ?_
  rintro e W' ⟨v, rfl, rfl, hx⟩
  exact ⟨_, rfl, law_post Tryd.laidOut (by kernel_rfl) rfl Tryd.underlying4 rfl rfl hW hx⟩

theorem fnExactParseInt_row : Rows.FnExactParseIntSaid :=
  OpenClaim.holds_of_wide 7 Tryd.f7 rfl rfl rfl rfl rfl rfl rfl ⟨rfl, rfl, rfl, rfl, rfl⟩ rfl rfl rfl rfl rfl (by kernel_rfl) Tryd.func7 (by kernel_rfl)
    (of_decide_eq_true (by kernel_rfl)) (by unfold Func.isWrapper; first | (rw [if_pos (by decide +kernel)]; kernel_rfl) | (rw [if_neg (by decide +kernel)]; exact ⟨rfl, rfl⟩))
    (fun os started H enc _ => fnExactParseInt_lifted os started H enc)

theorem fnExactParseInt_holds : Rows.FnExactParseIntCardSaid := by
  unfold Rows.FnExactParseIntCardSaid Rows.fnExactParseIntCard
  exact Claim7.holds_tied_plain_at .later [] _ true _ true fnExactParseInt_row (fun _ h => by cases h) (by kernel_rfl) (fun _ h => by cases h) fnExactParseInt_row_tie rfl ⟨rfl, rfl⟩ (by kernel_rfl) rfl
    (fun f fn hf hfn => by
      obtain rfl : f = 7 := Option.some.inj ((show Tryd.prog.funcNamed Rows.fnExactParseIntRow.func = some 7 by kernel_rfl).symm.trans hf) |>.symm
      obtain rfl : fn = Tryd.f7 := (Option.some.inj (Tryd.func7.symm.trans hfn)).symm
      exact ⟨by kernel_rfl, fun j t ht => by
        rw [Tryd.params7] at ht
        have hm : t ∈ [9] := by simpa using Array.mem_of_getElem? ht
        have hall : ([9].all fun u => !Tryd.prog.wantsStandIn u) = true := by kernel_rfl
        exact (show Tryd.prog.wantsStandIn t = false by simpa using List.all_eq_true.1 hall t hm)⟩)
    (by kernel_rfl)
end Go.Proofs.YtmaklbdlijcopaaDoor
