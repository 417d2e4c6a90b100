/- FnNum returns true, for all arguments. Conditions: none. -/
import Derived.Test.YtmaklbdlijcopaaDoorCard
import Derived.Test.YtmaklbdlijcopaaDoorNumE
import Derived.Test.YtmaklbdlijcopaaDoorLFnBig
namespace Go.Proofs.YtmaklbdlijcopaaDoor
open Go.ChangeShapes Go.WideShapes Go.ChangeAt Go.RowKit

theorem numO_itoa (lo hi n : Int) : numO lo hi (itoaB n) = if lo ≤ n ∧ n ≤ hi then some n else none := by
  by_cases h : lo ≤ n ∧ n ≤ hi
  · rw [if_pos h]
    exact numO_some rfl h.1 h.2
  · rw [if_neg h]
    refine numO_none fun m a b c => h ?_
    obtain rfl := itoaB_inj a
    exact ⟨b, c⟩

theorem fnNum_ret {W : World} {a0 : Value} (hI : ItoaOk W) (hA : AtoiOk W) (g0 : OCode W a0) : Ret Tryd.prog 3 [a0] W fun r w' => r = .bool true ∧ Ext W w' := by
  have hM : maxLen = 9223372036854775807 := rfl
  have g1 := g0
  obtain ⟨zs0, bs0, hr0⟩ := g1
  refine ret_of_vc ttOkD Tryd.func3 rfl (by kernel_rfl) (by kernel_rfl) ?_
  refine (c_big g0).mono ?_
  rintro _ w ⟨⟨b, rfl⟩, hww⟩
  obtain rfl : W = w := hww.symm
  obtain rfl | rfl : b = true ∨ b = false := by cases b <;> simp
  · exact ⟨rfl, Chg.refl _ _⟩
  refine (c_DrawFormatInt g0).mono ?_
  rintro _ w1 ⟨⟨n, rfl, h0, h1⟩, hx1⟩
  refine (c_iFormatInt (hI.ext hx1) n h0 h1).mono ?_
  rintro _ w2 ⟨rfl, hx2⟩
  have hx02 := hx1.trans hx2
  have hsz := itoaB_size h0 h1
  refine (c_iParseInt (hI.ext hx02) (hA.ext hx02) (s := itoaB n) (by omega)).mono ?_
  rw [numO_itoa]
  rintro _ w3 ⟨rfl, hx3⟩
  have hx03 := hx02.trans hx3
  refine (c_iParseNumber (hI.ext hx03) (hA.ext hx03) (s := itoaB n) (by omega)).mono ?_
  rw [numO_itoa]
  rintro _ w4 ⟨rfl, hx4⟩
  have hx04 := hx03.trans hx4
  refine (c_DrawParseNumber ⟨zs0, bs0, hr0.ext hx04⟩).mono ?_
  rintro _ w5 ⟨⟨t, rfl, ht⟩, hx5⟩
  have hx05 := hx04.trans hx5
  refine (c_iParseNumber (hI.ext hx05) (hA.ext hx05) (s := t) (by omega)).mono ?_
  have ho : ∀ x, numO 0 999999 t = some x → itoaB x = t ∧ 0 ≤ x ∧ x ≤ 999999 := fun x h => numO_eq h
  generalize hq : numO 0 999999 t = o at ho
  rintro _ w6 ⟨rfl, hx6⟩
  have hx06 := hx05.trans hx6
  refine (c_sParseNumber (s := t) (by omega)).mono ?_
  rw [hq]
  rintro _ w7 ⟨rfl, hx7⟩
  have hx07 := hx06.trans hx7
  by_cases hs : 0 ≤ n ∧ n ≤ 999999
  · have hn : -999999999999 ≤ n ∧ n ≤ 999999999999 := by omega
    rw [if_pos hn, if_pos hs]
    cases o with
    | none =>
      repeat (first
        | exact ⟨rfl, hx07⟩
        | refine Cm.v (c := true) rfl ?_
        | refine Cm.t rfl ?_
        | refine Cm.t (by omega) ?_
        | refine Cm.f (by omega) ?_
        | refine Cm.v (c := false) rfl ?_)
    | some x =>
      obtain ⟨e, b0, b1⟩ := ho x rfl
      repeat (first
        | exact ⟨rfl, hx07⟩
        | refine Cm.v (c := true) rfl ?_
        | refine Cm.t rfl ?_
        | refine Cm.t (by omega) ?_
        | refine Cm.f (by omega) ?_
        | refine Cm.v (c := false) rfl ?_)
      refine (c_iFormatInt (hI.ext hx07) x (by omega) (by omega)).mono ?_
      rintro _ w8 ⟨rfl, hx8⟩
      refine Cm.t e ?_
      exact ⟨rfl, hx07.trans hx8⟩
  · rw [if_neg hs]
    obtain hs | hs : n < 0 ∨ 999999 < n := by omega
    · by_cases hn : -999999999999 ≤ n
      · rw [if_pos ⟨hn, by omega⟩]
        cases o with
        | none =>
          repeat (first
            | exact ⟨rfl, hx07⟩
            | refine Cm.v (c := true) rfl ?_
            | refine Cm.t rfl ?_
            | refine Cm.t (by omega) ?_
            | refine Cm.f (by omega) ?_
            | refine Cm.v (c := false) rfl ?_)
        | some x =>
          obtain ⟨e, b0, b1⟩ := ho x rfl
          repeat (first
            | exact ⟨rfl, hx07⟩
            | refine Cm.v (c := true) rfl ?_
            | refine Cm.t rfl ?_
            | refine Cm.t (by omega) ?_
            | refine Cm.f (by omega) ?_
            | refine Cm.v (c := false) rfl ?_)
          refine (c_iFormatInt (hI.ext hx07) x (by omega) (by omega)).mono ?_
          rintro _ w8 ⟨rfl, hx8⟩
          refine Cm.t e ?_
          exact ⟨rfl, hx07.trans hx8⟩
      · rw [if_neg (by omega)]
        cases o with
        | none =>
          repeat (first
            | exact ⟨rfl, hx07⟩
            | refine Cm.v (c := true) rfl ?_
            | refine Cm.t rfl ?_
            | refine Cm.t (by omega) ?_
            | refine Cm.f (by omega) ?_
            | refine Cm.v (c := false) rfl ?_)
        | some x =>
          obtain ⟨e, b0, b1⟩ := ho x rfl
          repeat (first
            | exact ⟨rfl, hx07⟩
            | refine Cm.v (c := true) rfl ?_
            | refine Cm.t rfl ?_
            | refine Cm.t (by omega) ?_
            | refine Cm.f (by omega) ?_
            | refine Cm.v (c := false) rfl ?_)
          refine (c_iFormatInt (hI.ext hx07) x (by omega) (by omega)).mono ?_
          rintro _ w8 ⟨rfl, hx8⟩
          refine Cm.t e ?_
          exact ⟨rfl, hx07.trans hx8⟩
    · by_cases hn : n ≤ 999999999999
      · rw [if_pos ⟨by omega, hn⟩]
        cases o with
        | none =>
          repeat (first
            | exact ⟨rfl, hx07⟩
            | refine Cm.v (c := true) rfl ?_
            | refine Cm.t rfl ?_
            | refine Cm.t (by omega) ?_
            | refine Cm.f (by omega) ?_
            | refine Cm.v (c := false) rfl ?_)
        | some x =>
          obtain ⟨e, b0, b1⟩ := ho x rfl
          repeat (first
            | exact ⟨rfl, hx07⟩
            | refine Cm.v (c := true) rfl ?_
            | refine Cm.t rfl ?_
            | refine Cm.t (by omega) ?_
            | refine Cm.f (by omega) ?_
            | refine Cm.v (c := false) rfl ?_)
          refine (c_iFormatInt (hI.ext hx07) x (by omega) (by omega)).mono ?_
          rintro _ w8 ⟨rfl, hx8⟩
          refine Cm.t e ?_
          exact ⟨rfl, hx07.trans hx8⟩
      · rw [if_neg (by omega)]
        cases o with
        | none =>
          repeat (first
            | exact ⟨rfl, hx07⟩
            | refine Cm.v (c := true) rfl ?_
            | refine Cm.t rfl ?_
            | refine Cm.t (by omega) ?_
            | refine Cm.f (by omega) ?_
            | refine Cm.v (c := false) rfl ?_)
        | some x =>
          obtain ⟨e, b0, b1⟩ := ho x rfl
          repeat (first
            | exact ⟨rfl, hx07⟩
            | refine Cm.v (c := true) rfl ?_
            | refine Cm.t rfl ?_
            | refine Cm.t (by omega) ?_
            | refine Cm.f (by omega) ?_
            | refine Cm.v (c := false) rfl ?_)
          refine (c_iFormatInt (hI.ext hx07) x (by omega) (by omega)).mono ?_
          rintro _ w8 ⟨rfl, hx8⟩
          refine Cm.t e ?_
          exact ⟨rfl, hx07.trans hx8⟩

set_option maxRecDepth 100000 in
theorem fnNum_lifted (os : Os) (started : os.Started) (H : Type) (enc : TypeId × Value → H) :
    ReturnsInHanded {} Tryd.checked os 3 .any (fun w args => (Rows.fnNumSpec.pre enc Tryd.prog Tryd.f3 [] false w args ∧ laidMetH Tryd.prog Rows.fnNumRow.laid w) ∧ sizedMet enc Tryd.prog Tryd.f3 (OpenSpec.ofChange Rows.fnNumSpec) false w args)
      (Rows.fnNumSpec.post enc Tryd.prog Tryd.f3 false true false false) := by
  refine handed_card (C := Tryd.checked) (X := fun w _ => laidMetH Tryd.prog Rows.fnNumRow.laid w) (fun _ _ _ hh h => h.of_heap hh) Tryd.own started (by kernel_rfl) Tryd.func3
    (ChangeSpec.witness_shaped (enc := enc) (C := Tryd.checked) (os := os) (X := fun w _ => laidMetH Tryd.prog Rows.fnNumRow.laid w) false (World.laidAll Tryd.prog os Rows.fnNumRow.laid) #[.slice none 0 0] 8 (World.laidAll_os _ _ _)
      (World.shaped_of_ZipB (by kernel_rfl) (by kernel_rfl)) (by kernel_rfl) (by kernel_rfl) (by kernel_rfl)
      (by rw [MakeChecks.laidMetH_plain _ _ _ (by kernel_rfl)]; exact laidMet_laidAll _ (by kernel_rfl) (by kernel_rfl))) ?_
  intro W base args ds gs before hval0 hW hsh hL
  rw [MakeChecks.laidMetH_plain _ _ _ (by kernel_rfl)] at hL
  have hM : laidMet Tryd.prog Rows.fnNumRow.laid W := hL
  have hval : ∀ (j : Nat) t v, Tryd.f3.params[j]? = some t → args[j]? = some v → Value.okWide Tryd.prog W .any base t v := hval0
  have hA0 := hW
  obtain ⟨p, q, hA1, _, _, _, _⟩ := hA0
  have hA : DataW.TrodAll enc Tryd.prog W 0 (fun _ => true) true Tryd.f3.params.toList args.toList ds p := hA1
  rw [Tryd.params3] at hA hval
  obtain ⟨v0, vs0, d0, ds0, p0, q0, hargs, rfl, rfl, h0, r0⟩ := trodAll_cons hA
  obtain ⟨rfl, rfl, rfl⟩ := trodAll_nil r0
  obtain rfl : args = #[v0] := by cases args; simp_all
  have o0 := oCode Tryd.underlying22 Tryd.underlying5 (by kernel_rfl) (hval 0 22 v0 rfl rfl) h0
  refine (Ret.calls Tryd.func3 rfl (by kernel_rfl) (fnNum_ret (itoaOk_of (by kernel_rfl) (fun n w1 h0 h1 ht => Any.strconv_Itoa sh_laysM171 n h0 h1 w1 ht) (laidMet.tail (laidMet.tail hM))) (atoiOk_of hM) o0)).mono ?_
  rintro e W' ⟨v, rfl, rfl, hx⟩
  exact ⟨_, rfl, law_post Tryd.laidOut (by kernel_rfl) rfl Tryd.underlying4 rfl rfl hW hx⟩

theorem fnNum_row : Rows.FnNumSaid :=
  OpenClaim.holds_of_wide 3 Tryd.f3 rfl rfl rfl rfl rfl rfl rfl ⟨rfl, rfl, rfl, rfl, rfl⟩ rfl rfl rfl rfl rfl (by kernel_rfl) Tryd.func3 (by kernel_rfl)
    (of_decide_eq_true (by kernel_rfl)) (by unfold Func.isWrapper; first | (rw [if_pos (by decide +kernel)]; kernel_rfl) | (rw [if_neg (by decide +kernel)]; exact ⟨rfl, rfl⟩))
    (fun os started H enc _ => fnNum_lifted os started H enc)

theorem fnNum_holds : Rows.FnNumCardSaid := by
  unfold Rows.FnNumCardSaid Rows.fnNumCard
  exact Claim7.holds_tied_plain_at .later [] _ true _ true fnNum_row (fun _ h => by cases h) (by kernel_rfl) (fun _ h => by cases h) fnNum_row_tie rfl ⟨rfl, rfl⟩ (by kernel_rfl) rfl
    (fun f fn hf hfn => by
      obtain rfl : f = 3 := Option.some.inj ((show Tryd.prog.funcNamed Rows.fnNumRow.func = some 3 by kernel_rfl).symm.trans hf) |>.symm
      obtain rfl : fn = Tryd.f3 := (Option.some.inj (Tryd.func3.symm.trans hfn)).symm
      exact ⟨by kernel_rfl, fun j t ht => by
        rw [Tryd.params3] at ht
        have hm : t ∈ [22] := by simpa using Array.mem_of_getElem? ht
        have hall : ([22].all fun u => !Tryd.prog.wantsStandIn u) = true := by kernel_rfl
        exact (show Tryd.prog.wantsStandIn t = false by simpa using List.all_eq_true.1 hall t hm)⟩)
    (by kernel_rfl)
end Go.Proofs.YtmaklbdlijcopaaDoor
