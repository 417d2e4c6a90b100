/- FnExactSplitByte returns true, for all arguments. Conditions: none. -/
import Derived.Test.YtmaklbdlijcopaaDoorNumG
import Derived.Test.YtmaklbdlijcopaaDoorCard
import Derived.Test.YtmaklbdlijcopaaDoorMarkU
import Derived.Test.YtmaklbdlijcopaaDoorMarkV
namespace Go.Proofs.YtmaklbdlijcopaaDoor
open Go.ChangeShapes Go.WideShapes Go.ChangeAt Go.RowKit

theorem byte_of {n : Int} (h : (Lit.int .u8 n).wf = true) : ∃ b : UInt8, n = b.toNat := by
  have hx : 0 ≤ n ∧ n ≤ 255 := by simpa [Lit.wf, IntKind.min, IntKind.max, IntKind.signed, IntKind.bits] using h
  refine ⟨UInt8.ofNat n.toNat, ?_⟩
  rw [UInt8.toNat_ofNat']
  omega
theorem fnExactSplitByte_ret {W : World} {a0 a1 : Value} (hS : W.ShapedOpen Tryd.prog) (g0 : OStr W a0) (g1 : OInt .u8 W a1) : Ret Tryd.prog 5 [a0, a1] W fun r w' => r = .bool true ∧ Ext W w' := by
  obtain ⟨s0, rfl, hz0⟩ := g0
  obtain ⟨n1, rfl, hz1⟩ := g1
  refine ret_of_vc ttOk Tryd.func5 rfl (by kernel_rfl) (by kernel_rfl) ?_
  refine Cm.s (fun _ => ⟨rfl, (Chg.refl _ _)⟩) (fun hgt0 => ?_)
  obtain ⟨b, rfl⟩ := byte_of hz1
  have hln := spB_len b s0
  refine (c_sSplit (by omega) b).mono ?_
  rintro rw w1 ⟨hw1, bsw, kw, fw⟩
  have low := fw.lo
  have hiw := fw.lt
  refine (c_iSplit (by omega) b (shaped_ext hS hw1)).mono ?_
  rintro rg w2 ⟨hw2, bsg, kg, fg⟩
  have log := fg.lo
  have hig := fg.lt
  refine (c_eqStringS kg (kw.ext hw2)).mono ?_
  rintro r w3 ⟨rfl, hw3⟩
  rw [decide_eq_true rfl]
  have zzw1 := hw1.size
  have zzw2 := hw2.size
  have zzw3 := hw3.size
  refine (c_markStringS (k := 1) (kg.ext hw3) (fg.ext hw3) (by omega)).mono ?_
  rintro r w4 ⟨rfl, hcw4, kmg, fmg⟩
  have zzw4 := hcw4.size
  have hWw4 : Ext W w4 := Chg.big ((hw1.trans hw2).trans hw3) hcw4 (fun b hb => by have := log b hb; omega)
  replace fw := (fw.ext (hw2.trans hw3)).chg hcw4 (fun b hb hb' => by have := log b hb'; have := hig b hb'; have := low b hb; have := hiw b hb; omega)
  replace kw := (kw.ext (hw2.trans hw3)).chg hcw4 (fun b hb hb' => by have := log b hb'; have := hig b hb'; have := low b hb; have := hiw b hb; omega)
  replace kg := kmg
  replace fg := fmg
  refine (c_heldStringS (k := 1) kg (by omega)).mono ?_
  rintro r w5 ⟨rfl, hw5⟩
  refine Cm.f (by omega) ?_
  refine Cm.v (c := false) (by simp) ?_
  refine (c_iSplit (by omega) b (shaped_ext hS (hWw4.trans hw5))).mono ?_
  rintro rh w6 ⟨hw6, bsh, kh, fh⟩
  have loh := fh.lo
  have hih := fh.lt
  refine (c_eqStringS kh (kw.ext (hw5.trans hw6))).mono ?_
  rintro r w7 ⟨rfl, hw7⟩
  rw [decide_eq_true rfl]
  refine (c_heldStringS (k := 1) (kg.ext ((hw5.trans hw6).trans hw7)) (by omega)).mono ?_
  rintro r w8 ⟨rfl, hw8⟩
  refine Cm.f (by omega) ?_
  refine Cm.v (c := false) (by simp) ?_
  exact ⟨rfl, (hWw4.trans (((hw5.trans hw6).trans hw7).trans hw8))⟩

set_option maxRecDepth 100000 in
theorem fnExactSplitByte_lifted (os : Os) (started : os.Started) (H : Type) (enc : TypeId × Value → H) :
    ReturnsInHanded {} Tryd.checked os 5 .any (fun w args => (Rows.fnExactSplitByteSpec.pre enc Tryd.prog Tryd.f5 [] false w args ∧ laidMetH Tryd.prog Rows.fnExactSplitByteRow.laid w) ∧ sizedMet enc Tryd.prog Tryd.f5 (OpenSpec.ofChange Rows.fnExactSplitByteSpec) false w args)
      (Rows.fnExactSplitByteSpec.post enc Tryd.prog Tryd.f5 false true false false) := by
  refine handed_card (C := Tryd.checked) (X := fun w _ => laidMetH Tryd.prog Rows.fnExactSplitByteRow.laid w) (fun _ _ _ hh h => h.of_heap hh) Tryd.own started (by kernel_rfl) Tryd.func5
    (ChangeSpec.witness_shaped (enc := enc) (C := Tryd.checked) (os := os) (X := fun w _ => laidMetH Tryd.prog Rows.fnExactSplitByteRow.laid w) false (World.laidAll Tryd.prog os Rows.fnExactSplitByteRow.laid) #[.string ⟨#[]⟩, .int .u8 0] 8 (World.laidAll_os _ _ _)
      (World.shaped_of_ZipB (by kernel_rfl) (by kernel_rfl)) (by kernel_rfl) (by kernel_rfl) (by kernel_rfl)
      (by rw [MakeChecks.laidMetH_plain _ _ _ (by kernel_rfl)]; exact laidMet_laidAll _ (by kernel_rfl) (by kernel_rfl))) ?_
  intro W base args ds gs before hval0 hW hsh hL
  rw [MakeChecks.laidMetH_plain _ _ _ (by kernel_rfl)] at hL
  have hM : laidMet Tryd.prog Rows.fnExactSplitByteRow.laid W := hL
  have hval : ∀ (j : Nat) t v, Tryd.f5.params[j]? = some t → args[j]? = some v → Value.okWide Tryd.prog W .any base t v := hval0
  have hA0 := hW
  obtain ⟨p, q, hA1, _, _, _, _⟩ := hA0
  have hA : DataW.TrodAll enc Tryd.prog W 0 (fun _ => true) true Tryd.f5.params.toList args.toList ds p := hA1
  rw [Tryd.params5] at hA hval
  obtain ⟨v0, vs0, d0, ds0, p0, q0, hargs, rfl, rfl, h0, r0⟩ := trodAll_cons hA
  obtain ⟨v1, vs1, d1, ds1, p1, q1, rfl, rfl, rfl, h1, r1⟩ := trodAll_cons r0
  obtain ⟨rfl, rfl, rfl⟩ := trodAll_nil r1
  obtain rfl : args = #[v0, v1] := by cases args; simp_all
  have o0 := oStr Tryd.underlying9 (hval 0 9 v0 rfl rfl) h0
  have o1 := oInt Tryd.underlying5 (hval 1 5 v1 rfl rfl) h1
  refine (Ret.calls Tryd.func5 rfl (by kernel_rfl) (fnExactSplitByte_ret hsh o0 o1)).mono ?_
  rintro e W' ⟨v, rfl, rfl, hx⟩
  exact ⟨_, rfl, law_post Tryd.laidOut (by kernel_rfl) rfl Tryd.underlying4 rfl rfl hW hx⟩

theorem fnExactSplitByte_row : Rows.FnExactSplitByteSaid :=
  OpenClaim.holds_of_wide 5 Tryd.f5 rfl rfl rfl rfl rfl rfl rfl ⟨rfl, rfl, rfl, rfl, rfl⟩ rfl rfl rfl rfl rfl (by kernel_rfl) Tryd.func5 (by kernel_rfl)
    (of_decide_eq_true (by kernel_rfl)) (by unfold Func.isWrapper; first | (rw [if_pos (by decide +kernel)]; kernel_rfl) | (rw [if_neg (by decide +kernel)]; exact ⟨rfl, rfl⟩))
    (fun os started H enc _ => fnExactSplitByte_lifted os started H enc)

theorem fnExactSplitByte_holds : Rows.FnExactSplitByteCardSaid := by
  unfold Rows.FnExactSplitByteCardSaid Rows.fnExactSplitByteCard
  exact Claim7.holds_tied_plain_at .later [] _ true _ true fnExactSplitByte_row (fun _ h => by cases h) (by kernel_rfl) (fun _ h => by cases h) fnExactSplitByte_row_tie rfl ⟨rfl, rfl⟩ (by kernel_rfl) rfl
    (fun f fn hf hfn => by
      obtain rfl : f = 5 := Option.some.inj ((show Tryd.prog.funcNamed Rows.fnExactSplitByteRow.func = some 5 by kernel_rfl).symm.trans hf) |>.symm
      obtain rfl : fn = Tryd.f5 := (Option.some.inj (Tryd.func5.symm.trans hfn)).symm
      exact ⟨by kernel_rfl, fun j t ht => by
        rw [Tryd.params5] at ht
        have hm : t ∈ [9, 5] := by simpa using Array.mem_of_getElem? ht
        have hall : ([9, 5].all fun u => !Tryd.prog.wantsStandIn u) = true := by kernel_rfl
        exact (show Tryd.prog.wantsStandIn t = false by simpa using List.all_eq_true.1 hall t hm)⟩)
    (by kernel_rfl)
end Go.Proofs.YtmaklbdlijcopaaDoor
