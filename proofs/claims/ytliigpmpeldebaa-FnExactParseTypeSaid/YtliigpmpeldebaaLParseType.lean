/- FnExactParseType returns true, for all arguments. Conditions: none. -/
import Derived.Test.YtliigpmpeldebaaLawU
import Derived.Test.YtliigpmpeldebaaTyB
import Derived.Test.YtliigpmpeldebaaMarkU
import Derived.Test.YtliigpmpeldebaaMarkV
import Derived.Test.YtliigpmpeldebaaTyS
namespace Go.Proofs.Ytliigpmpeldebaa
open Go.ChangeShapes Go.WideShapes Go.ChangeAt Go.RowKit

theorem ptO_cnt (s : List UInt8) : Rose.cnt ((ptO s).getD (.mk (0, em) [])).kids ≤ 900 := by
  unfold ptO
  cases h : prO s with
  | none => exact Nat.zero_le _
  | some x =>
    have hok := (prO_prs h).2
    have h1 := hok.1
    have hal := fmS_al hok.2.1
    have h2 := stT_cnt (l := x.lab) (ks := x.kids) (Nat.le_trans hal.1 (by decide)) (Rose.AlL_imp (fun _ h => Nat.le_trans h (by decide)) _ hal.2)
    rw [x.eta] at h2
    show Rose.cnt ((stO x).getD (.mk (0, em) [])).kids ≤ 900
    omega

theorem fnExactParseType_ret {W : World} {a0 : Value} (g0 : OStr W a0) : Ret Try.prog 4 [a0] W fun r w' => r = .bool true ∧ Ext W w' := by
  obtain ⟨s0, rfl, hz0⟩ := g0
  refine ret_of_vc ttOk Try.func4 rfl (by kernel_rfl) (by kernel_rfl) ?_
  refine Cm.s (fun _ => ⟨rfl, (Chg.refl _ _)⟩) (fun hgt0 => ?_)
  have hst := ptO_cnt s0.data.toList
  refine (c_sParseType (by omega)).mono ?_
  rintro _ w1 ⟨hw1, vw, bsw, rfl, kw, fw⟩
  obtain ⟨arw, crw, rfl, _, _⟩ := kw.form
  refine Go1.al tiTy ?_
  intro w2 hw2 hbw2
  have ltw2 := hbw2.lt
  have szw2 := hw2.size
  refine Go0.st (off := 0) (vs := [.int .i64 ((ptO s0.data.toList).getD (.mk (0, em) [])).lab.1, .string ((ptO s0.data.toList).getD (.mk (0, em) [])).lab.2, .slice arw ((ptO s0.data.toList).getD (.mk (0, em) [])).kids.length crw]) hbw2 rfl rfl (by simp [Value.cells]) (by simp [Value.oneCell']) ?_
  intro w3 hcw3 hb0w3 _
  have hrbw : Blk w3 w1.heap.size 34 [.int .i64 ((ptO s0.data.toList).getD (.mk (0, em) [])).lab.1, .string ((ptO s0.data.toList).getD (.mk (0, em) [])).lab.2, .slice arw ((ptO s0.data.toList).getD (.mk (0, em) [])).kids.length crw] := hb0w3
  have hw3 : Ext w1 w3 := hw2.chg hcw3 (by omega)
  have low := fw.lo
  have hiw := fw.lt
  refine (c_iParseType (by omega)).mono ?_
  rintro _ w4 ⟨hw4, vg, bsg, rfl, kg, fg⟩
  obtain ⟨arg, crg, rfl, _, _⟩ := kg.form
  refine Go1.al tiTy ?_
  intro w5 hw5 hbw5
  have ltw5 := hbw5.lt
  have szw5 := hw5.size
  refine Go0.st (off := 0) (vs := [.int .i64 ((ptO s0.data.toList).getD (.mk (0, em) [])).lab.1, .string ((ptO s0.data.toList).getD (.mk (0, em) [])).lab.2, .slice arg ((ptO s0.data.toList).getD (.mk (0, em) [])).kids.length crg]) hbw5 rfl rfl (by simp [Value.cells]) (by simp [Value.oneCell']) ?_
  intro w6 hcw6 hb0w6 _
  have hrbg : Blk w6 w4.heap.size 34 [.int .i64 ((ptO s0.data.toList).getD (.mk (0, em) [])).lab.1, .string ((ptO s0.data.toList).getD (.mk (0, em) [])).lab.2, .slice arg ((ptO s0.data.toList).getD (.mk (0, em) [])).kids.length crg] := hb0w6
  have hw6 : Ext w4 w6 := hw5.chg hcw6 (by omega)
  have log := fg.lo
  have hig := fg.lt
  refine Ld.agg (vs := [.int .i64 ((ptO s0.data.toList).getD (.mk (0, em) [])).lab.1, .string ((ptO s0.data.toList).getD (.mk (0, em) [])).lab.2, .slice arg ((ptO s0.data.toList).getD (.mk (0, em) [])).kids.length crg]) (Blk.lc0 (post := []) hrbg) ?_
  refine Ld.agg (vs := [.int .i64 ((ptO s0.data.toList).getD (.mk (0, em) [])).lab.1, .string ((ptO s0.data.toList).getD (.mk (0, em) [])).lab.2, .slice arw ((ptO s0.data.toList).getD (.mk (0, em) [])).kids.length crw]) (Blk.lc0 (post := []) (hrbw.ext (hw4.trans hw6))) ?_
  refine (c_eqType (kg.ext hw6) (kw.ext ((hw3.trans hw4).trans hw6))).mono ?_
  rintro r w7 ⟨⟨b, rfl, hb⟩, hw7⟩
  obtain rfl : b = true := hb.2 ⟨rfl, rfl⟩
  refine Cm.v (c := false) (by simp) ?_
  refine Ld.agg (vs := [.int .i64 ((ptO s0.data.toList).getD (.mk (0, em) [])).lab.1, .string ((ptO s0.data.toList).getD (.mk (0, em) [])).lab.2, .slice arg ((ptO s0.data.toList).getD (.mk (0, em) [])).kids.length crg]) (Blk.lc0 (post := []) (hrbg.ext hw7)) ?_
  have zzw1 := hw1.size
  have zzw3 := hw3.size
  have zzw4 := hw4.size
  have zzw6 := hw6.size
  have zzw7 := hw7.size
  refine (c_markType (k := 1) (kg.ext (hw6.trans hw7)) (fg.ext (hw6.trans hw7)) (by omega)).mono ?_
  rintro r w8 ⟨rfl, hcw8, kmg, fmg⟩
  have zzw8 := hcw8.size
  have hWw8 : Ext W w8 := Chg.big ((((hw1.trans hw3).trans hw4).trans hw6).trans hw7) hcw8 (fun b hb => by have := log b hb; omega)
  replace fw := (fw.ext (((hw3.trans hw4).trans hw6).trans hw7)).chg hcw8 (fun b hb hb' => by have := log b hb'; have := hig b hb'; have := low b hb; have := hiw b hb; omega)
  replace kw := (kw.ext (((hw3.trans hw4).trans hw6).trans hw7)).chg hcw8 (fun b hb hb' => by have := log b hb'; have := hig b hb'; have := low b hb; have := hiw b hb; omega)
  have lthrbw := hrbw.lt
  replace hrbw := (hrbw.ext ((hw4.trans hw6).trans hw7)).chg hcw8 (fun hb' => by have := log _ hb'; have := hig _ hb'; omega)
  have lthrbg := hrbg.lt
  replace hrbg := (hrbg.ext hw7).chg hcw8 (fun hb' => by have := log _ hb'; have := hig _ hb'; omega)
  replace kg := kmg
  replace fg := fmg
  refine Ld.agg (vs := [.int .i64 ((ptO s0.data.toList).getD (.mk (0, em) [])).lab.1, .string ((ptO s0.data.toList).getD (.mk (0, em) [])).lab.2, .slice arg ((ptO s0.data.toList).getD (.mk (0, em) [])).kids.length crg]) (Blk.lc0 (post := []) hrbg) ?_
  refine (c_heldType (k := 1) kg (by omega)).mono ?_
  rintro r w9 ⟨rfl, hw9⟩
  refine Cm.f (by omega) ?_
  refine Cm.v (c := false) (by simp) ?_
  refine (c_iParseType (by omega)).mono ?_
  rintro _ w10 ⟨hw10, vh, bsh, rfl, kh, fh⟩
  obtain ⟨arh, crh, rfl, _, _⟩ := kh.form
  refine Go1.al tiTy ?_
  intro w11 hw11 hbw11
  have ltw11 := hbw11.lt
  have szw11 := hw11.size
  refine Go0.st (off := 0) (vs := [.int .i64 ((ptO s0.data.toList).getD (.mk (0, em) [])).lab.1, .string ((ptO s0.data.toList).getD (.mk (0, em) [])).lab.2, .slice arh ((ptO s0.data.toList).getD (.mk (0, em) [])).kids.length crh]) hbw11 rfl rfl (by simp [Value.cells]) (by simp [Value.oneCell']) ?_
  intro w12 hcw12 hb0w12 _
  have hrbh : Blk w12 w10.heap.size 34 [.int .i64 ((ptO s0.data.toList).getD (.mk (0, em) [])).lab.1, .string ((ptO s0.data.toList).getD (.mk (0, em) [])).lab.2, .slice arh ((ptO s0.data.toList).getD (.mk (0, em) [])).kids.length crh] := hb0w12
  have hw12 : Ext w10 w12 := hw11.chg hcw12 (by omega)
  have loh := fh.lo
  have hih := fh.lt
  refine Ld.agg (vs := [.int .i64 ((ptO s0.data.toList).getD (.mk (0, em) [])).lab.1, .string ((ptO s0.data.toList).getD (.mk (0, em) [])).lab.2, .slice arh ((ptO s0.data.toList).getD (.mk (0, em) [])).kids.length crh]) (Blk.lc0 (post := []) hrbh) ?_
  refine Ld.agg (vs := [.int .i64 ((ptO s0.data.toList).getD (.mk (0, em) [])).lab.1, .string ((ptO s0.data.toList).getD (.mk (0, em) [])).lab.2, .slice arw ((ptO s0.data.toList).getD (.mk (0, em) [])).kids.length crw]) (Blk.lc0 (post := []) (hrbw.ext ((hw9.trans hw10).trans hw12))) ?_
  refine (c_eqType (kh.ext hw12) (kw.ext ((hw9.trans hw10).trans hw12))).mono ?_
  rintro r w13 ⟨⟨b, rfl, hb⟩, hw13⟩
  obtain rfl : b = true := hb.2 ⟨rfl, rfl⟩
  refine Cm.v (c := false) (by simp) ?_
  refine Ld.agg (vs := [.int .i64 ((ptO s0.data.toList).getD (.mk (0, em) [])).lab.1, .string ((ptO s0.data.toList).getD (.mk (0, em) [])).lab.2, .slice arg ((ptO s0.data.toList).getD (.mk (0, em) [])).kids.length crg]) (Blk.lc0 (post := []) (hrbg.ext (((hw9.trans hw10).trans hw12).trans hw13))) ?_
  refine (c_heldType (k := 1) (kg.ext (((hw9.trans hw10).trans hw12).trans hw13)) (by omega)).mono ?_
  rintro r w14 ⟨rfl, hw14⟩
  refine Cm.f (by omega) ?_
  refine Cm.v (c := false) (by simp) ?_
  exact ⟨rfl, (hWw8.trans ((((hw9.trans hw10).trans hw12).trans hw13).trans hw14))⟩

set_option maxRecDepth 100000 in
theorem fnExactParseType_lifted (os : Os) (started : os.Started) (H : Type) (enc : TypeId × Value → H) :
    ReturnsInHanded {} Try.checked os 4 .any (Rows.fnExactParseTypeSpec.pre6 enc Try.prog Try.f4 Rows.fnExactParseTypeRow.domain false) (Rows.fnExactParseTypeSpec.post enc Try.prog Try.f4 false true false false) := by
  refine returnsInHanded_of_change (C := Try.checked) Try.own started (by kernel_rfl) Try.func4
    (ChangeSpec.witness6 (enc := enc) (C := Try.checked) false ⟨#[], #[.string ⟨#[]⟩], []⟩ 8 (by kernel_rfl) (by kernel_rfl) (by kernel_rfl) (by kernel_rfl)) ?_
  intro W base args ds gs before hval0 hW _ _
  have hval : ∀ (j : Nat) t v, Try.f4.params[j]? = some t → args[j]? = some v → Value.okWide Try.prog W .any base t v := hval0
  have hA0 := hW
  obtain ⟨p, q, hA1, _, _, _, _⟩ := hA0
  have hA : DataW.TrodAll enc Try.prog W 0 (fun _ => true) true Try.f4.params.toList args.toList ds p := hA1
  rw [Try.params4] at hA hval
  obtain ⟨v0, vs0, d0, ds0, p0, q0, hargs, rfl, rfl, h0, r0⟩ := trodAll_cons hA
  obtain ⟨rfl, rfl, rfl⟩ := trodAll_nil r0
  obtain rfl : args = #[v0] := by cases args; simp_all
  have o0 := oStr Try.underlying9 (hval 0 9 v0 rfl rfl) h0
  refine (Ret.calls Try.func4 rfl (by kernel_rfl) (fnExactParseType_ret o0)).mono ?_
  rintro e W' ⟨v, rfl, rfl, hx⟩
  exact ⟨_, rfl, law_post Try.laidOut (by kernel_rfl) rfl Try.underlying4 rfl rfl hW hx⟩

theorem fnExactParseType_holds : Rows.FnExactParseTypeSaid :=
  OpenClaim.holds_of_wide 4 Try.f4 rfl rfl rfl rfl rfl rfl rfl ⟨rfl, rfl, rfl, rfl, rfl⟩ rfl rfl rfl rfl rfl (by kernel_rfl) Try.func4 (by kernel_rfl)
    (of_decide_eq_true (by kernel_rfl)) (by unfold Func.isWrapper; first | (rw [if_pos (by decide +kernel)]; kernel_rfl) | (rw [if_neg (by decide +kernel)]; exact ⟨rfl, rfl⟩))
    (fun os started H enc _ => fnExactParseType_lifted os started H enc)
end Go.Proofs.Ytliigpmpeldebaa
