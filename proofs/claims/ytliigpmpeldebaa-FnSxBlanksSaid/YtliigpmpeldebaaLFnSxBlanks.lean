/- FnSxBlanks returns true, for all arguments. Conditions: none. -/
import Derived.Test.YtliigpmpeldebaaSxM
import Derived.Test.YtliigpmpeldebaaSxK
import Derived.Test.YtliigpmpeldebaaLFnBig
namespace Go.Proofs.Ytliigpmpeldebaa
open Go.ChangeShapes Go.WideShapes Go.ChangeAt Go.RowKit

theorem prO_blanks (s : ByteArray) : prO ((⟨#[10, 32]⟩ : ByteArray) ++ s ++ ⟨#[32, 10]⟩).data.toList = prO s.data.toList := by
  refine prO_eq ?_
  have e : ((⟨#[10, 32]⟩ : ByteArray) ++ s ++ ⟨#[32, 10]⟩).data.toList = 10 :: 32 :: (s.data.toList ++ [32, 10]) := by simp
  rw [e, lexA_bl0 (by decide), lexA_bl0 (by decide), lexA_tail]

theorem fnSxBlanks_ret {W : World} {a0 : Value} (g0 : OCode W a0) : Ret Try.prog 3 [a0] W fun r w' => r = .bool true ∧ Ext W w' := by
  have hM : maxLen = 9223372036854775807 := rfl
  refine ret_of_vc ttOkD Try.func3 rfl (by kernel_rfl) (by kernel_rfl) ?_
  refine (c_big g0).mono ?_
  rintro _ w ⟨⟨b, rfl⟩, hww⟩
  obtain rfl : W = w := hww.symm
  obtain rfl | rfl : b = true ∨ b = false := by cases b <;> simp
  · exact ⟨rfl, Chg.refl _ _⟩
  refine (c_DrawParseSExpr g0).mono ?_
  rintro _ w1 ⟨⟨s, rfl, hs⟩, hx1⟩
  refine (c_iParseSExpr (by omega)).mono ?_
  have hb : ∀ x, prO s.data.toList = some x → okS x := fun x h => (prO_prs h).2
  have hbl := prO_blanks s
  have hle : ∀ o : Option Sx, (∀ x, o = some x → okS x) → Rose.cnt (o.getD (.mk em [])).kids ≤ 900 := by
    intro o h
    cases o with
    | none => exact Nat.zero_le _
    | some x => have := (h x rfl).1; show Rose.cnt x.kids ≤ 900; omega
  generalize ho : prO s.data.toList = o at hb hbl ⊢
  have hcn := hle o hb
  generalize hL : (o.getD (.mk em [])).lab = L
  generalize hK : (o.getD (.mk em [])).kids = KS at hcn
  rintro _ w2 ⟨hx2, v2, b2, rfl, hk2, _⟩
  rw [hL]
  rw [hK] at hk2
  obtain ⟨ao2, cap2, rfl, _, _⟩ := hk2.form
  refine Go1.al tiSx ?_
  intro w3 hx3 hb3
  have lt3 := hb3.lt
  refine Go0.st (off := 0) (vs := [.string L, .slice ao2 KS.length cap2]) hb3 rfl rfl (by simp [Value.cells]) (by simp [Value.oneCell']) ?_
  intro w4 hc4 hb4 _
  have hb4 : Blk w4 w2.heap.size 27 [.string L, .slice ao2 KS.length cap2] := hb4
  have hx24 : Ext w2 w4 := hx3.chg hc4 (by omega)
  refine (c_sParseSExpr (by omega)).mono ?_
  rw [ho]
  rintro _ w5 ⟨hx5, v5, b5, rfl, hk5, _⟩
  rw [hL]
  rw [hK] at hk5
  obtain ⟨ao5, cap5, rfl, _, _⟩ := hk5.form
  refine Go1.al tiSx ?_
  intro w6 hx6 hb6
  have lt6 := hb6.lt
  refine Go0.st (off := 0) (vs := [.string L, .slice ao5 KS.length cap5]) hb6 rfl rfl (by simp [Value.cells]) (by simp [Value.oneCell']) ?_
  intro w7 hc7 hb7 _
  have hb7 : Blk w7 w5.heap.size 27 [.string L, .slice ao5 KS.length cap5] := hb7
  have hx57 : Ext w5 w7 := hx6.chg hc7 (by omega)
  have hx47 := hx5.trans hx57
  have hb47 := hb4.ext hx47
  have hk27 := hk2.ext (hx24.trans hx47)
  refine Cm.nf rfl ?_
  refine Ld.agg (vs := [.string L, .slice ao2 KS.length cap2]) (Blk.lc0 (post := []) hb47) ?_
  refine Ld.agg (vs := [.string L, .slice ao5 KS.length cap5]) (Blk.lc0 (post := []) hb7) ?_
  refine (c_sEqualSExpr KS L L KS _ _ _ _ _ hk27 (hk5.ext hx57)).mono ?_
  rintro _ w8 ⟨⟨b1, rfl, hb1⟩, hx8⟩
  obtain rfl : b1 = true := hb1.2 ⟨rfl, rfl⟩
  have e1 : ((⟨#[10, 32]⟩ : ByteArray) ++ s).size = 2 + s.size := ByteArray.size_append
  have e2 : ((⟨#[10, 32]⟩ : ByteArray) ++ s ++ ⟨#[32, 10]⟩).size = 2 + s.size + 2 := by rw [ByteArray.size_append, e1]; rfl
  refine Go1.go (run_cat (by show 2 + s.size ≤ _; omega) _) ?_
  refine Go1.go (run_cat (by rw [e1]; show 2 + s.size + 2 ≤ _; omega) _) ?_
  refine (c_iParseSExpr (by omega)).mono ?_
  rw [hbl]
  rintro _ w9 ⟨hx9, v9, b9, rfl, hk9, _⟩
  rw [hL]
  rw [hK] at hk9
  obtain ⟨ao9, cap9, rfl, _, _⟩ := hk9.form
  refine Go1.al tiSx ?_
  intro wa hxa hba
  have lta := hba.lt
  refine Go0.st (off := 0) (vs := [.string L, .slice ao9 KS.length cap9]) hba rfl rfl (by simp [Value.cells]) (by simp [Value.oneCell']) ?_
  intro wb hcb hbb _
  have hbb : Blk wb w9.heap.size 27 [.string L, .slice ao9 KS.length cap9] := hbb
  have hx9b : Ext w9 wb := hxa.chg hcb (by omega)
  have hx7b := (hx8.trans hx9).trans hx9b
  have hb4b := hb47.ext hx7b
  have hk2b := hk27.ext hx7b
  have hx0b : Ext W wb := (((hx1.trans hx2).trans hx24).trans hx47).trans hx7b
  refine Cm.t rfl ?_
  cases o with
  | none => exact ⟨rfl, hx0b⟩
  | some x =>
    have hok := hb x rfl
    have hL : x.lab = L := hL
    have hK : x.kids = KS := hK
    refine Ld.agg (vs := [.string L, .slice ao9 KS.length cap9]) (Blk.lc0 (post := []) hbb) ?_
    refine Ld.agg (vs := [.string L, .slice ao2 KS.length cap2]) (Blk.lc0 (post := []) hb4b) ?_
    refine (c_sEqualSExpr KS L L KS _ _ _ _ _ (hk9.ext hx9b) hk2b).mono ?_
    rintro _ wc ⟨⟨b2, rfl, hb2⟩, hxc⟩
    obtain rfl : b2 = true := hb2.2 ⟨rfl, rfl⟩
    refine Ld.agg (vs := [.string L, .slice ao2 KS.length cap2]) (Blk.lc0 (post := []) (hb4b.ext hxc)) ?_
    refine (c_iSExprDepth KS (by omega) L wc _ _ (hk2b.ext hxc)).mono ?_
    rintro _ wd ⟨rfl, hxd⟩
    have hdp : dpS (.mk L KS) ≤ 14 := by have := hok.2.2; rw [← x.eta, hL, hK] at this; exact this
    refine Cm.t (by omega) ?_
    refine Ld.agg (vs := [.string L, .slice ao2 KS.length cap2]) (Blk.lc0 (post := []) ((hb4b.ext hxc).ext hxd)) ?_
    refine (c_iSExprSize KS (by omega) L wd _ _ ((hk2b.ext hxc).ext hxd)).mono ?_
    rintro _ we ⟨rfl, hxe⟩
    have hct : 1 + Rose.cnt KS ≤ 900 := by have := hok.1; rw [hK] at this; exact this
    refine Cm.t (by omega) ?_
    exact ⟨rfl, ((hx0b.trans hxc).trans hxd).trans hxe⟩

set_option maxRecDepth 100000 in
theorem fnSxBlanks_lifted (os : Os) (started : os.Started) (H : Type) (enc : TypeId × Value → H) :
    ReturnsInHanded {} Try.checked os 3 .any (Rows.fnSxBlanksSpec.pre6 enc Try.prog Try.f3 Rows.fnSxBlanksRow.domain false) (Rows.fnSxBlanksSpec.post enc Try.prog Try.f3 false true false false) := by
  refine returnsInHanded_of_change (C := Try.checked) Try.own started (by kernel_rfl) Try.func3
    (ChangeSpec.witness6 (enc := enc) (C := Try.checked) false ⟨#[], #[.slice none 0 0], []⟩ 8 (by kernel_rfl) (by kernel_rfl) (by kernel_rfl) (by kernel_rfl)) ?_
  intro W base args ds gs before hval0 hW _ _
  have hval : ∀ (j : Nat) t v, Try.f3.params[j]? = some t → args[j]? = some v → Value.okWide Try.prog W .any base t v := hval0
  have hA0 := hW
  obtain ⟨p, q, hA1, _, _, _, _⟩ := hA0
  have hA : DataW.TrodAll enc Try.prog W 0 (fun _ => true) true Try.f3.params.toList args.toList ds p := hA1
  rw [Try.params3] at hA hval
  obtain ⟨v0, vs0, d0, ds0, p0, q0, hargs, rfl, rfl, h0, r0⟩ := trodAll_cons hA
  obtain ⟨rfl, rfl, rfl⟩ := trodAll_nil r0
  obtain rfl : args = #[v0] := by cases args; simp_all
  have o0 := oCode Try.underlying22 Try.underlying5 (by kernel_rfl) (hval 0 22 v0 rfl rfl) h0
  refine (Ret.calls Try.func3 rfl (by kernel_rfl) (fnSxBlanks_ret o0)).mono ?_
  rintro e W' ⟨v, rfl, rfl, hx⟩
  exact ⟨_, rfl, law_post Try.laidOut (by kernel_rfl) rfl Try.underlying4 rfl rfl hW hx⟩

theorem fnSxBlanks_holds : Rows.FnSxBlanksSaid :=
  OpenClaim.holds_of_wide 3 Try.f3 rfl rfl rfl rfl rfl rfl rfl ⟨rfl, rfl, rfl, rfl, rfl⟩ rfl rfl rfl rfl rfl (by kernel_rfl) Try.func3 (by kernel_rfl)
    (of_decide_eq_true (by kernel_rfl)) (by unfold Func.isWrapper; first | (rw [if_pos (by decide +kernel)]; kernel_rfl) | (rw [if_neg (by decide +kernel)]; exact ⟨rfl, rfl⟩))
    (fun os started H enc _ => fnSxBlanks_lifted os started H enc)
end Go.Proofs.Ytliigpmpeldebaa
