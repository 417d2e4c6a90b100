/- FnSx returns true, for all arguments. Conditions: none. -/
import Derived.Test.YtdoanmhiedemaaaSxL
import Derived.Test.YtdoanmhiedemaaaSxK
import Derived.Test.YtdoanmhiedemaaaPxB
import Derived.Test.YtdoanmhiedemaaaLFnBig
import Derived.Test.YtdoanmhiedemaaaDrawH
namespace Go.Proofs.Ytdoanmhiedemaaa
open Go.ChangeShapes Go.WideShapes Go.ChangeAt Go.RowKit

theorem wtL_sm (ks : List Sx) : SmL ks → Rose.wtL ByteArray.size ks ≤ 17 * Rose.cnt ks := by
  refine Rose.forest (p := fun ks => SmL ks → Rose.wtL ByteArray.size ks ≤ 17 * Rose.cnt ks) (fun ks ih => ?_) ks
  induction ks with
  | nil => intro _; rw [Rose.wtL_nil]; exact Nat.zero_le _
  | cons k ks ihk =>
    intro h
    have h1 := Rose.AlL_mem h (List.mem_cons_self)
    have h2 := ih k List.mem_cons_self h1.2
    have h3 := ihk (fun t ht => ih t (List.mem_cons_of_mem _ ht)) (Rose.AlL_of fun t ht => Rose.AlL_mem h (List.mem_cons_of_mem _ ht))
    have e : Rose.cnt (k :: ks) = 1 + 0 + Rose.cnt k.kids + Rose.cnt ks := Rose.wtL_cons _ _ _
    rw [Rose.wtL_cons, e]
    have := h1.1
    omega
theorem fmtS_len {l : ByteArray} {ks : List Sx} (h : Sm (.mk l ks)) (hc : 1 + Rose.cnt ks ≤ 1024) : 1 + l.size + Rose.wtL ByteArray.size ks ≤ 65536 ∧ (fmtS (.mk l ks)).size ≤ 2097152 := by
  have h1 := wtL_sm ks h.2
  have h2 := txS_len l ks
  have h3 : l.size ≤ 16 := h.1
  refine ⟨by omega, ?_⟩
  unfold fmtS
  split
  · rw [tb_size]; omega
  · exact Nat.zero_le _

theorem fnSx_ret {W : World} {a0 : Value} (g0 : OCode W a0) : Ret Try.prog 10 [a0] W fun r w' => r = .bool true ∧ Ext W w' := by
  have hM : maxLen = 9223372036854775807 := rfl
  refine ret_of_vc ttOkD Try.func10 rfl (by kernel_rfl) (by kernel_rfl) ?_
  refine (c_big g0).mono ?_
  rintro _ w ⟨⟨b, rfl⟩, hww⟩
  obtain rfl : W = w := hww.symm
  obtain rfl | rfl : b = true ∨ b = false := by cases b <;> simp
  · exact ⟨rfl, Chg.refl _ _⟩
  refine (c_DrawFormatSExpr g0).mono ?_
  rintro _ w1 ⟨hx1, ⟨l, ks⟩, u, bs, rfl, hk, _, hcn, hsm⟩
  simp only [Rose.lab, Rose.kids] at hk hcn ⊢
  obtain ⟨hW, hF⟩ := fmtS_len hsm hcn
  have hl : l.size ≤ maxLen := Nat.le_trans hsm.1 (by decide)
  have ha : Rose.AlL (fun s : ByteArray => s.size ≤ maxLen) ks := Rose.AlL_imp (fun _ h => Nat.le_trans h (by decide)) _ hsm.2
  obtain ⟨ao, cap, rfl, hm, _⟩ := hk.form
  refine Go1.al tiSx ?_
  intro w2 hx2 hb2
  have lt2 := hb2.lt
  refine Go0.st (off := 0) (vs := [.string l, .slice ao ks.length cap]) hb2 rfl rfl (by simp [Value.cells]) (by simp [Value.oneCell']) ?_
  intro w3 hc3 hb3 _
  have hb3 : Blk w3 w1.heap.size 39 [.string l, .slice ao ks.length cap] := hb3
  have hx13 : Ext w1 w3 := hx2.chg hc3 (by omega)
  have hk3 := hk.ext hx13
  refine Ld.agg (vs := [.string l, .slice ao ks.length cap]) (Blk.lc0 (post := []) hb3) ?_
  refine (c_iFormatSExpr hl ha (by omega) (by omega) hk3).mono ?_
  rintro _ w4 ⟨rfl, hx4⟩
  refine (c_iParseSExpr hF).mono ?_
  have ho : (okS (.mk l ks) ∧ prO (fmtS (.mk l ks)).data.toList = some (.mk l ks)) ∨ (¬ okS (.mk l ks) ∧ prO (fmtS (.mk l ks)).data.toList = none) := by
    unfold fmtS
    by_cases h : okS (.mk l ks)
    · rw [if_pos h]
      exact .inl ⟨h, prO_some (prs_txS h)⟩
    · rw [if_neg h]
      exact .inr ⟨h, prO_none not_prs_nil⟩
  generalize prO (fmtS (.mk l ks)).data.toList = o at ho
  rintro _ w5 ⟨hx5, v, b5, rfl, hk5, _⟩
  obtain ⟨ao5, cap5, rfl, _, _⟩ := hk5.form
  refine Go1.al tiSx ?_
  intro w6 hx6 hb6
  have lt6 := hb6.lt
  refine Go0.st (off := 0) (vs := [.string (o.getD (.mk em [])).lab, .slice ao5 (o.getD (.mk em [])).kids.length cap5]) hb6 rfl rfl (by simp [Value.cells]) (by simp [Value.oneCell']) ?_
  intro w7 hc7 hb7 _
  have hb7 : Blk w7 w5.heap.size 39 [.string (o.getD (.mk em [])).lab, .slice ao5 (o.getD (.mk em [])).kids.length cap5] := hb7
  have hx57 : Ext w5 w7 := hx6.chg hc7 (by omega)
  have hx37 : Ext w3 w7 := (hx4.trans hx5).trans hx57
  have hx07 : Ext W w7 := hx1.trans (hx13.trans hx37)
  have hk7 := hk3.ext hx37
  have hld := fun (u : World) (hu : Ext w7 u) => Blk.lc0 (post := []) (xs := [.string l, .slice ao ks.length cap]) ((hb3.ext hx37).ext hu)
  refine Dr.t [0, 1, 2, 3, 4, 5, 7, 6, 8, 9, 10, 11, 12, 13, 14, 15, 16, 17, 18, 19, 20, 21, 22, 23, 24, 25, 26, 27, 28, 29, 30, 31] [0, 0, 2, 7, 15, 31, 63, 31, 255, 511, 1023, 2047, 4095, 4095, 12287, 32767, 65535, 131071, 262143, 524287, 1048575, 2097151, 2097151, 8388607, 16777215, 33554431, 33554431, 134217727, 268435455, 536870911, 1073741823, 2147483647] [6, 7, 22, 26] ttOkD ?_
  refine LdS.xn (vs := [.string l, .slice ao ks.length cap]) (hld w7 (Chg.refl _ _)) ?_
  refine ⟨fun u1 hu1 => ?_⟩
  refine (c_sFormatSExpr hl ha (by omega) (hk7.ext hu1)).mono ?_
  rintro _ u2 ⟨rfl, hu2⟩
  refine Af.ext (hu1.trans hu2) ?_
  have h2 := hu1.trans hu2
  refine Cm.t rfl ?_
  refine LdS.xn (vs := [.string l, .slice ao ks.length cap]) (hld u2 h2) ?_
  refine LdS.xn (vs := [.string l, .slice ao ks.length cap]) (hld u2 h2) ?_
  refine ⟨fun u3 hu3 => ?_⟩
  refine (c_iIsValidSExpr hl ha (by omega) (hk7.ext (h2.trans hu3))).mono ?_
  rintro _ u4 ⟨⟨b1, rfl, hb1⟩, hu4⟩
  refine Af.ext (hu3.trans hu4) ?_
  have h4 := h2.trans (hu3.trans hu4)
  refine ⟨fun u5 hu5 => ?_⟩
  refine (c_sIsValidSExpr hl ha (hk7.ext (h4.trans hu5))).mono ?_
  rintro _ u6 ⟨⟨b2, rfl, hb2⟩, hu6⟩
  refine Af.ext (hu5.trans hu6) ?_
  have h6 := h4.trans (hu5.trans hu6)
  obtain rfl : b1 = b2 := by rw [Bool.eq_iff_iff, hb1, hb2]
  refine Cm.t rfl ?_
  refine LdS.xn (vs := [.string l, .slice ao ks.length cap]) (hld u6 h6) ?_
  refine ⟨fun u7 hu7 => ?_⟩
  refine (c_sIsValidSExpr hl ha (hk7.ext (h6.trans hu7))).mono ?_
  rintro _ u8 ⟨⟨b3, rfl, hb3'⟩, hu8⟩
  refine Af.ext (hu7.trans hu8) ?_
  have h8 := h6.trans (hu7.trans hu8)
  obtain ⟨hok, rfl⟩ | ⟨hok, rfl⟩ := ho
  · obtain rfl : b3 = true := hb3'.2 hok
    simp only [Option.getD_some, Option.isSome_some, Rose.lab, Rose.kids] at hk5 hb7 ⊢
    have hk57 := hk5.ext hx57
    have hld5 := fun (u : World) (hu : Ext w7 u) => Blk.lc0 (post := []) (xs := [.string l, .slice ao5 ks.length cap5]) (hb7.ext hu)
    refine Cm.t rfl ?_
    refine LdS.xn (vs := [.string l, .slice ao ks.length cap]) (hld u8 h8) ?_
    refine LdS.xn (vs := [.string l, .slice ao5 ks.length cap5]) (hld5 u8 h8) ?_
    refine ⟨fun u9 hu9 => ?_⟩
    refine (c_sEqualSExpr ks l l ks _ _ _ _ _ (hk7.ext (h8.trans hu9)) (hk57.ext (h8.trans hu9))).mono ?_
    rintro _ u10 ⟨⟨b4, rfl, hb4⟩, hu10⟩
    obtain rfl : b4 = true := hb4.2 ⟨rfl, rfl⟩
    refine Af.ext (hu9.trans hu10) ?_
    have h10 := h8.trans (hu9.trans hu10)
    refine LdS.xn (vs := [.string l, .slice ao ks.length cap]) (hld u10 h10) ?_
    refine LdS.xn (vs := [.string l, .slice ao5 ks.length cap5]) (hld5 u10 h10) ?_
    refine ⟨fun u11 hu11 => ?_⟩
    refine (c_iEqualSExpr (hk7.ext (h10.trans hu11)) (hk57.ext (h10.trans hu11))).mono ?_
    rintro _ u12 ⟨⟨b5, rfl, hb5⟩, hu12⟩
    obtain rfl : b5 = true := hb5.2 ⟨rfl, rfl⟩
    refine Af.ext (hu11.trans hu12) ?_
    intro u13 hu13
    exact ⟨rfl, hx07.trans ((h10.trans (hu11.trans hu12)).trans hu13)⟩
  · obtain rfl : b3 = false := by
      cases b3 with
      | false => rfl
      | true => exact absurd (hb3'.1 rfl) hok
    simp only [Option.getD_none, Option.isSome_none, Rose.lab, Rose.kids] at hk5 hb7 ⊢
    refine Cm.t rfl ?_
    intro u13 hu13
    exact ⟨rfl, hx07.trans (h8.trans hu13)⟩

set_option maxRecDepth 100000 in
theorem fnSx_lifted (os : Os) (started : os.Started) (H : Type) (enc : TypeId × Value → H) :
    ReturnsInHanded {} Try.checked os 10 .any (Rows.fnSxSpec.pre6 enc Try.prog Try.f10 Rows.fnSxRow.domain false) (Rows.fnSxSpec.post enc Try.prog Try.f10 false true false false) := by
  refine returnsInHanded_of_change (C := Try.checked) Try.own started (by kernel_rfl) Try.func10
    (ChangeSpec.witness6 (enc := enc) (C := Try.checked) false ⟨#[], #[.slice none 0 0], []⟩ 8 (by kernel_rfl) (by kernel_rfl) (by kernel_rfl) (by kernel_rfl)) ?_
  intro W base args ds gs before hval0 hW _ _
  have hval : ∀ (j : Nat) t v, Try.f10.params[j]? = some t → args[j]? = some v → Value.okWide Try.prog W .any base t v := hval0
  have hA0 := hW
  obtain ⟨p, q, hA1, _, _, _, _⟩ := hA0
  have hA : DataW.TrodAll enc Try.prog W 0 (fun _ => true) true Try.f10.params.toList args.toList ds p := hA1
  rw [Try.params10] at hA hval
  obtain ⟨v0, vs0, d0, ds0, p0, q0, hargs, rfl, rfl, h0, r0⟩ := trodAll_cons hA
  obtain ⟨rfl, rfl, rfl⟩ := trodAll_nil r0
  obtain rfl : args = #[v0] := by cases args; simp_all
  have o0 := oCode Try.underlying50 Try.underlying5 (by kernel_rfl) (hval 0 50 v0 rfl rfl) h0
  refine (Ret.calls Try.func10 rfl (by kernel_rfl) (fnSx_ret o0)).mono ?_
  rintro e W' ⟨v, rfl, rfl, hx⟩
  exact ⟨_, rfl, law_post Try.laidOut (by kernel_rfl) rfl Try.underlying4 rfl rfl hW hx⟩

theorem fnSx_holds : Rows.FnSxSaid :=
  OpenClaim.holds_of_wide 10 Try.f10 rfl rfl rfl rfl rfl rfl rfl ⟨rfl, rfl, rfl, rfl, rfl⟩ rfl rfl rfl rfl rfl (by kernel_rfl) Try.func10 (by kernel_rfl)
    (of_decide_eq_true (by kernel_rfl)) (by unfold Func.isWrapper; first | (rw [if_pos (by decide +kernel)]; kernel_rfl) | (rw [if_neg (by decide +kernel)]; exact ⟨rfl, rfl⟩))
    (fun os started H enc _ => fnSx_lifted os started H enc)
end Go.Proofs.Ytdoanmhiedemaaa
