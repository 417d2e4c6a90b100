/- FnTyText returns true, for all arguments. Conditions: none. -/
import Derived.Test.YtliigpmpeldebaaGreatJTyK
import Derived.Test.YtliigpmpeldebaaGreatJTyT
import Derived.Test.YtliigpmpeldebaaGreatTyB
namespace Go.Proofs.YtliigpmpeldebaaGreat
open Go.ChangeShapes Go.WideShapes Go.ChangeAt Go.RowKit

theorem fmtT_len (t : Tp) : (fmtT t).size ≤ 2097152 := by
  unfold fmtT
  split
  · rename_i h
    unfold fmtS
    split
    · have h1 := enS_wt1 h
      have h2 := txS_len (enS t).lab (enS t).kids
      rw [(enS t).eta] at h2
      rw [tb_size]
      omega
    · exact Nat.zero_le _
  · exact Nat.zero_le _
theorem okT_sz {t : Tp} (h : okT t) : t.lab.2.size ≤ maxLen ∧ Rose.AlL (fun s : TLab => s.2.size ≤ maxLen) t.kids := by
  have key : ∀ ks : List Tp, (∀ t ∈ ks, fmT t) → Rose.AlL (fun s : TLab => s.2.size ≤ maxLen) ks := fun ks => by
    refine Rose.forest (p := fun ks => (∀ t ∈ ks, fmT t) → Rose.AlL (fun s : TLab => s.2.size ≤ maxLen) ks) (fun ks ih hf => Rose.AlL_of fun t ht => ?_) ks
    have h1 := hf t ht
    have h2 := ih t ht
    cases t with
    | mk l ls =>
      rw [fmT_iff] at h1
      exact ⟨Nat.le_trans (head_size h1.1) (by decide), h2 h1.2⟩
  exact Rose.AlL_mem (key [t] (by simpa using h.2.1)) List.mem_cons_self
/-- spec.DrawFormatType -/
theorem c_DrawFormatType {w : World} {v : Value} (hv : OCode w v) : Ret Tryz.prog 5 [v] w fun r w' => Ext w w' ∧ ∃ (t : Tp) (u : Value) (bs : List Nat), r = .agg #[.int .i64 t.lab.1, .string t.lab.2, u] ∧ Kids encT w' u t.kids bs ∧ Qb 128 t := by
  have hM : maxLen = 9223372036854775807 := rfl
  obtain ⟨zs0, bs0, hr0⟩ := hv
  refine ret_of_vc ttOkD Tryz.func5 rfl (by kernel_rfl) (by kernel_rfl) ?_
  refine Go1.al tiTy ?_
  intro w1 hx1 hb1
  have lt1 := hb1.lt
  refine (c_l1New ⟨zs0, bs0, hr0.ext hx1⟩).mono ?_
  rintro _ w2 ⟨hx2, g, rfl, hg, hc2⟩
  have hg2 := hc2.lt
  have sz2 := hx2.size
  refine (c_l4Bent hc2).mono ?_
  rintro _ w3 ⟨⟨t, u, O, cs, rfl, hgt, hq⟩, hd⟩
  obtain ⟨ao, cap, bs, rfl, hk, hf, _⟩ := kidsN hgt hq.1 (by decide)
  have hx3 : Ext w w3 := (hx1.trans hx2).chg hd.1 (fun x hx => by omega)
  refine Go0.st (off := 0) (vs := [.int .i64 t.lab.1, .string t.lab.2, .slice ao t.kids.length cap]) (hd.blk (hb1.ext hx2) (by omega)) rfl rfl (by simp [Value.cells]) (by simp [Value.oneCell']) ?_
  intro w4 hc4 hb4 _
  have hb4 : Blk w4 w.heap.size 26 [.int .i64 t.lab.1, .string t.lab.2, .slice ao t.kids.length cap] := hb4
  refine Ld.agg (vs := [.int .i64 t.lab.1, .string t.lab.2, .slice ao t.kids.length cap]) (Blk.lc0 (post := []) hb4) ?_
  exact ⟨hx3.chg hc4 (by omega), t, _, bs, rfl, hk.chg hc4 (fun b hb => by have := hf.lo b hb; omega), hq⟩

theorem fnTyText_ret {W : World} {a0 : Value} (g0 : OCode W a0) : Ret Tryz.prog 3 [a0] W fun r w' => r = .bool true ∧ Ext W w' := by
  have hM : maxLen = 9223372036854775807 := rfl
  have g1 := g0
  obtain ⟨zs0, bs0, hr0⟩ := g1
  refine ret_of_vc ttOkD Tryz.func3 rfl (by kernel_rfl) (by kernel_rfl) ?_
  refine (c_big g0).mono ?_
  rintro _ w ⟨⟨b, rfl⟩, hww⟩
  obtain rfl : W = w := hww.symm
  obtain rfl | rfl : b = true ∨ b = false := by cases b <;> simp
  · exact ⟨rfl, Chg.refl _ _⟩
  refine (c_DrawFormatType g0).mono ?_
  rintro _ w1 ⟨hx1, T, u, bs, rfl, hk, hq⟩
  obtain ⟨l, ks⟩ := T
  obtain ⟨hl, ha⟩ := Nm.big hq.2.1
  have hcn : 1 + Rose.cnt ks ≤ 128 := hq.1
  simp only [Rose.lab, Rose.kids] at hk ⊢
  obtain ⟨ao, cap, rfl, hm, _⟩ := hk.form
  refine Go1.al tiTy ?_
  intro w2 hx2 hb2
  have lt2 := hb2.lt
  refine Go0.st (off := 0) (vs := [.int .i64 l.1, .string l.2, .slice ao ks.length cap]) hb2 rfl rfl (by simp [Value.cells]) (by simp [Value.oneCell']) ?_
  intro w3 hc3 hb3 _
  have hb3 : Blk w3 w1.heap.size 26 [.int .i64 l.1, .string l.2, .slice ao ks.length cap] := hb3
  have hx13 : Ext w1 w3 := hx2.chg hc3 (by omega)
  have hx03 := hx1.trans hx13
  have hk3 := hk.ext hx13
  refine Ld.agg (vs := [.int .i64 l.1, .string l.2, .slice ao ks.length cap]) (Blk.lc0 (post := []) hb3) ?_
  refine (c_iFormatType hl ha (by omega) hk3).mono ?_
  rintro _ w4 ⟨rfl, hx4⟩
  have hF := fmtT_len (.mk l ks)
  have ho := ptO_fmt (.mk l ks)
  refine (c_iParseType hF).mono ?_
  generalize ptO (fmtT (.mk l ks)).data.toList = o at ho
  rintro _ w5 ⟨hx5, v5, b5, rfl, hk5, _⟩
  obtain ⟨ao5, cap5, rfl, _, _⟩ := hk5.form
  refine Go1.al tiTy ?_
  intro w6 hx6 hb6
  have lt6 := hb6.lt
  refine Go0.st (off := 0) (vs := [.int .i64 (o.getD (.mk (0, em) [])).lab.1, .string (o.getD (.mk (0, em) [])).lab.2, .slice ao5 (o.getD (.mk (0, em) [])).kids.length cap5]) hb6 rfl rfl (by simp [Value.cells]) (by simp [Value.oneCell']) ?_
  intro w7 hc7 hb7 _
  have hb7 : Blk w7 w5.heap.size 26 [.int .i64 (o.getD (.mk (0, em) [])).lab.1, .string (o.getD (.mk (0, em) [])).lab.2, .slice ao5 (o.getD (.mk (0, em) [])).kids.length cap5] := hb7
  have hx57 : Ext w5 w7 := hx6.chg hc7 (by omega)
  have hx37 : Ext w3 w7 := (hx4.trans hx5).trans hx57
  have hx07 := hx03.trans hx37
  refine (c_DrawSExprToType ⟨zs0, bs0, hr0.ext hx07⟩).mono ?_
  rintro _ w8 ⟨hx8, X, ux, bx, rfl, hkX, hX⟩
  obtain ⟨aox, capx, rfl, _, _⟩ := hkX.form
  refine Go1.al tiSx ?_
  intro w9 hx9 hb9
  have lt9 := hb9.lt
  refine Go0.st (off := 0) (vs := [.string X.lab, .slice aox X.kids.length capx]) hb9 rfl rfl (by simp [Value.cells]) (by simp [Value.oneCell']) ?_
  intro wa hca hba _
  have hba : Blk wa w8.heap.size 33 [.string X.lab, .slice aox X.kids.length capx] := hba
  have hx8a : Ext w8 wa := hx9.chg hca (by omega)
  have hx7a := hx8.trans hx8a
  have hkXa := hkX.ext hx8a
  have hXl : X.lab.size ≤ maxLen := Nat.le_trans hX.2.1 (by decide)
  have hXa : Rose.AlL (fun s : ByteArray => s.size ≤ maxLen) X.kids := Rose.AlL_imp (fun _ h => Nat.le_trans h (by decide)) _ hX.2.2
  have hXc := hX.1
  refine Ld.agg (vs := [.string X.lab, .slice aox X.kids.length capx]) (Blk.lc0 (post := []) hba) ?_
  refine (c_iSExprToType (rd_ok rd_deI hXl hXa (by omega)) (by omega) hkXa).mono ?_
  rw [X.eta]
  have hso : ∀ p, stO X = some p → okT p ∧ enS p = X := fun p h => stO_some h
  have hpc := stT_cnt hXl hXa
  rw [X.eta] at hpc
  generalize hs0 : stO X = p at hso hpc ⊢
  rintro _ wb ⟨hxb, vb, bb, rfl, hkb, _⟩
  obtain ⟨aob, capb, rfl, _, _⟩ := hkb.form
  refine Go1.al tiTy ?_
  intro wc hxc hbc
  have ltc := hbc.lt
  refine Go0.st (off := 0) (vs := [.int .i64 (p.getD (.mk (0, em) [])).lab.1, .string (p.getD (.mk (0, em) [])).lab.2, .slice aob (p.getD (.mk (0, em) [])).kids.length capb]) hbc rfl rfl (by simp [Value.cells]) (by simp [Value.oneCell']) ?_
  intro wd hcd hbd _
  have hbd : Blk wd wb.heap.size 26 [.int .i64 (p.getD (.mk (0, em) [])).lab.1, .string (p.getD (.mk (0, em) [])).lab.2, .slice aob (p.getD (.mk (0, em) [])).kids.length capb] := hbd
  have hxbd : Ext wb wd := hxc.chg hcd (by omega)
  have hxad := hxb.trans hxbd
  refine Ld.agg (vs := [.string X.lab, .slice aox X.kids.length capx]) (Blk.lc0 (post := []) (hba.ext hxad)) ?_
  refine (c_sSExprToType (rd_ok rd_deS hXl hXa (by omega)) (by omega) (hkXa.ext hxad)).mono ?_
  rw [X.eta, hs0]
  rintro _ we ⟨hxe, ve, be, rfl, hke, _⟩
  obtain ⟨aoe, cape, rfl, _, _⟩ := hke.form
  refine Go1.al tiTy ?_
  intro wf hxf hbf
  have ltf := hbf.lt
  refine Go0.st (off := 0) (vs := [.int .i64 (p.getD (.mk (0, em) [])).lab.1, .string (p.getD (.mk (0, em) [])).lab.2, .slice aoe (p.getD (.mk (0, em) [])).kids.length cape]) hbf rfl rfl (by simp [Value.cells]) (by simp [Value.oneCell']) ?_
  intro wg hcg hbg _
  have hxeg : Ext we wg := hxf.chg hcg (by omega)
  have hxdg := hxe.trans hxeg
  have hxag := hxad.trans hxdg
  have hx7g := hx7a.trans hxag
  have hx3g := hx37.trans hx7g
  have hx0g := hx07.trans hx7g
  have hkg := hk3.ext hx3g
  have hk5g := hk5.ext (hx57.trans hx7g)
  have hkXg := hkXa.ext hxag
  have hkbg := hkb.ext (hxbd.trans hxdg)
  have ld3 := fun (u : World) (hu : Ext wg u) => Blk.lc0 (post := []) (xs := [.int .i64 l.1, .string l.2, .slice ao ks.length cap]) ((hb3.ext hx3g).ext hu)
  have ldX := fun (u : World) (hu : Ext wg u) => Blk.lc0 (post := []) (xs := [.string X.lab, .slice aox X.kids.length capx]) ((hba.ext hxag).ext hu)
  have hb7g := hb7.ext hx7g
  have hbdg := hbd.ext hxdg
  clear hbg hbf hb2 hb6 hb9 hbc
  refine Dr.t [0, 1, 2, 3, 4, 5, 6, 7, 8, 9, 10, 11, 12, 13, 14, 15, 16, 17, 18, 19, 20, 21, 22, 23, 24, 25, 26, 27, 28, 29, 30, 31, 32, 33, 35, 34, 36, 37, 38, 39] [0, 0, 2, 7, 15, 31, 31, 95, 255, 511, 1023, 2047, 4095, 8191, 16383, 16383, 65535, 131071, 262143, 262143, 1048575, 2097151, 4194303, 8388607, 16777215, 33554431, 33554431, 134217727, 268435455, 536870911, 1073741823, 2147483647, 4294967295, 8589934591, 17179869183, 8589934591, 68719476735, 137438953471, 274877906943, 549755813887] [15, 19, 34, 35] ttOkD ?_
  refine LdS.xn (vs := [.int .i64 l.1, .string l.2, .slice ao ks.length cap]) (ld3 wg (Chg.refl _ _)) ?_
  refine ⟨fun u1 hu1 => ?_⟩
  refine (c_sFormatType hl ha (by omega) (hkg.ext hu1)).mono ?_
  rintro _ u2 ⟨rfl, hu2⟩
  refine Af.ext (hu1.trans hu2) ?_
  have h2 := hu1.trans hu2
  refine Cm.t rfl ?_
  refine LdS.xn (vs := [.int .i64 l.1, .string l.2, .slice ao ks.length cap]) (ld3 u2 h2) ?_
  refine ⟨fun u3 hu3 => ?_⟩
  refine (c_sIsValidType hl ha (hkg.ext (h2.trans hu3))).mono ?_
  rintro _ u4 ⟨⟨b1, rfl, hb1⟩, hu4⟩
  refine Af.ext (hu3.trans hu4) ?_
  have h4 := h2.trans (hu3.trans hu4)
  obtain ⟨hok, rfl⟩ | ⟨hok, rfl⟩ := ho
  · obtain rfl : b1 = true := hb1.2 hok
    simp only [Option.getD_some, Option.isSome_some, Rose.lab, Rose.kids] at hk5g hb7g ⊢
    have ld5 := fun (u : World) (hu : Ext wg u) => Blk.lc0 (post := []) (xs := [.int .i64 l.1, .string l.2, .slice ao5 ks.length cap5]) (hb7g.ext hu)
    refine Cm.t rfl ?_
    refine LdS.xn (vs := [.int .i64 l.1, .string l.2, .slice ao ks.length cap]) (ld3 u4 h4) ?_
    refine LdS.xn (vs := [.int .i64 l.1, .string l.2, .slice ao5 ks.length cap5]) (ld5 u4 h4) ?_
    refine ⟨fun u5 hu5 => ?_⟩
    refine (c_sEqualType (hkg.ext (h4.trans hu5)) (hk5g.ext (h4.trans hu5))).mono ?_
    rintro _ u6 ⟨⟨b2, rfl, hb2⟩, hu6⟩
    obtain rfl : b2 = true := hb2.2 ⟨rfl, rfl⟩
    refine Af.ext (hu5.trans hu6) ?_
    have h6 := h4.trans (hu5.trans hu6)
    refine LdS.xn (vs := [.int .i64 l.1, .string l.2, .slice ao ks.length cap]) (ld3 u6 h6) ?_
    refine LdS.xn (vs := [.int .i64 l.1, .string l.2, .slice ao5 ks.length cap5]) (ld5 u6 h6) ?_
    refine ⟨fun u7 hu7 => ?_⟩
    refine (c_iEqualType (hkg.ext (h6.trans hu7)) (hk5g.ext (h6.trans hu7))).mono ?_
    rintro _ u8 ⟨⟨b3, rfl, hb3'⟩, hu8⟩
    obtain rfl : b3 = true := hb3'.2 ⟨rfl, rfl⟩
    refine Af.ext (hu7.trans hu8) ?_
    have h8 := h6.trans (hu7.trans hu8)
    refine Cm.t rfl ?_
    cases p with
    | none =>
      intro uz huz
      exact ⟨rfl, hx0g.trans (h8.trans huz)⟩
    | some q =>
      obtain ⟨hq1, hq2⟩ := hso q rfl
      simp only [Option.getD_some, Option.isSome_some] at hkbg hbdg hpc ⊢
      have ha3 : q.lab.2.size ≤ maxLen ∧ Rose.AlL (fun s : TLab => s.2.size ≤ maxLen) q.kids := okT_sz hq1
      refine LdS.xn (vs := [.int .i64 q.lab.1, .string q.lab.2, .slice aob q.kids.length capb]) (Blk.lc0 (post := []) (hbdg.ext h8)) ?_
      refine LdS.xn (vs := [.string X.lab, .slice aox X.kids.length capx]) (ldX u8 h8) ?_
      refine ⟨fun v1 hv1 => ?_⟩
      refine (c_iTypeToSExpr ha3.1 ha3.2 (by omega) (hkbg.ext (h8.trans hv1))).mono ?_
      have hts : ttS q = X := by unfold ttS; rw [if_pos hq1, hq2]
      rw [q.eta, hts]
      rintro _ v2 ⟨hv2, vt, bt, rfl, hkt, _⟩
      refine Af.ext (hv1.trans hv2) ?_
      refine ⟨fun v3 hv3 => ?_⟩
      refine (c_sEqualSExpr X.kids X.lab X.lab X.kids _ _ _ _ _ (hkt.ext hv3) (hkXg.ext (h8.trans ((hv1.trans hv2).trans hv3)))).mono ?_
      rintro _ v4 ⟨⟨b9, rfl, hb9⟩, hv4⟩
      obtain rfl : b9 = true := hb9.2 ⟨rfl, rfl⟩
      refine Af.ext (hv3.trans hv4) ?_
      intro uz huz
      exact ⟨rfl, hx0g.trans (h8.trans (((hv1.trans hv2).trans (hv3.trans hv4)).trans huz))⟩
  · obtain rfl : b1 = false := by
      cases b1 with
      | false => rfl
      | true => exact absurd (hb1.1 rfl) hok
    simp only [Option.getD_none, Option.isSome_none, Rose.lab, Rose.kids] at hk5g hb7g ⊢
    refine Cm.t rfl ?_
    refine Cm.t rfl ?_
    cases p with
    | none =>
      intro uz huz
      exact ⟨rfl, hx0g.trans (h4.trans huz)⟩
    | some q =>
      obtain ⟨hq1, hq2⟩ := hso q rfl
      simp only [Option.getD_some, Option.isSome_some] at hkbg hbdg hpc ⊢
      have ha3 : q.lab.2.size ≤ maxLen ∧ Rose.AlL (fun s : TLab => s.2.size ≤ maxLen) q.kids := okT_sz hq1
      refine LdS.xn (vs := [.int .i64 q.lab.1, .string q.lab.2, .slice aob q.kids.length capb]) (Blk.lc0 (post := []) (hbdg.ext h4)) ?_
      refine LdS.xn (vs := [.string X.lab, .slice aox X.kids.length capx]) (ldX u4 h4) ?_
      refine ⟨fun v1 hv1 => ?_⟩
      refine (c_iTypeToSExpr ha3.1 ha3.2 (by omega) (hkbg.ext (h4.trans hv1))).mono ?_
      have hts : ttS q = X := by unfold ttS; rw [if_pos hq1, hq2]
      rw [q.eta, hts]
      rintro _ v2 ⟨hv2, vt, bt, rfl, hkt, _⟩
      refine Af.ext (hv1.trans hv2) ?_
      refine ⟨fun v3 hv3 => ?_⟩
      refine (c_sEqualSExpr X.kids X.lab X.lab X.kids _ _ _ _ _ (hkt.ext hv3) (hkXg.ext (h4.trans ((hv1.trans hv2).trans hv3)))).mono ?_
      rintro _ v4 ⟨⟨b9, rfl, hb9⟩, hv4⟩
      obtain rfl : b9 = true := hb9.2 ⟨rfl, rfl⟩
      refine Af.ext (hv3.trans hv4) ?_
      intro uz huz
      exact ⟨rfl, hx0g.trans (h4.trans (((hv1.trans hv2).trans (hv3.trans hv4)).trans huz))⟩

set_option maxRecDepth 100000 in
theorem fnTyText_lifted (os : Os) (started : os.Started) (H : Type) (enc : TypeId × Value → H) :
    ReturnsInHanded {} Tryz.checked os 3 .any (Rows.fnTyTextSpec.pre6 enc Tryz.prog Tryz.f3 Rows.fnTyTextRow.domain false) (Rows.fnTyTextSpec.post enc Tryz.prog Tryz.f3 false true false false) := by
  refine returnsInHanded_of_change (C := Tryz.checked) Tryz.own started (by kernel_rfl) Tryz.func3
    (ChangeSpec.witness6 (enc := enc) (C := Tryz.checked) false ⟨#[], #[.slice none 0 0], []⟩ 8 (by kernel_rfl) (by kernel_rfl) (by kernel_rfl) (by kernel_rfl)) ?_
  intro W base args ds gs before hval0 hW _ _
  have hval : ∀ (j : Nat) t v, Tryz.f3.params[j]? = some t → args[j]? = some v → Value.okWide Tryz.prog W .any base t v := hval0
  have hA0 := hW
  obtain ⟨p, q, hA1, _, _, _, _⟩ := hA0
  have hA : DataW.TrodAll enc Tryz.prog W 0 (fun _ => true) true Tryz.f3.params.toList args.toList ds p := hA1
  rw [Tryz.params3] at hA hval
  obtain ⟨v0, vs0, d0, ds0, p0, q0, hargs, rfl, rfl, h0, r0⟩ := trodAll_cons hA
  obtain ⟨rfl, rfl, rfl⟩ := trodAll_nil r0
  obtain rfl : args = #[v0] := by cases args; simp_all
  have o0 := oCode Tryz.underlying22 Tryz.underlying5 (by kernel_rfl) (hval 0 22 v0 rfl rfl) h0
  refine (Ret.calls Tryz.func3 rfl (by kernel_rfl) (fnTyText_ret o0)).mono ?_
  rintro e W' ⟨v, rfl, rfl, hx⟩
  exact ⟨_, rfl, law_post Tryz.laidOut (by kernel_rfl) rfl Tryz.underlying4 rfl rfl hW hx⟩

theorem fnTyText_holds : Rows.FnTyTextSaid :=
  OpenClaim.holds_of_wide 3 Tryz.f3 rfl rfl rfl rfl rfl rfl rfl ⟨rfl, rfl, rfl, rfl, rfl⟩ rfl rfl rfl rfl rfl (by kernel_rfl) Tryz.func3 (by kernel_rfl)
    (of_decide_eq_true (by kernel_rfl)) (by unfold Func.isWrapper; first | (rw [if_pos (by decide +kernel)]; kernel_rfl) | (rw [if_neg (by decide +kernel)]; exact ⟨rfl, rfl⟩))
    (fun os started H enc _ => fnTyText_lifted os started H enc)
end Go.Proofs.YtliigpmpeldebaaGreat
