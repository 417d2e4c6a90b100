/- FnTySize returns true, for all arguments. Conditions: none. -/
import Derived.Test.YtdoanmhiedemaaaTyR
import Derived.Test.YtdoanmhiedemaaaStrJ
import Derived.Test.YtdoanmhiedemaaaTyC
import Derived.Test.YtdoanmhiedemaaaTyE
import Derived.Test.YtdoanmhiedemaaaTyG
import Derived.Test.YtdoanmhiedemaaaTyH
import Derived.Test.YtdoanmhiedemaaaLFnBig
namespace Go.Proofs.Ytdoanmhiedemaaa
open Go.ChangeShapes Go.WideShapes Go.ChangeAt Go.RowKit

theorem coll_nodup (q : TLab → Bool) : ∀ (xs : List TLab) (out : List ByteArray), out.Nodup → (coll q xs out).Nodup
  | [], out, h => h
  | x :: xs, out, h => by
    rw [coll_cons]
    refine coll_nodup q xs _ ?_
    by_cases hc : q x = true ∧ has out x.2 = false
    · rw [coll_t hc.1 hc.2]
      have hn : x.2 ∉ out := fun hm => by rw [has_t hm] at hc; exact absurd hc.2 (by simp)
      exact List.nodup_append.2 ⟨h, by simp, fun a ha b hb e => hn (by
        obtain rfl : b = x.2 := by simpa using hb
        exact e ▸ ha)⟩
    · rw [coll_f hc]; exact h
theorem coll_has (q : TLab → Bool) : ∀ (xs : List TLab) (out : List ByteArray) (s : ByteArray), s ∈ coll q xs out → s ∈ out ∨ ∃ x ∈ xs, q x = true ∧ x.2 = s
  | [], out, s, h => .inl h
  | x :: xs, out, s, h => by
    rw [coll_cons] at h
    rcases coll_has q xs _ s h with h | ⟨y, hy, h1, h2⟩
    · by_cases hc : q x = true ∧ has out x.2 = false
      · rw [coll_t hc.1 hc.2] at h
        rcases List.mem_append.1 h with h | h
        · exact .inl h
        · obtain rfl : s = x.2 := by simpa using h
          exact .inr ⟨x, List.mem_cons_self, hc.1, rfl⟩
      · rw [coll_f hc] at h; exact .inl h
    · exact .inr ⟨y, List.mem_cons_of_mem _ hy, h1, h2⟩
theorem cntV_coll {xs : List TLab} {s : ByteArray} (h : s ∈ coll isV xs []) : 1 ≤ cntV s xs := by
  rcases coll_has isV xs [] s h with h | ⟨x, hx, h1, h2⟩
  · cases h
  · exact List.countP_pos_iff.2 ⟨x, hx, by simpa [h2, isV] using h1⟩

theorem fnTySize_ret {W : World} {a0 : Value} (g0 : OCode W a0) : Ret Try.prog 9 [a0] W fun r w' => r = .bool true ∧ Ext W w' := by
  have hM : maxLen = 9223372036854775807 := rfl
  refine ret_of_vc ttOkD Try.func9 rfl (by kernel_rfl) (by kernel_rfl) ?_
  refine (c_big g0).mono ?_
  rintro _ w ⟨⟨b, rfl⟩, hww⟩
  obtain rfl : W = w := hww.symm
  obtain rfl | rfl : b = true ∨ b = false := by cases b <;> simp
  · exact ⟨rfl, Chg.refl _ _⟩
  refine (c_DrawIsValidType g0).mono ?_
  rintro _ w1 ⟨hx1, T, u, bs, rfl, hk, hq⟩
  obtain ⟨l, ks⟩ := T
  obtain ⟨hl, ha⟩ := Nm.big hq.2
  have hcn : 1 + Rose.cnt ks ≤ 128 := hq.1
  simp only [Rose.lab, Rose.kids] at hk ⊢
  obtain ⟨ao, cap, rfl, hm, _⟩ := hk.form
  have hlk : ks.length ≤ Rose.cnt ks := Rose.wtL_length _ _
  have hpl := preL_length ks
  refine Go1.al tiTy ?_
  intro w2 hx2 hb2
  have lt2 := hb2.lt
  refine Go0.st (off := 0) (vs := [.int .i64 l.1, .string l.2, .slice ao ks.length cap]) hb2 rfl rfl (by simp [Value.cells]) (by simp [Value.oneCell']) ?_
  intro w3 hc3 hb3 _
  have hb3 : Blk w3 w1.heap.size 29 [.int .i64 l.1, .string l.2, .slice ao ks.length cap] := hb3
  have hx13 : Ext w1 w3 := hx2.chg hc3 (by omega)
  have hx03 := hx1.trans hx13
  have hk3 := hk.ext hx13
  have hld := fun (u : World) (hu : Ext w3 u) => Blk.lc0 (post := []) (xs := [.int .i64 l.1, .string l.2, .slice ao ks.length cap]) (hb3.ext hu)
  refine Dr.x [0, 2, 1, 3, 4, 5, 6, 8, 7, 9, 10, 11, 12, 13, 15, 14, 16, 17, 18, 19, 20, 22, 21, 23, 24, 25] ttOkD ?_
  refine LdS.xn (vs := [.int .i64 l.1, .string l.2, .slice ao ks.length cap]) (hld w3 (Chg.refl _ _)) ?_
  refine LdS.xn (vs := [.int .i64 l.1, .string l.2, .slice ao ks.length cap]) (hld w3 (Chg.refl _ _)) ?_
  refine ⟨fun wa hxa => ?_⟩
  refine (c_iIsValidType hl ha (by omega) (hk3.ext hxa)).mono ?_
  rintro _ wb ⟨⟨b1, rfl, e1⟩, hxb⟩
  refine Af.ext (hxa.trans hxb) ?_
  refine ⟨fun wc hxc => ?_⟩
  refine (c_sIsValidType hl ha (hk3.ext ((hxa.trans hxb).trans hxc))).mono ?_
  rintro _ wd ⟨⟨b2, rfl, e2⟩, hxd⟩
  obtain rfl : b1 = b2 := by rw [Bool.eq_iff_iff, e1, e2]
  have h3d := ((hxa.trans hxb).trans hxc).trans hxd
  refine Af.ext (hxc.trans hxd) ?_
  refine Cm.nf rfl ?_
  refine LdS.xn (vs := [.int .i64 l.1, .string l.2, .slice ao ks.length cap]) (hld wd h3d) ?_
  refine LdS.xn (vs := [.int .i64 l.1, .string l.2, .slice ao ks.length cap]) (hld wd h3d) ?_
  refine ⟨fun we hxe => ?_⟩
  refine (c_iTypeSize ks (by omega) l we _ bs (hk3.ext (h3d.trans hxe))).mono ?_
  rintro _ wf ⟨rfl, hxf⟩
  refine Af.ext (hxe.trans hxf) ?_
  refine ⟨fun wg hxg => ?_⟩
  have h3f := h3d.trans (hxe.trans hxf)
  refine (c_sTypeSize ks (by omega) l wg _ bs (hk3.ext (h3f.trans hxg))).mono ?_
  rintro _ wh ⟨rfl, hxh⟩
  refine Af.ext (hxg.trans hxh) ?_
  have h3h := h3f.trans (hxg.trans hxh)
  refine Cm.nf rfl ?_
  refine LdS.xn (vs := [.int .i64 l.1, .string l.2, .slice ao ks.length cap]) (hld wh h3h) ?_
  refine LdS.xn (vs := [.int .i64 l.1, .string l.2, .slice ao ks.length cap]) (hld wh h3h) ?_
  refine ⟨fun wi hxi => ?_⟩
  refine (c_iTypeDepth ks (by omega) l wi _ bs (hk3.ext (h3h.trans hxi))).mono ?_
  rintro _ wj ⟨rfl, hxj⟩
  refine Af.ext (hxi.trans hxj) ?_
  have h3j := h3h.trans (hxi.trans hxj)
  refine ⟨fun wk hxk => ?_⟩
  refine (c_sTypeDepth ks (by omega) l wk _ bs (hk3.ext (h3j.trans hxk))).mono ?_
  rintro _ wl ⟨rfl, hxl⟩
  refine Af.ext (hxk.trans hxl) ?_
  have h3l := h3j.trans (hxk.trans hxl)
  refine Cm.nf rfl ?_
  refine LdS.xn (vs := [.int .i64 l.1, .string l.2, .slice ao ks.length cap]) (hld wl h3l) ?_
  refine LdS.xn (vs := [.int .i64 l.1, .string l.2, .slice ao ks.length cap]) (hld wl h3l) ?_
  refine ⟨fun wm hxm => ?_⟩
  refine (c_iHasProjection (hk3.ext (h3l.trans hxm))).mono ?_
  rintro _ wn ⟨⟨b3, rfl, e3⟩, hxn⟩
  refine Af.ext (hxm.trans hxn) ?_
  have h3n := h3l.trans (hxm.trans hxn)
  refine ⟨fun wo hxo => ?_⟩
  refine (c_sHasProjection ks l wo _ bs (hk3.ext (h3n.trans hxo))).mono ?_
  rintro _ wp ⟨⟨b4, rfl, e4⟩, hxp⟩
  obtain rfl : b3 = b4 := by rw [Bool.eq_iff_iff, e3, e4]
  refine Af.ext (hxo.trans hxp) ?_
  have h3p := h3n.trans (hxo.trans hxp)
  refine Cm.nf rfl ?_
  intro wq hxq
  have h3q := h3p.trans hxq
  refine Ld.agg (vs := [.int .i64 l.1, .string l.2, .slice ao ks.length cap]) (hld wq h3q) ?_
  refine (c_iTypeVariables (by omega) (hk3.ext h3q)).mono ?_
  rintro va w4 ⟨hx4, da, ha4, hf4⟩
  have h34 := h3q.trans hx4
  refine Ld.agg (vs := [.int .i64 l.1, .string l.2, .slice ao ks.length cap]) (hld w4 h34) ?_
  refine (c_sTypeVariables (by omega) (hk3.ext h34)).mono ?_
  rintro vb w5 ⟨hx5, db, ha5, hf5⟩
  refine (c_equalStrings (Row.ext hx5 ha4) ha5).mono ?_
  rintro _ w6 ⟨⟨b, rfl, hb⟩, hx6⟩
  obtain rfl : b = true := hb.2 rfl
  have hx46 := hx5.trans hx6
  refine (c_iAllDistinct (Row.ext hx46 ha4)).mono ?_
  rintro _ w7 ⟨⟨b, rfl, hb⟩, hx7⟩
  obtain rfl : b = true := hb.2 (coll_nodup _ _ _ List.nodup_nil)
  have hx47 := hx46.trans hx7
  have hle := coll_le isV (l :: Rose.preL ks) []
  simp only [List.length_nil, List.length_cons, hpl] at hle
  have hcV : ∀ s ∈ coll isV (l :: Rose.preL ks) [], 1 ≤ cntV s (l :: Rose.preL ks) := fun s hs => cntV_coll hs
  generalize hvs : coll isV (l :: Rose.preL ks) [] = vs at ha4 hle hcV
  obtain ⟨aov, capv, rfl, hmv, _⟩ := ha4.form
  refine Lp.go ttOkD (by kernel_rfl) (fun k : Nat => [(3, .pointer (some ⟨w1.heap.size, 0, none⟩)), (4, .slice aov vs.length capv), (5, .int .i64 k)]) (fun k w' => Ext w4 w' ∧ k ≤ vs.length) (fun k => vs.length - k) 0
    ⟨rfl, rfl, rfl, trivial⟩ ⟨hx47, Nat.zero_le _⟩ ?_
  rintro k w8 ⟨hx8, hk⟩
  have h38 := h34.trans hx8
  refine Cm.s (fun hlt1 => ?_) (fun hge => ?_)
  · have hlt1 : k < vs.length := by omega
    obtain ⟨a, rfl, hc⟩ := (Strs.get (Row.ext hx8 ha4) hlt1)
    have hvm := hcV _ (List.getElem_mem hlt1)
    have hvl := cntV_le vs[k] (l :: Rose.preL ks)
    simp only [List.length_cons, hpl] at hvl
    refine Dr.x [0, 1, 2, 3, 4, 5, 6, 7, 8, 9, 10, 11, 12, 14, 13, 15, 16, 17] ttOkD ?_
    refine LdS.xn (vs := [.int .i64 l.1, .string l.2, .slice ao ks.length cap]) (hld w8 h38) ?_
    refine GoS.ix 1 hlt1 (LdS.x1 hc ?_)
    refine ⟨fun wa hxa => ?_⟩
    refine (c_iCount vs[k] (by omega) (hk3.ext (h38.trans hxa))).mono ?_
    rintro _ wb ⟨rfl, hxb⟩
    have h8b := hxa.trans hxb
    refine Af.ext h8b ?_
    refine Cm.f (by omega) ?_
    refine LdS.xn (vs := [.int .i64 l.1, .string l.2, .slice ao ks.length cap]) (hld wb (h38.trans h8b)) ?_
    refine GoS.ix 1 hlt1 (LdS.x1 (h8b.cell hc) ?_)
    refine LdS.xn (vs := [.int .i64 l.1, .string l.2, .slice ao ks.length cap]) (hld wb (h38.trans h8b)) ?_
    refine ⟨fun wc hxc => ?_⟩
    refine (c_iCount vs[k] (by omega) (hk3.ext ((h38.trans h8b).trans hxc))).mono ?_
    rintro _ wd ⟨rfl, hxd⟩
    refine Af.ext (hxc.trans hxd) ?_
    refine ⟨fun we hxe => ?_⟩
    have h8d := h8b.trans (hxc.trans hxd)
    refine (c_iTypeSize ks (by omega) l we _ bs (hk3.ext ((h38.trans h8d).trans hxe))).mono ?_
    rintro _ wf ⟨rfl, hxf⟩
    refine Af.ext (hxe.trans hxf) ?_
    refine Cm.f (by omega) ?_
    intro wg hxg
    refine Wr.n (k + 1) (by omega) (by omega) ?_
    exact ⟨k + 1, ⟨rfl, rfl, rfl, trivial⟩, ⟨hx8.trans ((h8d.trans (hxe.trans hxf)).trans hxg), hlt1⟩, by omega⟩
  · refine Ld.agg (vs := [.int .i64 l.1, .string l.2, .slice ao ks.length cap]) (hld w8 h38) ?_
    refine (c_iIsValidType hl ha (by omega) (hk3.ext h38)).mono ?_
    rintro _ w9 ⟨⟨b5, rfl, e5⟩, hx9⟩
    have h39 := h38.trans hx9
    cases b5
    · exact ⟨rfl, hx03.trans h39⟩
    · obtain ⟨hz, _, hd⟩ := e5.1 rfl
      simp only [Rose.kids] at hz hd
      refine Ld.agg (vs := [.int .i64 l.1, .string l.2, .slice ao ks.length cap]) (hld w9 h39) ?_
      refine (c_iTypeSize ks (by omega) l w9 _ bs (hk3.ext h39)).mono ?_
      rintro _ w10 ⟨rfl, hx10⟩
      refine Cm.t (by omega) ?_
      have h310 := h39.trans hx10
      refine Ld.agg (vs := [.int .i64 l.1, .string l.2, .slice ao ks.length cap]) (hld w10 h310) ?_
      refine (c_iTypeDepth ks (by omega) l w10 _ bs (hk3.ext h310)).mono ?_
      rintro _ w11 ⟨rfl, hx11⟩
      refine Cm.t (by omega) ?_
      exact ⟨rfl, hx03.trans (h310.trans hx11)⟩
set_option maxRecDepth 100000 in
theorem fnTySize_lifted (os : Os) (started : os.Started) (H : Type) (enc : TypeId × Value → H) :
    ReturnsInHanded {} Try.checked os 9 .any (Rows.fnTySizeSpec.pre6 enc Try.prog Try.f9 Rows.fnTySizeRow.domain false) (Rows.fnTySizeSpec.post enc Try.prog Try.f9 false true false false) := by
  refine returnsInHanded_of_change (C := Try.checked) Try.own started (by kernel_rfl) Try.func9
    (ChangeSpec.witness6 (enc := enc) (C := Try.checked) false ⟨#[], #[.slice none 0 0], []⟩ 8 (by kernel_rfl) (by kernel_rfl) (by kernel_rfl) (by kernel_rfl)) ?_
  intro W base args ds gs before hval0 hW _ _
  have hval : ∀ (j : Nat) t v, Try.f9.params[j]? = some t → args[j]? = some v → Value.okWide Try.prog W .any base t v := hval0
  have hA0 := hW
  obtain ⟨p, q, hA1, _, _, _, _⟩ := hA0
  have hA : DataW.TrodAll enc Try.prog W 0 (fun _ => true) true Try.f9.params.toList args.toList ds p := hA1
  rw [Try.params9] at hA hval
  obtain ⟨v0, vs0, d0, ds0, p0, q0, hargs, rfl, rfl, h0, r0⟩ := trodAll_cons hA
  obtain ⟨rfl, rfl, rfl⟩ := trodAll_nil r0
  obtain rfl : args = #[v0] := by cases args; simp_all
  have o0 := oCode Try.underlying50 Try.underlying5 (by kernel_rfl) (hval 0 50 v0 rfl rfl) h0
  refine (Ret.calls Try.func9 rfl (by kernel_rfl) (fnTySize_ret o0)).mono ?_
  rintro e W' ⟨v, rfl, rfl, hx⟩
  exact ⟨_, rfl, law_post Try.laidOut (by kernel_rfl) rfl Try.underlying4 rfl rfl hW hx⟩

theorem fnTySize_holds : Rows.FnTySizeSaid :=
  OpenClaim.holds_of_wide 9 Try.f9 rfl rfl rfl rfl rfl rfl rfl ⟨rfl, rfl, rfl, rfl, rfl⟩ rfl rfl rfl rfl rfl (by kernel_rfl) Try.func9 (by kernel_rfl)
    (of_decide_eq_true (by kernel_rfl)) (by unfold Func.isWrapper; first | (rw [if_pos (by decide +kernel)]; kernel_rfl) | (rw [if_neg (by decide +kernel)]; exact ⟨rfl, rfl⟩))
    (fun os started H enc _ => fnTySize_lifted os started H enc)
end Go.Proofs.Ytdoanmhiedemaaa
