/- Contracts: the program's canonical renaming; canonical forms; alpha equivalence. Conditions: none. -/
import Derived.Test.YtmecmdnnhldjpaaDoorJNumD
namespace Go.Proofs.YtmecmdnnhldjpaaDoor
open Go.RowKit

/-- impl.varType -/
theorem c_varTypeC (s : ByteArray) {w : World} : Ret Tryd.prog 37 [.string s] w fun r w' => Ext w w' ∧ r = .agg #[.int .i64 1, .string s, .slice none 0 0] := by
  refine ret_of_vc ttOkB Tryd.func37 rfl (by kernel_rfl) (by kernel_rfl) ?_
  refine Go1.al tiTy ?_
  intro w1 hx1 hb1
  have lt1 := hb1.lt
  refine Go1.bd [.int .i64 1, .string s, .slice none 0 0] ?_
  refine Go0.st (off := 0) (vs := [.int .i64 1, .string s, .slice none 0 0]) hb1 rfl rfl (by simp [Value.cells]) (by simp [Value.oneCell']) ?_
  intro w2 hx2 hb2 _
  have hb2 : Blk w2 w.heap.size 38 [.int .i64 1, .string s, .slice none 0 0] := hb2
  refine Ld.agg (vs := [.int .i64 1, .string s, .slice none 0 0]) (Blk.lc0 (post := []) hb2) ?_
  exact ⟨hx1.chg hx2 (by omega), rfl⟩
/-- impl.CanonicalRenaming -/
theorem c_iCanRen {ks : List Tp} (hs : Rose.cnt ks ≤ 4294967000) {w : World} (hI : ItoaOk w) {v : Value} {bs : List Nat} (hk : Kids encT w v ks bs) :
    Ret Tryd.prog 11 [v] w (NewBds w (crn ks)) := by
  obtain ⟨ao, cap, rfl, hm, hcap⟩ := hk.form
  have hpl := preL_length ks
  have hM : maxLen = 9223372036854775807 := rfl
  refine ret_of_vc ttOkB Tryd.func11 rfl (by kernel_rfl) (by kernel_rfl) ?_
  refine Go1.b0 54 (size := 4) (bytes := 64) Tryd.underlying24 tiBd ?_
  intro w1 u1 hx1 hg1 hu1
  subst hu1
  have sz1 := hx1.size
  have lt1 : w.heap.size < w1.heap.size := hg1.lt _ (by simp)
  refine (c_variablesOf (by omega) (hk.ext hx1)).mono ?_
  have hcl := coll_le isV (Rose.preL ks) []
  simp only [List.length_nil, Nat.zero_add] at hcl
  have hcr : crn ks = crB (coll isV (Rose.preL ks) []) 0 := rfl
  rw [hcr]
  generalize coll isV (Rose.preL ks) [] = vs at hcl
  rintro rv w2 ⟨hx2, bv, hsv, hfv⟩
  obtain ⟨aov, capv, rfl, _, _⟩ := hsv.form
  have sz2 := hx2.size
  refine Lp.go ttOkB (by kernel_rfl) (fun b : Nat × Value => [(3, b.2), (8, .slice aov vs.length capv), (9, .int .i64 vs.length), (10, .int .i64 b.1)])
    (fun b w' => Ext w w' ∧ w2.heap.size ≤ w'.heap.size ∧ Strs w' (.slice aov vs.length capv) vs bv ∧ b.1 ≤ vs.length ∧ ∃ O cs, GrowB w.heap.size w' b.2 (crB (vs.take b.1) 0) O cs ∧ ∀ x ∈ bv, x ∉ O) (fun b => vs.length - b.1) (0, .slice (some ⟨w.heap.size, 0, none⟩) 0 0)
    ⟨rfl, rfl, rfl, rfl, trivial⟩ ⟨hx1.trans hx2, Nat.le_refl _, hsv, Nat.zero_le _, [w.heap.size], [], by rw [List.take_zero]; exact (GrowB.new hg1 (Nat.le_refl _)).ext hx2, fun x hx h => by have := hfv.lo x hx; obtain rfl := List.mem_singleton.1 h; omega⟩ ?_
  rintro ⟨j, r⟩ w4 ⟨hx4, hz4, hsv4, hj, O, cs, hgb, hdis⟩
  simp only at hj hgb
  have sz4 := hx4.size
  have hlen : (crB (vs.take j) 0).length = j := by rw [crB_length, List.length_take]; omega
  refine Cm.s (fun hlt => ?_) (fun hge => ?_)
  · have hlt : j < vs.length := by have : (j : Int) < vs.length := hlt; omega
    obtain ⟨av, rfl, hcv⟩ := (Strs.get hsv4 hlt)
    refine Go1.ix 1 hlt (Ld.one hcv ?_)
    refine (c_iFormatInt (hI.ext hx4) (j : Int) (by omega) (by omega)).mono ?_
    rintro _ wb ⟨rfl, hxb⟩
    have hit := itoaB_sz (n := (j : Int)) (by omega) (by omega)
    refine Go1.cat (by show 1 + (itoaB j).size ≤ _; omega) ?_
    refine (c_varTypeC _).mono ?_
    rintro _ we ⟨hxe, rfl⟩
    refine Go1.bd [.string vs[j], .int .i64 1, .string (vN j), .slice none 0 0] ?_
    refine Go1.bs 54 [.string vs[j], .int .i64 1, .string (vN j), .slice none 0 0] (size := 4) (bytes := 64) Tryd.underlying24 tiBd (by decide) (by decide) (by kernel_rfl) ?_
    intro wg hxg hbg
    have h4h := (hxb.trans hxe).trans hxg
    have sz4h := h4h.size
    obtain ⟨vsT, hgrT, hklT, hfrT⟩ := hgb.ext h4h
    refine Go1.app (size := 4) (bytes := 64) Tryd.underlying24 tiBd (by rfl) (by decide) hgrT (m := 1) (news := [.string vs[j], .int .i64 1, .string (vN j), .slice none 0 0]) (Blk.lc0 (post := []) hbg) (by simp) (by simp [Value.oneCell']) (by omega) (by decide) ?_
    intro rf wi Of hcf hgf hOf
    have hsn := GrowB.snoc (n0 := w.heap.size) (r := r) (x := (vs[j], .mk (1, vN j) [])) (v := .slice none 0 0) (c1 := []) (Chg.refl _ _) hklT hfrT Kids.nil (Fresh.nil _ _) hcf hgf hOf (by omega)
    have hlo : ∀ b ∈ O, w.heap.size ≤ b := fun b hb => hfrT.lo b (List.mem_append_left _ hb)
    have hhi : ∀ b ∈ bv, b < w2.heap.size := hfv.lt
    have szi := hcf.size
    refine Wr.n (j + 1) (by simp) (by omega) ?_
    refine ⟨(j + 1, rf), ⟨rfl, rfl, rfl, rfl, trivial⟩, ⟨(hx4.trans h4h).chg hcf (fun x hx => hlo x hx), by omega, Row.chg hcf (fun b hb h => hdis b hb h) (Row.ext h4h hsv4), hlt, Of, cs ++ [], ?_, fun x hx h => ?_⟩, by simp only; omega⟩
    · simp only
      rw [crB_take hlt]
      exact hsn
    · rcases hOf x h with h' | h'
      · exact hdis x hx h'
      · have := hhi x hx
        omega
  · have hje : j = vs.length := by have : ¬ (j : Int) < vs.length := hge; omega
    subst hje
    rw [List.take_length] at hgb hlen
    obtain ⟨bs', h1, h2⟩ := hgb.fin (by omega)
    obtain ⟨aor, capr, rfl, _, _⟩ := h1.form
    exact ⟨hx4, bs', h1, h2⟩
/-- spec.Canonicalize -/
theorem c_sCanon {l : TLab} {ks : List Tp} (hs : Rose.cnt ks ≤ 4294966000) {w : World} {v : Value} {bs : List Nat} (hk : Kids encT w v ks bs) :
    Ret Tryd.prog 25 [.agg #[.int .i64 l.1, .string l.2, v]] w (NewTy w (cnT (.mk l ks)).lab (cnT (.mk l ks)).kids) := by
  obtain ⟨ao, cap, rfl, hm, hcap⟩ := hk.form
  have hM : maxLen = 9223372036854775807 := rfl
  have hc1 : Rose.cnt [Rose.mk l ks] = 1 + Rose.cnt ks := by
    have : Rose.cnt [Rose.mk l ks] = 1 + 0 + Rose.cnt ks + Rose.cnt ([] : List Tp) := Rose.wtL_cons _ _ _
    rw [this, show Rose.cnt ([] : List Tp) = 0 from Rose.wtL_nil _]
    omega
  refine ret_of_vc ttOkB Tryd.func25 rfl (by kernel_rfl) (by kernel_rfl) ?_
  refine Go1.bx ?_
  intro w1 hx1 hb1
  refine Go1.al tiTy ?_
  intro w2 hx2 hb2
  have lt1 := hb1.lt
  have lt2 := hb2.lt
  have sz1 := hx1.size
  have sz2 := hx2.size
  have hx02 := hx1.trans hx2
  have hb12 := hb1.ext hx2
  refine Dr.x [0, 3, 1, 2, 4, 5] ttOkB ?_
  refine LdS.xn (vs := [.int .i64 l.1, .string l.2, .slice ao ks.length cap]) (Blk.lc0 (post := []) hb12) ?_
  refine LdS.xn (vs := [.int .i64 l.1, .string l.2, .slice ao ks.length cap]) (Blk.lc0 (post := []) hb12) ?_
  refine ⟨fun wa hxa => ?_⟩
  refine Go1.bs 38 [.int .i64 l.1, .string l.2, .slice ao ks.length cap] (size := 3) (bytes := 48) Tryd.underlying26 tiTy (by decide) (by decide) (by kernel_rfl) ?_
  intro wb hxb hbb
  refine Af.ext (hxa.trans hxb) ?_
  have h2b := hxa.trans hxb
  have hkb := hk.ext (hx02.trans h2b)
  obtain ⟨cs, hk1, _⟩ := Kids.of_blk (ts := [.mk l ks]) (vs := [.slice ao ks.length cap]) (bs := bs) (n := 1) (cap := 1) (rest := []) (by simpa [fl, encT, Rose.lab] using hbb) ⟨bs, [], by simp, hkb, rfl⟩ rfl ⟨by decide, Nat.le_refl _⟩
  refine ⟨fun wc hxc => ?_⟩
  refine (c_sCanRen (by omega) (hk1.ext hxc)).mono ?_
  have hcn := crn_le [Rose.mk l ks]
  rintro rb wd ⟨hxd, bd, hbd, hfd⟩
  obtain ⟨aob, capb, rfl, _, _⟩ := hbd.form
  refine Af.ext (hxc.trans hxd) ?_
  have h2d := h2b.trans (hxc.trans hxd)
  refine ⟨fun we hxe => ?_⟩
  refine (c_sApply (l := l) (ks := ks) (by omega) (by omega) (hbd.ext hxe) (hk.ext (hx02.trans (h2d.trans hxe)))).mono ?_
  have hcT : cnT (.mk l ks) = apT (crn [.mk l ks]) (.mk l ks) := rfl
  rw [hcT]
  generalize apT (crn [.mk l ks]) (.mk l ks) = T
  rintro _ wf ⟨hxf, vf, bf, rfl, hkf, hff⟩
  obtain ⟨aof, capf, rfl, _, _⟩ := hkf.form
  refine Af.ext (hxe.trans hxf) ?_
  have h2f := h2d.trans (hxe.trans hxf)
  refine ⟨fun wg hxg => ?_⟩
  refine Go0.st (off := 0) (vs := [.int .i64 T.lab.1, .string T.lab.2, .slice aof T.kids.length capf]) (hb2.ext (h2f.trans hxg)) rfl rfl (by simp [Value.cells]) (by simp [Value.oneCell']) ?_
  intro wh hch hbh _
  have hbh : Blk wh w1.heap.size 38 [.int .i64 T.lab.1, .string T.lab.2, .slice aof T.kids.length capf] := hbh
  refine Af.new ?_
  intro wi hxi
  refine Ld.agg (vs := [.int .i64 T.lab.1, .string T.lab.2, .slice aof T.kids.length capf]) (Blk.lc0 (post := []) (hbh.ext hxi)) ?_
  have sze := (h2d.trans hxe).size
  have hn : ∀ b ∈ bf, ¬ b = w1.heap.size := fun b hb => by have := hff.lo b hb; omega
  exact ⟨((hx02.trans (h2f.trans hxg)).chg hch (by omega)).ext hxi, _, bf, rfl, ((hkf.ext hxg).chg hch hn).ext hxi, (((hff.ext hxg).chg hch hn).ext hxi).mono (by omega)⟩
/-- spec.CanonicalizeAll -/
theorem c_sCanonAll {ks : List Tp} (hs : Rose.cnt ks ≤ 4294966000) {w : World} {v : Value} {bs : List Nat} (hk : Kids encT w v ks bs) :
    Ret Tryd.prog 22 [v] w (NewTys w (cnL ks)) := by
  obtain ⟨ao, cap, rfl, hm, hcap⟩ := hk.form
  refine ret_of_vc ttOkB Tryd.func22 rfl (by kernel_rfl) (by kernel_rfl) ?_
  refine (c_sCanRen (by omega) hk).mono ?_
  have hcn := crn_le ks
  rintro rb w1 ⟨hx1, bd, hbd, hfd⟩
  obtain ⟨aob, capb, rfl, _, _⟩ := hbd.form
  refine (c_sApplyAll (xs := crn ks) (by omega) ks (by omega) _ _ _ _ _ hbd (hk.ext hx1)).mono ?_
  rintro r w2 ⟨hx2, b2, hk2, hf2⟩
  obtain ⟨aor, capr, rfl, _, _⟩ := hk2.form
  exact ⟨hx1.trans hx2, b2, hk2, hf2.mono hx1.size⟩
/-- spec.AlphaEquivalent -/
theorem c_sAlpha {l m : TLab} {ks ls : List Tp} (hs : Rose.cnt ks ≤ 4294966000) (ht : Rose.cnt ls ≤ 4294966000) {w : World} {v u : Value} {bs cs : List Nat} (hk : Kids encT w v ks bs) (gk : Kids encT w u ls cs) :
    Ret Tryd.prog 18 [.agg #[.int .i64 l.1, .string l.2, v], .agg #[.int .i64 m.1, .string m.2, u]] w fun r w' => Says (cnT (.mk l ks) = cnT (.mk m ls)) r ∧ Ext w w' := by
  obtain ⟨ao, cap, rfl, _, _⟩ := hk.form
  obtain ⟨ao2, cap2, rfl, _, _⟩ := gk.form
  refine ret_of_vc ttOkB Tryd.func18 rfl (by kernel_rfl) (by kernel_rfl) ?_
  refine Go1.bx ?_
  intro w1 hx1 hb1
  refine Go1.bx ?_
  intro w2 hx2 hb2
  have hx02 := hx1.trans hx2
  refine Dr.x [0, 2, 1, 3, 4, 5] ttOkB ?_
  refine LdS.xn (vs := [.int .i64 l.1, .string l.2, .slice ao ks.length cap]) (Blk.lc0 (post := []) (hb1.ext hx2)) ?_
  refine LdS.xn (vs := [.int .i64 m.1, .string m.2, .slice ao2 ls.length cap2]) (Blk.lc0 (post := []) hb2) ?_
  refine ⟨fun wa hxa => ?_⟩
  refine (c_sCanon (l := l) hs (hk.ext (hx02.trans hxa))).mono ?_
  rintro _ wb ⟨hxb, vb, bb, rfl, hkb, _⟩
  refine Af.ext (hxa.trans hxb) ?_
  have h2b := hxa.trans hxb
  refine ⟨fun wc hxc => ?_⟩
  refine (c_sCanon (l := m) ht (gk.ext (hx02.trans (h2b.trans hxc)))).mono ?_
  rintro _ wd ⟨hxd, vd, bd, rfl, hkd, _⟩
  refine Af.ext (hxc.trans hxd) ?_
  have h2d := h2b.trans (hxc.trans hxd)
  refine ⟨fun we hxe => ?_⟩
  refine (c_sEqualType (hkb.ext ((hxc.trans hxd).trans hxe)) (hkd.ext hxe)).mono ?_
  rintro _ wf ⟨⟨b, rfl, hb⟩, hxf⟩
  refine Af.ext (hxe.trans hxf) ?_
  intro wg hxg
  refine ⟨⟨b, rfl, ?_⟩, hx02.trans (h2d.trans ((hxe.trans hxf).trans hxg))⟩
  rw [hb]
  generalize cnT (.mk l ks) = X
  generalize cnT (.mk m ls) = Y
  cases X with
  | mk a b =>
    cases Y with
    | mk c d =>
      constructor
      · rintro ⟨h1, h2⟩
        have h1 : a = c := h1
        have h2 : b = d := h2
        rw [h1, h2]
      · intro h
        cases h
        exact ⟨rfl, rfl⟩
/-- impl.Canonicalize -/
theorem c_iCanon {l : TLab} {ks : List Tp} (hs : Rose.cnt ks ≤ 4294966000) {w : World} (hI : ItoaOk w) {v : Value} {bs : List Nat} (hk : Kids encT w v ks bs) :
    Ret Tryd.prog 26 [.agg #[.int .i64 l.1, .string l.2, v]] w (NewTy w (cnT (.mk l ks)).lab (cnT (.mk l ks)).kids) := by
  obtain ⟨ao, cap, rfl, hm, hcap⟩ := hk.form
  have hM : maxLen = 9223372036854775807 := rfl
  have hc1 : Rose.cnt [Rose.mk l ks] = 1 + Rose.cnt ks := by
    have : Rose.cnt [Rose.mk l ks] = 1 + 0 + Rose.cnt ks + Rose.cnt ([] : List Tp) := Rose.wtL_cons _ _ _
    rw [this, show Rose.cnt ([] : List Tp) = 0 from Rose.wtL_nil _]
    omega
  refine ret_of_vc ttOkB Tryd.func26 rfl (by kernel_rfl) (by kernel_rfl) ?_
  refine Go1.bx ?_
  intro w1 hx1 hb1
  refine Go1.al tiTy ?_
  intro w2 hx2 hb2
  have lt1 := hb1.lt
  have lt2 := hb2.lt
  have sz1 := hx1.size
  have sz2 := hx2.size
  have hx02 := hx1.trans hx2
  have hb12 := hb1.ext hx2
  refine Dr.x [0, 3, 1, 2, 4, 5] ttOkB ?_
  refine LdS.xn (vs := [.int .i64 l.1, .string l.2, .slice ao ks.length cap]) (Blk.lc0 (post := []) hb12) ?_
  refine LdS.xn (vs := [.int .i64 l.1, .string l.2, .slice ao ks.length cap]) (Blk.lc0 (post := []) hb12) ?_
  refine ⟨fun wa hxa => ?_⟩
  refine Go1.bs 38 [.int .i64 l.1, .string l.2, .slice ao ks.length cap] (size := 3) (bytes := 48) Tryd.underlying26 tiTy (by decide) (by decide) (by kernel_rfl) ?_
  intro wb hxb hbb
  refine Af.ext (hxa.trans hxb) ?_
  have h2b := hxa.trans hxb
  have hkb := hk.ext (hx02.trans h2b)
  obtain ⟨cs, hk1, _⟩ := Kids.of_blk (ts := [.mk l ks]) (vs := [.slice ao ks.length cap]) (bs := bs) (n := 1) (cap := 1) (rest := []) (by simpa [fl, encT, Rose.lab] using hbb) ⟨bs, [], by simp, hkb, rfl⟩ rfl ⟨by decide, Nat.le_refl _⟩
  refine ⟨fun wc hxc => ?_⟩
  refine (c_iCanRen (by omega) (hI.ext (hx02.trans (h2b.trans hxc))) (hk1.ext hxc)).mono ?_
  have hcn := crn_le [Rose.mk l ks]
  rintro rb wd ⟨hxd, bd, hbd, hfd⟩
  obtain ⟨aob, capb, rfl, _, _⟩ := hbd.form
  refine Af.ext (hxc.trans hxd) ?_
  have h2d := h2b.trans (hxc.trans hxd)
  refine ⟨fun we hxe => ?_⟩
  refine (c_iApply (l := l) (ks := ks) (by omega) (by omega) (hbd.ext hxe) (hk.ext (hx02.trans (h2d.trans hxe)))).mono ?_
  have hcT : cnT (.mk l ks) = apT (crn [.mk l ks]) (.mk l ks) := rfl
  rw [hcT]
  generalize apT (crn [.mk l ks]) (.mk l ks) = T
  rintro _ wf ⟨hxf, vf, bf, rfl, hkf, hff⟩
  obtain ⟨aof, capf, rfl, _, _⟩ := hkf.form
  refine Af.ext (hxe.trans hxf) ?_
  have h2f := h2d.trans (hxe.trans hxf)
  refine ⟨fun wg hxg => ?_⟩
  refine Go0.st (off := 0) (vs := [.int .i64 T.lab.1, .string T.lab.2, .slice aof T.kids.length capf]) (hb2.ext (h2f.trans hxg)) rfl rfl (by simp [Value.cells]) (by simp [Value.oneCell']) ?_
  intro wh hch hbh _
  have hbh : Blk wh w1.heap.size 38 [.int .i64 T.lab.1, .string T.lab.2, .slice aof T.kids.length capf] := hbh
  refine Af.new ?_
  intro wi hxi
  refine Ld.agg (vs := [.int .i64 T.lab.1, .string T.lab.2, .slice aof T.kids.length capf]) (Blk.lc0 (post := []) (hbh.ext hxi)) ?_
  have sze := (h2d.trans hxe).size
  have hn : ∀ b ∈ bf, ¬ b = w1.heap.size := fun b hb => by have := hff.lo b hb; omega
  exact ⟨((hx02.trans (h2f.trans hxg)).chg hch (by omega)).ext hxi, _, bf, rfl, ((hkf.ext hxg).chg hch hn).ext hxi, (((hff.ext hxg).chg hch hn).ext hxi).mono (by omega)⟩
/-- impl.CanonicalizeAll -/
theorem c_iCanonAll {ks : List Tp} (hs : Rose.cnt ks ≤ 4294966000) {w : World} (hI : ItoaOk w) {v : Value} {bs : List Nat} (hk : Kids encT w v ks bs) :
    Ret Tryd.prog 23 [v] w (NewTys w (cnL ks)) := by
  obtain ⟨ao, cap, rfl, hm, hcap⟩ := hk.form
  refine ret_of_vc ttOkB Tryd.func23 rfl (by kernel_rfl) (by kernel_rfl) ?_
  refine (c_iCanRen (by omega) hI hk).mono ?_
  have hcn := crn_le ks
  rintro rb w1 ⟨hx1, bd, hbd, hfd⟩
  obtain ⟨aob, capb, rfl, _, _⟩ := hbd.form
  refine (c_iApplyAll (xs := crn ks) (by omega) ks (by omega) _ _ _ _ _ hbd (hk.ext hx1)).mono ?_
  rintro r w2 ⟨hx2, b2, hk2, hf2⟩
  obtain ⟨aor, capr, rfl, _, _⟩ := hk2.form
  exact ⟨hx1.trans hx2, b2, hk2, hf2.mono hx1.size⟩
/-- impl.AlphaEquivalent -/
theorem c_iAlpha {l m : TLab} {ks ls : List Tp} (hs : Rose.cnt ks ≤ 4294966000) (ht : Rose.cnt ls ≤ 4294966000) {w : World} (hI : ItoaOk w) {v u : Value} {bs cs : List Nat} (hk : Kids encT w v ks bs) (gk : Kids encT w u ls cs) :
    Ret Tryd.prog 20 [.agg #[.int .i64 l.1, .string l.2, v], .agg #[.int .i64 m.1, .string m.2, u]] w fun r w' => Says (cnT (.mk l ks) = cnT (.mk m ls)) r ∧ Ext w w' := by
  obtain ⟨ao, cap, rfl, _, _⟩ := hk.form
  obtain ⟨ao2, cap2, rfl, _, _⟩ := gk.form
  refine ret_of_vc ttOkB Tryd.func20 rfl (by kernel_rfl) (by kernel_rfl) ?_
  refine Go1.bx ?_
  intro w1 hx1 hb1
  refine Go1.bx ?_
  intro w2 hx2 hb2
  have hx02 := hx1.trans hx2
  refine Dr.x [0, 2, 1, 3, 4, 5] ttOkB ?_
  refine LdS.xn (vs := [.int .i64 l.1, .string l.2, .slice ao ks.length cap]) (Blk.lc0 (post := []) (hb1.ext hx2)) ?_
  refine LdS.xn (vs := [.int .i64 m.1, .string m.2, .slice ao2 ls.length cap2]) (Blk.lc0 (post := []) hb2) ?_
  refine ⟨fun wa hxa => ?_⟩
  refine (c_iCanon (l := l) hs (hI.ext (hx02.trans hxa)) (hk.ext (hx02.trans hxa))).mono ?_
  rintro _ wb ⟨hxb, vb, bb, rfl, hkb, _⟩
  refine Af.ext (hxa.trans hxb) ?_
  have h2b := hxa.trans hxb
  refine ⟨fun wc hxc => ?_⟩
  refine (c_iCanon (l := m) ht (hI.ext (hx02.trans (h2b.trans hxc))) (gk.ext (hx02.trans (h2b.trans hxc)))).mono ?_
  rintro _ wd ⟨hxd, vd, bd, rfl, hkd, _⟩
  refine Af.ext (hxc.trans hxd) ?_
  have h2d := h2b.trans (hxc.trans hxd)
  refine ⟨fun we hxe => ?_⟩
  refine (c_iEqualType (hkb.ext ((hxc.trans hxd).trans hxe)) (hkd.ext hxe)).mono ?_
  rintro _ wf ⟨⟨b, rfl, hb⟩, hxf⟩
  refine Af.ext (hxe.trans hxf) ?_
  intro wg hxg
  refine ⟨⟨b, rfl, ?_⟩, hx02.trans (h2d.trans ((hxe.trans hxf).trans hxg))⟩
  rw [hb]
  generalize cnT (.mk l ks) = X
  generalize cnT (.mk m ls) = Y
  cases X with
  | mk a b =>
    cases Y with
    | mk c d =>
      constructor
      · rintro ⟨h1, h2⟩
        have h1 : a = c := h1
        have h2 : b = d := h2
        rw [h1, h2]
      · intro h
        cases h
        exact ⟨rfl, rfl⟩
end Go.Proofs.YtmecmdnnhldjpaaDoor
