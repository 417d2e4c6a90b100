/- Draws: DrawMatch, DrawMatchAll. Conditions: none. -/
import Derived.Test.YtkpdkemkfgcamaaBdN
import Derived.Test.YtkpdkemkfgcamaaBdI
import Derived.Test.YtkpdkemkfgcamaaStrF
namespace Go.Proofs.Ytkpdkemkfgcamaa
open Go.RowKit

theorem kids_1 {w : World} {b : Nat} {e : TypeId} {p : Tp} {vp : Value} {bp : List Nat} (hb : Blk w b e [.int .i64 p.lab.1, .string p.lab.2, vp]) (hk : Kids encT w vp p.kids bp) : ∃ cs, Kids encT w (.slice (some ⟨b, 0, none⟩) 1 1) [p] cs := by
  obtain ⟨cs, h, _⟩ := Kids.of_blk (enc := encT) (ts := [p]) (vs := [vp]) (rest := []) (n := 1) (cap := 1) (bs := bp) (by simpa [fl, encT] using hb) ⟨bp, [], by simp, hk, rfl⟩ rfl ⟨by decide, Nat.le_refl _⟩
  exact ⟨cs, h⟩
theorem kids_2 {w : World} {b : Nat} {e : TypeId} {p q : Tp} {vp vq : Value} {bp bq : List Nat} (hb : Blk w b e [.int .i64 p.lab.1, .string p.lab.2, vp, .int .i64 q.lab.1, .string q.lab.2, vq]) (hk : Kids encT w vp p.kids bp) (gk : Kids encT w vq q.kids bq) : ∃ cs, Kids encT w (.slice (some ⟨b, 0, none⟩) 2 2) [p, q] cs := by
  obtain ⟨cs, h, _⟩ := Kids.of_blk (enc := encT) (ts := [p, q]) (vs := [vp, vq]) (rest := []) (n := 2) (cap := 2) (bs := bp ++ bq) (by simpa [fl, encT] using hb) ⟨bp, bq, by simp, hk, bq, [], by simp, gk, rfl⟩ rfl ⟨by decide, Nat.le_refl _⟩
  exact ⟨cs, h⟩

theorem Grow.row {w : World} {e : TypeId} {v : Value} {xs : List Value} {n : Nat} {O : List Nat} (h : Grow w e 1 v n xs O) (hm : n ≤ maxLen) : ∃ bs, Row w v xs bs ∧ bs.Sublist O := by
  obtain ⟨h0, h1⟩ := h
  have hn : n = xs.length := by simpa using h0.symm
  rcases h1 with ⟨rfl, rfl, rfl⟩ | ⟨g, cap, rest, rfl, rfl, hb, hc, _, _⟩
  · obtain rfl : xs = [] := List.eq_nil_of_length_eq_zero hn.symm
    exact ⟨[], ⟨none, 0, rfl, ⟨Nat.zero_le _, Nat.zero_le _⟩, .inl ⟨rfl, rfl⟩⟩, List.Sublist.refl _⟩
  · subst hn
    by_cases h0 : xs = []
    · subst h0
      exact ⟨[], ⟨_, cap, rfl, ⟨Nat.zero_le _, Nat.zero_le _⟩, .inl ⟨rfl, rfl⟩⟩, by simp⟩
    · exact ⟨[g], ⟨_, cap, rfl, ⟨hm, hc⟩, .inr ⟨⟨g, 0, none⟩, h0, rfl, rfl, Blk.lc0 hb⟩⟩, List.Sublist.refl _⟩

/-- spec.DrawMatch -/
theorem c_DrawMatch {w : World} {v : Value} (hv : OCode w v) : Ret Try.prog 33 [v] w fun r w' => Ext w w' ∧ ∃ (p t : Tp) (vp vt : Value) (bp bt : List Nat), r = .tuple #[.agg #[.int .i64 p.lab.1, .string p.lab.2, vp], .agg #[.int .i64 t.lab.1, .string t.lab.2, vt]] ∧ Kids encT w' vp p.kids bp ∧ Kids encT w' vt t.kids bt ∧ Qt 66 p ∧ 1 + Rose.cnt t.kids ≤ 1000000 := by
  obtain ⟨zs, bs, hr⟩ := hv
  refine ret_of_vc ttOkD Try.func33 rfl (by kernel_rfl) (by kernel_rfl) ?_
  refine Go1.al tiTy ?_
  intro w1 hx1 hb1
  have lt1 := hb1.lt
  refine Go1.al tiTy ?_
  intro w2 hx2 hb2
  have lt2 := hb2.lt
  refine (c_l7Two ⟨zs, bs, (hr.ext hx1).ext hx2⟩).mono ?_
  rintro _ w3 ⟨hx3, p, y, vp, vy, bp, by_, rfl, hkp, hky, hqp, hcy, hlo⟩
  obtain ⟨ap, cp, rfl, _, _⟩ := hkp.form
  obtain ⟨ay, cy, rfl, _, _⟩ := hky.form
  refine Go0.st (off := 0) (vs := [.int .i64 p.lab.1, .string p.lab.2, .slice ap p.kids.length cp]) ((hb1.ext hx2).ext hx3) rfl rfl (by simp [Value.cells]) (by simp [Value.oneCell']) ?_
  intro w4 hc4 hbp _
  have hbp : Blk w4 w.heap.size 40 [.int .i64 p.lab.1, .string p.lab.2, .slice ap p.kids.length cp] := hbp
  have sz1 := hx1.size
  have sz2 := hx2.size
  have sz3 := hx3.size
  refine Go0.st (off := 0) (vs := [.int .i64 y.lab.1, .string y.lab.2, .slice ay y.kids.length cy]) ((hb2.ext hx3).chg hc4 (by omega)) rfl rfl (by simp [Value.cells]) (by simp [Value.oneCell']) ?_
  intro w5 hc5 hby _
  have hby : Blk w5 w1.heap.size 40 [.int .i64 y.lab.1, .string y.lab.2, .slice ay y.kids.length cy] := hby
  refine Ld.agg (vs := [.int .i64 p.lab.1, .string p.lab.2, .slice ap p.kids.length cp]) (Blk.lc0 (post := []) (hbp.chg hc5 (by omega))) ?_
  refine Ld.agg (vs := [.int .i64 y.lab.1, .string y.lab.2, .slice ay y.kids.length cy]) (Blk.lc0 (post := []) hby) ?_
  have hlt2 : ∀ b ∈ bp ++ by_, b ≠ w.heap.size ∧ b ≠ w1.heap.size := fun b hb => by have := hlo b hb; omega
  exact ⟨(((hx1.trans hx2).trans hx3).chg hc4 (by omega)).chg hc5 (by omega), p, y, _, _, bp, by_, rfl, (hkp.chg hc4 (fun b hb h => (hlt2 b (by simp [hb])).1 h)).chg hc5 (fun b hb h => (hlt2 b (by simp [hb])).2 h), (hky.chg hc4 (fun b hb h => (hlt2 b (by simp [hb])).1 h)).chg hc5 (fun b hb h => (hlt2 b (by simp [hb])).2 h), hqp, hcy⟩
/-- spec.DrawMatchAll -/
theorem c_DrawMatchAll {w : World} {v : Value} {zs : List Int} {bs : List Nat} (hr : Row w v (zs.map (Value.int .u8)) bs) (hz : zs.length ≤ 1048576) : Ret Try.prog 28 [v] w fun r w' => Ext w w' ∧ ∃ (ps ts : List Tp) (vp vt : Value) (bp bt : List Nat), r = .tuple #[vp, vt] ∧ Kids encT w' vp ps bp ∧ Kids encT w' vt ts bt ∧ Rose.cnt ps ≤ 1000 ∧ Rose.cnt ts ≤ 4000000 := by
  have hM : maxLen = 9223372036854775807 := rfl
  obtain ⟨av, cv, rfl, _, _⟩ := hr.form
  refine ret_of_vc ttOkD Try.func28 rfl (by kernel_rfl) (by kernel_rfl) ?_
  refine (c_l1New ⟨zs, bs, hr⟩).mono ?_
  rintro _ w0 ⟨hx0, g, rfl, hg, hc0⟩
  have hg0 := hc0.lt
  have sz0 := hx0.size
  refine (c_l7Two ⟨zs, bs, hr.ext hx0⟩).mono ?_
  rintro _ wa ⟨hwa, p, y, vp, vy, dp, dy, rfl, hkp, hky, hqp, hcy, hlop⟩
  have hcp := hqp.1
  obtain ⟨ap, cp, rfl, _, _⟩ := hkp.form
  obtain ⟨ay, cy, rfl, _, _⟩ := hky.form
  refine Go1.al tiTy ?_
  intro wb1 hwb1 hbp
  refine Go1.al tiTy ?_
  intro wb2 hwb2 hby
  have ltp := hbp.lt
  have ltt := hby.lt
  refine Go0.st (off := 0) (vs := [.int .i64 p.lab.1, .string p.lab.2, .slice ap p.kids.length cp]) (hbp.ext hwb2) rfl rfl (by simp [Value.cells]) (by simp [Value.oneCell']) ?_
  intro wc hcwc hbp _
  have hbp : Blk wc wa.heap.size 40 [.int .i64 p.lab.1, .string p.lab.2, .slice ap p.kids.length cp] := hbp
  refine Go0.st (off := 0) (vs := [.int .i64 y.lab.1, .string y.lab.2, .slice ay y.kids.length cy]) (hby.chg hcwc (by omega)) rfl rfl (by simp [Value.cells]) (by simp [Value.oneCell']) ?_
  intro wd hcwd hby _
  have hby : Blk wd wb1.heap.size 40 [.int .i64 y.lab.1, .string y.lab.2, .slice ay y.kids.length cy] := hby
  have hbp := hbp.chg hcwd (by omega)
  have hwawd : Ext wa wd := ((hwb1.trans hwb2).chg hcwc (by omega)).chg hcwd (fun x hx => by have := hwb1.size; omega)
  have hkp := hkp.ext hwawd
  have hky := hky.ext hwawd
  refine Go1.bs 5 [.int .u8 7] (z := .int .u8 0) (size := 1) (bytes := 1) Try.underlying46 (TyI.of (by kernel_rfl)) (by decide) (by decide) (by kernel_rfl) ?_
  intro wg hxg hbg
  have hgr : Grow wg 5 1 (.slice (some ⟨wd.heap.size, 0, none⟩) 1 1) 1 [.int .u8 7] [wd.heap.size] := ⟨rfl, .inr ⟨_, 1, [], rfl, rfl, by simpa using hbg, Nat.le_refl _, by decide, rfl⟩⟩
  refine Go1.apr (z := .int .u8 0) (bytes := 1) Try.underlying46 (TyI.of (by kernel_rfl)) (by rfl) hgr (hr.ext ((hx0.trans hwa).trans (hwawd.trans hxg))) (by simp [Value.oneCell']) (by simp; omega) (by decide) ?_
  intro vc we Oe hce hge hOe
  have hxae : Ext wd we := hxg.chg hce (by simp)
  obtain ⟨av', bv', hr', _⟩ : ∃ (zs' : List Int) (bs' : List Nat), Row we vc (zs'.map (Value.int .u8)) bs' ∧ True := by
    obtain ⟨bs', h1, _⟩ := hge.row (by simp; omega)
    exact ⟨7 :: zs, bs', h1, trivial⟩
  have hbp := hbp.ext hxae
  have hby := hby.ext hxae
  have hkp := hkp.ext hxae
  have hky := hky.ext hxae
  refine (c_l7Two ⟨av', bv', hr'⟩).mono ?_
  rintro _ wf ⟨hwf, q, z, vq, vz, dq, dz, rfl, hkq, hkz, hqq, hcz, hloq⟩
  have hcq := hqq.1
  obtain ⟨aq, cq, rfl, _, _⟩ := hkq.form
  obtain ⟨az, cz, rfl, _, _⟩ := hkz.form
  refine Go1.al tiTy ?_
  intro wh1 hwh1 hbq
  refine Go1.al tiTy ?_
  intro wh2 hwh2 hbz
  have ltp := hbq.lt
  have ltt := hbz.lt
  refine Go0.st (off := 0) (vs := [.int .i64 q.lab.1, .string q.lab.2, .slice aq q.kids.length cq]) (hbq.ext hwh2) rfl rfl (by simp [Value.cells]) (by simp [Value.oneCell']) ?_
  intro wj hcwj hbq _
  have hbq : Blk wj wf.heap.size 40 [.int .i64 q.lab.1, .string q.lab.2, .slice aq q.kids.length cq] := hbq
  refine Go0.st (off := 0) (vs := [.int .i64 z.lab.1, .string z.lab.2, .slice az z.kids.length cz]) (hbz.chg hcwj (by omega)) rfl rfl (by simp [Value.cells]) (by simp [Value.oneCell']) ?_
  intro wk hcwk hbz _
  have hbz : Blk wk wh1.heap.size 40 [.int .i64 z.lab.1, .string z.lab.2, .slice az z.kids.length cz] := hbz
  have hbq := hbq.chg hcwk (by omega)
  have hwfwk : Ext wf wk := ((hwh1.trans hwh2).chg hcwj (by omega)).chg hcwk (fun x hx => by have := hwh1.size; omega)
  have hkq := hkq.ext hwfwk
  have hkz := hkz.ext hwfwk
  have hwewk : Ext we wk := hwf.trans hwfwk
  have hbp := hbp.ext hwewk
  have hby := hby.ext hwewk
  have hkp := hkp.ext hwewk
  have hky := hky.ext hwewk
  have hc0k : Cu wk g := hc0.ext ((hwa.trans hwawd).trans (hxae.trans hwewk))
  refine (c_l1Once hc0k 6 (by decide) (by decide)).mono ?_
  rintro _ w9 ⟨⟨b, rfl⟩, hd9⟩
  have hx9 : Ext w w9 := (hx0.trans ((hwa.trans hwawd).trans (hxae.trans hwewk))).chg hd9.1 (fun x hx => by omega)
  have szA := hwawd.size
  have szB := hxae.size
  have szC := hwa.size
  have szD := hwf.size
  have szE := hwh1.size
  have szF := hwb1.size
  have hbp := hd9.blk hbp (by omega)
  have hby := hd9.blk hby (by omega)
  have hbq := hd9.blk hbq (by omega)
  have hbz := hd9.blk hbz (by omega)
  have hkp := hkp.chg hd9.1 (fun b hb h => by have := hlop b (by simp [hb]); omega)
  have hky := hky.chg hd9.1 (fun b hb h => by have := hlop b (by simp [hb]); omega)
  have hkq := hkq.chg hd9.1 (fun b hb h => by have := hloq b (by simp [hb]); omega)
  have hkz := hkz.chg hd9.1 (fun b hb h => by have := hloq b (by simp [hb]); omega)
  cases b with
  | true =>
    refine Dr.e [0, 2, 3, 1, 5, 4, 6] [(1, 4)] ttOkD ?_
    refine LdS.xn (vs := [.int .i64 p.lab.1, .string p.lab.2, .slice ap p.kids.length cp]) (Blk.lc0 (post := []) hbp) ?_
    refine LdS.xn (vs := [.int .i64 y.lab.1, .string y.lab.2, .slice ay y.kids.length cy]) (Blk.lc0 (post := []) hby) ?_
    refine LdS.xn (vs := [.int .i64 z.lab.1, .string z.lab.2, .slice az z.kids.length cz]) (Blk.lc0 (post := []) hbz) ?_
    refine ⟨?_, ?_⟩
    · refine ⟨fun u1 hu1 => ?_⟩
      refine Go1.bs 40 [.int .i64 p.lab.1, .string p.lab.2, .slice ap p.kids.length cp] (size := 3) (bytes := 48) Try.underlying26 tiTy (by decide) (by decide) (by kernel_rfl) ?_
      intro u2 hu2 hA
      refine Af.ext (hu1.ext hu2) ?_
      refine ⟨fun u3 hu3 => ?_⟩
      refine Go1.bs 40 [.int .i64 y.lab.1, .string y.lab.2, .slice ay y.kids.length cy, .int .i64 z.lab.1, .string z.lab.2, .slice az z.kids.length cz] (size := 3) (bytes := 48) Try.underlying26 tiTy (by decide) (by decide) (by kernel_rfl) ?_
      intro u4 hu4 hB
      refine Af.ext (hu3.ext hu4) ?_
      intro u5 hu5
      have h5 := ((hu1.trans hu2).trans (hu3.trans hu4)).trans hu5
      obtain ⟨csp, hkP⟩ := kids_1 (hA.ext ((hu3.trans hu4).trans hu5)) (hkp.ext (h5))
      obtain ⟨cst, hkT⟩ := kids_2 (hB.ext hu5) (hky.ext (h5)) (hkz.ext (h5))
      exact ⟨hx9.trans h5, _, _, _, _, csp, cst, rfl, hkP, hkT, by simp only [cnt_two, cntZ]; omega, by simp only [cnt_two, cntZ]; omega⟩
    · refine ⟨fun u1 hu1 => ?_⟩
      refine Go1.bs 40 [.int .i64 y.lab.1, .string y.lab.2, .slice ay y.kids.length cy, .int .i64 z.lab.1, .string z.lab.2, .slice az z.kids.length cz] (size := 3) (bytes := 48) Try.underlying26 tiTy (by decide) (by decide) (by kernel_rfl) ?_
      intro u2 hu2 hA
      refine Af.ext (hu1.ext hu2) ?_
      refine ⟨fun u3 hu3 => ?_⟩
      refine Go1.bs 40 [.int .i64 p.lab.1, .string p.lab.2, .slice ap p.kids.length cp] (size := 3) (bytes := 48) Try.underlying26 tiTy (by decide) (by decide) (by kernel_rfl) ?_
      intro u4 hu4 hB
      refine Af.ext (hu3.ext hu4) ?_
      intro u5 hu5
      have h5 := ((hu1.trans hu2).trans (hu3.trans hu4)).trans hu5
      obtain ⟨csp, hkP⟩ := kids_1 (hB.ext hu5) (hkp.ext (h5))
      obtain ⟨cst, hkT⟩ := kids_2 (hA.ext ((hu3.trans hu4).trans hu5)) (hky.ext (h5)) (hkz.ext (h5))
      exact ⟨hx9.trans h5, _, _, _, _, csp, cst, rfl, hkP, hkT, by simp only [cnt_two, cntZ]; omega, by simp only [cnt_two, cntZ]; omega⟩
  | false =>
    refine Dr.e [0, 1, 3, 4, 2, 6, 5, 7] [(2, 5)] ttOkD ?_
    refine LdS.xn (vs := [.int .i64 p.lab.1, .string p.lab.2, .slice ap p.kids.length cp]) (Blk.lc0 (post := []) hbp) ?_
    refine LdS.xn (vs := [.int .i64 q.lab.1, .string q.lab.2, .slice aq q.kids.length cq]) (Blk.lc0 (post := []) hbq) ?_
    refine LdS.xn (vs := [.int .i64 y.lab.1, .string y.lab.2, .slice ay y.kids.length cy]) (Blk.lc0 (post := []) hby) ?_
    refine LdS.xn (vs := [.int .i64 z.lab.1, .string z.lab.2, .slice az z.kids.length cz]) (Blk.lc0 (post := []) hbz) ?_
    refine ⟨?_, ?_⟩
    · refine ⟨fun u1 hu1 => ?_⟩
      refine Go1.bs 40 [.int .i64 p.lab.1, .string p.lab.2, .slice ap p.kids.length cp, .int .i64 q.lab.1, .string q.lab.2, .slice aq q.kids.length cq] (size := 3) (bytes := 48) Try.underlying26 tiTy (by decide) (by decide) (by kernel_rfl) ?_
      intro u2 hu2 hA
      refine Af.ext (hu1.ext hu2) ?_
      refine ⟨fun u3 hu3 => ?_⟩
      refine Go1.bs 40 [.int .i64 y.lab.1, .string y.lab.2, .slice ay y.kids.length cy, .int .i64 z.lab.1, .string z.lab.2, .slice az z.kids.length cz] (size := 3) (bytes := 48) Try.underlying26 tiTy (by decide) (by decide) (by kernel_rfl) ?_
      intro u4 hu4 hB
      refine Af.ext (hu3.ext hu4) ?_
      intro u5 hu5
      have h5 := ((hu1.trans hu2).trans (hu3.trans hu4)).trans hu5
      obtain ⟨csp, hkP⟩ := kids_2 (hA.ext ((hu3.trans hu4).trans hu5)) (hkp.ext (h5)) (hkq.ext (h5))
      obtain ⟨cst, hkT⟩ := kids_2 (hB.ext hu5) (hky.ext (h5)) (hkz.ext (h5))
      exact ⟨hx9.trans h5, _, _, _, _, csp, cst, rfl, hkP, hkT, by simp only [cnt_two, cntZ]; omega, by simp only [cnt_two, cntZ]; omega⟩
    · refine ⟨fun u1 hu1 => ?_⟩
      refine Go1.bs 40 [.int .i64 y.lab.1, .string y.lab.2, .slice ay y.kids.length cy, .int .i64 z.lab.1, .string z.lab.2, .slice az z.kids.length cz] (size := 3) (bytes := 48) Try.underlying26 tiTy (by decide) (by decide) (by kernel_rfl) ?_
      intro u2 hu2 hA
      refine Af.ext (hu1.ext hu2) ?_
      refine ⟨fun u3 hu3 => ?_⟩
      refine Go1.bs 40 [.int .i64 p.lab.1, .string p.lab.2, .slice ap p.kids.length cp, .int .i64 q.lab.1, .string q.lab.2, .slice aq q.kids.length cq] (size := 3) (bytes := 48) Try.underlying26 tiTy (by decide) (by decide) (by kernel_rfl) ?_
      intro u4 hu4 hB
      refine Af.ext (hu3.ext hu4) ?_
      intro u5 hu5
      have h5 := ((hu1.trans hu2).trans (hu3.trans hu4)).trans hu5
      obtain ⟨csp, hkP⟩ := kids_2 (hB.ext hu5) (hkp.ext (h5)) (hkq.ext (h5))
      obtain ⟨cst, hkT⟩ := kids_2 (hA.ext ((hu3.trans hu4).trans hu5)) (hky.ext (h5)) (hkz.ext (h5))
      exact ⟨hx9.trans h5, _, _, _, _, csp, cst, rfl, hkP, hkT, by simp only [cnt_two, cntZ]; omega, by simp only [cnt_two, cntZ]; omega⟩
end Go.Proofs.Ytkpdkemkfgcamaa
