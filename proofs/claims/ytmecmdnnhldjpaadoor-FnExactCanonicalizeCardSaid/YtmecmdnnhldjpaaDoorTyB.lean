/- Contracts: equality of Types, three times. Conditions: none. -/
import Derived.Test.YtmecmdnnhldjpaaDoorTyA
import Derived.Test.YtmecmdnnhldjpaaDoorSxB
namespace Go.Proofs.YtmecmdnnhldjpaaDoor
open Go.RowKit

def EqTSaid (ks : List Tp) : Prop := ∀ (ls : List Tp) (w : World) (v u : Value) (bs cs : List Nat), Kids encT w v ks bs → Kids encT w u ls cs →
    Ret Tryd.prog 13 [v, u] w fun r w' => Says (ks = ls) r ∧ Ext w w'

theorem c_eqType' {l m : TLab} {ks ls : List Tp} (ih : EqTSaid ks) {w : World} {v u : Value} {bs cs : List Nat} (hk : Kids encT w v ks bs) (gk : Kids encT w u ls cs) :
    Ret Tryd.prog 21 [.agg #[.int .i64 l.1, .string l.2, v], .agg #[.int .i64 m.1, .string m.2, u]] w fun r w' => Says (l = m ∧ ks = ls) r ∧ Ext w w' := by
  refine ret_of_vc ttOk Tryd.func21 rfl (by kernel_rfl) (by kernel_rfl) ?_
  refine Go1.bx ?_
  intro w1 hx1 hb1
  refine Go1.bx ?_
  intro w2 hx2 hb2
  refine Go1.fl 0 (Ld.one (hb1.ext hx2).at0 ?_)
  refine Go1.fl 0 (Ld.one hb2.at0 ?_)
  refine Cm.ns (fun hne => ?_) (fun he0 => ?_)
  · exact ⟨Says.f (fun e => hne (by rw [e.1])), hx1.trans hx2⟩
  refine Go1.fl 1 (Ld.one (hb1.ext hx2).at1 ?_)
  refine Go1.fl 1 (Ld.one hb2.at1 ?_)
  refine Cm.ns (fun hne => ?_) (fun he1 => ?_)
  · exact ⟨Says.f (fun e => hne (by rw [e.1])), hx1.trans hx2⟩
  · refine Go1.fl 2 (Ld.one (hb1.ext hx2).at2 ?_)
    refine Go1.fl 2 (Ld.one hb2.at2 ?_)
    refine (ih ls w2 v u bs cs (hk.ext (hx1.trans hx2)) (gk.ext (hx1.trans hx2))).mono ?_
    rintro r w3 ⟨⟨b, rfl, hb⟩, hx3⟩
    cases b
    · exact ⟨Says.f (fun e => by simpa using hb.2 e.2), (hx1.trans hx2).trans hx3⟩
    · exact ⟨Says.t ⟨Prod.ext he0 he1, hb.1 rfl⟩, (hx1.trans hx2).trans hx3⟩

/-- laws.eqTypeS -/
theorem c_eqTypeS (ks : List Tp) : EqTSaid ks := by
  refine Rose.forest (fun ks ih => ?_) ks
  intro ls w v u bs cs hk gk
  obtain ⟨ao, cap, rfl, hm, hcap⟩ := hk.form
  obtain ⟨ao2, cap2, rfl, hm2, hcap2⟩ := gk.form
  refine ret_of_vc ttOk Tryd.func13 rfl (by kernel_rfl) (by kernel_rfl) ?_
  refine Cm.ns (fun hne => ?_) (fun he => ?_)
  · exact ⟨Says.f (fun e => hne (by rw [e])), Chg.refl _ _⟩
  · have hlen : ks.length = ls.length := by omega
    refine Lp.go ttOk (by kernel_rfl) (fun k : Nat => [(0, .slice ao ks.length cap), (1, .slice ao2 ls.length cap2), (5, .int .i64 k)]) (fun k w' => Ext w w' ∧ k ≤ ks.length ∧ ks.take k = ls.take k) (fun k => ks.length - k) 0
      ⟨rfl, rfl, rfl, trivial⟩ ⟨Chg.refl _ _, Nat.zero_le _, rfl⟩ ?_
    rintro k w1 ⟨hx, hk1, hn⟩
    refine Cm.s (fun hlt => ?_) (fun hge => ?_)
    · have hlt : k < ks.length := by omega
      have hlt2 : k < ls.length := by omega
      obtain ⟨a, t, v1, b1, rfl, ht, hc, hkt, _⟩ := hk.get encT_sz hlt
      obtain ⟨a2, t2, u1, c1, rfl, ht2, hc2, gkt, _⟩ := gk.get encT_sz hlt2
      refine Dr.x [0, 1, 2, 3, 4, 5, 6, 7, 8, 9] ttOk ?_
      refine GoS.ix 3 hlt (LdS.xn (hc.chg hx (.inr id)) ?_)
      refine GoS.ix 3 hlt2 (LdS.xn (hc2.chg hx (.inr id)) ?_)
      refine ⟨fun w2 hw2 => ?_⟩
      refine (c_eqType' (ih t (List.mem_of_getElem? ht)) ((hkt.ext hx).ext hw2) ((gkt.ext hx).ext hw2)).mono ?_
      rintro r w3 ⟨⟨b, rfl, hb⟩, hx3⟩
      refine Af.ext (hw2.trans hx3) ?_
      intro w4 hw4
      have hx4 := ((hx.trans hw2).trans hx3).trans hw4
      cases b
      · refine ⟨Says.f (take_succ_ne ht ht2 ?_), hx4⟩
        rintro rfl
        simpa using hb.2 ⟨rfl, rfl⟩
      · obtain ⟨e1, e2⟩ := hb.1 rfl
        refine Wr.n (k + 1) (by omega) (by omega) ?_
        refine ⟨k + 1, ⟨rfl, rfl, rfl, trivial⟩, ⟨hx4, hlt, ?_⟩, by omega⟩
        rw [take_succ_get ht, take_succ_get ht2, hn, Rose.ext e1 e2]
    · have : k = ks.length := by omega
      subst this
      rw [List.take_length, hlen, List.take_length] at hn
      exact ⟨Says.t hn, hx⟩

theorem c_eqType {l m : TLab} {ks ls : List Tp} {w : World} {v u : Value} {bs cs : List Nat} (hk : Kids encT w v ks bs) (gk : Kids encT w u ls cs) :
    Ret Tryd.prog 21 [.agg #[.int .i64 l.1, .string l.2, v], .agg #[.int .i64 m.1, .string m.2, u]] w fun r w' => Says (l = m ∧ ks = ls) r ∧ Ext w w' := c_eqType' (c_eqTypeS ks) hk gk

def SEqTSaid (ks : List Tp) : Prop := ∀ (ls : List Tp) (w : World) (v u : Value) (bs cs : List Nat), Kids encT w v ks bs → Kids encT w u ls cs →
    Ret Tryd.prog 51 [v, u] w fun r w' => Says (ks = ls) r ∧ Ext w w'

theorem c_sEqualType' {l m : TLab} {ks ls : List Tp} (ih : SEqTSaid ks) {w : World} {v u : Value} {bs cs : List Nat} (hk : Kids encT w v ks bs) (gk : Kids encT w u ls cs) :
    Ret Tryd.prog 32 [.agg #[.int .i64 l.1, .string l.2, v], .agg #[.int .i64 m.1, .string m.2, u]] w fun r w' => Says (l = m ∧ ks = ls) r ∧ Ext w w' := by
  refine ret_of_vc ttOk Tryd.func32 rfl (by kernel_rfl) (by kernel_rfl) ?_
  refine Go1.bx ?_
  intro w1 hx1 hb1
  refine Go1.bx ?_
  intro w2 hx2 hb2
  have hx02 := hx1.trans hx2
  have hb1 := hb1.ext hx2
  refine Go1.fl 0 (Ld.one hb1.at0 ?_)
  refine Go1.fl 0 (Ld.one hb2.at0 ?_)
  refine Cm.s (fun he0 => ?_) (fun hne => ?_)
  · refine Go1.fl 1 (Ld.one hb1.at1 ?_)
    refine Go1.fl 1 (Ld.one hb2.at1 ?_)
    refine Cm.s (fun he1 => ?_) (fun hne => ?_)
    · refine Go1.fl 2 (Ld.one hb1.at2 ?_)
      refine Go1.fl 2 (Ld.one hb2.at2 ?_)
      refine (ih ls w2 v u bs cs (hk.ext hx02) (gk.ext hx02)).mono ?_
      rintro r w3 ⟨⟨b, rfl, hb⟩, hx3⟩
      cases b
      · exact ⟨Says.f (fun e => by simpa using hb.2 e.2), hx02.trans hx3⟩
      · exact ⟨Says.t ⟨Prod.ext he0 he1, hb.1 rfl⟩, hx02.trans hx3⟩
    · exact ⟨Says.f (fun e => hne (by rw [e.1])), hx02⟩
  · exact ⟨Says.f (fun e => hne (by rw [e.1])), hx02⟩

/-- spec.l4Same -/
theorem c_l4Same (ks : List Tp) : SEqTSaid ks := by
  refine Rose.forest (fun ks ih => ?_) ks
  intro ls w v u bs cs hk gk
  obtain ⟨ao, cap, rfl, hm, hcap⟩ := hk.form
  obtain ⟨ao2, cap2, rfl, hm2, hcap2⟩ := gk.form
  refine ret_of_vc ttOk Tryd.func51 rfl (by kernel_rfl) (by kernel_rfl) ?_
  refine Cm.ns (fun hne => ?_) (fun he => ?_)
  · exact ⟨Says.f (fun e => hne (by rw [e])), Chg.refl _ _⟩
  · have hlen : ks.length = ls.length := by omega
    refine Lp.go ttOk (by kernel_rfl) (fun k : Nat => [(0, .slice ao ks.length cap), (1, .slice ao2 ls.length cap2), (5, .int .i64 k)]) (fun k w' => Ext w w' ∧ k ≤ ks.length ∧ ks.take k = ls.take k) (fun k => ks.length - k) 0
      ⟨rfl, rfl, rfl, trivial⟩ ⟨Chg.refl _ _, Nat.zero_le _, rfl⟩ ?_
    rintro k w1 ⟨hx, hk1, hn⟩
    refine Cm.s (fun hlt => ?_) (fun hge => ?_)
    · have hlt : k < ks.length := by omega
      have hlt2 : k < ls.length := by omega
      obtain ⟨a, t, v1, b1, rfl, ht, hc, hkt, _⟩ := hk.get encT_sz hlt
      obtain ⟨a2, t2, u1, c1, rfl, ht2, hc2, gkt, _⟩ := gk.get encT_sz hlt2
      refine Dr.x [0, 1, 2, 3, 4, 5, 6, 7, 8, 9] ttOk ?_
      refine GoS.ix 3 hlt (LdS.xn (hc.chg hx (.inr id)) ?_)
      refine GoS.ix 3 hlt2 (LdS.xn (hc2.chg hx (.inr id)) ?_)
      refine ⟨fun w2 hw2 => ?_⟩
      refine (c_sEqualType' (ih t (List.mem_of_getElem? ht)) ((hkt.ext hx).ext hw2) ((gkt.ext hx).ext hw2)).mono ?_
      rintro r w3 ⟨⟨b, rfl, hb⟩, hx3⟩
      refine Af.ext (hw2.trans hx3) ?_
      intro w4 hw4
      have hx4 := ((hx.trans hw2).trans hx3).trans hw4
      cases b
      · refine ⟨Says.f (take_succ_ne ht ht2 ?_), hx4⟩
        rintro rfl
        simpa using hb.2 ⟨rfl, rfl⟩
      · obtain ⟨e1, e2⟩ := hb.1 rfl
        refine Wr.n (k + 1) (by omega) (by omega) ?_
        refine ⟨k + 1, ⟨rfl, rfl, rfl, trivial⟩, ⟨hx4, hlt, ?_⟩, by omega⟩
        rw [take_succ_get ht, take_succ_get ht2, hn, Rose.ext e1 e2]
    · have : k = ks.length := by omega
      subst this
      rw [List.take_length, hlen, List.take_length] at hn
      exact ⟨Says.t hn, hx⟩

theorem c_sEqualType {l m : TLab} {ks ls : List Tp} {w : World} {v u : Value} {bs cs : List Nat} (hk : Kids encT w v ks bs) (gk : Kids encT w u ls cs) :
    Ret Tryd.prog 32 [.agg #[.int .i64 l.1, .string l.2, v], .agg #[.int .i64 m.1, .string m.2, u]] w fun r w' => Says (l = m ∧ ks = ls) r ∧ Ext w w' := c_sEqualType' (c_l4Same ks) hk gk

def EqFTSaid (ks : List Tp) : Prop := ∀ (ls : List Tp) (w : World) (v u : Value) (bs cs : List Nat), Kids encT w v ks bs → Kids encT w u ls cs →
    Ret Tryd.prog 57 [v, u, .func (.func 41) #[] #[]] w fun r w' => Says (ks = ls) r ∧ Ext w w'

theorem c_iEqualType' {l m : TLab} {ks ls : List Tp} (ih : EqFTSaid ks) {w : World} {v u : Value} {bs cs : List Nat} (hk : Kids encT w v ks bs) (gk : Kids encT w u ls cs) :
    Ret Tryd.prog 41 [.agg #[.int .i64 l.1, .string l.2, v], .agg #[.int .i64 m.1, .string m.2, u]] w fun r w' => Says (l = m ∧ ks = ls) r ∧ Ext w w' := by
  refine ret_of_vc ttOk Tryd.func41 rfl (by kernel_rfl) (by kernel_rfl) ?_
  refine Go1.bx ?_
  intro w1 hx1 hb1
  refine Go1.bx ?_
  intro w2 hx2 hb2
  have hx02 := hx1.trans hx2
  have hb1 := hb1.ext hx2
  refine Go1.fl 0 (Ld.one hb1.at0 ?_)
  refine Go1.fl 0 (Ld.one hb2.at0 ?_)
  refine Cm.s (fun he0 => ?_) (fun hne => ?_)
  · refine Go1.fl 1 (Ld.one hb1.at1 ?_)
    refine Go1.fl 1 (Ld.one hb2.at1 ?_)
    refine Cm.s (fun he1 => ?_) (fun hne => ?_)
    · refine Go1.fl 2 (Ld.one hb1.at2 ?_)
      refine Go1.fl 2 (Ld.one hb2.at2 ?_)
      refine (ih ls w2 v u bs cs (hk.ext hx02) (gk.ext hx02)).mono ?_
      rintro r w3 ⟨⟨b, rfl, hb⟩, hx3⟩
      cases b
      · exact ⟨Says.f (fun e => by simpa using hb.2 e.2), hx02.trans hx3⟩
      · exact ⟨Says.t ⟨Prod.ext he0 he1, hb.1 rfl⟩, hx02.trans hx3⟩
    · exact ⟨Says.f (fun e => hne (by rw [e.1])), hx02⟩
  · exact ⟨Says.f (fun e => hne (by rw [e.1])), hx02⟩

/-- slices.EqualFunc at SExpr, with EqualType -/
theorem c_EqualFuncTy (ks : List Tp) : EqFTSaid ks := by
  refine Rose.forest (fun ks ih => ?_) ks
  intro ls w v u bs cs hk gk
  obtain ⟨ao, cap, rfl, hm, hcap⟩ := hk.form
  obtain ⟨ao2, cap2, rfl, hm2, hcap2⟩ := gk.form
  refine ret_of_vc ttOk Tryd.func57 rfl (by kernel_rfl) (by kernel_rfl) ?_
  refine Cm.ns (fun hne => ?_) (fun he => ?_)
  · exact ⟨Says.f (fun e => hne (by rw [e])), Chg.refl _ _⟩
  · have hlen : ks.length = ls.length := by omega
    refine Lp.go ttOk (by kernel_rfl) (fun k : Nat => [(0, .slice ao ks.length cap), (1, .slice ao2 ls.length cap2), (2, .func (.func 41) #[] #[]), (15, .slice ao ks.length cap), (16, .int .i64 ks.length), (17, .int .i64 k)]) (fun k w' => Ext w w' ∧ k ≤ ks.length ∧ ks.take k = ls.take k) (fun k => ks.length - k) 0
      ⟨rfl, rfl, rfl, rfl, rfl, rfl, trivial⟩ ⟨Chg.refl _ _, Nat.zero_le _, rfl⟩ ?_
    rintro k w1 ⟨hx, hk1, hn⟩
    refine Cm.s (fun hlt => ?_) (fun hge => ?_)
    · have hlt : k < ks.length := by omega
      have hlt2 : k < ls.length := by omega
      obtain ⟨a, t, v1, b1, rfl, ht, hc, hkt, _⟩ := hk.get encT_sz hlt
      obtain ⟨a2, t2, u1, c1, rfl, ht2, hc2, gkt, _⟩ := gk.get encT_sz hlt2
      obtain ⟨ao3, cap3, rfl, _, _⟩ := hkt.form
      obtain ⟨ao4, cap4, rfl, _, _⟩ := gkt.form
      refine Go1.ix 3 hlt (Ld.agg (hc.chg hx (.inr id)) ?_)
      refine Go1.al tiTy ?_
      intro w2 hx2 hb2
      have lt2 := hb2.lt
      refine Go0.st (off := 0) (vs := [.int .i64 t.lab.1, .string t.lab.2, .slice ao3 t.kids.length cap3]) hb2 rfl rfl (by simp [Value.cells]) (by simp [Value.oneCell']) ?_
      intro w3 hx3 hb3 _
      have hb3 : Blk w3 w1.heap.size 38 [.int .i64 t.lab.1, .string t.lab.2, .slice ao3 t.kids.length cap3] := hb3
      have hx13 : Ext w1 w3 := hx2.chg hx3 (by omega)
      refine Go1.ix 3 hlt2 (Ld.agg (hc2.chg (hx.trans hx13) (.inr id)) ?_)
      refine Go1.al tiTy ?_
      intro w4 hx4 hb4
      have lt3 := hb3.lt
      have lt4 := hb4.lt
      refine Go0.st (off := 0) (vs := [.int .i64 t2.lab.1, .string t2.lab.2, .slice ao4 t2.kids.length cap4]) hb4 rfl rfl (by simp [Value.cells]) (by simp [Value.oneCell']) ?_
      intro w5 hx5 hb5 _
      have hb5 : Blk w5 w3.heap.size 38 [.int .i64 t2.lab.1, .string t2.lab.2, .slice ao4 t2.kids.length cap4] := hb5
      have hx35 : Ext w3 w5 := hx4.chg hx5 (by omega)
      refine Ld.agg (vs := [.int .i64 t.lab.1, .string t.lab.2, .slice ao3 t.kids.length cap3]) (Blk.lc0 (post := []) (hb3.ext hx35)) ?_
      refine Ld.agg (vs := [.int .i64 t2.lab.1, .string t2.lab.2, .slice ao4 t2.kids.length cap4]) (Blk.lc0 (post := []) hb5) ?_
      have hx05 := (hx.trans hx13).trans hx35
      refine (c_iEqualType' (ih t (List.mem_of_getElem? ht)) (hkt.ext hx05) (gkt.ext hx05)).mono ?_
      rintro r w6 ⟨⟨b, rfl, hb⟩, hx6⟩
      cases b
      · refine ⟨Says.f (take_succ_ne ht ht2 ?_), hx05.trans hx6⟩
        rintro rfl
        simpa using hb.2 ⟨rfl, rfl⟩
      · obtain ⟨e1, e2⟩ := hb.1 rfl
        refine Wr.n (k + 1) (by omega) (by omega) ?_
        refine ⟨k + 1, ⟨rfl, rfl, rfl, rfl, rfl, rfl, trivial⟩, ⟨hx05.trans hx6, hlt, ?_⟩, by omega⟩
        rw [take_succ_get ht, take_succ_get ht2, hn, Rose.ext e1 e2]
    · have : k = ks.length := by omega
      subst this
      rw [List.take_length, hlen, List.take_length] at hn
      exact ⟨Says.t hn, hx⟩

/-- impl.EqualType -/
theorem c_iEqualType {l m : TLab} {ks ls : List Tp} {w : World} {v u : Value} {bs cs : List Nat} (hk : Kids encT w v ks bs) (gk : Kids encT w u ls cs) :
    Ret Tryd.prog 41 [.agg #[.int .i64 l.1, .string l.2, v], .agg #[.int .i64 m.1, .string m.2, u]] w fun r w' => Says (l = m ∧ ks = ls) r ∧ Ext w w' := c_iEqualType' (c_EqualFuncTy ks) hk gk

end Go.Proofs.YtmecmdnnhldjpaaDoor
