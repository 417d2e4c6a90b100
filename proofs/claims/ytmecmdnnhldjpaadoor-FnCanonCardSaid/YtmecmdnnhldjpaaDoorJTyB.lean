/- Contracts: equality of Types, three times; Slices of bindings: how they lie; the laws' helpers on them. Conditions: none. -/
import Derived.Test.YtmecmdnnhldjpaaDoorJTyA
import Derived.Test.YtmecmdnnhldjpaaDoorJMarkT
import Derived.Test.YtmecmdnnhldjpaaDoorTyD
namespace Go.Proofs.YtmecmdnnhldjpaaDoor
open Go.RowKit

def EqTSaid (ks : List Tp) : Prop := ∀ (ls : List Tp) (w : World) (v u : Value) (bs cs : List Nat), Kids encT w v ks bs → Kids encT w u ls cs →
    Ret Tryd.prog 13 [v, u] w fun r w' => Says (ks = ls) r ∧ Ext w w'

theorem c_eqType' {l m : TLab} {ks ls : List Tp} (ih : EqTSaid ks) {w : World} {v u : Value} {bs cs : List Nat} (hk : Kids encT w v ks bs) (gk : Kids encT w u ls cs) :
    Ret Tryd.prog 21 [.agg #[.int .i64 l.1, .string l.2, v], .agg #[.int .i64 m.1, .string m.2, u]] w fun r w' => Says (l = m ∧ ks = ls) r ∧ Ext w w' := by
  refine ret_of_vc ttOk Tryd.func21 rfl (by kernel_rfl) (by kernel_rfl) ?_
  refine Go1.bx ?_
  intro w1 hx1 hb1
  refine Go1.bx ?_
  intro w2 hx2 hb2
  refine Go1.fl 0 (Ld.one (hb1.ext hx2).at0 ?_)
  refine Go1.fl 0 (Ld.one hb2.at0 ?_)
  refine Cm.ns (fun hne => ?_) (fun he0 => ?_)
  · exact ⟨Says.f (fun e => hne (by rw [e.1])), hx1.trans hx2⟩
  refine Go1.fl 1 (Ld.one (hb1.ext hx2).at1 ?_)
  refine Go1.fl 1 (Ld.one hb2.at1 ?_)
  refine Cm.ns (fun hne => ?_) (fun he1 => ?_)
  · exact ⟨Says.f (fun e => hne (by rw [e.1])), hx1.trans hx2⟩
  · refine Go1.fl 2 (Ld.one (hb1.ext hx2).at2 ?_)
    refine Go1.fl 2 (Ld.one hb2.at2 ?_)
    refine (ih ls w2 v u bs cs (hk.ext (hx1.trans hx2)) (gk.ext (hx1.trans hx2))).mono ?_
    rintro r w3 ⟨⟨b, rfl, hb⟩, hx3⟩
    cases b
    · exact ⟨Says.f (fun e => by simpa using hb.2 e.2), (hx1.trans hx2).trans hx3⟩
    · exact ⟨Says.t ⟨Prod.ext he0 he1, hb.1 rfl⟩, (hx1.trans hx2).trans hx3⟩

/-- laws.eqTypeS -/
theorem c_eqTypeS (ks : List Tp) : EqTSaid ks := by
  refine Rose.forest (fun ks ih => ?_) ks
  intro ls w v u bs cs hk gk
  obtain ⟨ao, cap, rfl, hm, hcap⟩ := hk.form
  obtain ⟨ao2, cap2, rfl, hm2, hcap2⟩ := gk.form
  refine ret_of_vc ttOk Tryd.func13 rfl (by kernel_rfl) (by kernel_rfl) ?_
  refine Cm.ns (fun hne => ?_) (fun he => ?_)
  · exact ⟨Says.f (fun e => hne (by rw [e])), Chg.refl _ _⟩
  · have hlen : ks.length = ls.length := by omega
    refine Lp.go ttOk (by kernel_rfl) (fun k : Nat => [(0, .slice ao ks.length cap), (1, .slice ao2 ls.length cap2), (5, .int .i64 k)]) (fun k w' => Ext w w' ∧ k ≤ ks.length ∧ ks.take k = ls.take k) (fun k => ks.length - k) 0
      ⟨rfl, rfl, rfl, trivial⟩ ⟨Chg.refl _ _, Nat.zero_le _, rfl⟩ ?_
    rintro k w1 ⟨hx, hk1, hn⟩
    refine Cm.s (fun hlt => ?_) (fun hge => ?_)
    · have hlt : k < ks.length := by omega
      have hlt2 : k < ls.length := by omega
      obtain ⟨a, t, v1, b1, rfl, ht, hc, hkt, _⟩ := hk.get encT_sz hlt
      obtain ⟨a2, t2, u1, c1, rfl, ht2, hc2, gkt, _⟩ := gk.get encT_sz hlt2
      refine Dr.x [0, 1, 2, 3, 4, 5, 6, 7, 8, 9] ttOk ?_
      refine GoS.ix 3 hlt (LdS.xn (hc.chg hx (.inr id)) ?_)
      refine GoS.ix 3 hlt2 (LdS.xn (hc2.chg hx (.inr id)) ?_)
      refine ⟨fun w2 hw2 => ?_⟩
      refine (c_eqType' (ih t (List.mem_of_getElem? ht)) ((hkt.ext hx).ext hw2) ((gkt.ext hx).ext hw2)).mono ?_
      rintro r w3 ⟨⟨b, rfl, hb⟩, hx3⟩
      refine Af.ext (hw2.trans hx3) ?_
      intro w4 hw4
      have hx4 := ((hx.trans hw2).trans hx3).trans hw4
      cases b
      · refine ⟨Says.f (take_succ_ne ht ht2 ?_), hx4⟩
        rintro rfl
        simpa using hb.2 ⟨rfl, rfl⟩
      · obtain ⟨e1, e2⟩ := hb.1 rfl
        refine Wr.n (k + 1) (by omega) (by omega) ?_
        refine ⟨k + 1, ⟨rfl, rfl, rfl, trivial⟩, ⟨hx4, hlt, ?_⟩, by omega⟩
        rw [take_succ_get ht, take_succ_get ht2, hn, Rose.ext e1 e2]
    · have : k = ks.length := by omega
      subst this
      rw [List.take_length, hlen, List.take_length] at hn
      exact ⟨Says.t hn, hx⟩

theorem c_eqType {l m : TLab} {ks ls : List Tp} {w : World} {v u : Value} {bs cs : List Nat} (hk : Kids encT w v ks bs) (gk : Kids encT w u ls cs) :
    Ret Tryd.prog 21 [.agg #[.int .i64 l.1, .string l.2, v], .agg #[.int .i64 m.1, .string m.2, u]] w fun r w' => Says (l = m ∧ ks = ls) r ∧ Ext w w' := c_eqType' (c_eqTypeS ks) hk gk

def SEqTSaid (ks : List Tp) : Prop := ∀ (ls : List Tp) (w : World) (v u : Value) (bs cs : List Nat), Kids encT w v ks bs → Kids encT w u ls cs →
    Ret Tryd.prog 51 [v, u] w fun r w' => Says (ks = ls) r ∧ Ext w w'

theorem c_sEqualType' {l m : TLab} {ks ls : List Tp} (ih : SEqTSaid ks) {w : World} {v u : Value} {bs cs : List Nat} (hk : Kids encT w v ks bs) (gk : Kids encT w u ls cs) :
    Ret Tryd.prog 32 [.agg #[.int .i64 l.1, .string l.2, v], .agg #[.int .i64 m.1, .string m.2, u]] w fun r w' => Says (l = m ∧ ks = ls) r ∧ Ext w w' := by
  refine ret_of_vc ttOk Tryd.func32 rfl (by kernel_rfl) (by kernel_rfl) ?_
  refine Go1.bx ?_
  intro w1 hx1 hb1
  refine Go1.bx ?_
  intro w2 hx2 hb2
  have hx02 := hx1.trans hx2
  have hb1 := hb1.ext hx2
  refine Go1.fl 0 (Ld.one hb1.at0 ?_)
  refine Go1.fl 0 (Ld.one hb2.at0 ?_)
  refine Cm.s (fun he0 => ?_) (fun hne => ?_)
  · refine Go1.fl 1 (Ld.one hb1.at1 ?_)
    refine Go1.fl 1 (Ld.one hb2.at1 ?_)
    refine Cm.s (fun he1 => ?_) (fun hne => ?_)
    · refine Go1.fl 2 (Ld.one hb1.at2 ?_)
      refine Go1.fl 2 (Ld.one hb2.at2 ?_)
      refine (ih ls w2 v u bs cs (hk.ext hx02) (gk.ext hx02)).mono ?_
      rintro r w3 ⟨⟨b, rfl, hb⟩, hx3⟩
      cases b
      · exact ⟨Says.f (fun e => by simpa using hb.2 e.2), hx02.trans hx3⟩
      · exact ⟨Says.t ⟨Prod.ext he0 he1, hb.1 rfl⟩, hx02.trans hx3⟩
    · exact ⟨Says.f (fun e => hne (by rw [e.1])), hx02⟩
  · exact ⟨Says.f (fun e => hne (by rw [e.1])), hx02⟩

/-- spec.l4Same -/
theorem c_l4Same (ks : List Tp) : SEqTSaid ks := by
  refine Rose.forest (fun ks ih => ?_) ks
  intro ls w v u bs cs hk gk
  obtain ⟨ao, cap, rfl, hm, hcap⟩ := hk.form
  obtain ⟨ao2, cap2, rfl, hm2, hcap2⟩ := gk.form
  refine ret_of_vc ttOk Tryd.func51 rfl (by kernel_rfl) (by kernel_rfl) ?_
  refine Cm.ns (fun hne => ?_) (fun he => ?_)
  · exact ⟨Says.f (fun e => hne (by rw [e])), Chg.refl _ _⟩
  · have hlen : ks.length = ls.length := by omega
    refine Lp.go ttOk (by kernel_rfl) (fun k : Nat => [(0, .slice ao ks.length cap), (1, .slice ao2 ls.length cap2), (5, .int .i64 k)]) (fun k w' => Ext w w' ∧ k ≤ ks.length ∧ ks.take k = ls.take k) (fun k => ks.length - k) 0
      ⟨rfl, rfl, rfl, trivial⟩ ⟨Chg.refl _ _, Nat.zero_le _, rfl⟩ ?_
    rintro k w1 ⟨hx, hk1, hn⟩
    refine Cm.s (fun hlt => ?_) (fun hge => ?_)
    · have hlt : k < ks.length := by omega
      have hlt2 : k < ls.length := by omega
      obtain ⟨a, t, v1, b1, rfl, ht, hc, hkt, _⟩ := hk.get encT_sz hlt
      obtain ⟨a2, t2, u1, c1, rfl, ht2, hc2, gkt, _⟩ := gk.get encT_sz hlt2
      refine Dr.x [0, 1, 2, 3, 4, 5, 6, 7, 8, 9] ttOk ?_
      refine GoS.ix 3 hlt (LdS.xn (hc.chg hx (.inr id)) ?_)
      refine GoS.ix 3 hlt2 (LdS.xn (hc2.chg hx (.inr id)) ?_)
      refine ⟨fun w2 hw2 => ?_⟩
      refine (c_sEqualType' (ih t (List.mem_of_getElem? ht)) ((hkt.ext hx).ext hw2) ((gkt.ext hx).ext hw2)).mono ?_
      rintro r w3 ⟨⟨b, rfl, hb⟩, hx3⟩
      refine Af.ext (hw2.trans hx3) ?_
      intro w4 hw4
      have hx4 := ((hx.trans hw2).trans hx3).trans hw4
      cases b
      · refine ⟨Says.f (take_succ_ne ht ht2 ?_), hx4⟩
        rintro rfl
        simpa using hb.2 ⟨rfl, rfl⟩
      · obtain ⟨e1, e2⟩ := hb.1 rfl
        refine Wr.n (k + 1) (by omega) (by omega) ?_
        refine ⟨k + 1, ⟨rfl, rfl, rfl, trivial⟩, ⟨hx4, hlt, ?_⟩, by omega⟩
        rw [take_succ_get ht, take_succ_get ht2, hn, Rose.ext e1 e2]
    · have : k = ks.length := by omega
      subst this
      rw [List.take_length, hlen, List.take_length] at hn
      exact ⟨Says.t hn, hx⟩

theorem c_sEqualType {l m : TLab} {ks ls : List Tp} {w : World} {v u : Value} {bs cs : List Nat} (hk : Kids encT w v ks bs) (gk : Kids encT w u ls cs) :
    Ret Tryd.prog 32 [.agg #[.int .i64 l.1, .string l.2, v], .agg #[.int .i64 m.1, .string m.2, u]] w fun r w' => Says (l = m ∧ ks = ls) r ∧ Ext w w' := c_sEqualType' (c_l4Same ks) hk gk

def EqFTSaid (ks : List Tp) : Prop := ∀ (ls : List Tp) (w : World) (v u : Value) (bs cs : List Nat), Kids encT w v ks bs → Kids encT w u ls cs →
    Ret Tryd.prog 57 [v, u, .func (.func 41) #[] #[]] w fun r w' => Says (ks = ls) r ∧ Ext w w'

theorem c_iEqualType' {l m : TLab} {ks ls : List Tp} (ih : EqFTSaid ks) {w : World} {v u : Value} {bs cs : List Nat} (hk : Kids encT w v ks bs) (gk : Kids encT w u ls cs) :
    Ret Tryd.prog 41 [.agg #[.int .i64 l.1, .string l.2, v], .agg #[.int .i64 m.1, .string m.2, u]] w fun r w' => Says (l = m ∧ ks = ls) r ∧ Ext w w' := by
  refine ret_of_vc ttOk Tryd.func41 rfl (by kernel_rfl) (by kernel_rfl) ?_
  refine Go1.bx ?_
  intro w1 hx1 hb1
  refine Go1.bx ?_
  intro w2 hx2 hb2
  have hx02 := hx1.trans hx2
  have hb1 := hb1.ext hx2
  refine Go1.fl 0 (Ld.one hb1.at0 ?_)
  refine Go1.fl 0 (Ld.one hb2.at0 ?_)
  refine Cm.s (fun he0 => ?_) (fun hne => ?_)
  · refine Go1.fl 1 (Ld.one hb1.at1 ?_)
    refine Go1.fl 1 (Ld.one hb2.at1 ?_)
    refine Cm.s (fun he1 => ?_) (fun hne => ?_)
    · refine Go1.fl 2 (Ld.one hb1.at2 ?_)
      refine Go1.fl 2 (Ld.one hb2.at2 ?_)
      refine (ih ls w2 v u bs cs (hk.ext hx02) (gk.ext hx02)).mono ?_
      rintro r w3 ⟨⟨b, rfl, hb⟩, hx3⟩
      cases b
      · exact ⟨Says.f (fun e => by simpa using hb.2 e.2), hx02.trans hx3⟩
      · exact ⟨Says.t ⟨Prod.ext he0 he1, hb.1 rfl⟩, hx02.trans hx3⟩
    · exact ⟨Says.f (fun e => hne (by rw [e.1])), hx02⟩
  · exact ⟨Says.f (fun e => hne (by rw [e.1])), hx02⟩

/-- slices.EqualFunc at SExpr, with EqualType -/
theorem c_EqualFuncTy (ks : List Tp) : EqFTSaid ks := by
  refine Rose.forest (fun ks ih => ?_) ks
  intro ls w v u bs cs hk gk
  obtain ⟨ao, cap, rfl, hm, hcap⟩ := hk.form
  obtain ⟨ao2, cap2, rfl, hm2, hcap2⟩ := gk.form
  refine ret_of_vc ttOk Tryd.func57 rfl (by kernel_rfl) (by kernel_rfl) ?_
  refine Cm.ns (fun hne => ?_) (fun he => ?_)
  · exact ⟨Says.f (fun e => hne (by rw [e])), Chg.refl _ _⟩
  · have hlen : ks.length = ls.length := by omega
    refine Lp.go ttOk (by kernel_rfl) (fun k : Nat => [(0, .slice ao ks.length cap), (1, .slice ao2 ls.length cap2), (2, .func (.func 41) #[] #[]), (15, .slice ao ks.length cap), (16, .int .i64 ks.length), (17, .int .i64 k)]) (fun k w' => Ext w w' ∧ k ≤ ks.length ∧ ks.take k = ls.take k) (fun k => ks.length - k) 0
      ⟨rfl, rfl, rfl, rfl, rfl, rfl, trivial⟩ ⟨Chg.refl _ _, Nat.zero_le _, rfl⟩ ?_
    rintro k w1 ⟨hx, hk1, hn⟩
    refine Cm.s (fun hlt => ?_) (fun hge => ?_)
    · have hlt : k < ks.length := by omega
      have hlt2 : k < ls.length := by omega
      obtain ⟨a, t, v1, b1, rfl, ht, hc, hkt, _⟩ := hk.get encT_sz hlt
      obtain ⟨a2, t2, u1, c1, rfl, ht2, hc2, gkt, _⟩ := gk.get encT_sz hlt2
      obtain ⟨ao3, cap3, rfl, _, _⟩ := hkt.form
      obtain ⟨ao4, cap4, rfl, _, _⟩ := gkt.form
      refine Go1.ix 3 hlt (Ld.agg (hc.chg hx (.inr id)) ?_)
      refine Go1.al tiTy ?_
      intro w2 hx2 hb2
      have lt2 := hb2.lt
      refine Go0.st (off := 0) (vs := [.int .i64 t.lab.1, .string t.lab.2, .slice ao3 t.kids.length cap3]) hb2 rfl rfl (by simp [Value.cells]) (by simp [Value.oneCell']) ?_
      intro w3 hx3 hb3 _
      have hb3 : Blk w3 w1.heap.size 38 [.int .i64 t.lab.1, .string t.lab.2, .slice ao3 t.kids.length cap3] := hb3
      have hx13 : Ext w1 w3 := hx2.chg hx3 (by omega)
      refine Go1.ix 3 hlt2 (Ld.agg (hc2.chg (hx.trans hx13) (.inr id)) ?_)
      refine Go1.al tiTy ?_
      intro w4 hx4 hb4
      have lt3 := hb3.lt
      have lt4 := hb4.lt
      refine Go0.st (off := 0) (vs := [.int .i64 t2.lab.1, .string t2.lab.2, .slice ao4 t2.kids.length cap4]) hb4 rfl rfl (by simp [Value.cells]) (by simp [Value.oneCell']) ?_
      intro w5 hx5 hb5 _
      have hb5 : Blk w5 w3.heap.size 38 [.int .i64 t2.lab.1, .string t2.lab.2, .slice ao4 t2.kids.length cap4] := hb5
      have hx35 : Ext w3 w5 := hx4.chg hx5 (by omega)
      refine Ld.agg (vs := [.int .i64 t.lab.1, .string t.lab.2, .slice ao3 t.kids.length cap3]) (Blk.lc0 (post := []) (hb3.ext hx35)) ?_
      refine Ld.agg (vs := [.int .i64 t2.lab.1, .string t2.lab.2, .slice ao4 t2.kids.length cap4]) (Blk.lc0 (post := []) hb5) ?_
      have hx05 := (hx.trans hx13).trans hx35
      refine (c_iEqualType' (ih t (List.mem_of_getElem? ht)) (hkt.ext hx05) (gkt.ext hx05)).mono ?_
      rintro r w6 ⟨⟨b, rfl, hb⟩, hx6⟩
      cases b
      · refine ⟨Says.f (take_succ_ne ht ht2 ?_), hx05.trans hx6⟩
        rintro rfl
        simpa using hb.2 ⟨rfl, rfl⟩
      · obtain ⟨e1, e2⟩ := hb.1 rfl
        refine Wr.n (k + 1) (by omega) (by omega) ?_
        refine ⟨k + 1, ⟨rfl, rfl, rfl, rfl, rfl, rfl, trivial⟩, ⟨hx05.trans hx6, hlt, ?_⟩, by omega⟩
        rw [take_succ_get ht, take_succ_get ht2, hn, Rose.ext e1 e2]
    · have : k = ks.length := by omega
      subst this
      rw [List.take_length, hlen, List.take_length] at hn
      exact ⟨Says.t hn, hx⟩

/-- impl.EqualType -/
theorem c_iEqualType {l m : TLab} {ks ls : List Tp} {w : World} {v u : Value} {bs cs : List Nat} (hk : Kids encT w v ks bs) (gk : Kids encT w u ls cs) :
    Ret Tryd.prog 41 [.agg #[.int .i64 l.1, .string l.2, v], .agg #[.int .i64 m.1, .string m.2, u]] w fun r w' => Says (l = m ∧ ks = ls) r ∧ Ext w w' := c_iEqualType' (c_EqualFuncTy ks) hk gk

end Go.Proofs.YtmecmdnnhldjpaaDoor

namespace Go.Proofs.YtmecmdnnhldjpaaDoor
open Go.RowKit

def ttb : TT := [
  (9, .str), (4, .boo)
  , (49, .slc 9)
  , (26, .slc 38)
  , (22, .slc 34)
  , (24, .slc 54)
  ]
theorem ttOkB : TOk Tryd.prog ttb := ttB_ok (by kernel_rfl)
theorem tiBd : TyI Tryd.prog 54 (.agg #[.string ⟨#[]⟩, .int .i64 0, .string ⟨#[]⟩, .slice none 0 0]) 4 64 := TyI.of (by kernel_rfl)

/-- A binding: its variable, its type. -/
abbrev Bi : Type := ByteArray × Tp
abbrev encB (x : Bi) : List Value := [.string x.1, .int .i64 x.2.lab.1, .string x.2.lab.2]
/-- Binding x lies at a. -/
def Bn (w : World) (x : Bi) (a : Addr) (bs : List Nat) : Prop := ∃ v, Lc w a (encB x ++ [v]) ∧ Kids encT w v x.2.kids bs
/-- Bindings xs lie side by side. -/
def BL (w : World) : List Bi → Addr → List Nat → Prop
  | [], _, bs => bs = []
  | x :: xs, a, bs => ∃ b1 b2, bs = b1 ++ b2 ∧ Bn w x a b1 ∧ BL w xs (a.add 4) b2
/-- The slice v reads as the bindings xs, in the blocks bs. -/
def Bds (w : World) (v : Value) (xs : List Bi) (bs : List Nat) : Prop :=
  ∃ ao cap, v = .slice ao xs.length cap ∧ (xs.length ≤ maxLen ∧ xs.length ≤ cap) ∧ ((xs = [] ∧ bs = []) ∨ ∃ a bs', xs ≠ [] ∧ ao = some a ∧ bs = a.block :: bs' ∧ BL w xs a bs')

theorem add_block (a : Addr) (i : Nat) : (a.add i).block = a.block := by unfold Addr.add; split <;> rfl

theorem Bn.chg {M : Nat → Prop} {w w' : World} (h : Chg M w w') {x : Bi} {a : Addr} {bs : List Nat} (ha : ¬ M a.block) (hb : ∀ b ∈ bs, ¬ M b) (hx : Bn w x a bs) : Bn w' x a bs := by
  obtain ⟨v, h1, h2⟩ := hx
  exact ⟨v, h1.chg h (.inr ha), h2.chg h hb⟩
theorem BL.chg {M : Nat → Prop} {w w' : World} (h : Chg M w w') : ∀ {xs : List Bi} {a : Addr} {bs : List Nat}, ¬ M a.block → (∀ b ∈ bs, ¬ M b) → BL w xs a bs → BL w' xs a bs
  | [], _, _, _, _, hx => hx
  | x :: xs, a, bs, ha, hb, ⟨b1, b2, e, h1, h2⟩ => by
    subst e
    exact ⟨b1, b2, rfl, h1.chg h ha fun b hh => hb b (List.mem_append_left _ hh), BL.chg h (by rw [add_block]; exact ha) (fun b hh => hb b (List.mem_append_right _ hh)) h2⟩
theorem Bds.chg {M : Nat → Prop} {w w' : World} (h : Chg M w w') {v : Value} {xs : List Bi} {bs : List Nat} (hb : ∀ b ∈ bs, ¬ M b) (hx : Bds w v xs bs) : Bds w' v xs bs := by
  obtain ⟨ao, cap, h1, hm, h2⟩ := hx
  refine ⟨ao, cap, h1, hm, h2.imp id ?_⟩
  rintro ⟨a, bs', h3, h4, rfl, h6⟩
  exact ⟨a, bs', h3, h4, rfl, h6.chg h (hb _ (by simp)) fun b hh => hb b (by simp [hh])⟩
theorem Bds.ext {w w' : World} (h : Ext w w') {v : Value} {xs : List Bi} {bs : List Nat} (hx : Bds w v xs bs) : Bds w' v xs bs := hx.chg h fun _ _ => id
theorem Bds.form {w : World} {v : Value} {xs : List Bi} {bs : List Nat} (h : Bds w v xs bs) : ∃ ao cap, v = .slice ao xs.length cap ∧ xs.length ≤ maxLen ∧ xs.length ≤ cap := by
  obtain ⟨ao, cap, h1, hm, _⟩ := h
  exact ⟨ao, cap, h1, hm⟩
theorem Bds.nil {w : World} {ao : Option Addr} {cap : Nat} : Bds w (.slice ao 0 cap) [] [] := ⟨ao, cap, rfl, ⟨Nat.zero_le _, Nat.zero_le _⟩, .inl ⟨rfl, rfl⟩⟩

theorem BL.split {w : World} {x : Bi} {ys : List Bi} : ∀ {xs : List Bi} {a : Addr} {bs : List Nat}, BL w (xs ++ x :: ys) a bs ↔
    ∃ b1 b2 b3, bs = b1 ++ (b2 ++ b3) ∧ BL w xs a b1 ∧ Bn w x (a.add (xs.length * 4)) b2 ∧ BL w ys (a.add ((xs.length + 1) * 4)) b3
  | [], a, bs => by
    simp only [List.nil_append, BL, List.length_nil, Nat.zero_mul, Nat.zero_add, Nat.one_mul]
    constructor
    · rintro ⟨b1, b2, rfl, h1, h2⟩
      exact ⟨[], b1, b2, rfl, rfl, by simpa [Addr.add] using h1, h2⟩
    · rintro ⟨b1, b2, b3, rfl, rfl, h1, h2⟩
      exact ⟨b2, b3, rfl, by simpa [Addr.add] using h1, h2⟩
  | y :: xs, a, bs => by
    simp only [List.cons_append, BL]
    constructor
    · rintro ⟨c1, c2, rfl, h1, h2⟩
      obtain ⟨b1, b2, b3, rfl, g1, g2, g3⟩ := BL.split.1 h2
      refine ⟨c1 ++ b1, b2, b3, by simp, ⟨c1, b1, rfl, h1, g1⟩, ?_, ?_⟩
      · rw [Go.Deep.add_add] at g2
        rw [List.length_cons, show (xs.length + 1) * 4 = 4 + xs.length * 4 by omega]
        exact g2
      · rw [Go.Deep.add_add] at g3
        rw [List.length_cons, show (xs.length + 1 + 1) * 4 = 4 + (xs.length + 1) * 4 by omega]
        exact g3
    · rintro ⟨b1, b2, b3, rfl, ⟨c1, c2, rfl, h1, g1⟩, g2, g3⟩
      refine ⟨c1, c2 ++ (b2 ++ b3), by simp, h1, BL.split.2 ⟨c2, b2, b3, rfl, g1, ?_, ?_⟩⟩
      · rw [Go.Deep.add_add]
        rw [List.length_cons, show (xs.length + 1) * 4 = 4 + xs.length * 4 by omega] at g2
        exact g2
      · rw [Go.Deep.add_add]
        rw [List.length_cons, show (xs.length + 1 + 1) * 4 = 4 + (xs.length + 1) * 4 by omega] at g3
        exact g3

/-- The i-th element. -/
theorem Bds.get {w : World} {ao : Option Addr} {n cap : Nat} {xs : List Bi} {bs : List Nat} (h : Bds w (.slice ao n cap) xs bs) {i : Nat} (hi : i < n) :
    ∃ a x v b, ao = some a ∧ xs[i]? = some x ∧ Lc w (a.add (i * 4)) (encB x ++ [v]) ∧ Kids encT w v x.2.kids b ∧ ∀ y ∈ b, y ∈ bs := by
  obtain ⟨ao', cap', h1, hm, h2⟩ := h
  simp only [Value.slice.injEq] at h1
  obtain ⟨rfl, rfl, rfl⟩ := h1
  rcases h2 with ⟨rfl, rfl⟩ | ⟨a, bs', h3, rfl, rfl, h6⟩
  · simp at hi
  · have hx : xs = xs.take i ++ xs[i] :: xs.drop (i + 1) := by rw [← List.drop_eq_getElem_cons hi, List.take_append_drop]
    rw [hx] at h6
    obtain ⟨b1, b2, b3, rfl, _, ⟨v, h7, h8⟩, _⟩ := BL.split.1 h6
    have hl : (xs.take i).length = i := by simp; omega
    rw [hl] at h7
    exact ⟨a, xs[i], v, b2, rfl, List.getElem?_eq_getElem hi, h7, h8, fun y hy => by simp [hy]⟩

theorem Bds.lt {w : World} {v : Value} {xs : List Bi} {bs : List Nat} (h : Bds w v xs bs) : ∀ b ∈ bs, b < w.heap.size := by
  obtain ⟨ao, cap, rfl, _, ⟨rfl, rfl⟩ | ⟨a, bs', h0, rfl, rfl, hb⟩⟩ := h
  · simp
  · have key : ∀ (xs : List Bi) (a : Addr) (bs' : List Nat), BL w xs a bs' → (xs ≠ [] → a.block < w.heap.size) ∧ ∀ b ∈ bs', b < w.heap.size := by
      intro xs
      induction xs with
      | nil =>
        intro a bs' h
        have h : bs' = [] := h
        subst h
        exact ⟨fun h => absurd rfl h, by simp⟩
      | cons x xs ih =>
        intro a bs' h
        obtain ⟨b1, b2, rfl, ⟨v, h1, h2⟩, h3⟩ := h
        refine ⟨fun _ => World.block_lt_of_cell? w a (h1 0 _ rfl), fun b hb => ?_⟩
        rcases List.mem_append.1 hb with hb | hb
        · exact Kids.lt encT_ne _ h2 b hb
        · exact (ih _ _ h3).2 b hb
    intro b hh
    rcases List.mem_cons.1 hh with rfl | hh
    · exact (key _ _ _ hb).1 h0
    · exact (key _ _ _ hb).2 b hh

/- ## Bindings that a call builds -/
def flB : List Bi → List Value → List Value
  | x :: xs, v :: vs => encB x ++ [v] ++ flB xs vs
  | _, _ => []
def BdL (w : World) : List Value → List Bi → List Nat → Prop
  | [], [], bs => bs = []
  | v :: vs, x :: xs, bs => ∃ b1 b2, bs = b1 ++ b2 ∧ Kids encT w v x.2.kids b1 ∧ BdL w vs xs b2
  | _, _, _ => False
theorem BdL.length {w : World} : ∀ {vs : List Value} {xs : List Bi} {bs : List Nat}, BdL w vs xs bs → vs.length = xs.length
  | [], [], _, _ => rfl
  | v :: vs, x :: xs, bs, h => by
    obtain ⟨b1, b2, _, _, h⟩ := h
    simp [BdL.length h]
  | [], _ :: _, _, h => h.elim
  | _ :: _, [], _, h => h.elim
theorem BdL.chg {M : Nat → Prop} {w w' : World} (hc : Chg M w w') : ∀ {vs : List Value} {xs : List Bi} {bs : List Nat}, (∀ b ∈ bs, ¬ M b) → BdL w vs xs bs → BdL w' vs xs bs
  | [], [], _, _, h => h
  | v :: vs, x :: xs, bs, hn, h => by
    obtain ⟨b1, b2, rfl, h1, h2⟩ := h
    exact ⟨b1, b2, rfl, h1.chg hc fun b hb => hn b (List.mem_append_left _ hb), BdL.chg hc (fun b hb => hn b (List.mem_append_right _ hb)) h2⟩
  | [], _ :: _, _, _, h => h.elim
  | _ :: _, [], _, _, h => h.elim
theorem BdL.snoc {w : World} {v : Value} {x : Bi} {b : List Nat} (hk : Kids encT w v x.2.kids b) : ∀ {vs : List Value} {xs : List Bi} {bs : List Nat}, BdL w vs xs bs → BdL w (vs ++ [v]) (xs ++ [x]) (bs ++ b)
  | [], [], bs, h => by
    obtain rfl : bs = [] := h
    exact ⟨b, [], by simp, hk, rfl⟩
  | y :: vs, z :: xs, bs, h => by
    obtain ⟨b1, b2, rfl, h1, h2⟩ := h
    exact ⟨b1, b2 ++ b, by simp, h1, BdL.snoc hk h2⟩
  | [], _ :: _, _, h => h.elim
  | _ :: _, [], _, h => h.elim
theorem flB_snoc {v : Value} {x : Bi} : ∀ {xs : List Bi} {vs : List Value}, vs.length = xs.length → flB (xs ++ [x]) (vs ++ [v]) = flB xs vs ++ (encB x ++ [v])
  | [], [], _ => by simp [flB]
  | _ :: xs, _ :: vs, h => by
    simp only [List.cons_append, flB]
    rw [flB_snoc (by simpa using h)]
    simp
  | [], _ :: _, h => by simp at h
  | _ :: _, [], h => by simp at h
theorem length_flB : ∀ {xs : List Bi} {vs : List Value}, vs.length = xs.length → (flB xs vs).length = xs.length * 4
  | [], [], _ => by simp [flB]
  | x :: xs, _ :: vs, h => by
    simp only [flB, List.length_append, List.length_cons, List.length_nil, length_flB (xs := xs) (vs := vs) (by simpa using h)]
    omega
  | [], _ :: _, h => by simp at h
  | _ :: _, [], h => by simp at h
theorem BL.of_fl {w : World} : ∀ {xs : List Bi} {vs : List Value} {bs : List Nat} {a : Addr}, Lc w a (flB xs vs) → BdL w vs xs bs → BL w xs a bs
  | [], [], bs, a, _, h => h
  | x :: xs, v :: vs, bs, a, hl, h => by
    obtain ⟨b1, b2, rfl, h1, h2⟩ := h
    refine ⟨b1, b2, rfl, ⟨v, fun i u hu => hl i u ?_, h1⟩, BL.of_fl (vs := vs) (fun i u hu => ?_) h2⟩
    · simp only [flB]
      rw [List.getElem?_append_left (List.getElem?_eq_some_iff.1 hu).1]
      exact hu
    · rw [Go.Deep.add_add]
      refine hl _ u ?_
      simp only [flB]
      rw [List.getElem?_append_right (by simp)]
      simpa using hu
  | [], _ :: _, _, _, _, h => h.elim
  | _ :: _, [], _, _, _, h => h.elim
theorem Bds.of_blk {w : World} {b : Nat} {e : TypeId} {xs : List Bi} {vs rest : List Value} {bs : List Nat} {n cap : Nat} (h : Blk w b e (flB xs vs ++ rest)) (hk : BdL w vs xs bs) (hn : n = xs.length) (hm : n ≤ maxLen ∧ n ≤ cap) :
    ∃ cs, Bds w (.slice (some ⟨b, 0, none⟩) n cap) xs cs ∧ cs.Sublist (b :: bs) := by
  subst hn
  by_cases h0 : xs = []
  · subst h0
    exact ⟨[], Bds.nil, by simp⟩
  · exact ⟨b :: bs, ⟨_, cap, rfl, hm, .inr ⟨⟨b, 0, none⟩, bs, h0, rfl, rfl, BL.of_fl h.lc0 hk⟩⟩, List.Sublist.refl _⟩

/-- What a function hands back that makes bindings. -/
def NewBds (w : World) (xs : List Bi) (r : Value) (w' : World) : Prop := Ext w w' ∧ ∃ bs, Bds w' r xs bs ∧ Fresh w.heap.size w' bs
end Go.Proofs.YtmecmdnnhldjpaaDoor
