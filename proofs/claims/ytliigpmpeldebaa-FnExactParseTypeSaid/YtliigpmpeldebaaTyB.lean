/- Contracts: equality of Types, three times. Conditions: none. -/
import Derived.Test.YtliigpmpeldebaaTyA
import Derived.Test.YtliigpmpeldebaaSxB
namespace Go.Proofs.Ytliigpmpeldebaa
open Go.RowKit

def EqTSaid (ks : List Tp) : Prop := ∀ (ls : List Tp) (w : World) (v u : Value) (bs cs : List Nat), Kids encT w v ks bs → Kids encT w u ls cs →
    Ret Try.prog 28 [v, u] w fun r w' => Says (ks = ls) r ∧ Ext w w'

theorem c_eqType' {l m : TLab} {ks ls : List Tp} (ih : EqTSaid ks) {w : World} {v u : Value} {bs cs : List Nat} (hk : Kids encT w v ks bs) (gk : Kids encT w u ls cs) :
    Ret Try.prog 14 [.agg #[.int .i64 l.1, .string l.2, v], .agg #[.int .i64 m.1, .string m.2, u]] w fun r w' => Says (l = m ∧ ks = ls) r ∧ Ext w w' := by
  refine ret_of_vc ttOk Try.func14 rfl (by kernel_rfl) (by kernel_rfl) ?_
  refine Go1.bx ?_
  intro w1 hx1 hb1
  refine Go1.bx ?_
  intro w2 hx2 hb2
  refine Go1.fl 0 (Ld.one (hb1.ext hx2).at0 ?_)
  refine Go1.fl 0 (Ld.one hb2.at0 ?_)
  refine Cm.ns (fun hne => ?_) (fun he0 => ?_)
  · exact ⟨Says.f (fun e => hne (by rw [e.1])), hx1.trans hx2⟩
  refine Go1.fl 1 (Ld.one (hb1.ext hx2).at1 ?_)
  refine Go1.fl 1 (Ld.one hb2.at1 ?_)
  refine Cm.ns (fun hne => ?_) (fun he1 => ?_)
  · exact ⟨Says.f (fun e => hne (by rw [e.1])), hx1.trans hx2⟩
  · refine Go1.fl 2 (Ld.one (hb1.ext hx2).at2 ?_)
    refine Go1.fl 2 (Ld.one hb2.at2 ?_)
    refine (ih ls w2 v u bs cs (hk.ext (hx1.trans hx2)) (gk.ext (hx1.trans hx2))).mono ?_
    rintro r w3 ⟨⟨b, rfl, hb⟩, hx3⟩
    cases b
    · exact ⟨Says.f (fun e => by simpa using hb.2 e.2), (hx1.trans hx2).trans hx3⟩
    · exact ⟨Says.t ⟨Prod.ext he0 he1, hb.1 rfl⟩, (hx1.trans hx2).trans hx3⟩

/-- laws.eqTypeS -/
theorem c_eqTypeS (ks : List Tp) : EqTSaid ks := by
  refine Rose.forest (fun ks ih => ?_) ks
  intro ls w v u bs cs hk gk
  obtain ⟨ao, cap, rfl, hm, hcap⟩ := hk.form
  obtain ⟨ao2, cap2, rfl, hm2, hcap2⟩ := gk.form
  refine ret_of_vc ttOk Try.func28 rfl (by kernel_rfl) (by kernel_rfl) ?_
  refine Cm.ns (fun hne => ?_) (fun he => ?_)
  · exact ⟨Says.f (fun e => hne (by rw [e])), Chg.refl _ _⟩
  · have hlen : ks.length = ls.length := by omega
    refine Lp.go ttOk (by kernel_rfl) (fun k : Nat => [(0, .slice ao ks.length cap), (1, .slice ao2 ls.length cap2), (5, .int .i64 k)]) (fun k w' => Ext w w' ∧ k ≤ ks.length ∧ ks.take k = ls.take k) (fun k => ks.length - k) 0
      ⟨rfl, rfl, rfl, trivial⟩ ⟨Chg.refl _ _, Nat.zero_le _, rfl⟩ ?_
    rintro k w1 ⟨hx, hk1, hn⟩
    refine Cm.s (fun hlt => ?_) (fun hge => ?_)
    · have hlt : k < ks.length := by omega
      have hlt2 : k < ls.length := by omega
      obtain ⟨a, t, v1, b1, rfl, ht, hc, hkt, _⟩ := hk.get encT_sz hlt
      obtain ⟨a2, t2, u1, c1, rfl, ht2, hc2, gkt, _⟩ := gk.get encT_sz hlt2
      refine Dr.x [0, 1, 2, 3, 4, 5, 6, 7, 8, 9] ttOk ?_
      refine GoS.ix 3 hlt (LdS.xn (hc.chg hx (.inr id)) ?_)
      refine GoS.ix 3 hlt2 (LdS.xn (hc2.chg hx (.inr id)) ?_)
      refine ⟨fun w2 hw2 => ?_⟩
      refine (c_eqType' (ih t (List.mem_of_getElem? ht)) ((hkt.ext hx).ext hw2) ((gkt.ext hx).ext hw2)).mono ?_
      rintro r w3 ⟨⟨b, rfl, hb⟩, hx3⟩
      refine Af.ext (hw2.trans hx3) ?_
      intro w4 hw4
      have hx4 := ((hx.trans hw2).trans hx3).trans hw4
      cases b
      · refine ⟨Says.f (take_succ_ne ht ht2 ?_), hx4⟩
        rintro rfl
        simpa using hb.2 ⟨rfl, rfl⟩
      · obtain ⟨e1, e2⟩ := hb.1 rfl
        refine Wr.n (k + 1) (by omega) (by omega) ?_
        refine ⟨k + 1, ⟨rfl, rfl, rfl, trivial⟩, ⟨hx4, hlt, ?_⟩, by omega⟩
        rw [take_succ_get ht, take_succ_get ht2, hn, Rose.ext e1 e2]
    · have : k = ks.length := by omega
      subst this
      rw [List.take_length, hlen, List.take_length] at hn
      exact ⟨Says.t hn, hx⟩

theorem c_eqType {l m : TLab} {ks ls : List Tp} {w : World} {v u : Value} {bs cs : List Nat} (hk : Kids encT w v ks bs) (gk : Kids encT w u ls cs) :
    Ret Try.prog 14 [.agg #[.int .i64 l.1, .string l.2, v], .agg #[.int .i64 m.1, .string m.2, u]] w fun r w' => Says (l = m ∧ ks = ls) r ∧ Ext w w' := c_eqType' (c_eqTypeS ks) hk gk



end Go.Proofs.Ytliigpmpeldebaa
