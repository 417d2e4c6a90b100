/- Contracts: equality of SExprs, three times. Conditions: none. -/
import Derived.Test.YtliigpmpeldebaaGreatJTree
namespace Go.Proofs.YtliigpmpeldebaaGreat
open Go.RowKit

/-- An answer that says whether p. -/
def Says (p : Prop) (r : Value) : Prop := ∃ b, r = .bool b ∧ (b = true ↔ p)
theorem Says.t {p : Prop} (h : p) : Says p (.bool true) := ⟨true, rfl, by simp [h]⟩
theorem Says.f {p : Prop} (h : ¬ p) : Says p (.bool false) := ⟨false, rfl, by simp [h]⟩

theorem take_succ_ne {α : Type} {xs ys : List α} {k : Nat} {x y : α} (hx : xs[k]? = some x) (hy : ys[k]? = some y) (h : x ≠ y) : xs ≠ ys := by
  rintro rfl
  rw [hx] at hy
  exact h (by simpa using hy)

theorem Rose.ext {α : Type} {t u : Rose α} (h1 : t.lab = u.lab) (h2 : t.kids = u.kids) : t = u := by
  rw [← t.eta, ← u.eta, h1, h2]


def SEqSaid (ks : List Sx) : Prop := ∀ (l m : ByteArray) (ls : List Sx) (w : World) (v u : Value) (bs cs : List Nat), Kids encS w v ks bs → Kids encS w u ls cs →
    Ret Tryz.prog 15 [.agg #[.string l, v], .agg #[.string m, u]] w fun r w' => Says (l = m ∧ ks = ls) r ∧ Ext w w'

/-- spec.EqualSExpr -/
theorem c_sEqualSExpr (ks : List Sx) : SEqSaid ks := by
  refine Rose.forest (fun ks ih => ?_) ks
  intro l m ls w v u bs cs hk gk
  obtain ⟨ao, cap, rfl, hm, hcap⟩ := hk.form
  obtain ⟨ao2, cap2, rfl, hm2, hcap2⟩ := gk.form
  refine ret_of_vc ttOk Tryz.func15 rfl (by kernel_rfl) (by kernel_rfl) ?_
  refine Go1.bx ?_
  intro w1 hx1 hb1
  refine Go1.bx ?_
  intro w2 hx2 hb2
  have hx02 := hx1.trans hx2
  have hb1 := hb1.ext hx2
  refine Go1.fl 0 (Ld.one hb1.at0 ?_)
  refine Go1.fl 0 (Ld.one hb2.at0 ?_)
  refine Cm.ns (fun hne => ?_) (fun hlm => ?_)
  · exact ⟨Says.f (fun e => hne e.1), hx02⟩
  · refine Go1.fl 1 (Ld.one hb1.at1 ?_)
    refine Go1.fl 1 (Ld.one hb2.at1 ?_)
    refine Cm.ns (fun hne => ?_) (fun he => ?_)
    · exact ⟨Says.f (fun e => hne (by rw [e.2])), hx02⟩
    · have hlen : ks.length = ls.length := by omega
      refine Lp.go ttOk (by kernel_rfl) (fun k : Nat => [(2, .pointer (some ⟨w.heap.size, 0, none⟩)), (3, .pointer (some ⟨w1.heap.size, 0, none⟩)), (5, .int .i64 k)]) (fun k w' => Ext w2 w' ∧ k ≤ ks.length ∧ ks.take k = ls.take k) (fun k => ks.length - k) 0
        ⟨rfl, rfl, rfl, trivial⟩ ⟨Chg.refl _ _, Nat.zero_le _, rfl⟩ ?_
      rintro k w3 ⟨hx, hk1, hn⟩
      refine Go1.fl 1 (Ld.one (hb1.ext hx).at1 ?_)
      refine Cm.s (fun hlt => ?_) (fun hge => ?_)
      · have hlt : k < ks.length := by omega
        have hlt2 : k < ls.length := by omega
        obtain ⟨a, t, v1, b1, rfl, ht, hc, hkt, _⟩ := hk.get encS_sz hlt
        obtain ⟨a2, t2, u1, c1, rfl, ht2, hc2, gkt, _⟩ := gk.get encS_sz hlt2
        refine Dr.x [0, 1, 2, 3, 4, 5, 6, 7, 8, 9, 10, 11] ttOk ?_
        refine GoS.fl 1 (LdS.x1 (hb1.ext hx).at1 ?_)
        refine GoS.ix 2 hlt (LdS.xn (hc.chg (hx02.trans hx) (.inr id)) ?_)
        refine GoS.fl 1 (LdS.x1 (hb2.ext hx).at1 ?_)
        refine GoS.ix 2 hlt2 (LdS.xn (hc2.chg (hx02.trans hx) (.inr id)) ?_)
        refine ⟨fun w4 hw4 => ?_⟩
        refine (ih t (List.mem_of_getElem? ht) _ _ _ _ _ _ _ _ (hkt.ext ((hx02.trans hx).trans hw4)) (gkt.ext ((hx02.trans hx).trans hw4))).mono ?_
        rintro r w5 ⟨⟨b, rfl, hb⟩, hx5⟩
        refine Af.ext (hw4.trans hx5) ?_
        intro w6 hw6
        have hx6 := ((hx.trans hw4).trans hx5).trans hw6
        cases b
        · refine ⟨Says.f (fun e => take_succ_ne ht ht2 ?_ e.2), hx02.trans hx6⟩
          rintro rfl
          simpa using hb.2 ⟨rfl, rfl⟩
        · obtain ⟨e1, e2⟩ := hb.1 rfl
          refine Wr.n (k + 1) (by omega) (by omega) ?_
          refine ⟨k + 1, ⟨rfl, rfl, rfl, trivial⟩, ⟨hx6, hlt, ?_⟩, by omega⟩
          rw [take_succ_get ht, take_succ_get ht2, hn, Rose.ext e1 e2]
      · have : k = ks.length := by omega
        subst this
        rw [List.take_length, hlen, List.take_length] at hn
        exact ⟨Says.t ⟨hlm, hn⟩, hx02.trans hx⟩

def EqFSaid (ks : List Sx) : Prop := ∀ (ls : List Sx) (w : World) (v u : Value) (bs cs : List Nat), Kids encS w v ks bs → Kids encS w u ls cs →
    Ret Tryz.prog 62 [v, u, .func (.func 30) #[] #[]] w fun r w' => Says (ks = ls) r ∧ Ext w w'

theorem c_iEqualSExpr' {l m : ByteArray} {ks ls : List Sx} (ih : EqFSaid ks) {w : World} {v u : Value} {bs cs : List Nat} (hk : Kids encS w v ks bs) (gk : Kids encS w u ls cs) :
    Ret Tryz.prog 30 [.agg #[.string l, v], .agg #[.string m, u]] w fun r w' => Says (l = m ∧ ks = ls) r ∧ Ext w w' := by
  refine ret_of_vc ttOk Tryz.func30 rfl (by kernel_rfl) (by kernel_rfl) ?_
  refine Go1.bx ?_
  intro w1 hx1 hb1
  refine Go1.bx ?_
  intro w2 hx2 hb2
  have hx02 := hx1.trans hx2
  have hb1 := hb1.ext hx2
  refine Go1.fl 0 (Ld.one hb1.at0 ?_)
  refine Go1.fl 0 (Ld.one hb2.at0 ?_)
  refine Cm.s (fun he => ?_) (fun hne => ?_)
  · refine Go1.fl 1 (Ld.one hb1.at1 ?_)
    refine Go1.fl 1 (Ld.one hb2.at1 ?_)
    refine (ih ls w2 v u bs cs (hk.ext hx02) (gk.ext hx02)).mono ?_
    rintro r w3 ⟨⟨b, rfl, hb⟩, hx3⟩
    cases b
    · exact ⟨Says.f (fun e => by simpa using hb.2 e.2), hx02.trans hx3⟩
    · exact ⟨Says.t ⟨he, hb.1 rfl⟩, hx02.trans hx3⟩
  · exact ⟨Says.f (fun e => hne e.1), hx02⟩

/-- slices.EqualFunc at SExpr, with EqualSExpr -/
theorem c_EqualFuncSx (ks : List Sx) : EqFSaid ks := by
  refine Rose.forest (fun ks ih => ?_) ks
  intro ls w v u bs cs hk gk
  obtain ⟨ao, cap, rfl, hm, hcap⟩ := hk.form
  obtain ⟨ao2, cap2, rfl, hm2, hcap2⟩ := gk.form
  refine ret_of_vc ttOk Tryz.func62 rfl (by kernel_rfl) (by kernel_rfl) ?_
  refine Cm.ns (fun hne => ?_) (fun he => ?_)
  · exact ⟨Says.f (fun e => hne (by rw [e])), Chg.refl _ _⟩
  · have hlen : ks.length = ls.length := by omega
    refine Lp.go ttOk (by kernel_rfl) (fun k : Nat => [(0, .slice ao ks.length cap), (1, .slice ao2 ls.length cap2), (2, .func (.func 30) #[] #[]), (15, .slice ao ks.length cap), (16, .int .i64 ks.length), (17, .int .i64 k)]) (fun k w' => Ext w w' ∧ k ≤ ks.length ∧ ks.take k = ls.take k) (fun k => ks.length - k) 0
      ⟨rfl, rfl, rfl, rfl, rfl, rfl, trivial⟩ ⟨Chg.refl _ _, Nat.zero_le _, rfl⟩ ?_
    rintro k w1 ⟨hx, hk1, hn⟩
    refine Cm.s (fun hlt => ?_) (fun hge => ?_)
    · have hlt : k < ks.length := by omega
      have hlt2 : k < ls.length := by omega
      obtain ⟨a, t, v1, b1, rfl, ht, hc, hkt, _⟩ := hk.get encS_sz hlt
      obtain ⟨a2, t2, u1, c1, rfl, ht2, hc2, gkt, _⟩ := gk.get encS_sz hlt2
      obtain ⟨ao3, cap3, rfl, _, _⟩ := hkt.form
      obtain ⟨ao4, cap4, rfl, _, _⟩ := gkt.form
      refine Go1.ix 2 hlt (Ld.agg (hc.chg hx (.inr id)) ?_)
      refine Go1.al tiSx ?_
      intro w2 hx2 hb2
      have lt2 := hb2.lt
      refine Go0.st (off := 0) (vs := [.string t.lab, .slice ao3 t.kids.length cap3]) hb2 rfl rfl (by simp [Value.cells]) (by simp [Value.oneCell']) ?_
      intro w3 hx3 hb3 _
      have hb3 : Blk w3 w1.heap.size 33 [.string t.lab, .slice ao3 t.kids.length cap3] := hb3
      have hx13 : Ext w1 w3 := hx2.chg hx3 (by omega)
      refine Go1.ix 2 hlt2 (Ld.agg (hc2.chg (hx.trans hx13) (.inr id)) ?_)
      refine Go1.al tiSx ?_
      intro w4 hx4 hb4
      have lt3 := hb3.lt
      have lt4 := hb4.lt
      refine Go0.st (off := 0) (vs := [.string t2.lab, .slice ao4 t2.kids.length cap4]) hb4 rfl rfl (by simp [Value.cells]) (by simp [Value.oneCell']) ?_
      intro w5 hx5 hb5 _
      have hb5 : Blk w5 w3.heap.size 33 [.string t2.lab, .slice ao4 t2.kids.length cap4] := hb5
      have hx35 : Ext w3 w5 := hx4.chg hx5 (by omega)
      refine Ld.agg (vs := [.string t.lab, .slice ao3 t.kids.length cap3]) (Blk.lc0 (post := []) (hb3.ext hx35)) ?_
      refine Ld.agg (vs := [.string t2.lab, .slice ao4 t2.kids.length cap4]) (Blk.lc0 (post := []) hb5) ?_
      have hx05 := (hx.trans hx13).trans hx35
      refine (c_iEqualSExpr' (ih t (List.mem_of_getElem? ht)) (hkt.ext hx05) (gkt.ext hx05)).mono ?_
      rintro r w6 ⟨⟨b, rfl, hb⟩, hx6⟩
      cases b
      · refine ⟨Says.f (take_succ_ne ht ht2 ?_), hx05.trans hx6⟩
        rintro rfl
        simpa using hb.2 ⟨rfl, rfl⟩
      · obtain ⟨e1, e2⟩ := hb.1 rfl
        refine Wr.n (k + 1) (by omega) (by omega) ?_
        refine ⟨k + 1, ⟨rfl, rfl, rfl, rfl, rfl, rfl, trivial⟩, ⟨hx05.trans hx6, hlt, ?_⟩, by omega⟩
        rw [take_succ_get ht, take_succ_get ht2, hn, Rose.ext e1 e2]
    · have : k = ks.length := by omega
      subst this
      rw [List.take_length, hlen, List.take_length] at hn
      exact ⟨Says.t hn, hx⟩

/-- impl.EqualSExpr -/
theorem c_iEqualSExpr {l m : ByteArray} {ks ls : List Sx} {w : World} {v u : Value} {bs cs : List Nat} (hk : Kids encS w v ks bs) (gk : Kids encS w u ls cs) :
    Ret Tryz.prog 30 [.agg #[.string l, v], .agg #[.string m, u]] w fun r w' => Says (l = m ∧ ks = ls) r ∧ Ext w w' := c_iEqualSExpr' (c_EqualFuncSx ks) hk gk

end Go.Proofs.YtliigpmpeldebaaGreat
