/- Contracts: EqualBindings; copies of Types; Lookup. Conditions: none. -/
import Derived.Test.YtmgghbaojcefgaaBdA
import Derived.Test.YtmgghbaojcefgaaGrow
namespace Go.Proofs.Ytmgghbaojcefgaa
open Go.RowKit

/-- spec.EqualBindings -/
theorem c_sEqualBindings {xs ys : List Bi} {w : World} {v u : Value} {bs cs : List Nat} (hk : Bds w v xs bs) (gk : Bds w u ys cs) :
    Ret Try.prog 33 [v, u] w fun r w' => Says (xs = ys) r ∧ Ext w w' := by
  obtain ⟨ao, cap, rfl, hm, hcap⟩ := hk.form
  obtain ⟨ao2, cap2, rfl, hm2, hcap2⟩ := gk.form
  refine ret_of_vc ttOkB Try.func33 rfl (by kernel_rfl) (by kernel_rfl) ?_
  refine Cm.ns (fun hne => ?_) (fun he => ?_)
  · exact ⟨Says.f (fun e => hne (by rw [e])), Chg.refl _ _⟩
  · have hlen : xs.length = ys.length := by omega
    refine Lp.go ttOkB (by kernel_rfl) (fun k : Nat => [(0, .slice ao xs.length cap), (1, .slice ao2 ys.length cap2), (5, .int .i64 k)]) (fun k w' => Ext w w' ∧ k ≤ xs.length ∧ xs.take k = ys.take k) (fun k => xs.length - k) 0
      ⟨rfl, rfl, rfl, trivial⟩ ⟨Chg.refl _ _, Nat.zero_le _, rfl⟩ ?_
    rintro k w1 ⟨hx, hk1, hn⟩
    refine Cm.s (fun hlt => ?_) (fun hge => ?_)
    · have hlt : k < xs.length := by omega
      have hlt2 : k < ys.length := by omega
      obtain ⟨a, x, v1, b1, rfl, ht, hc, hkt, _⟩ := (hk.ext hx).get hlt
      obtain ⟨a2, y, u1, c1, rfl, ht2, hc2, gkt, _⟩ := (gk.ext hx).get hlt2
      refine Dr.x [0, 1, 2, 3, 4, 5, 6, 7, 8, 9, 10, 11, 12, 13, 14, 15, 16, 17, 18, 19, 20, 21, 22, 23, 24] ttOkB ?_
      refine GoS.ix 4 hlt (GoS.fl 0 (LdS.x1 (hc 0 _ rfl) ?_))
      refine GoS.ix 4 hlt2 (GoS.fl 0 (LdS.x1 (hc2 0 _ rfl) ?_))
      have sub : ∀ {a : Addr} {x : Bi} {v : Value}, Lc w1 a (encB x ++ [v]) → Lc w1 (a.add 1) [.int .i64 x.2.lab.1, .string x.2.lab.2, v] := by
        intro a x v h i u hu
        rw [Go.Deep.add_add]
        refine h _ u ?_
        rw [Nat.add_comm]
        exact hu
      refine Cm.ns (fun hne => ?_) (fun he0 => ?_)
      · intro w4 hw4
        exact ⟨Says.f (take_succ_ne ht ht2 fun e => hne (by rw [e])), hx.trans hw4⟩
      · refine GoS.ix 4 hlt (GoS.fl 1 (LdS.xn (vs := [.int .i64 x.2.lab.1, .string x.2.lab.2, v1]) (sub hc) ?_))
        refine GoS.ix 4 hlt2 (GoS.fl 1 (LdS.xn (vs := [.int .i64 y.2.lab.1, .string y.2.lab.2, u1]) (sub hc2) ?_))
        refine ⟨fun w2 hw2 => ?_⟩
        refine (c_sEqualType (hkt.ext hw2) (gkt.ext hw2)).mono ?_
        rintro r w3 ⟨⟨b, rfl, hb⟩, hx3⟩
        refine Af.ext (hw2.trans hx3) ?_
        intro w4 hw4
        have hx4 := ((hx.trans hw2).trans hx3).trans hw4
        cases b
        · exact ⟨Says.f (take_succ_ne ht ht2 fun e => by subst e; simpa using hb.2 ⟨rfl, rfl⟩), hx4⟩
        · refine Wr.n (k + 1) (by omega) (by omega) ?_
          refine ⟨k + 1, ⟨rfl, rfl, rfl, trivial⟩, ⟨hx4, hlt, ?_⟩, by omega⟩
          rw [take_succ_get ht, take_succ_get ht2, hn, Bi.ext he0 (hb.1 rfl).1 (hb.1 rfl).2]
    · have : k = xs.length := by omega
      subst this
      rw [List.take_length, hlen, List.take_length] at hn
      exact ⟨Says.t hn, hx⟩

/-- impl.EqualBindings -/
theorem c_iEqualBindings {xs ys : List Bi} {w : World} {v u : Value} {bs cs : List Nat} (hk : Bds w v xs bs) (gk : Bds w u ys cs) :
    Ret Try.prog 35 [v, u] w fun r w' => Says (xs = ys) r ∧ Ext w w' := by
  obtain ⟨ao, cap, rfl, hm, hcap⟩ := hk.form
  obtain ⟨ao2, cap2, rfl, hm2, hcap2⟩ := gk.form
  have one : ∀ {x y : Bi} {w : World} {v u : Value} {bs cs : List Nat}, Kids encT w v x.2.kids bs → Kids encT w u y.2.kids cs →
      Ret Try.prog 71 [.agg #[.string x.1, .int .i64 x.2.lab.1, .string x.2.lab.2, v], .agg #[.string y.1, .int .i64 y.2.lab.1, .string y.2.lab.2, u]] w fun r w' => Says (x = y) r ∧ Ext w w' := by
    intro x y w v u bs cs hk gk
    refine ret_of_vc ttOkB Try.func71 rfl (by kernel_rfl) (by kernel_rfl) ?_
    refine Go1.bx ?_
    intro w1 hx1 hb1
    refine Go1.bx ?_
    intro w2 hx2 hb2
    have hx02 := hx1.trans hx2
    have hb1 := hb1.ext hx2
    refine Go1.fl 0 (Ld.one hb1.at0 ?_)
    refine Go1.fl 0 (Ld.one hb2.at0 ?_)
    refine Cm.s (fun he => ?_) (fun hne => ?_)
    · refine Go1.fl 1 (Ld.agg (vs := [.int .i64 x.2.lab.1, .string x.2.lab.2, v]) (Blk.lc1 hb1) ?_)
      refine Go1.fl 1 (Ld.agg (vs := [.int .i64 y.2.lab.1, .string y.2.lab.2, u]) (Blk.lc1 hb2) ?_)
      refine (c_iEqualType (hk.ext hx02) (gk.ext hx02)).mono ?_
      rintro r w3 ⟨⟨b, rfl, hb⟩, hx3⟩
      cases b
      · exact ⟨Says.f (fun e => by subst e; simpa using hb.2 ⟨rfl, rfl⟩), hx02.trans hx3⟩
      · exact ⟨Says.t (Bi.ext he (hb.1 rfl).1 (hb.1 rfl).2), hx02.trans hx3⟩
    · exact ⟨Says.f (fun e => hne (by rw [e])), hx02⟩
  have eqf : Ret Try.prog 70 [.slice ao xs.length cap, .slice ao2 ys.length cap2, .func (.func 71) #[] #[]] w fun r w' => Says (xs = ys) r ∧ Ext w w' := by
    refine ret_of_vc ttOkB Try.func70 rfl (by kernel_rfl) (by kernel_rfl) ?_
    refine Cm.ns (fun hne => ?_) (fun he => ?_)
    · exact ⟨Says.f (fun e => hne (by rw [e])), Chg.refl _ _⟩
    · have hlen : xs.length = ys.length := by omega
      refine Lp.go ttOkB (by kernel_rfl) (fun k : Nat => [(0, .slice ao xs.length cap), (1, .slice ao2 ys.length cap2), (2, .func (.func 71) #[] #[]), (15, .slice ao xs.length cap), (16, .int .i64 xs.length), (17, .int .i64 k)]) (fun k w' => Ext w w' ∧ k ≤ xs.length ∧ xs.take k = ys.take k) (fun k => xs.length - k) 0
        ⟨rfl, rfl, rfl, rfl, rfl, rfl, trivial⟩ ⟨Chg.refl _ _, Nat.zero_le _, rfl⟩ ?_
      rintro k w1 ⟨hx, hk1, hn⟩
      refine Cm.s (fun hlt => ?_) (fun hge => ?_)
      · have hlt : k < xs.length := by omega
        have hlt2 : k < ys.length := by omega
        obtain ⟨a, x, v1, b1, rfl, ht, hc, hkt, _⟩ := (hk.ext hx).get hlt
        obtain ⟨a2, y, u1, c1, rfl, ht2, hc2, gkt, _⟩ := (gk.ext hx).get hlt2
        obtain ⟨ao3, cap3, rfl, _, _⟩ := hkt.form
        obtain ⟨ao4, cap4, rfl, _, _⟩ := gkt.form
        refine Go1.ix 4 hlt (Ld.agg (vs := encB x ++ [.slice ao3 x.2.kids.length cap3]) hc ?_)
        refine Go1.al tiBd ?_
        intro w2 hx2 hb2
        have lt2 := hb2.lt
        refine Go0.st (off := 0) (vs := encB x ++ [.slice ao3 x.2.kids.length cap3]) hb2 rfl rfl (by simp [Value.cells]) (by simp [Value.oneCell']) ?_
        intro w3 hx3 hb3 _
        have hb3 : Blk w3 w1.heap.size 74 (encB x ++ [.slice ao3 x.2.kids.length cap3]) := hb3
        have hx13 : Ext w1 w3 := hx2.chg hx3 (by omega)
        refine Go1.ix 4 hlt2 (Ld.agg (vs := encB y ++ [.slice ao4 y.2.kids.length cap4]) (hc2.chg hx13 (.inr id)) ?_)
        refine Go1.al tiBd ?_
        intro w4 hx4 hb4
        have lt3 := hb3.lt
        have lt4 := hb4.lt
        refine Go0.st (off := 0) (vs := encB y ++ [.slice ao4 y.2.kids.length cap4]) hb4 rfl rfl (by simp [Value.cells]) (by simp [Value.oneCell']) ?_
        intro w5 hx5 hb5 _
        have hb5 : Blk w5 w3.heap.size 74 (encB y ++ [.slice ao4 y.2.kids.length cap4]) := hb5
        have hx35 : Ext w3 w5 := hx4.chg hx5 (by omega)
        refine Ld.agg (vs := encB x ++ [.slice ao3 x.2.kids.length cap3]) (Blk.lc0 (post := []) (hb3.ext hx35)) ?_
        refine Ld.agg (vs := encB y ++ [.slice ao4 y.2.kids.length cap4]) (Blk.lc0 (post := []) hb5) ?_
        refine (one (hkt.ext (hx13.trans hx35)) (gkt.ext (hx13.trans hx35))).mono ?_
        rintro r w6 ⟨⟨b, rfl, hb⟩, hx6⟩
        have hx7 := ((hx.trans hx13).trans hx35).trans hx6
        cases b
        · exact ⟨Says.f (take_succ_ne ht ht2 fun e => by simpa using hb.2 e), hx7⟩
        · refine Wr.n (k + 1) (by omega) (by omega) ?_
          refine ⟨k + 1, ⟨rfl, rfl, rfl, rfl, rfl, rfl, trivial⟩, ⟨hx7, hlt, ?_⟩, by omega⟩
          rw [take_succ_get ht, take_succ_get ht2, hn, hb.1 rfl]
      · have : k = xs.length := by omega
        subst this
        rw [List.take_length, hlen, List.take_length] at hn
        exact ⟨Says.t hn, hx⟩
  refine ret_of_vc ttOkB Try.func35 rfl (by kernel_rfl) (by kernel_rfl) ?_
  refine eqf.mono ?_
  rintro r w1 ⟨⟨b, rfl, hb⟩, hx1⟩
  exact ⟨⟨b, rfl, hb⟩, hx1⟩
end Go.Proofs.Ytmgghbaojcefgaa
