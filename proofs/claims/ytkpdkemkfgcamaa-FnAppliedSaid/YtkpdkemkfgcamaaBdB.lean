/- Contracts: EqualBindings; copies of Types; Lookup. Conditions: none. -/
import Derived.Test.YtkpdkemkfgcamaaBdA
import Derived.Test.YtkpdkemkfgcamaaJGrow
namespace Go.Proofs.Ytkpdkemkfgcamaa
open Go.RowKit

/-- spec.EqualBindings -/
theorem c_sEqualBindings {xs ys : List Bi} {w : World} {v u : Value} {bs cs : List Nat} (hk : Bds w v xs bs) (gk : Bds w u ys cs) :
    Ret Try.prog 31 [v, u] w fun r w' => Says (xs = ys) r ∧ Ext w w' := by
  obtain ⟨ao, cap, rfl, hm, hcap⟩ := hk.form
  obtain ⟨ao2, cap2, rfl, hm2, hcap2⟩ := gk.form
  refine ret_of_vc ttOkB Try.func31 rfl (by kernel_rfl) (by kernel_rfl) ?_
  refine Cm.ns (fun hne => ?_) (fun he => ?_)
  · exact ⟨Says.f (fun e => hne (by rw [e])), Chg.refl _ _⟩
  · have hlen : xs.length = ys.length := by omega
    refine Lp.go ttOkB (by kernel_rfl) (fun k : Nat => [(0, .slice ao xs.length cap), (1, .slice ao2 ys.length cap2), (5, .int .i64 k)]) (fun k w' => Ext w w' ∧ k ≤ xs.length ∧ xs.take k = ys.take k) (fun k => xs.length - k) 0
      ⟨rfl, rfl, rfl, trivial⟩ ⟨Chg.refl _ _, Nat.zero_le _, rfl⟩ ?_
    rintro k w1 ⟨hx, hk1, hn⟩
    refine Cm.s (fun hlt => ?_) (fun hge => ?_)
    · have hlt : k < xs.length := by omega
      have hlt2 : k < ys.length := by omega
      obtain ⟨a, x, v1, b1, rfl, ht, hc, hkt, _⟩ := (hk.ext hx).get hlt
      obtain ⟨a2, y, u1, c1, rfl, ht2, hc2, gkt, _⟩ := (gk.ext hx).get hlt2
      refine Dr.x [0, 1, 2, 3, 4, 5, 6, 7, 8, 9, 10, 11, 12, 13, 14, 15, 16, 17, 18, 19, 20, 21, 22, 23, 24] ttOkB ?_
      refine GoS.ix 4 hlt (GoS.fl 0 (LdS.x1 (hc 0 _ rfl) ?_))
      refine GoS.ix 4 hlt2 (GoS.fl 0 (LdS.x1 (hc2 0 _ rfl) ?_))
      have sub : ∀ {a : Addr} {x : Bi} {v : Value}, Lc w1 a (encB x ++ [v]) → Lc w1 (a.add 1) [.int .i64 x.2.lab.1, .string x.2.lab.2, v] := by
        intro a x v h i u hu
        rw [Go.Deep.add_add]
        refine h _ u ?_
        rw [Nat.add_comm]
        exact hu
      refine Cm.ns (fun hne => ?_) (fun he0 => ?_)
      · intro w4 hw4
        exact ⟨Says.f (take_succ_ne ht ht2 fun e => hne (by rw [e])), hx.trans hw4⟩
      · refine GoS.ix 4 hlt (GoS.fl 1 (LdS.xn (vs := [.int .i64 x.2.lab.1, .string x.2.lab.2, v1]) (sub hc) ?_))
        refine GoS.ix 4 hlt2 (GoS.fl 1 (LdS.xn (vs := [.int .i64 y.2.lab.1, .string y.2.lab.2, u1]) (sub hc2) ?_))
        refine ⟨fun w2 hw2 => ?_⟩
        refine (c_sEqualType (hkt.ext hw2) (gkt.ext hw2)).mono ?_
        rintro r w3 ⟨⟨b, rfl, hb⟩, hx3⟩
        refine Af.ext (hw2.trans hx3) ?_
        intro w4 hw4
        have hx4 := ((hx.trans hw2).trans hx3).trans hw4
        cases b
        · exact ⟨Says.f (take_succ_ne ht ht2 fun e => by subst e; simpa using hb.2 ⟨rfl, rfl⟩), hx4⟩
        · refine Wr.n (k + 1) (by omega) (by omega) ?_
          refine ⟨k + 1, ⟨rfl, rfl, rfl, trivial⟩, ⟨hx4, hlt, ?_⟩, by omega⟩
          rw [take_succ_get ht, take_succ_get ht2, hn, Bi.ext he0 (hb.1 rfl).1 (hb.1 rfl).2]
    · have : k = xs.length := by omega
      subst this
      rw [List.take_length, hlen, List.take_length] at hn
      exact ⟨Says.t hn, hx⟩

end Go.Proofs.Ytkpdkemkfgcamaa
