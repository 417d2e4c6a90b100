/- Contracts: the laws' helpers on bindings: sizes, copies, equality; Contracts: EqualBindings; copies of Types; Lookup. Conditions: none. -/
import Derived.Test.YtmecmdnnhldjpaaDoorJTyB
import Derived.Test.YtmecmdnnhldjpaaDoorJGrow
namespace Go.Proofs.YtmecmdnnhldjpaaDoor
open Go.RowKit

theorem Blk.lc1 {w : World} {b : Nat} {e : TypeId} {x : Value} {xs : List Value} (h : Blk w b e (x :: xs)) : Lc w ((⟨b, 0, none⟩ : Addr).add 1) xs := by
  have := Blk.lc (pre := [x]) (xs := xs) (post := []) (by simpa using h)
  intro i v hv
  have h1 := this i v hv
  rw [Addr.add_lit] at h1
  rw [Addr.add_lit, Addr.add_lit, Nat.zero_add]
  exact h1

/-- The nodes of bindings. -/
def cntB : List Bi → Nat
  | [] => 0
  | x :: xs => 1 + Rose.cnt x.2.kids + cntB xs
/-- The weight of bindings. -/
def szB : List Bi → Nat
  | [] => 0
  | x :: xs => 1 + (x.1.size + (x.2.lab.2.size + szT x.2.kids)) + szB xs
theorem cntB_append (xs ys : List Bi) : cntB (xs ++ ys) = cntB xs + cntB ys := by
  induction xs with
  | nil => simp [cntB]
  | cons x xs ih => simp only [List.cons_append, cntB, ih]; omega
theorem szB_append (xs ys : List Bi) : szB (xs ++ ys) = szB xs + szB ys := by
  induction xs with
  | nil => simp [szB]
  | cons x xs ih => simp only [List.cons_append, szB, ih]; omega
theorem szB_take {xs : List Bi} {i : Nat} {x : Bi} (h : xs[i]? = some x) : szB (xs.take (i + 1)) = szB (xs.take i) + (1 + (x.1.size + (x.2.lab.2.size + szT x.2.kids))) := by
  rw [take_succ_get h, szB_append]; simp [szB]
theorem cntB_take {xs : List Bi} {i : Nat} {x : Bi} (h : xs[i]? = some x) : cntB (xs.take (i + 1)) = cntB (xs.take i) + (1 + Rose.cnt x.2.kids) := by
  rw [take_succ_get h, cntB_append]; simp [cntB]
theorem cntB_take_le {xs : List Bi} {i : Nat} {x : Bi} (h : xs[i]? = some x) : cntB (xs.take i) + (1 + Rose.cnt x.2.kids) ≤ cntB xs := by
  rw [← cntB_take h]
  have := cntB_append (xs.take (i + 1)) (xs.drop (i + 1))
  rw [List.take_append_drop] at this
  omega
theorem cntB_length (xs : List Bi) : xs.length ≤ cntB xs := by
  induction xs with
  | nil => simp
  | cons x xs ih => simp only [List.length_cons, cntB]; omega
theorem cntB_le (xs : List Bi) : cntB xs ≤ szB xs := by
  induction xs with
  | nil => simp [cntB, szB]
  | cons x xs ih =>
    have := Rose.cnt_le (fun l : TLab => l.2.size) x.2.kids
    simp only [cntB, szB, szT]
    omega
theorem szB_cnt {m left : Nat} {xs : List Bi} (h : m + szB xs = left) (hl : left ≤ 1048576) : cntB xs ≤ 1048576 := by have := cntB_le xs; omega
/-- All texts are of a length that is an int. -/
def AlB (xs : List Bi) : Prop := ∀ x ∈ xs, x.1.size ≤ maxLen ∧ x.2.lab.2.size ≤ maxLen ∧ Rose.AlL (fun s => s.2.size ≤ maxLen) x.2.kids



theorem Bi.ext {x y : Bi} (h0 : x.1 = y.1) (h1 : x.2.lab = y.2.lab) (h2 : x.2.kids = y.2.kids) : x = y := Prod.ext h0 (Rose.ext h1 h2)
/-- laws.eqBinding -/
theorem c_eqBinding {x y : Bi} {w : World} {v u : Value} {bs cs : List Nat} (hk : Kids encT w v x.2.kids bs) (gk : Kids encT w u y.2.kids cs) :
    Ret Tryd.prog 39 [.agg #[.string x.1, .int .i64 x.2.lab.1, .string x.2.lab.2, v], .agg #[.string y.1, .int .i64 y.2.lab.1, .string y.2.lab.2, u]] w fun r w' => Says (x = y) r ∧ Ext w w' := by
  refine ret_of_vc ttOkB Tryd.func39 rfl (by kernel_rfl) (by kernel_rfl) ?_
  refine Go1.bx ?_
  intro w1 hx1 hb1
  refine Go1.bx ?_
  intro w2 hx2 hb2
  have hx02 := hx1.trans hx2
  have hb1 := hb1.ext hx2
  refine Go1.fl 0 (Ld.one hb1.at0 ?_)
  refine Go1.fl 0 (Ld.one hb2.at0 ?_)
  refine Cm.ns (fun hne => ?_) (fun he => ?_)
  · exact ⟨Says.f (fun e => hne (by rw [e])), hx02⟩
  refine Go1.fl 1 (Ld.agg (vs := [.int .i64 x.2.lab.1, .string x.2.lab.2, v]) (Blk.lc1 hb1) ?_)
  refine Go1.fl 1 (Ld.agg (vs := [.int .i64 y.2.lab.1, .string y.2.lab.2, u]) (Blk.lc1 hb2) ?_)
  refine (c_eqType (hk.ext hx02) (gk.ext hx02)).mono ?_
  rintro r w3 ⟨⟨b, rfl, hb⟩, hx3⟩
  cases b
  · exact ⟨Says.f (fun e => by subst e; simpa using hb.2 ⟨rfl, rfl⟩), hx02.trans hx3⟩
  · exact ⟨Says.t (Bi.ext he (hb.1 rfl).1 (hb.1 rfl).2), hx02.trans hx3⟩

/-- laws.eqBindingS -/
theorem c_eqBindingS {xs ys : List Bi} {w : World} {v u : Value} {bs cs : List Nat} (hk : Bds w v xs bs) (gk : Bds w u ys cs) :
    Ret Tryd.prog 12 [v, u] w fun r w' => Says (xs = ys) r ∧ Ext w w' := by
  obtain ⟨ao, cap, rfl, hm, hcap⟩ := hk.form
  obtain ⟨ao2, cap2, rfl, hm2, hcap2⟩ := gk.form
  refine ret_of_vc ttOkB Tryd.func12 rfl (by kernel_rfl) (by kernel_rfl) ?_
  refine Cm.ns (fun hne => ?_) (fun he => ?_)
  · exact ⟨Says.f (fun e => hne (by rw [e])), Chg.refl _ _⟩
  · have hlen : xs.length = ys.length := by omega
    refine Lp.go ttOkB (by kernel_rfl) (fun k : Nat => [(0, .slice ao xs.length cap), (1, .slice ao2 ys.length cap2), (5, .int .i64 k)]) (fun k w' => Ext w w' ∧ k ≤ xs.length ∧ xs.take k = ys.take k) (fun k => xs.length - k) 0
      ⟨rfl, rfl, rfl, trivial⟩ ⟨Chg.refl _ _, Nat.zero_le _, rfl⟩ ?_
    rintro k w1 ⟨hx, hk1, hn⟩
    refine Cm.s (fun hlt => ?_) (fun hge => ?_)
    · have hlt : k < xs.length := by omega
      have hlt2 : k < ys.length := by omega
      obtain ⟨a, x, v1, b1, rfl, ht, hc, hkt, _⟩ := hk.get hlt
      obtain ⟨a2, y, u1, c1, rfl, ht2, hc2, gkt, _⟩ := gk.get hlt2
      refine Dr.x [0, 1, 2, 3, 4, 5, 6, 7, 8, 9] ttOkB ?_
      refine GoS.ix 4 hlt (LdS.xn (vs := encB x ++ [v1]) (hc.chg hx (.inr id)) ?_)
      refine GoS.ix 4 hlt2 (LdS.xn (vs := encB y ++ [u1]) (hc2.chg hx (.inr id)) ?_)
      refine ⟨fun w2 hw2 => ?_⟩
      refine (c_eqBinding ((hkt.ext hx).ext hw2) ((gkt.ext hx).ext hw2)).mono ?_
      rintro r w3 ⟨⟨b, rfl, hb⟩, hx3⟩
      refine Af.ext (hw2.trans hx3) ?_
      intro w4 hw4
      have hx4 := ((hx.trans hw2).trans hx3).trans hw4
      cases b
      · exact ⟨Says.f (take_succ_ne ht ht2 fun e => by simpa using hb.2 e), hx4⟩
      · refine Wr.n (k + 1) (by omega) (by omega) ?_
        refine ⟨k + 1, ⟨rfl, rfl, rfl, trivial⟩, ⟨hx4, hlt, ?_⟩, by omega⟩
        rw [take_succ_get ht, take_succ_get ht2, hn, hb.1 rfl]
    · have : k = xs.length := by omega
      subst this
      rw [List.take_length, hlen, List.take_length] at hn
      exact ⟨Says.t hn, hx⟩
end Go.Proofs.YtmecmdnnhldjpaaDoor

namespace Go.Proofs.YtmecmdnnhldjpaaDoor
open Go.RowKit


end Go.Proofs.YtmecmdnnhldjpaaDoor
