/- Contracts: the laws' helpers on []string. Conditions: none. -/
import Derived.Test.YtmaklbdlijcopaaDoorStrA
namespace Go.Proofs.YtmaklbdlijcopaaDoor
open Go.RowKit

/-- laws.eqStringS: are the two lists one? -/
theorem c_eqStringS {w : World} {v u : Value} {ss ts : List ByteArray} {bs cs : List Nat} (h : Strs w v ss bs) (g : Strs w u ts cs) :
    Ret Tryd.prog 19 [v, u] w fun r w' => r = .bool (decide (ss = ts)) ∧ Ext w w' := by
  obtain ⟨ao, cap, rfl, hm, hcap⟩ := h.form
  obtain ⟨ao2, cap2, rfl, hm2, hcap2⟩ := g.form
  refine ret_of_vc ttOk Tryd.func19 rfl (by kernel_rfl) (by kernel_rfl) ?_
  refine Cm.ns (fun hne => ?_) (fun he => ?_)
  · have : ss ≠ ts := fun e => hne (by rw [e])
    exact ⟨by simp [this], Chg.refl _ _⟩
  · have hlen : ss.length = ts.length := by omega
    refine Lp.go ttOk (by kernel_rfl) (fun k : Nat => [(0, .slice ao ss.length cap), (1, .slice ao2 ts.length cap2), (5, .int .i64 k)]) (fun k w' => Ext w w' ∧ k ≤ ss.length ∧ ss.take k = ts.take k) (fun k => ss.length - k) 0
      ⟨rfl, rfl, rfl, trivial⟩ ⟨Chg.refl _ _, Nat.zero_le _, rfl⟩ ?_
    rintro k w1 ⟨hx, hk, hn⟩
    refine Cm.s (fun hlt => ?_) (fun hge => ?_)
    · have hlt : k < ss.length := by omega
      have hlt2 : k < ts.length := by omega
      obtain ⟨a, rfl, hc⟩ := h.get hlt
      obtain ⟨a2, rfl, hc2⟩ := g.get hlt2
      refine Dr.x [0, 1, 2, 3, 4, 5, 6, 7, 8] ttOk ?_
      refine GoS.ix 1 hlt (LdS.x1 (hx.cell hc) ?_)
      refine GoS.ix 1 hlt2 (LdS.x1 (hx.cell hc2) ?_)
      refine Cm.ns (fun hne w2 hw2 => ?_) (fun heq w2 hw2 => ?_)
      · have : ss ≠ ts := fun e => hne (by subst e; rfl)
        exact ⟨by simp [this], hx.trans hw2⟩
      · refine Wr.n (k + 1) (by omega) (by omega) ?_
        refine ⟨k + 1, ⟨rfl, rfl, rfl, trivial⟩, ⟨hx.trans hw2, hlt, ?_⟩, by omega⟩
        rw [List.take_succ_eq_append_getElem hlt, List.take_succ_eq_append_getElem hlt2, hn, heq]
    · have : k = ss.length := by omega
      subst this
      rw [List.take_length, hlen, List.take_length] at hn
      exact ⟨by simp [hn], hx⟩

def lenS (ss : List ByteArray) : Nat := (ss.map ByteArray.size).sum

theorem lenS_take_succ {ss : List ByteArray} {k : Nat} (h : k < ss.length) : lenS (ss.take (k + 1)) = lenS (ss.take k) + ss[k].size := by
  rw [List.take_succ_eq_append_getElem h]
  simp only [lenS, List.map_append, List.sum_append, List.map_cons, List.map_nil, List.sum_cons, List.sum_nil, Nat.add_zero]


theorem Strs.of_blk {w : World} {b : Nat} {e : TypeId} {ss : List ByteArray} {n cap : Nat} (h : Blk w b e (ss.map .string)) (hn : n = ss.length) (hm : n ≤ maxLen ∧ n ≤ cap) : ∃ bs, Strs w (.slice (some ⟨b, 0, none⟩) n cap) ss bs ∧ bs.Sublist [b] := by
  subst hn
  by_cases h0 : ss = []
  · subst h0
    exact ⟨[], ⟨_, cap, rfl, hm, .inl ⟨rfl, rfl⟩⟩, by simp⟩
  · refine ⟨[b], ⟨_, cap, by simp, by simpa using hm, .inr ⟨⟨b, 0, none⟩, by simpa using h0, rfl, rfl, ?_⟩⟩, List.Sublist.refl _⟩
    exact Blk.lc0 (post := []) (by simpa using h)

theorem Fresh.sub {n : Nat} {w : World} {bs cs : List Nat} (h : Fresh n w cs) (hs : bs.Sublist cs) : Fresh n w bs := ⟨hs.nodup h.nodup, fun b hb => h.lo b (hs.subset hb), fun b hb => h.blk b (hs.subset hb)⟩

/-- What a function hands back that makes a list of strings. -/
def NewStrs (w : World) (ss : List ByteArray) (r : Value) (w' : World) : Prop := Ext w w' ∧ ∃ bs, Strs w' r ss bs ∧ Fresh w.heap.size w' bs


end Go.Proofs.YtmaklbdlijcopaaDoor
