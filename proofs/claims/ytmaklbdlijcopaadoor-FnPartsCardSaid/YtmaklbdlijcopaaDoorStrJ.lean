/- Contract: laws.equalStrings. Conditions: none. -/
import Derived.Test.YtmaklbdlijcopaaDoorStrH
namespace Go.Proofs.YtmaklbdlijcopaaDoor
open Go.RowKit

/-- laws.equalStrings -/
theorem c_equalStrings {ss tt : List ByteArray} {w : World} {v u : Value} {bs cs : List Nat} (hk : Strs w v ss bs) (gk : Strs w u tt cs) :
    Ret Tryd.prog 23 [v, u] w fun r w' => (∃ b, r = .bool b ∧ (b = true ↔ ss = tt)) ∧ Ext w w' := by
  obtain ⟨ao, cap, rfl, hm, hcap⟩ := hk.form
  obtain ⟨ao2, cap2, rfl, hm2, hcap2⟩ := gk.form
  have hM : maxLen = 9223372036854775807 := rfl
  refine ret_of_vc ttOkD Tryd.func23 rfl (by kernel_rfl) (by kernel_rfl) ?_
  refine Cm.ns (fun hne => ⟨⟨false, rfl, by simp; intro e; exact hne (by rw [e])⟩, Chg.refl _ _⟩) (fun he => ?_)
  have he : ss.length = tt.length := by omega
  refine Lp.go ttOkD (by kernel_rfl) (fun k : Nat => [(0, .slice ao ss.length cap), (1, .slice ao2 tt.length cap2), (5, .int .i64 k)]) (fun k w' => Ext w w' ∧ k ≤ ss.length ∧ ss.take k = tt.take k) (fun k => ss.length - k) 0
    ⟨rfl, rfl, rfl, trivial⟩ ⟨Chg.refl _ _, Nat.zero_le _, rfl⟩ ?_
  rintro k w1 ⟨hx, hk1, hn⟩
  refine Cm.s (fun hlt => ?_) (fun hge => ?_)
  · have hlt : k < ss.length := by omega
    have hlt2 : k < tt.length := by omega
    obtain ⟨a, rfl, hc⟩ := hk.get hlt
    obtain ⟨a2, rfl, hc2⟩ := gk.get hlt2
    have ht := List.getElem?_eq_getElem hlt
    have ht2 := List.getElem?_eq_getElem hlt2
    refine Dr.x [0, 1, 2, 3, 4, 5, 6, 7, 8] ttOkD ?_
    refine GoS.ix 1 hlt (LdS.x1 (hx.cell hc) ?_)
    refine GoS.ix 1 hlt2 (LdS.x1 (hx.cell hc2) ?_)
    refine Cm.ns (fun hne => ?_) (fun hee => ?_)
    · intro w2 hx2
      refine ⟨⟨false, rfl, ?_⟩, hx.trans hx2⟩
      simp only [Bool.false_eq_true, false_iff]
      rintro rfl
      exact hne rfl
    · intro w2 hx2
      refine Wr.n (k + 1) (by omega) (by omega) ?_
      refine ⟨k + 1, ⟨rfl, rfl, rfl, trivial⟩, ⟨hx.trans hx2, hlt, ?_⟩, by omega⟩
      rw [take_succ_get ht, take_succ_get ht2, hn, hee]
  · have : k = ss.length := by omega
    subst this
    rw [List.take_length, he, List.take_length] at hn
    exact ⟨⟨true, rfl, by simp [hn]⟩, hx⟩
end Go.Proofs.YtmaklbdlijcopaaDoor
