/- Contracts: l1Has, slices.Index and slices.Contains at []string. Conditions: none. -/
import Derived.Test.YtmecmdnnhldjpaaDoorTy
namespace Go.Proofs.YtmecmdnnhldjpaaDoor
open Go.RowKit

def has (ss : List ByteArray) (s : ByteArray) : Bool := ss.any fun t => decide (t = s)
theorem has_iff {ss : List ByteArray} {s : ByteArray} : has ss s = true ↔ s ∈ ss := by simp [has]
theorem has_t {ss : List ByteArray} {s : ByteArray} (h : s ∈ ss) : has ss s = true := has_iff.2 h
theorem has_f {ss : List ByteArray} {s : ByteArray} (h : s ∉ ss) : has ss s = false := by
  cases e : has ss s
  · rfl
  · exact absurd (has_iff.1 e) h

/-- spec.l1Has: is s among the list? -/
theorem c_l1Has {w : World} {v : Value} {ss : List ByteArray} {bs : List Nat} (h : Strs w v ss bs) (s : ByteArray) :
    Ret Tryd.prog 52 [v, .string s] w fun r w' => r = .bool (has ss s) ∧ w' = w := by
  obtain ⟨ao, cap, rfl, hm, hcap⟩ := h.form
  refine ret_of_vc ttOk Tryd.func52 rfl (by kernel_rfl) (by kernel_rfl) ?_
  refine Lp.go ttOk (by kernel_rfl) (fun k : Nat => [(0, .slice ao ss.length cap), (1, .string s), (5, .int .i64 k)]) (fun k w' => w' = w ∧ k ≤ ss.length ∧ s ∉ ss.take k) (fun k => ss.length - k) 0
    ⟨rfl, rfl, rfl, trivial⟩ ⟨rfl, Nat.zero_le _, by simp⟩ ?_
  rintro k w' ⟨rfl, hk, hn⟩
  refine Cm.s (fun hlt => ?_) (fun hge => ?_)
  · have hlt : k < ss.length := by omega
    obtain ⟨a, rfl, hc⟩ := h.get hlt
    refine Go1.ix 1 hlt ?_
    refine Ld.one hc ?_
    refine Cm.s (fun he => ?_) (fun he => ?_)
    · exact ⟨by rw [has_t (by rw [← he]; exact List.getElem_mem hlt)], rfl⟩
    · refine Wr.n (k + 1) (by omega) (by omega) ?_
      refine ⟨k + 1, ⟨rfl, rfl, rfl, trivial⟩, ⟨rfl, hlt, ?_⟩, by omega⟩
      rw [List.take_succ_eq_append_getElem hlt]
      simp only [List.mem_append, hn, false_or, List.mem_singleton]
      exact fun e => he e.symm
  · have : k = ss.length := by omega
    subst this
    rw [List.take_length] at hn
    exact ⟨by rw [has_f hn], rfl⟩
end Go.Proofs.YtmecmdnnhldjpaaDoor
