/- The kinds of this translation's types, as the engine asks them; Contracts: l1Has, slices.Index and slices.Contains at []string; Contracts: the laws' helpers on []string; Contracts: bytes, atoms, names. Conditions: none. -/
import Derived.Test.YtmecmdnnhldjpaaDoorChecked
import Derived.Test.YtmecmdnnhldjpaaDoorOwn
import Derived.Laws.Externs
namespace Go.Proofs.YtmecmdnnhldjpaaDoor
def tt : TT := [
  (9, .str), (4, .boo)
  , (49, .slc 9)
  , (26, .slc 38)
  , (22, .slc 34)
  ]
theorem ttOk : TOk Tryd.prog tt := ttB_ok (by kernel_rfl)

theorem tiTy : TyI Tryd.prog 38 (.agg #[.int .i64 0, .string ⟨#[]⟩, .slice none 0 0]) 3 48 := TyI.of (by kernel_rfl)
theorem tiBool : TyI Tryd.prog 4 (.bool false) 1 1 := TyI.of (by kernel_rfl)
theorem tiStr : TyI Tryd.prog 9 (.string ⟨#[]⟩) 1 16 := TyI.of (by kernel_rfl)
end Go.Proofs.YtmecmdnnhldjpaaDoor

namespace Go.Proofs.YtmecmdnnhldjpaaDoor
open Go.RowKit

def has (ss : List ByteArray) (s : ByteArray) : Bool := ss.any fun t => decide (t = s)
theorem has_iff {ss : List ByteArray} {s : ByteArray} : has ss s = true ↔ s ∈ ss := by simp [has]
theorem has_t {ss : List ByteArray} {s : ByteArray} (h : s ∈ ss) : has ss s = true := has_iff.2 h
theorem has_f {ss : List ByteArray} {s : ByteArray} (h : s ∉ ss) : has ss s = false := by
  cases e : has ss s
  · rfl
  · exact absurd (has_iff.1 e) h

/-- spec.l1Has: is s among the list? -/
theorem c_l1Has {w : World} {v : Value} {ss : List ByteArray} {bs : List Nat} (h : Strs w v ss bs) (s : ByteArray) :
    Ret Tryd.prog 52 [v, .string s] w fun r w' => r = .bool (has ss s) ∧ w' = w := by
  obtain ⟨ao, cap, rfl, hm, hcap⟩ := h.form
  refine ret_of_vc ttOk Tryd.func52 rfl (by kernel_rfl) (by kernel_rfl) ?_
  refine Lp.go ttOk (by kernel_rfl) (fun k : Nat => [(0, .slice ao ss.length cap), (1, .string s), (5, .int .i64 k)]) (fun k w' => w' = w ∧ k ≤ ss.length ∧ s ∉ ss.take k) (fun k => ss.length - k) 0
    ⟨rfl, rfl, rfl, trivial⟩ ⟨rfl, Nat.zero_le _, by simp⟩ ?_
  rintro k w' ⟨rfl, hk, hn⟩
  refine Cm.s (fun hlt => ?_) (fun hge => ?_)
  · have hlt : k < ss.length := by omega
    obtain ⟨a, rfl, hc⟩ := h.get hlt
    refine Go1.ix 1 hlt ?_
    refine Ld.one hc ?_
    refine Cm.s (fun he => ?_) (fun he => ?_)
    · exact ⟨by rw [has_t (by rw [← he]; exact List.getElem_mem hlt)], rfl⟩
    · refine Wr.n (k + 1) (by omega) (by omega) ?_
      refine ⟨k + 1, ⟨rfl, rfl, rfl, trivial⟩, ⟨rfl, hlt, ?_⟩, by omega⟩
      rw [List.take_succ_eq_append_getElem hlt]
      simp only [List.mem_append, hn, false_or, List.mem_singleton]
      exact fun e => he e.symm
  · have : k = ss.length := by omega
    subst this
    rw [List.take_length] at hn
    exact ⟨by rw [has_f hn], rfl⟩
end Go.Proofs.YtmecmdnnhldjpaaDoor

namespace Go.Proofs.YtmecmdnnhldjpaaDoor
open Go.RowKit


def lenS (ss : List ByteArray) : Nat := (ss.map ByteArray.size).sum

theorem lenS_take_succ {ss : List ByteArray} {k : Nat} (h : k < ss.length) : lenS (ss.take (k + 1)) = lenS (ss.take k) + ss[k].size := by
  rw [List.take_succ_eq_append_getElem h]
  simp only [lenS, List.map_append, List.sum_append, List.map_cons, List.map_nil, List.sum_cons, List.sum_nil, Nat.add_zero]


theorem Strs.of_blk {w : World} {b : Nat} {e : TypeId} {ss : List ByteArray} {n cap : Nat} (h : Blk w b e (ss.map .string)) (hn : n = ss.length) (hm : n ≤ maxLen ∧ n ≤ cap) : ∃ bs, Strs w (.slice (some ⟨b, 0, none⟩) n cap) ss bs ∧ bs.Sublist [b] := by
  subst hn
  by_cases h0 : ss = []
  · subst h0
    exact ⟨[], ⟨_, cap, rfl, hm, .inl ⟨rfl, rfl⟩⟩, by simp⟩
  · refine ⟨[b], ⟨_, cap, by simp, by simpa using hm, .inr ⟨⟨b, 0, none⟩, by simpa using h0, rfl, rfl, ?_⟩⟩, List.Sublist.refl _⟩
    exact Blk.lc0 (post := []) (by simpa using h)

theorem Fresh.sub {n : Nat} {w : World} {bs cs : List Nat} (h : Fresh n w cs) (hs : bs.Sublist cs) : Fresh n w bs := ⟨hs.nodup h.nodup, fun b hb => h.lo b (hs.subset hb), fun b hb => h.blk b (hs.subset hb)⟩

/-- What a function hands back that makes a list of strings. -/
def NewStrs (w : World) (ss : List ByteArray) (r : Value) (w' : World) : Prop := Ext w w' ∧ ∃ bs, Strs w' r ss bs ∧ Fresh w.heap.size w' bs


end Go.Proofs.YtmecmdnnhldjpaaDoor

namespace Go.Proofs.YtmecmdnnhldjpaaDoor
open Go.RowKit

def LowP (n : Nat) : Prop := 97 ≤ n ∧ n ≤ 122
def DigP (n : Nat) : Prop := 48 ≤ n ∧ n ≤ 57
def AtomP (n : Nat) : Prop := LowP n ∨ DigP n ∨ n = 39 ∨ n = 45 ∨ n = 43 ∨ n = 42 ∨ n = 60 ∨ n = 61 ∨ n = 46
instance (n : Nat) : Decidable (LowP n) := by unfold LowP; infer_instance
instance (n : Nat) : Decidable (DigP n) := by unfold DigP; infer_instance
instance (n : Nat) : Decidable (AtomP n) := by unfold AtomP; infer_instance

theorem vb_t {p : Prop} {_ : Decidable p} (h : p) : Value.bool true = Value.bool (decide p) := by rw [decide_eq_true h]
theorem vb_f {p : Prop} {_ : Decidable p} (h : ¬ p) : Value.bool false = Value.bool (decide p) := by rw [decide_eq_false h]





/-- A valid atom. -/
def AtomOk (s : ByteArray) : Prop := (∀ i, ∀ h : i < s.size, AtomP s[i].toNat) ∧ 1 ≤ s.size ∧ s.size ≤ 12
instance (s : ByteArray) : Decidable (AtomOk s) := by unfold AtomOk; infer_instance



end Go.Proofs.YtmecmdnnhldjpaaDoor
