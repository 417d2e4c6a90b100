/- Contracts: the laws' helpers on []string. Conditions: none. -/
import Derived.Test.YtmecmdnnhldjpaaDoorStrA
namespace Go.Proofs.YtmecmdnnhldjpaaDoor
open Go.RowKit


def lenS (ss : List ByteArray) : Nat := (ss.map ByteArray.size).sum

theorem lenS_take_succ {ss : List ByteArray} {k : Nat} (h : k < ss.length) : lenS (ss.take (k + 1)) = lenS (ss.take k) + ss[k].size := by
  rw [List.take_succ_eq_append_getElem h]
  simp only [lenS, List.map_append, List.sum_append, List.map_cons, List.map_nil, List.sum_cons, List.sum_nil, Nat.add_zero]


theorem Strs.of_blk {w : World} {b : Nat} {e : TypeId} {ss : List ByteArray} {n cap : Nat} (h : Blk w b e (ss.map .string)) (hn : n = ss.length) (hm : n ≤ maxLen ∧ n ≤ cap) : ∃ bs, Strs w (.slice (some ⟨b, 0, none⟩) n cap) ss bs ∧ bs.Sublist [b] := by
  subst hn
  by_cases h0 : ss = []
  · subst h0
    exact ⟨[], ⟨_, cap, rfl, hm, .inl ⟨rfl, rfl⟩⟩, by simp⟩
  · refine ⟨[b], ⟨_, cap, by simp, by simpa using hm, .inr ⟨⟨b, 0, none⟩, by simpa using h0, rfl, rfl, ?_⟩⟩, List.Sublist.refl _⟩
    exact Blk.lc0 (post := []) (by simpa using h)

theorem Fresh.sub {n : Nat} {w : World} {bs cs : List Nat} (h : Fresh n w cs) (hs : bs.Sublist cs) : Fresh n w bs := ⟨hs.nodup h.nodup, fun b hb => h.lo b (hs.subset hb), fun b hb => h.blk b (hs.subset hb)⟩

/-- What a function hands back that makes a list of strings. -/
def NewStrs (w : World) (ss : List ByteArray) (r : Value) (w' : World) : Prop := Ext w w' ∧ ∃ bs, Strs w' r ss bs ∧ Fresh w.heap.size w' bs


end Go.Proofs.YtmecmdnnhldjpaaDoor
