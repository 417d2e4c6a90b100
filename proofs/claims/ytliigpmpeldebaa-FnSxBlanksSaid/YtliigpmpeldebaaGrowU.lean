/- Trees in a slice that the call appends to, one more, in one world. Conditions: none. -/
import Derived.Test.YtliigpmpeldebaaGrowT
namespace Go.Proofs.Ytliigpmpeldebaa
open Go.RowKit

/-- One more tree, in one world. -/
theorem GrowT.snocE {α : Type} {enc : α → List Value} {e : TypeId} {sz n0 m : Nat} {w1 w' : World} {r' : Value} {ts : List (Rose α)} {t : Rose α} {v : Value} {O O' cs c1 : List Nat} {vs : List Value}
    (hk : KidsL enc w1 vs ts cs) (hf : Fresh n0 w1 (O ++ cs)) (hk1 : Kids enc w1 v t.kids c1) (hf1 : Fresh m w1 c1) (hdis : ∀ b ∈ c1, b ∉ O ++ cs)
    (hc : Chg (· ∈ O) w1 w') (hg : Grow w' e sz r' (ts.length + 1) (fl enc ts vs ++ (enc t.lab ++ [v])) O') (hO : ∀ b ∈ O', b ∈ O ∨ w1.heap.size ≤ b) (hn : n0 ≤ w1.heap.size) (hm : n0 ≤ m) :
    GrowT enc e sz n0 w' r' (ts ++ [t]) O' (cs ++ c1) := by
  have hnd := List.nodup_append.1 hf.nodup
  have hOcs : ∀ b ∈ cs, b ∉ O := fun b hb hb' => hnd.2.2 b hb' b hb rfl
  have hO1 : ∀ b ∈ c1, b ∉ O := fun b hb hb' => hdis b hb (List.mem_append_left _ hb')
  have hOlo : ∀ b ∈ O, n0 ≤ b := fun b hb => hf.lo b (List.mem_append_left _ hb)
  have hcs' : Fresh n0 w' cs := (hf.sub (List.sublist_append_right _ _)).chg hc hOcs
  have hc1' : Fresh n0 w' c1 := (hf1.chg hc hO1).mono hm
  have hO'f : Fresh n0 w' O' := hg.fresh fun b hb => by
    rcases hO b hb with h | h
    · exact hOlo b h
    · omega
  refine ⟨vs ++ [v], by rw [List.length_append, fl_snoc hk.length]; exact hg, KidsL.snoc (hk1.chg hc hO1) (hk.chg hc hOcs), ⟨List.nodup_append.2 ⟨hO'f.nodup, List.nodup_append.2 ⟨hcs'.nodup, hc1'.nodup, fun a ha b hb e => ?_⟩, fun a ha b hb e => ?_⟩, fun b hb => ?_, fun b hb => ?_⟩⟩
  · subst e
    exact hdis a hb (List.mem_append_right _ ha)
  · subst e
    rcases hO a ha with h | h
    · rcases List.mem_append.1 hb with hb | hb
      · exact hOcs a hb h
      · exact hO1 a hb h
    · rcases List.mem_append.1 hb with hb | hb
      · have := hf.lt a (List.mem_append_right _ hb)
        omega
      · have := hf1.lt a hb
        omega
  · rcases List.mem_append.1 hb with hb | hb
    · exact hO'f.lo b hb
    · rcases List.mem_append.1 hb with hb | hb
      · exact hcs'.lo b hb
      · exact hc1'.lo b hb
  · rcases List.mem_append.1 hb with hb | hb
    · exact hO'f.blk b hb
    · rcases List.mem_append.1 hb with hb | hb
      · exact hcs'.blk b hb
      · exact hc1'.blk b hb
theorem GrowT.kids2 {α : Type} {enc : α → List Value} {e : TypeId} {sz n0 : Nat} {w : World} {r : Value} {ts : List (Rose α)} {O cs : List Nat} (hg : GrowT enc e sz n0 w r ts O cs) (hm : ts.length ≤ maxLen) : ∃ ds, Kids enc w r ts ds ∧ Fresh n0 w ds ∧ ∀ b ∈ ds, b ∈ O ++ cs := by
  obtain ⟨vs, ⟨_, ⟨rfl, h0, rfl⟩ | ⟨g, cap, rest, rfl, rfl, hb, hc, _⟩⟩, hk, hf⟩ := hg
  · obtain rfl : ts = [] := List.eq_nil_of_length_eq_zero h0
    exact ⟨[], Kids.nil, Fresh.nil _ _, by simp⟩
  · obtain ⟨ds, h1, h2⟩ := Kids.of_blk hb hk rfl ⟨hm, hc⟩
    exact ⟨ds, h1, hf.sub h2, fun b hb => h2.subset hb⟩
end Go.Proofs.Ytliigpmpeldebaa
