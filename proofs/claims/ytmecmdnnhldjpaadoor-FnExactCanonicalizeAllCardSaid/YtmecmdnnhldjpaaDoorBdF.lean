/- Matching: what it answers. Lists of bindings that a call appends to. Conditions: none. -/
import Derived.Test.YtmecmdnnhldjpaaDoorBdE
namespace Go.Proofs.YtmecmdnnhldjpaaDoor
open Go.RowKit

/-- Bindings in a slice that the call appends to. -/
def GrowB (n0 : Nat) (w : World) (r : Value) (xs : List Bi) (O cs : List Nat) : Prop :=
  ∃ vs, Grow w 54 4 r xs.length (flB xs vs) O ∧ BdL w vs xs cs ∧ Fresh n0 w (O ++ cs)

theorem GrowB.chg {M : Nat → Prop} {n0 : Nat} {w w' : World} {r : Value} {xs : List Bi} {O cs : List Nat} (h : Chg M w w') (hn : ∀ b ∈ O ++ cs, ¬ M b) (hg : GrowB n0 w r xs O cs) : GrowB n0 w' r xs O cs := by
  obtain ⟨vs, h1, h2, h3⟩ := hg
  exact ⟨vs, h1.chg h fun b hb => hn b (List.mem_append_left _ hb), h2.chg h fun b hb => hn b (List.mem_append_right _ hb), h3.chg h hn⟩
theorem GrowB.ext {n0 : Nat} {w w' : World} {r : Value} {xs : List Bi} {O cs : List Nat} (h : Ext w w') (hg : GrowB n0 w r xs O cs) : GrowB n0 w' r xs O cs := hg.chg h fun _ _ => id
theorem GrowB.lt {n0 : Nat} {w : World} {r : Value} {xs : List Bi} {O cs : List Nat} (hg : GrowB n0 w r xs O cs) : ∀ b ∈ O ++ cs, b < w.heap.size := by
  obtain ⟨vs, _, _, h3⟩ := hg
  exact h3.lt

/-- They read as bindings. -/
theorem GrowB.bds {n0 : Nat} {w : World} {r : Value} {xs : List Bi} {O cs : List Nat} (hg : GrowB n0 w r xs O cs) (hm : xs.length ≤ maxLen) : ∃ bs, Bds w r xs bs ∧ bs.Sublist (O ++ cs) := by
  obtain ⟨vs, ⟨_, ⟨rfl, h0, rfl⟩ | ⟨g, cap, rest, rfl, rfl, hb, hc, _⟩⟩, h2, _⟩ := hg
  · obtain rfl : xs = [] := List.eq_nil_of_length_eq_zero h0
    exact ⟨[], Bds.nil, by simp⟩
  · exact Bds.of_blk hb h2 rfl ⟨hm, hc⟩

/-- One more binding. -/
theorem GrowB.snoc {n0 : Nat} {w w1 w' : World} {r r' : Value} {xs : List Bi} {x : Bi} {v : Value} {O O' cs c1 : List Nat} {vs : List Value} (hx : Ext w w1)
    (hk : BdL w vs xs cs) (hf : Fresh n0 w (O ++ cs)) (hk1 : Kids encT w1 v x.2.kids c1) (hf1 : Fresh w.heap.size w1 c1)
    (hc : Chg (· ∈ O) w1 w') (hg : Grow w' 54 4 r' (xs.length + 1) (flB xs vs ++ (encB x ++ [v])) O') (hO : ∀ b ∈ O', b ∈ O ∨ w1.heap.size ≤ b) (hn : n0 ≤ w.heap.size) :
    GrowB n0 w' r' (xs ++ [x]) O' (cs ++ c1) := by
  have hnd := List.nodup_append.1 hf.nodup
  have sz := hx.size
  have hOcs : ∀ b ∈ cs, b ∉ O := fun b hb hb' => hnd.2.2 b hb' b hb rfl
  have hO1 : ∀ b ∈ c1, b ∉ O := fun b hb hb' => by
    have h1 := hf1.lo b hb
    have h2 := hf.lt b (List.mem_append_left _ hb')
    omega
  have hOlo : ∀ b ∈ O, n0 ≤ b := fun b hb => hf.lo b (List.mem_append_left _ hb)
  have hcs' : Fresh n0 w' cs := ((hf.ext hx).sub (List.sublist_append_right _ _)).chg hc hOcs
  have hc1' : Fresh n0 w' c1 := (hf1.chg hc hO1).mono hn
  have hO'f : Fresh n0 w' O' := hg.fresh fun b hb => by
    rcases hO b hb with h | h
    · exact hOlo b h
    · omega
  refine ⟨vs ++ [v], ?_, BdL.snoc (hk1.chg hc hO1) ((hk.chg hx fun _ _ => id).chg hc hOcs), ⟨List.nodup_append.2 ⟨hO'f.nodup, List.nodup_append.2 ⟨hcs'.nodup, hc1'.nodup, fun a ha b hb e => ?_⟩, fun a ha b hb e => ?_⟩, fun b hb => ?_, fun b hb => ?_⟩⟩
  · rw [List.length_append, flB_snoc hk.length]
    exact hg
  · have h1 := hf.lt a (List.mem_append_right _ ha)
    have h2 := hf1.lo b hb
    omega
  · subst e
    rcases hO a ha with h | h
    · rcases List.mem_append.1 hb with hb | hb
      · exact hOcs a hb h
      · exact hO1 a hb h
    · rcases List.mem_append.1 hb with hb | hb
      · have := hf.lt a (List.mem_append_right _ hb)
        omega
      · have := hf1.lt a hb
        omega
  · rcases List.mem_append.1 hb with hb | hb
    · exact hO'f.lo b hb
    · rcases List.mem_append.1 hb with hb | hb
      · exact hcs'.lo b hb
      · exact hc1'.lo b hb
  · rcases List.mem_append.1 hb with hb | hb
    · exact hO'f.blk b hb
    · rcases List.mem_append.1 hb with hb | hb
      · exact hcs'.blk b hb
      · exact hc1'.blk b hb
end Go.Proofs.YtmecmdnnhldjpaaDoor
