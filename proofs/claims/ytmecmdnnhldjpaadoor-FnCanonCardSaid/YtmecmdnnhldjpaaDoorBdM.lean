/- Draws: bindings; a pair of a pattern and a Type; a substitution and a Type. Conditions: none. -/
import Derived.Test.YtmecmdnnhldjpaaDoorTyQ
import Derived.Test.YtmecmdnnhldjpaaDoorJBdD
import Derived.Test.YtmecmdnnhldjpaaDoorBdK
namespace Go.Proofs.YtmecmdnnhldjpaaDoor
open Go.RowKit

theorem GrowB.snocE {n0 m : Nat} {w1 w' : World} {r' : Value} {xs : List Bi} {x : Bi} {v : Value} {O O' cs c1 : List Nat} {vs : List Value}
    (hk : BdL w1 vs xs cs) (hf : Fresh n0 w1 (O ++ cs)) (hk1 : Kids encT w1 v x.2.kids c1) (hf1 : Fresh m w1 c1) (hdis : ∀ b ∈ c1, b ∉ O ++ cs)
    (hc : Chg (· ∈ O) w1 w') (hg : Grow w' 54 4 r' (xs.length + 1) (flB xs vs ++ (encB x ++ [v])) O') (hO : ∀ b ∈ O', b ∈ O ∨ w1.heap.size ≤ b) (hn : n0 ≤ w1.heap.size) (hm : n0 ≤ m) :
    GrowB n0 w' r' (xs ++ [x]) O' (cs ++ c1) := by
  have hnd := List.nodup_append.1 hf.nodup
  have hOcs : ∀ b ∈ cs, b ∉ O := fun b hb hb' => hnd.2.2 b hb' b hb rfl
  have hO1 : ∀ b ∈ c1, b ∉ O := fun b hb hb' => hdis b hb (List.mem_append_left _ hb')
  have hOlo : ∀ b ∈ O, n0 ≤ b := fun b hb => hf.lo b (List.mem_append_left _ hb)
  have hcs' : Fresh n0 w' cs := (hf.sub (List.sublist_append_right _ _)).chg hc hOcs
  have hc1' : Fresh n0 w' c1 := (hf1.chg hc hO1).mono hm
  have hO'f : Fresh n0 w' O' := hg.fresh fun b hb => by
    rcases hO b hb with h | h
    · exact hOlo b h
    · omega
  refine ⟨vs ++ [v], by rw [List.length_append, flB_snoc hk.length]; exact hg, BdL.snoc (hk1.chg hc hO1) (hk.chg hc hOcs), ⟨List.nodup_append.2 ⟨hO'f.nodup, List.nodup_append.2 ⟨hcs'.nodup, hc1'.nodup, fun a ha b hb e => ?_⟩, fun a ha b hb e => ?_⟩, fun b hb => ?_, fun b hb => ?_⟩⟩
  · subst e
    exact hdis a hb (List.mem_append_right _ ha)
  · subst e
    rcases hO a ha with h | h
    · rcases List.mem_append.1 hb with hb | hb
      · exact hOcs a hb h
      · exact hO1 a hb h
    · rcases List.mem_append.1 hb with hb | hb
      · have := hf.lt a (List.mem_append_right _ hb)
        omega
      · have := hf1.lt a hb
        omega
  · rcases List.mem_append.1 hb with hb | hb
    · exact hO'f.lo b hb
    · rcases List.mem_append.1 hb with hb | hb
      · exact hcs'.lo b hb
      · exact hc1'.lo b hb
  · rcases List.mem_append.1 hb with hb | hb
    · exact hO'f.blk b hb
    · rcases List.mem_append.1 hb with hb | hb
      · exact hcs'.blk b hb
      · exact hc1'.blk b hb
theorem cntB_snoc (xs : List Bi) (x : Bi) : cntB (xs ++ [x]) = cntB xs + (1 + Rose.cnt x.2.kids) := by
  induction xs with
  | nil => simp [cntB]
  | cons y ys ih => simp only [List.cons_append, cntB, ih]; omega

end Go.Proofs.YtmecmdnnhldjpaaDoor
