/- Contracts: TypeVariables, TypeNames, IsGround. Conditions: none. -/
import Derived.Test.YtmaklbdlijcopaaDoorTyF
import Derived.Test.YtmaklbdlijcopaaDoorMarkU
namespace Go.Proofs.YtmaklbdlijcopaaDoor
open Go.RowKit


/-- The state of a walk that puts names together: the variable at block bo. -/
def CollW (q : TLab → Bool) (bo : Nat) (ss : List ByteArray) (O : List Nat) (xs : List TLab) (w : World) : Prop :=
  ∃ u O', O = bo :: O' ∧ bo ∉ O' ∧ Blk w bo 30 [u] ∧ u.oneCell' = true ∧ u.cells = #[u] ∧ Grow w 9 1 u (coll q xs ss).length ((coll q xs ss).map .string) O'
theorem collW (q : TLab → Bool) (bo : Nat) (ss : List ByteArray) : Walk (CollW q bo ss) := by
  refine ⟨?_, ?_⟩
  · rintro O xs w ⟨u, O', rfl, _, hb, _, _, hg⟩ c hc
    rcases List.mem_cons.1 hc with rfl | hc
    · exact hb.lt
    · exact hg.lt c hc
  · rintro O xs w w' ⟨u, O', rfl, h1, hb, h2, h3, hg⟩ hx
    exact ⟨u, O', rfl, h1, hb.ext hx, h2, h3, hg.ext hx⟩
theorem Grow.one {w : World} {e : TypeId} {size : Nat} {v : Value} {n : Nat} {xs : List Value} {O : List Nat} (h : Grow w e size v n xs O) : v.oneCell' = true ∧ v.cells = #[v] := by
  rcases h.2 with ⟨rfl, _⟩ | ⟨g, cap, rest, rfl, _⟩ <;> exact ⟨by simp [Value.oneCell'], by simp [Value.cells]⟩




theorem Chg.big {M : Nat → Prop} {a b c : World} (h : Ext a b) (k : Chg M b c) (hM : ∀ x, M x → a.heap.size ≤ x) : Ext a c := Chg.comp (M := fun _ => False) h k fun x hx => .inr (hM x hx)

/-- What Collects makes of a list that the call has begun. -/
theorem Collects.new {q : TLab → Bool} {xs : List TLab} {O : List Nat} {w w1 w' : World} {r : Value} (hx : Ext w w1) (hO : ∀ b ∈ O, w.heap.size ≤ b) (hl : xs.length ≤ 4294967296) (h : Collects q xs [] O w1 r w') : NewStrs w (coll q xs []) r w' := by
  obtain ⟨O', hc, hg, hO'⟩ := h
  have hle := coll_le q xs []
  have hM : maxLen = 9223372036854775807 := rfl
  simp only [List.length_nil] at hle
  obtain ⟨bs, h1, h2⟩ := hg.strs (by omega)
  have sz := hx.size
  refine ⟨Chg.big hx hc hO, bs, h1, (hg.fresh fun b hb => ?_).sub h2⟩
  rcases hO' b hb with h | h
  · exact hO b h
  · omega



/-- Does a Type hold neither variables nor projections? -/
def Ground (l : TLab) (ks : List Tp) : Prop := coll isV (l :: Rose.preL ks) [] = [] ∧ ¬ HasPr l ks
end Go.Proofs.YtmaklbdlijcopaaDoor
