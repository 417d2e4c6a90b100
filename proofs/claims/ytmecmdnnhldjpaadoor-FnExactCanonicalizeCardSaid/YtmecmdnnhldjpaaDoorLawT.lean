/- Trees among a law's arguments, opened. Conditions: none. -/
import Derived.Test.YtmecmdnnhldjpaaDoorLaw
import Derived.Test.YtmecmdnnhldjpaaDoorSxA
namespace Go.Proofs.YtmecmdnnhldjpaaDoor
open Go.ChangeShapes Go.WideShapes Go.ChangeAt Go.RowKit

theorem list_of_all {β : Type} {p : Nat → β → Prop} : ∀ (n : Nat), (∀ i, i < n → ∃ x, p i x) → ∃ l : List β, l.length = n ∧ ∀ i x, l[i]? = some x → p i x
  | 0, _ => ⟨[], rfl, by simp⟩
  | n + 1, h => by
    obtain ⟨l, hl, hp⟩ := list_of_all n fun i hi => h i (by omega)
    obtain ⟨x, hx⟩ := h n (by omega)
    refine ⟨l ++ [x], by simp [hl], fun i y hy => ?_⟩
    by_cases hi : i < l.length
    · rw [List.getElem?_append_left hi] at hy
      exact hp i y hy
    · rw [List.getElem?_append_right (by omega)] at hy
      have : i - l.length = 0 := by
        have := (List.getElem?_eq_some_iff.1 hy).1
        simp at this
        omega
      rw [this] at hy
      have : x = y := by simpa using hy
      subst this
      rwa [show i = n by omega]

section
variable {α : Type} {e1 : α → List Value}

theorem NL.of_each {w : World} {sz : Nat} (hsz : ∀ l, (e1 l).length + 1 = sz) : ∀ {ks : List (Rose α)} {a : Addr}, (∀ i t, ks[i]? = some t → ∃ bs, Nd e1 w t (a.add (i * sz)) bs) → ∃ bs, NL e1 w ks a bs
  | [], _, _ => ⟨[], by simp only [NL]⟩
  | k :: ks, a, h => by
    obtain ⟨b1, h1⟩ := h 0 k rfl
    obtain ⟨b2, h2⟩ := NL.of_each hsz (ks := ks) (a := a.add sz) fun i t ht => by
      obtain ⟨bs, hb⟩ := h (i + 1) t (by simpa using ht)
      refine ⟨bs, ?_⟩
      rw [Go.Deep.add_add, show sz + i * sz = (i + 1) * sz by rw [Nat.add_mul]; omega]
      exact hb
    refine ⟨b1 ++ b2, ?_⟩
    simp only [NL]
    refine ⟨b1, b2, rfl, ?_, ?_⟩
    · simpa [Addr.add] using h1
    · rw [hsz]; exact h2

variable {H : Type} {enc : TypeId × Value → H} {P : Program} {W : World}

/-- Cells that were read. -/
theorem lc_of_cells {base : Nat} {a : Addr} {n : Nat} {cs : List Value} (h : W.cells? base a n = some cs) : cs.length = n ∧ Lc W a cs := by
  obtain ⟨_, h2, h3⟩ := World.cells?_some h
  refine ⟨h2, fun i v hv => ?_⟩
  rw [h3 i (by rw [← h2]; exact (List.getElem?_eq_some_iff.1 hv).1), hv]

/-- A slice of structs that read as trees. -/
theorem open_kids {sz : Nat} (hsz : ∀ l, (e1 l).length + 1 = sz) (q : α → Prop) {sp : Nat → Bool} {held : Bool} {t e : TypeId} (ht : P.underlying t = some (.slice e)) (hc : P.cellsOf e = sz)
    (hel : ∀ n cs x, DataW.trod enc P W 0 sp held n e cs = some x → ∃ l v y m, m < n ∧ cs = e1 l ++ [v] ∧ q l ∧ DataW.trod enc P W 0 sp held m t [v] = some y) :
    ∀ (N fuel : Nat) (cs : List Value) (x : DataW H × List MemPlace), fuel ≤ N → DataW.trod enc P W 0 sp held fuel t cs = some x → ∃ v ks bs, cs = [v] ∧ Kids e1 W v ks bs ∧ Rose.AlL q ks := by
  intro N
  induction N with
  | zero =>
    intro fuel cs x hf h
    have : fuel = 0 := by omega
    subst this
    simp [DataW.trod] at h
  | succ N ih =>
    intro fuel cs x hf h
    rcases DataW.trod_slice ht h with ⟨rfl, _⟩ | ⟨a, len, cap, elems, rest, n, rfl, rfl, _, _, hl, hm, hlen, hE, _⟩
    · exact ⟨_, [], [], rfl, Kids.nil, by simp only [Rose.AlL]⟩
    · obtain ⟨ks, hks, hp⟩ := list_of_all (p := fun i (t : Rose α) => (∃ bs, Nd e1 W t (a.add (i * sz)) bs) ∧ q t.lab ∧ Rose.AlL q t.kids) len fun i hi => by
        have h1 := hE i hi
        rw [List.getElem?_eq_getElem (by omega), Option.bind_eq_some_iff, hc] at h1
        obtain ⟨cs', hcs, hy⟩ := h1
        obtain ⟨hcl, hLc⟩ := lc_of_cells hcs
        obtain ⟨l, v, y, m, hmn, rfl, hq, hv⟩ := hel n cs' _ hy
        obtain ⟨v', ks, bs, hvv, hk, ha⟩ := ih m [v] y (by omega) hv
        obtain rfl : v = v' := by simpa using hvv
        refine ⟨.mk l ks, ⟨bs, Nd.mk' (v := v) (fun i u hu => hLc i u ?_) (hLc _ _ ?_) hk⟩, hq, ha⟩
        · rw [List.getElem?_append_left (List.getElem?_eq_some_iff.1 hu).1]
          exact hu
        · rw [List.getElem?_append_right (Nat.le_refl _)]
          simp
      by_cases h0 : ks = []
      · subst h0
        have : len = 0 := by simpa using hks.symm
        subst this
        exact ⟨_, [], [], rfl, Kids.nil, by simp only [Rose.AlL]⟩
      · obtain ⟨bs, hnl⟩ := NL.of_each hsz (w := W) (ks := ks) (a := a) fun i t ht => (hp i t ht).1
        refine ⟨_, ks, a.block :: bs, rfl, ⟨some a, cap, by rw [hks], ⟨by omega, by omega⟩, .inr ⟨a, bs, h0, rfl, rfl, hnl⟩⟩, Rose.AlL_of fun t ht => ?_⟩
        obtain ⟨i, hi⟩ := List.getElem?_of_mem ht
        exact (hp i t hi).2
end

end Go.Proofs.YtmecmdnnhldjpaaDoor
