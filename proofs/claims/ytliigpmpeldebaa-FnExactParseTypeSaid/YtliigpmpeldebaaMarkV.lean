/- Contracts: the laws' marks on SExprs and on strings. Conditions: none. -/
import Derived.Test.YtliigpmpeldebaaMarkU
namespace Go.Proofs.Ytliigpmpeldebaa
open Go.RowKit

/-- A marked SExpr's label. -/
def gS (k : Nat) : ByteArray := mt k


/-- A slice of one-cell elements that the call owns, at its i-th element. -/
theorem Row.at {w : World} {n0 : Nat} {ao : Option Addr} {n cap : Nat} {xs : List Value} {x : Value} {ys : List Value} {bs : List Nat} (h : Row w (.slice ao n cap) (xs ++ x :: ys) bs) (hf : Fresh n0 w bs) :
    ∃ a, ao = some a ∧ a.block ∈ bs ∧ w.cell? (a.add xs.length) = some x ∧ ∀ (w' : World) (u : Value), Chg (fun k => k = a.block) w w' → (∃ e cs', Blk w' a.block e cs') → w'.cell? (a.add xs.length) = some u →
      (∀ a' v, a' ≠ a.add xs.length → w.cell? a' = some v → w'.cell? a' = some v) → Row w' (.slice ao n cap) (xs ++ u :: ys) bs ∧ Fresh n0 w' bs := by
  obtain ⟨ao', cap', h1, hm, h2⟩ := h
  simp only [Value.slice.injEq] at h1
  obtain ⟨rfl, rfl, rfl⟩ := h1
  rcases h2 with ⟨h2, _⟩ | ⟨a, _, rfl, rfl, hL⟩
  · simp at h2
  · have hx := hL xs.length x (by rw [List.getElem?_append_right (Nat.le_refl _)]; simp)
    obtain ⟨c0, e0, hbl⟩ := hf.blk a.block (by simp)
    have hspot : a.spot = none := by
      cases hxs : xs with
      | nil =>
        rw [hxs] at hx
        have := (hbl.addr (a := a) rfl (by simpa [Addr.add] using hx)).1
        rw [this]
      | cons y l =>
        have := hL 0 y (by rw [hxs]; rfl)
        have := (hbl.addr (a := a) rfl (by simpa [Addr.add] using this)).1
        rw [this]
    refine ⟨a, rfl, by simp, hx, fun w' u hc ⟨e', cs', hb'⟩ hcell hoth => ⟨⟨some a, cap, by simp, by simpa using hm, .inr ⟨a, by simp, rfl, rfl, fun i v hv => ?_⟩⟩, ⟨hf.nodup, hf.lo, fun b hb => ?_⟩⟩⟩
    · by_cases hi : i = xs.length
      · subst hi
        rw [List.getElem?_append_right (Nat.le_refl _)] at hv
        simp at hv
        subst hv
        exact hcell
      · refine hoth _ _ (add_ne hspot hi) (hL i v ?_)
        rw [← hv]
        by_cases hlt : i < xs.length
        · rw [List.getElem?_append_left hlt, List.getElem?_append_left hlt]
        · rw [List.getElem?_append_right (by omega), List.getElem?_append_right (by omega)]
          obtain ⟨d, hd⟩ : ∃ d, i - xs.length = d + 1 := ⟨i - xs.length - 1, by omega⟩
          rw [hd]
          rfl
    · obtain rfl : b = a.block := by simpa using hb
      exact ⟨cs', e', hb'⟩

def mkStrs (k n : Nat) : List ByteArray := (List.range n).map fun i => mt (k + i)
theorem mkStrs_length (k n : Nat) : (mkStrs k n).length = n := by simp [mkStrs]
theorem mkStrs_succ (k n : Nat) : mkStrs k (n + 1) = mkStrs k n ++ [mt (k + n)] := by simp [mkStrs, List.range_succ]

end Go.Proofs.Ytliigpmpeldebaa
