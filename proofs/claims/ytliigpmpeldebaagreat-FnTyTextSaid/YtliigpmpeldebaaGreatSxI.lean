/- The reference's ParseSExpr. Conditions: none. -/
import Derived.Test.YtliigpmpeldebaaGreatJDrawE
import Derived.Test.YtliigpmpeldebaaGreatJGrowT
namespace Go.Proofs.YtliigpmpeldebaaGreat
open Go.RowKit

theorem lexA_cur : ∀ {bs cur : List UInt8} {ts : List Wd}, cur ≠ [] → lexA cur bs = some ts → ∃ a r, ts = .at a :: r := by
  have fl : ∀ {cur : List UInt8} {r : List Wd}, cur ≠ [] → ∃ a r', flu cur r = .at a :: r' := by
    intro cur r h
    cases cur with
    | nil => exact absurd rfl h
    | cons c cs => exact ⟨_, _, rfl⟩
  intro bs
  induction bs with
  | nil =>
    intro cur ts h e
    simp only [lexA, Option.some.injEq] at e
    rw [← e]; exact fl h
  | cons b bs ih =>
    intro cur ts h e
    rw [lexA] at e
    split at e
    · exact ih (by simp) e
    · split at e
      · obtain ⟨x, _, rfl⟩ := Option.map_eq_some_iff.1 e
        exact fl h
      · split at e
        · obtain ⟨x, _, rfl⟩ := Option.map_eq_some_iff.1 e
          exact fl h
        · split at e
          · obtain ⟨x, _, rfl⟩ := Option.map_eq_some_iff.1 e
            exact fl h
          · cases e
theorem lex_rp {b : UInt8} {bs : List UInt8} {r : List Wd} (hb : ¬ (b.toNat = 32 ∨ b.toNat = 10)) (h : lexA [] (b :: bs) = some (.rp :: r)) : b.toNat = 41 := by
  by_cases ha : AtomP b.toNat
  · rw [lexA, if_pos (by simpa [atB] using ha)] at h
    obtain ⟨a, r', e⟩ := lexA_cur (by simp) h
    cases e
  · by_cases h40 : b.toNat = 40
    · rw [lexA_lp h40] at h
      obtain ⟨x, _, e⟩ := Option.map_eq_some_iff.1 h
      simp [flu] at e
    · by_cases h41 : b.toNat = 41
      · exact h41
      · rw [lexA_bad ha hb h40 h41] at h
        cases h
theorem rnS_at_head {y : Sx} {a : List UInt8} {r T : List Wd} (h : Wd.at a :: r = rnS y ++ T) : ¬ y.lab = em := by
  intro e
  cases y with
  | mk l ks =>
    rw [rnS_list (show l = em from e)] at h
    simp at h
theorem rnS_lp_head {y : Sx} {r T : List Wd} (h : Wd.lp :: r = rnS y ++ T) : y.lab = em ∧ r = rnL y.kids ++ .rp :: T := by
  cases y with
  | mk l ks =>
    by_cases e : l = em
    · rw [rnS_list e] at h
      simp only [List.cons_append, List.append_assoc, List.nil_append, List.cons.injEq, true_and] at h
      exact ⟨e, h⟩
    · rw [rnS_atom e] at h
      simp at h
theorem dpS_at (y : Sx) : dpS y = if y.lab = em then dpSL y.kids + 1 else 0 := dpS_eq y

/-- What is read: the tree, and whether there is one. -/
def NewSxB (w : World) (o : Option Sx) (r : Value) (w' : World) : Prop := Ext w w' ∧ ∃ v bs, r = .tuple #[.agg #[.string (o.getD (.mk em [])).lab, v], .bool o.isSome] ∧ Kids encS w' v (o.getD (.mk em [])).kids bs ∧ Fresh w.heap.size w' bs
theorem drp0 (s : ByteArray) : drp s 0 = s.data.toList := by simp
end Go.Proofs.YtliigpmpeldebaaGreat
