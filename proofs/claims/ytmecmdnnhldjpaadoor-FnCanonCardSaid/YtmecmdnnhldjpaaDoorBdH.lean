/- Contracts: matching. Conditions: none. -/
import Derived.Test.YtmecmdnnhldjpaaDoorJNumD
namespace Go.Proofs.YtmecmdnnhldjpaaDoor
open Go.RowKit

/-- What a step of matching answers: the bindings, and whether there are some. -/
def MatchR (n0 : Nat) (w : World) (o : Option (List Bi)) (O cs : List Nat) (res : Value) (w' : World) : Prop :=
  ∃ r' ok, res = .tuple #[r', .bool ok] ∧ Chg (· ∈ O) w w' ∧ ok = o.isSome ∧ ∀ xs', o = some xs' → ∃ O' cs', GrowB n0 w' r' xs' O' cs' ∧ (∀ b ∈ O', b ∈ O ∨ w.heap.size ≤ b) ∧ ∀ b ∈ cs', b ∈ cs ∨ w.heap.size ≤ b

theorem matchL_cnt (ps : List Tp) : ∀ (ts : List Tp) (s s' : List Bi), matchL ps ts s = some s' → cntB s' ≤ cntB s + Rose.cnt ts := by
  refine Rose.forest (p := fun ps => ∀ (ts : List Tp) (s s' : List Bi), matchL ps ts s = some s' → cntB s' ≤ cntB s + Rose.cnt ts) (fun ps ih => ?_) ps
  induction ps with
  | nil =>
    intro ts s s' h
    simp only [matchL, Option.some.injEq] at h
    subst h
    omega
  | cons p ps ihp =>
    intro ts s s' h
    cases ts with
    | nil =>
      simp only [matchL, Option.some.injEq] at h
      subst h
      omega
    | cons t ts =>
      rw [matchL_cons] at h
      cases h1 : matchT p t s with
      | none => rw [h1] at h; simp at h
      | some s1 =>
        rw [h1] at h
        have h2 := ihp (fun q hq => ih q (List.mem_cons_of_mem _ hq)) ts s1 s' h
        have h3 : cntB s1 ≤ cntB s + (1 + Rose.cnt t.kids) := by
          rw [matchT_eq] at h1
          split at h1
          · split at h1
            · split at h1
              · simp only [Option.some.injEq] at h1; subst h1; omega
              · cases h1
            · simp only [Option.some.injEq] at h1
              subst h1
              rw [cntB_append]
              simp only [cntB]
              omega
          · split at h1
            · have := ih p List.mem_cons_self t.kids s s1 h1
              omega
            · cases h1
        have h4 : Rose.cnt (t :: ts) = 1 + Rose.cnt t.kids + Rose.cnt ts := by
          show Rose.wtL _ _ = 1 + Rose.wtL _ _ + Rose.wtL _ _
          rw [Rose.wtL_cons]
        omega

theorem matchL_append (ps ps' : List Tp) : ∀ (ts ts' : List Tp) {xs : List Bi}, ps.length = ts.length → matchL (ps ++ ps') (ts ++ ts') xs = (matchL ps ts xs).bind (matchL ps' ts') := by
  induction ps with
  | nil =>
    intro ts ts' xs h
    obtain rfl : ts = [] := List.eq_nil_of_length_eq_zero h.symm
    simp [matchL]
  | cons p ps ih =>
    intro ts ts' xs h
    cases ts with
    | nil => simp at h
    | cons t ts =>
      rw [List.cons_append, List.cons_append, matchL_cons, matchL_cons]
      cases matchT p t xs with
      | none => rfl
      | some x => exact ih ts ts' (by simpa using h)
theorem matchL_none {ps ts : List Tp} {xs : List Bi} {i : Nat} (hi : i ≤ ps.length ∧ i ≤ ts.length) (h : matchL (ps.take i) (ts.take i) xs = none) : matchL ps ts xs = none := by
  have := matchL_append (ps.take i) (ps.drop i) (ts.take i) (ts.drop i) (xs := xs) (by simp; omega)
  rw [List.take_append_drop, List.take_append_drop, h] at this
  exact this

end Go.Proofs.YtmecmdnnhldjpaaDoor
