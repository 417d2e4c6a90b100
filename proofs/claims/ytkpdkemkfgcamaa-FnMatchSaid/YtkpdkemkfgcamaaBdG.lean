/- Matching, in plain Lean. Conditions: none. -/
import Derived.Test.YtkpdkemkfgcamaaBdF
namespace Go.Proofs.Ytkpdkemkfgcamaa
open Go.RowKit

open Classical in
mutual
/-- What makes the pattern equal to the type, on top of what is bound; none: nothing does. -/
noncomputable def matchT : Tp → Tp → List Bi → Option (List Bi)
  | .mk l ks, t, s => if l.1 = 1 then (match lookO l.2 s with
      | some u => if u = t then some s else none
      | none => some (s ++ [(l.2, t)])) else if l = t.lab ∧ ks.length = t.kids.length then matchL ks t.kids s else none
noncomputable def matchL : List Tp → List Tp → List Bi → Option (List Bi)
  | [], _, s => some s
  | _ :: _, [], s => some s
  | p :: ps, t :: ts, s => match matchT p t s with
    | some s' => matchL ps ts s'
    | none => none
end

open Classical in
theorem matchT_eq (p t : Tp) (s : List Bi) : matchT p t s = if p.lab.1 = 1 then (match lookO p.lab.2 s with
      | some u => if u = t then some s else none
      | none => some (s ++ [(p.lab.2, t)])) else if p.lab = t.lab ∧ p.kids.length = t.kids.length then matchL p.kids t.kids s else none := by
  cases p
  rw [matchT]
  rfl
theorem matchL_cons (p t : Tp) (ps ts : List Tp) (s : List Bi) : matchL (p :: ps) (t :: ts) s = (matchT p t s).bind (matchL ps ts) := by
  simp only [matchL]
  cases matchT p t s <;> rfl
end Go.Proofs.Ytkpdkemkfgcamaa
