/- Contracts: size and depth of a Type. Conditions: none. -/
import Derived.Test.YtmecmdnnhldjpaaDoorJTyA
import Derived.Test.YtmecmdnnhldjpaaDoorSxC
namespace Go.Proofs.YtmecmdnnhldjpaaDoor
open Go.RowKit

theorem Rose.cnt_nil {α : Type} : Rose.cnt ([] : List (Rose α)) = 0 := Rose.wtL_nil _
theorem Rose.cnt_take {α : Type} {ks : List (Rose α)} {i : Nat} {t : Rose α} (h : ks[i]? = some t) : Rose.cnt (ks.take (i + 1)) = Rose.cnt (ks.take i) + (1 + Rose.cnt t.kids) := by
  have := Rose.wtL_take_succ (fun _ => 0) h
  show Rose.wtL _ _ = Rose.wtL _ _ + (1 + Rose.wtL _ _)
  omega
theorem Rose.cnt_take_le {α : Type} {ks : List (Rose α)} {i : Nat} {t : Rose α} (h : ks[i]? = some t) : Rose.cnt (ks.take i) + (1 + Rose.cnt t.kids) ≤ Rose.cnt ks := by
  rw [← Rose.cnt_take h]
  have := Rose.wtL_append (fun _ => 0) (ks.take (i + 1)) (ks.drop (i + 1))
  rw [List.take_append_drop] at this
  show Rose.wtL _ _ ≤ Rose.wtL _ _
  omega

mutual
/-- The depth of a Type. -/
def dpT : Tp → Nat
  | .mk _ ks => dpTL ks
def dpTL : List Tp → Nat
  | [] => 0
  | k :: ks => max (dpT k + 1) (dpTL ks)
end
theorem dpT_eq (t : Tp) : dpT t = dpTL t.kids := by cases t; simp only [dpT, Rose.kids]
theorem dpTL_nil : dpTL [] = 0 := by simp only [dpTL]
theorem dpTL_cons (k : Tp) (ks : List Tp) : dpTL (k :: ks) = max (dpTL k.kids + 1) (dpTL ks) := by simp only [dpTL, dpT_eq]
theorem dpTL_append (xs ys : List Tp) : dpTL (xs ++ ys) = max (dpTL xs) (dpTL ys) := by
  induction xs with
  | nil => simp [dpTL_nil]
  | cons x xs ih => simp only [List.cons_append, dpTL_cons, ih]; omega
theorem dpTL_take {ks : List Tp} {i : Nat} {t : Tp} (h : ks[i]? = some t) : dpTL (ks.take (i + 1)) = max (dpTL (ks.take i)) (dpTL t.kids + 1) := by
  rw [take_succ_get h, dpTL_append, dpTL_cons, dpTL_nil]; omega
theorem dpTL_mem {ks : List Tp} {t : Tp} (h : t ∈ ks) : dpTL t.kids + 1 ≤ dpTL ks := by
  induction ks with
  | nil => cases h
  | cons k ks ih =>
    rw [dpTL_cons]
    rcases List.mem_cons.1 h with rfl | h
    · omega
    · have := ih h; omega
theorem dpTL_le (ks : List Tp) : dpTL ks ≤ Rose.cnt ks := by
  refine Rose.forest (p := fun ks => dpTL ks ≤ Rose.cnt ks) (fun ks ih => ?_) ks
  induction ks with
  | nil => simp [dpTL_nil]
  | cons k ks ihk =>
    have h1 := ih k List.mem_cons_self
    have h2 := ihk fun t ht => ih t (List.mem_cons_of_mem _ ht)
    rw [dpTL_cons]
    show _ ≤ Rose.wtL _ _
    rw [Rose.wtL_cons]
    have h1 : dpTL k.kids ≤ Rose.wtL (fun _ => 0) k.kids := h1
    have h2 : dpTL ks ≤ Rose.wtL (fun _ => 0) ks := h2
    omega





end Go.Proofs.YtmecmdnnhldjpaaDoor
