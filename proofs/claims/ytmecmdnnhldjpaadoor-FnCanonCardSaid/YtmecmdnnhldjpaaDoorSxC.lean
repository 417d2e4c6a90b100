/- Contracts: size and depth of an SExpr. Conditions: none. -/
import Derived.Test.YtmecmdnnhldjpaaDoorJTyA
namespace Go.Proofs.YtmecmdnnhldjpaaDoor
open Go.RowKit

abbrev em : ByteArray := ⟨#[]⟩

mutual
/-- The depth of an SExpr. -/
def dpS : Sx → Nat
  | .mk l ks => if l = em then dpSL ks + 1 else 0
def dpSL : List Sx → Nat
  | [] => 0
  | k :: ks => max (dpS k) (dpSL ks)
end
theorem dpS_eq (t : Sx) : dpS t = if t.lab = em then dpSL t.kids + 1 else 0 := by cases t; simp only [dpS, Rose.lab, Rose.kids] <;> rfl
theorem dpS_atom {l : ByteArray} {ks : List Sx} (h : ¬ l = em) : dpS (.mk l ks) = 0 := by rw [dpS_eq]; exact if_neg h
theorem dpS_list {l : ByteArray} {ks : List Sx} (h : l = em) : dpS (.mk l ks) = dpSL ks + 1 := by rw [dpS_eq]; exact if_pos h
theorem dpSL_nil : dpSL [] = 0 := by simp only [dpSL]
theorem dpSL_cons (k : Sx) (ks : List Sx) : dpSL (k :: ks) = max (dpS k) (dpSL ks) := by simp only [dpSL]
theorem dpSL_append (xs ys : List Sx) : dpSL (xs ++ ys) = max (dpSL xs) (dpSL ys) := by
  induction xs with
  | nil => simp [dpSL_nil]
  | cons x xs ih => simp only [List.cons_append, dpSL_cons, ih]; omega
theorem dpSL_take {ks : List Sx} {i : Nat} {t : Sx} (h : ks[i]? = some t) : dpSL (ks.take (i + 1)) = max (dpSL (ks.take i)) (dpS t) := by
  rw [take_succ_get h, dpSL_append, dpSL_cons, dpSL_nil]; omega
theorem dpSL_mem {ks : List Sx} {t : Sx} (h : t ∈ ks) : dpS t ≤ dpSL ks := by
  induction ks with
  | nil => cases h
  | cons k ks ih =>
    rw [dpSL_cons]
    rcases List.mem_cons.1 h with rfl | h
    · omega
    · have := ih h; omega
theorem dpSL_le (ks : List Sx) : dpSL ks ≤ Rose.cnt ks := by
  refine Rose.forest (p := fun ks => dpSL ks ≤ Rose.cnt ks) (fun ks ih => ?_) ks
  induction ks with
  | nil => simp [dpSL_nil]
  | cons k ks ihk =>
    have h1 := ih k List.mem_cons_self
    have h2 := ihk fun t ht => ih t (List.mem_cons_of_mem _ ht)
    rw [dpSL_cons, dpS_eq]
    show _ ≤ Rose.wtL _ _
    rw [Rose.wtL_cons]
    have h1 : dpSL k.kids ≤ Rose.wtL (fun _ => 0) k.kids := h1
    have h2 : dpSL ks ≤ Rose.wtL (fun _ => 0) ks := h2
    split <;> omega

theorem cnt_nil {α : Type} : Rose.cnt ([] : List (Rose α)) = 0 := Rose.wtL_nil _
theorem cnt_take {ks : List Sx} {i : Nat} {t : Sx} (h : ks[i]? = some t) : Rose.cnt (ks.take (i + 1)) = Rose.cnt (ks.take i) + (1 + Rose.cnt t.kids) := by
  have := Rose.wtL_take_succ (fun _ => 0) h
  show Rose.wtL _ _ = Rose.wtL _ _ + (1 + Rose.wtL _ _)
  omega
theorem cnt_take_le {ks : List Sx} {i : Nat} {t : Sx} (h : ks[i]? = some t) : Rose.cnt (ks.take i) + (1 + Rose.cnt t.kids) ≤ Rose.cnt ks := by
  rw [← cnt_take h]
  have := Rose.wtL_append (fun _ => 0) (ks.take (i + 1)) (ks.drop (i + 1))
  rw [List.take_append_drop] at this
  show Rose.wtL _ _ ≤ Rose.wtL _ _
  omega



/-- The builtin max of two ints. -/
theorem Go1.max2 {P : Program} {w : World} {ats : Array TypeId} {ty : TypeId} {x y : Int} {K : Value → World → Prop} (k : K (.int .i64 (max x y)) w) : Go1 P (Builtin.max_ ats ty #[.int .i64 x, .int .i64 y]) w K := by
  refine Go1.go (v := .int .i64 (max x y)) ?_ k
  simp [Builtin.max_, Builtin.max2]
  split
  · rw [Int.max_eq_right (by omega)]
  · rw [Int.max_eq_left (by omega)]



end Go.Proofs.YtmecmdnnhldjpaaDoor
