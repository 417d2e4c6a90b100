/- Contracts: the laws' marks on strings and on trees. Conditions: none. -/
import Derived.Test.YtmaklbdlijcopaaDoorMarkT
import Derived.Test.YtmaklbdlijcopaaDoorTyC
namespace Go.Proofs.YtmaklbdlijcopaaDoor
open Go.RowKit

section
variable {α : Type}
mutual
/-- A tree, marked: its labels are g k, g (k + d), .., in pre-order. -/
def mkR (g : Nat → α) (d : Nat) : Nat → Rose α → Rose α
  | k, .mk _ ks => .mk (g k) (mkRL g d (k + d) ks)
def mkRL (g : Nat → α) (d : Nat) : Nat → List (Rose α) → List (Rose α)
  | _, [] => []
  | k, t :: ts => mkR g d k t :: mkRL g d (k + d * (1 + Rose.cnt t.kids)) ts
end
variable {g : Nat → α} {d : Nat}
theorem mkR_eq (k : Nat) (t : Rose α) : mkR g d k t = .mk (g k) (mkRL g d (k + d) t.kids) := by cases t; simp only [mkR, Rose.kids]
theorem mkRL_nil (k : Nat) : mkRL g d k [] = [] := by simp only [mkRL]
theorem mkRL_cons (k : Nat) (t : Rose α) (ts : List (Rose α)) : mkRL g d k (t :: ts) = .mk (g k) (mkRL g d (k + d) t.kids) :: mkRL g d (k + d * (1 + Rose.cnt t.kids)) ts := by simp only [mkRL, mkR_eq]
theorem mkRL_append (xs ys : List (Rose α)) : ∀ k, mkRL g d k (xs ++ ys) = mkRL g d k xs ++ mkRL g d (k + d * Rose.cnt xs) ys := by
  induction xs with
  | nil => intro k; rw [Rose.cnt_nil]; simp [mkRL_nil]
  | cons x xs ih =>
    intro k
    rw [List.cons_append, mkRL_cons, mkRL_cons, ih, List.cons_append]
    congr 3
    show _ = k + d * Rose.wtL _ _
    rw [Rose.wtL_cons]
    show k + d * (1 + Rose.wtL _ _) + d * Rose.wtL _ _ = _
    rw [Nat.add_assoc, ← Nat.mul_add]
theorem mkRL_length (ks : List (Rose α)) : ∀ k, (mkRL g d k ks).length = ks.length := by
  induction ks with
  | nil => intro k; simp [mkRL_nil]
  | cons t ts ih => intro k; rw [mkRL_cons]; simp [ih]
theorem mkRL_take {ks : List (Rose α)} {i : Nat} {t : Rose α} (h : ks[i]? = some t) (k : Nat) : mkRL g d k (ks.take (i + 1)) = mkRL g d k (ks.take i) ++ [.mk (g (k + d * Rose.cnt (ks.take i))) (mkRL g d (k + d * Rose.cnt (ks.take i) + d) t.kids)] := by
  rw [take_succ_get h, mkRL_append, mkRL_cons, mkRL_nil]
theorem mkRL_get {ks : List (Rose α)} {i : Nat} {t : Rose α} (h : ks[i]? = some t) (k : Nat) : (mkRL g d k ks)[i]? = some (.mk (g (k + d * Rose.cnt (ks.take i))) (mkRL g d (k + d * Rose.cnt (ks.take i) + d) t.kids)) := by
  have hi := (List.getElem?_eq_some_iff.1 h).1
  have h1 := mkRL_take (g := g) (d := d) h k
  have h2 : mkRL g d k ks = mkRL g d k (ks.take (i + 1)) ++ mkRL g d (k + d * Rose.cnt (ks.take (i + 1))) (ks.drop (i + 1)) := by rw [← mkRL_append, List.take_append_drop]
  rw [h2, h1, List.append_assoc, List.getElem?_append_right (by rw [mkRL_length]; simp; omega)]
  rw [mkRL_length, List.length_take, Nat.min_eq_left (by omega), Nat.sub_self]
  rfl
theorem drop_get {ks : List (Rose α)} {i : Nat} {t : Rose α} (h : ks[i]? = some t) : ks.drop i = t :: ks.drop (i + 1) := by
  obtain ⟨hi, rfl⟩ := List.getElem?_eq_some_iff.1 h
  exact (List.drop_eq_getElem_cons hi)
end

/-- What a mark leaves. -/
def Marked {α : Type} (enc : α → List Value) (g : Nat → α) (d : Nat) (n0 k : Nat) (v : Value) (ks : List (Rose α)) (bs : List Nat) (w : World) (r : Value) (w' : World) : Prop :=
  r = .int .i64 (k + d * Rose.cnt ks : Nat) ∧ Chg (· ∈ bs) w w' ∧ Kids enc w' v (mkRL g d k ks) bs ∧ Fresh n0 w' bs

theorem Chg.sub {M N : Nat → Prop} {w w' w'' : World} (h : Chg M w w') (h' : Chg N w' w'') (hn : ∀ b, N b → M b) : Chg M w w'' :=
  (Chg.trans h h').mono fun k _ hm => hm.elim id (hn k)

/-- A marked Type's label. -/
def gT (k : Nat) : TLab := (k, mt (k + 1))

end Go.Proofs.YtmaklbdlijcopaaDoor
