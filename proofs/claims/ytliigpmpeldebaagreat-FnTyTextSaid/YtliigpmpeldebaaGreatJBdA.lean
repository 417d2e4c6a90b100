/- Contracts: the laws' helpers on bindings: sizes, copies, equality; Contracts: EqualBindings; copies of Types; Lookup. Conditions: none. -/
import Derived.Test.YtliigpmpeldebaaGreatBd
import Derived.Test.YtliigpmpeldebaaGreatJGrow
namespace Go.Proofs.YtliigpmpeldebaaGreat
open Go.RowKit

theorem Blk.lc1 {w : World} {b : Nat} {e : TypeId} {x : Value} {xs : List Value} (h : Blk w b e (x :: xs)) : Lc w ((⟨b, 0, none⟩ : Addr).add 1) xs := by
  have := Blk.lc (pre := [x]) (xs := xs) (post := []) (by simpa using h)
  intro i v hv
  have h1 := this i v hv
  rw [Addr.add_lit] at h1
  rw [Addr.add_lit, Addr.add_lit, Nat.zero_add]
  exact h1

/-- The nodes of bindings. -/
def cntB : List Bi → Nat
  | [] => 0
  | x :: xs => 1 + Rose.cnt x.2.kids + cntB xs
/-- The weight of bindings. -/
def szB : List Bi → Nat
  | [] => 0
  | x :: xs => 1 + (x.1.size + (x.2.lab.2.size + szT x.2.kids)) + szB xs
theorem cntB_append (xs ys : List Bi) : cntB (xs ++ ys) = cntB xs + cntB ys := by
  induction xs with
  | nil => simp [cntB]
  | cons x xs ih => simp only [List.cons_append, cntB, ih]; omega
theorem szB_append (xs ys : List Bi) : szB (xs ++ ys) = szB xs + szB ys := by
  induction xs with
  | nil => simp [szB]
  | cons x xs ih => simp only [List.cons_append, szB, ih]; omega
theorem szB_take {xs : List Bi} {i : Nat} {x : Bi} (h : xs[i]? = some x) : szB (xs.take (i + 1)) = szB (xs.take i) + (1 + (x.1.size + (x.2.lab.2.size + szT x.2.kids))) := by
  rw [take_succ_get h, szB_append]; simp [szB]
theorem cntB_take {xs : List Bi} {i : Nat} {x : Bi} (h : xs[i]? = some x) : cntB (xs.take (i + 1)) = cntB (xs.take i) + (1 + Rose.cnt x.2.kids) := by
  rw [take_succ_get h, cntB_append]; simp [cntB]
theorem cntB_take_le {xs : List Bi} {i : Nat} {x : Bi} (h : xs[i]? = some x) : cntB (xs.take i) + (1 + Rose.cnt x.2.kids) ≤ cntB xs := by
  rw [← cntB_take h]
  have := cntB_append (xs.take (i + 1)) (xs.drop (i + 1))
  rw [List.take_append_drop] at this
  omega
theorem cntB_length (xs : List Bi) : xs.length ≤ cntB xs := by
  induction xs with
  | nil => simp
  | cons x xs ih => simp only [List.length_cons, cntB]; omega
theorem cntB_le (xs : List Bi) : cntB xs ≤ szB xs := by
  induction xs with
  | nil => simp [cntB, szB]
  | cons x xs ih =>
    have := Rose.cnt_le (fun l : TLab => l.2.size) x.2.kids
    simp only [cntB, szB, szT]
    omega
theorem szB_cnt {m left : Nat} {xs : List Bi} (h : m + szB xs = left) (hl : left ≤ 1048576) : cntB xs ≤ 1048576 := by have := cntB_le xs; omega
/-- All texts are of a length that is an int. -/
def AlB (xs : List Bi) : Prop := ∀ x ∈ xs, x.1.size ≤ maxLen ∧ x.2.lab.2.size ≤ maxLen ∧ Rose.AlL (fun s => s.2.size ≤ maxLen) x.2.kids



theorem Bi.ext {x y : Bi} (h0 : x.1 = y.1) (h1 : x.2.lab = y.2.lab) (h2 : x.2.kids = y.2.kids) : x = y := Prod.ext h0 (Rose.ext h1 h2)
end Go.Proofs.YtliigpmpeldebaaGreat

namespace Go.Proofs.YtliigpmpeldebaaGreat
open Go.RowKit


end Go.Proofs.YtliigpmpeldebaaGreat
