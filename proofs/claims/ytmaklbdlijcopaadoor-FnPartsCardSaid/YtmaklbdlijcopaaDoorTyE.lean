/- Contracts: what a Type's labels tell: counts of variables, names put together. Conditions: none. -/
import Derived.Test.YtmaklbdlijcopaaDoorTyD
import Derived.Test.YtmaklbdlijcopaaDoorGrow
import Derived.Test.YtmaklbdlijcopaaDoorStrA
import Derived.Test.YtmaklbdlijcopaaDoorStrE
import Derived.IntWalk
namespace Go.Proofs.YtmaklbdlijcopaaDoor
open Go.RowKit

/-- How often the variable s occurs. -/
def cntV (s : ByteArray) (xs : List TLab) : Nat := xs.countP fun x => decide (x.1 = 1 ∧ x.2 = s)
theorem cntV_append (s : ByteArray) (xs ys : List TLab) : cntV s (xs ++ ys) = cntV s xs + cntV s ys := List.countP_append ..
theorem cntV_cons (s : ByteArray) (x : TLab) (xs : List TLab) : cntV s (x :: xs) = cntV s [x] + cntV s xs := cntV_append s [x] xs
theorem cntV_1 {s : ByteArray} {x : TLab} (h1 : x.1 = 1) (h2 : x.2 = s) : cntV s [x] = 1 := by simp [cntV, h1, h2]
theorem cntV_0 {s : ByteArray} {x : TLab} (h : ¬ (x.1 = 1 ∧ x.2 = s)) : cntV s [x] = 0 := by simp [cntV, h]
theorem cntV_le (s : ByteArray) (xs : List TLab) : cntV s xs ≤ xs.length := List.countP_le_length
theorem preL_length {α : Type} (ks : List (Rose α)) : (Rose.preL ks).length = Rose.cnt ks := by
  refine Rose.forest (p := fun ks => (Rose.preL ks).length = Rose.cnt ks) (fun ks ih => ?_) ks
  induction ks with
  | nil => rw [Rose.preL_nil, Rose.cnt_nil]; rfl
  | cons k ks ihk =>
    have h1 := ih k List.mem_cons_self
    have h2 := ihk fun t ht => ih t (List.mem_cons_of_mem _ ht)
    rw [Rose.preL_cons]
    show _ = Rose.wtL _ _
    rw [Rose.wtL_cons]
    simp only [List.length_append, List.length_cons]
    have h1 : _ = Rose.wtL (fun _ => 0) k.kids := h1
    have h2 : _ = Rose.wtL (fun _ => 0) ks := h2
    omega


end Go.Proofs.YtmaklbdlijcopaaDoor
