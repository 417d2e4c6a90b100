/- Contracts: names put together out of a Type: variables, names; IsGround. Conditions: none. -/
import Derived.Test.YtmaklbdlijcopaaDoorTyE
namespace Go.Proofs.YtmaklbdlijcopaaDoor
open Go.RowKit

/-- What q picks, each name once, behind what is there. -/
def coll (q : TLab → Bool) (xs : List TLab) (out : List ByteArray) : List ByteArray := xs.foldl (fun o x => if q x && !(has o x.2) then o ++ [x.2] else o) out
theorem coll_nil (q : TLab → Bool) (out : List ByteArray) : coll q [] out = out := rfl
theorem coll_append (q : TLab → Bool) (xs ys : List TLab) (out : List ByteArray) : coll q (xs ++ ys) out = coll q ys (coll q xs out) := List.foldl_append
theorem coll_cons (q : TLab → Bool) (x : TLab) (xs : List TLab) (out : List ByteArray) : coll q (x :: xs) out = coll q xs (coll q [x] out) := rfl
theorem coll_t {q : TLab → Bool} {x : TLab} {out : List ByteArray} (h1 : q x = true) (h2 : has out x.2 = false) : coll q [x] out = out ++ [x.2] := by simp [coll, h1, h2]
theorem coll_f {q : TLab → Bool} {x : TLab} {out : List ByteArray} (h : ¬ (q x = true ∧ has out x.2 = false)) : coll q [x] out = out := by
  simp only [coll, List.foldl_cons, List.foldl_nil]
  rw [if_neg]
  simpa using h
theorem coll_le (q : TLab → Bool) : ∀ (xs : List TLab) (out : List ByteArray), (coll q xs out).length ≤ out.length + xs.length
  | [], out => by simp [coll]
  | x :: xs, out => by
    rw [coll_cons]
    have := coll_le q xs (coll q [x] out)
    have h1 : (coll q [x] out).length ≤ out.length + 1 := by
      by_cases h : q x = true ∧ has out x.2 = false
      · rw [coll_t h.1 h.2]; simp
      · rw [coll_f h]; omega
    simp only [List.length_cons]
    omega

def isV (x : TLab) : Bool := decide (x.1 = 1)
/-- int or bool. -/
def baseN (s : ByteArray) : Bool := decide (s = ⟨#[105, 110, 116]⟩) || decide (s = ⟨#[98, 111, 111, 108]⟩)
def isN (x : TLab) : Bool := decide (x.1 = 2) && !(baseN x.2) || decide (x.1 = 4)

/-- The strings of a slice that the call appends to. -/
theorem Grow.strs {w : World} {e : TypeId} {v : Value} {ss : List ByteArray} {n : Nat} {O : List Nat} (h : Grow w e 1 v n (ss.map .string) O) (hm : n ≤ maxLen) : ∃ bs, Strs w v ss bs ∧ bs.Sublist O := by
  obtain ⟨h0, h1⟩ := h
  have hn : n = ss.length := by simpa using h0.symm
  rcases h1 with ⟨rfl, rfl, rfl⟩ | ⟨g, cap, rest, rfl, rfl, hb, hc, _, _⟩
  · obtain rfl : ss = [] := List.eq_nil_of_length_eq_zero hn.symm
    exact ⟨[], ⟨none, 0, rfl, ⟨Nat.zero_le _, Nat.zero_le _⟩, .inl ⟨rfl, rfl⟩⟩, List.Sublist.refl _⟩
  · subst hn
    by_cases h0 : ss = []
    · subst h0
      exact ⟨[], ⟨_, cap, rfl, ⟨Nat.zero_le _, Nat.zero_le _⟩, .inl ⟨rfl, rfl⟩⟩, by simp⟩
    · exact ⟨[g], ⟨_, cap, by simp, ⟨by simpa using hm, by simpa using hc⟩, .inr ⟨⟨g, 0, none⟩, by simpa using h0, rfl, rfl, Blk.lc0 hb⟩⟩, List.Sublist.refl _⟩

theorem Grow.fresh {w : World} {e : TypeId} {size : Nat} {v : Value} {n n0 : Nat} {xs : List Value} {O : List Nat} (h : Grow w e size v n xs O) (hO : ∀ b ∈ O, n0 ≤ b) : Fresh n0 w O := by
  rcases h.2 with ⟨rfl, rfl, rfl⟩ | ⟨g, cap, rest, rfl, rfl, hb, _⟩
  · exact Fresh.nil _ _
  · exact Fresh.one hb (hO g (by simp))

/-- A list of strings, handed on and appended to. -/
def Collects (q : TLab → Bool) (xs : List TLab) (out : List ByteArray) (O : List Nat) (w : World) (r : Value) (w' : World) : Prop :=
  ∃ O', Chg (· ∈ O) w w' ∧ Grow w' 9 1 r (coll q xs out).length ((coll q xs out).map .string) O' ∧ ∀ b ∈ O', b ∈ O ∨ w.heap.size ≤ b


end Go.Proofs.YtmaklbdlijcopaaDoor
