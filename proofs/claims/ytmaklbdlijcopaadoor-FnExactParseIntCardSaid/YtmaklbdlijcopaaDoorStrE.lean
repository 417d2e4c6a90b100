/- Contracts: Index, Contains, IndexOf, keywords, names. Conditions: none. -/
import Derived.Test.YtmaklbdlijcopaaDoorStrD
namespace Go.Proofs.YtmaklbdlijcopaaDoor
open Go.RowKit

def idx (s : ByteArray) : List ByteArray → Nat → Int
  | [], _ => -1
  | t :: ts, i => if t = s then i else idx s ts (i + 1)

theorem idx_not {s : ByteArray} : ∀ {ss : List ByteArray} {i : Nat}, s ∉ ss → idx s ss i = -1
  | [], _, _ => rfl
  | t :: ts, i, h => by
    simp only [List.mem_cons, not_or] at h
    rw [idx, if_neg (fun e => h.1 e.symm)]
    exact idx_not h.2

theorem idx_at {s : ByteArray} : ∀ {ss : List ByteArray} {i k : Nat} (hk : k < ss.length), s ∉ ss.take k → ss[k] = s → idx s ss i = (i + k : Nat)
  | t :: ts, i, 0, _, _, h => by
    simp at h
    rw [idx, if_pos h]
    rfl
  | t :: ts, i, k + 1, hk, hn, h => by
    simp only [List.take_succ_cons, List.mem_cons, not_or] at hn
    rw [idx, if_neg (fun e => hn.1 e.symm), idx_at (by simpa using hk) hn.2 (by simpa using h)]
    congr 1
    omega

theorem idx_mem {s : ByteArray} : ∀ {ss : List ByteArray} {i : Nat}, 0 ≤ idx s ss i ↔ s ∈ ss
  | [], i => by simp [idx]
  | t :: ts, i => by
    rw [idx]
    split
    · rename_i h
      subst h
      simp
    · rename_i h
      rw [idx_mem]
      simp [Ne.symm h]






/-- A name's letters. -/
def NameChP (s : ByteArray) (i : Nat) (h : i < s.size) : Prop := LowP s[i].toNat ∨ (i ≠ 0 ∧ DigP s[i].toNat)

end Go.Proofs.YtmaklbdlijcopaaDoor
