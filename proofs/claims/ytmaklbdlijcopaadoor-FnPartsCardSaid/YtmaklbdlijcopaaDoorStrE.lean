/- Contracts: Index, Contains, IndexOf, keywords, names. Conditions: none. -/
import Derived.Test.YtmaklbdlijcopaaDoorStrD
namespace Go.Proofs.YtmaklbdlijcopaaDoor
open Go.RowKit

def idx (s : ByteArray) : List ByteArray → Nat → Int
  | [], _ => -1
  | t :: ts, i => if t = s then i else idx s ts (i + 1)

theorem idx_not {s : ByteArray} : ∀ {ss : List ByteArray} {i : Nat}, s ∉ ss → idx s ss i = -1
  | [], _, _ => rfl
  | t :: ts, i, h => by
    simp only [List.mem_cons, not_or] at h
    rw [idx, if_neg (fun e => h.1 e.symm)]
    exact idx_not h.2

theorem idx_at {s : ByteArray} : ∀ {ss : List ByteArray} {i k : Nat} (hk : k < ss.length), s ∉ ss.take k → ss[k] = s → idx s ss i = (i + k : Nat)
  | t :: ts, i, 0, _, _, h => by
    simp at h
    rw [idx, if_pos h]
    rfl
  | t :: ts, i, k + 1, hk, hn, h => by
    simp only [List.take_succ_cons, List.mem_cons, not_or] at hn
    rw [idx, if_neg (fun e => hn.1 e.symm), idx_at (by simpa using hk) hn.2 (by simpa using h)]
    congr 1
    omega

theorem idx_mem {s : ByteArray} : ∀ {ss : List ByteArray} {i : Nat}, 0 ≤ idx s ss i ↔ s ∈ ss
  | [], i => by simp [idx]
  | t :: ts, i => by
    rw [idx]
    split
    · rename_i h
      subst h
      simp
    · rename_i h
      rw [idx_mem]
      simp [Ne.symm h]





/-- The keywords. -/
def keywords : List ByteArray := [⟨#[105, 110, 116]⟩, ⟨#[98, 111, 111, 108]⟩, ⟨#[97, 115, 115, 111, 99]⟩, ⟨#[100, 121, 110]⟩, ⟨#[105, 102]⟩, ⟨#[108, 101, 116]⟩, ⟨#[99, 97, 115, 101]⟩, ⟨#[110, 101, 119]⟩, ⟨#[109, 101, 116, 104, 111, 100]⟩, ⟨#[112, 97, 99, 107]⟩, ⟨#[116, 114, 117, 101]⟩, ⟨#[102, 97, 108, 115, 101]⟩]

/-- A name's letters. -/
def NameChP (s : ByteArray) (i : Nat) (h : i < s.size) : Prop := LowP s[i].toNat ∨ (i ≠ 0 ∧ DigP s[i].toNat)
/-- A valid name. -/
def NameOk (s : ByteArray) : Prop := (∀ i, ∀ h : i < s.size, NameChP s i h) ∧ 1 ≤ s.size ∧ s.size ≤ 8 ∧ has keywords s = false
instance (s : ByteArray) (i : Nat) (h : i < s.size) : Decidable (NameChP s i h) := by unfold NameChP; infer_instance
instance (s : ByteArray) : Decidable (NameOk s) := by unfold NameOk; infer_instance

end Go.Proofs.YtmaklbdlijcopaaDoor
