/- Contracts: Index, Contains, IndexOf, keywords, names. Conditions: none. -/
import Derived.Test.YtmecmdnnhldjpaaDoorStrD
namespace Go.Proofs.YtmecmdnnhldjpaaDoor
open Go.RowKit

def idx (s : ByteArray) : List ByteArray → Nat → Int
  | [], _ => -1
  | t :: ts, i => if t = s then i else idx s ts (i + 1)

theorem idx_not {s : ByteArray} : ∀ {ss : List ByteArray} {i : Nat}, s ∉ ss → idx s ss i = -1
  | [], _, _ => rfl
  | t :: ts, i, h => by
    simp only [List.mem_cons, not_or] at h
    rw [idx, if_neg (fun e => h.1 e.symm)]
    exact idx_not h.2

theorem idx_at {s : ByteArray} : ∀ {ss : List ByteArray} {i k : Nat} (hk : k < ss.length), s ∉ ss.take k → ss[k] = s → idx s ss i = (i + k : Nat)
  | t :: ts, i, 0, _, _, h => by
    simp at h
    rw [idx, if_pos h]
    rfl
  | t :: ts, i, k + 1, hk, hn, h => by
    simp only [List.take_succ_cons, List.mem_cons, not_or] at hn
    rw [idx, if_neg (fun e => hn.1 e.symm), idx_at (by simpa using hk) hn.2 (by simpa using h)]
    congr 1
    omega

theorem idx_mem {s : ByteArray} : ∀ {ss : List ByteArray} {i : Nat}, 0 ≤ idx s ss i ↔ s ∈ ss
  | [], i => by simp [idx]
  | t :: ts, i => by
    rw [idx]
    split
    · rename_i h
      subst h
      simp
    · rename_i h
      rw [idx_mem]
      simp [Ne.symm h]

/-- slices.Index at []string -/
theorem c_slIndex {w : World} {v : Value} {ss : List ByteArray} {bs : List Nat} (h : Strs w v ss bs) (s : ByteArray) :
    Ret Tryd.prog 65 [v, .string s] w fun r w' => r = .int .i64 (idx s ss 0) ∧ w' = w := by
  obtain ⟨ao, cap, rfl, hm, hcap⟩ := h.form
  refine ret_of_vc ttOk Tryd.func65 rfl (by kernel_rfl) (by kernel_rfl) ?_
  refine Lp.go ttOk (by kernel_rfl) (fun k : Nat => [(0, .slice ao ss.length cap), (1, .string s), (7, .int .i64 ss.length), (8, .int .i64 k)]) (fun k w' => w' = w ∧ k ≤ ss.length ∧ s ∉ ss.take k) (fun k => ss.length - k) 0
    ⟨rfl, rfl, rfl, rfl, trivial⟩ ⟨rfl, Nat.zero_le _, by simp⟩ ?_
  rintro k w' ⟨rfl, hk, hn⟩
  refine Cm.s (fun hlt => ?_) (fun hge => ?_)
  · have hlt : k < ss.length := by omega
    obtain ⟨a, rfl, hc⟩ := h.get hlt
    refine Go1.ix 1 hlt ?_
    refine Ld.one hc ?_
    refine Cm.s (fun he => ?_) (fun he => ?_)
    · exact ⟨by rw [idx_at hlt hn he.symm, Nat.zero_add], rfl⟩
    · refine Wr.n (k + 1) (by omega) (by omega) ?_
      refine ⟨k + 1, ⟨rfl, rfl, rfl, rfl, trivial⟩, ⟨rfl, hlt, ?_⟩, by omega⟩
      rw [List.take_succ_eq_append_getElem hlt]
      simp only [List.mem_append, hn, false_or, List.mem_singleton]
      exact he
  · have : k = ss.length := by omega
    subst this
    rw [List.take_length] at hn
    exact ⟨by rw [idx_not hn], rfl⟩

/-- slices.Contains at []string -/
theorem c_slContains {w : World} {v : Value} {ss : List ByteArray} {bs : List Nat} (h : Strs w v ss bs) (s : ByteArray) :
    Ret Tryd.prog 55 [v, .string s] w fun r w' => r = .bool (has ss s) ∧ w' = w := by
  obtain ⟨ao, cap, rfl, hm, hcap⟩ := h.form
  refine ret_of_vc ttOk Tryd.func55 rfl (by kernel_rfl) (by kernel_rfl) ?_
  refine (c_slIndex h s).mono ?_
  rintro r w' ⟨rfl, rfl⟩
  refine Cm.s (fun h1 => ?_) (fun h1 => ?_)
  · exact ⟨by rw [has_t (idx_mem.1 h1)], rfl⟩
  · exact ⟨by rw [has_f (fun e => h1 (idx_mem.2 e))], rfl⟩



/-- The keywords. -/
def keywords : List ByteArray := [⟨#[105, 110, 116]⟩, ⟨#[98, 111, 111, 108]⟩, ⟨#[97, 115, 115, 111, 99]⟩, ⟨#[100, 121, 110]⟩, ⟨#[105, 102]⟩, ⟨#[108, 101, 116]⟩, ⟨#[99, 97, 115, 101]⟩, ⟨#[110, 101, 119]⟩, ⟨#[109, 101, 116, 104, 111, 100]⟩, ⟨#[112, 97, 99, 107]⟩, ⟨#[116, 114, 117, 101]⟩, ⟨#[102, 97, 108, 115, 101]⟩]

/-- A name's letters. -/
def NameChP (s : ByteArray) (i : Nat) (h : i < s.size) : Prop := LowP s[i].toNat ∨ (i ≠ 0 ∧ DigP s[i].toNat)
/-- A valid name. -/
def NameOk (s : ByteArray) : Prop := (∀ i, ∀ h : i < s.size, NameChP s i h) ∧ 1 ≤ s.size ∧ s.size ≤ 8 ∧ has keywords s = false
instance (s : ByteArray) (i : Nat) (h : i < s.size) : Decidable (NameChP s i h) := by unfold NameChP; infer_instance
instance (s : ByteArray) : Decidable (NameOk s) := by unfold NameOk; infer_instance

end Go.Proofs.YtmecmdnnhldjpaaDoor
