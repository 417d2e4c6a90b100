/- Contracts: bytes, atoms, names. Conditions: none. -/
import Derived.Test.YtliigpmpeldebaaStrB
import Derived.Laws.Externs
namespace Go.Proofs.Ytliigpmpeldebaa
open Go.RowKit

/-- spec.l1In -/
theorem c_l1In {w : World} (x lo hi : Int) : Ret Try.prog 79 [.int .i64 x, .int .i64 lo, .int .i64 hi] w fun r w' => r = .bool (decide (lo ≤ x ∧ x ≤ hi)) ∧ w' = w := by
  refine ret_of_vc ttOk Try.func79 rfl (by kernel_rfl) (by kernel_rfl) ?_
  refine Cm.s (fun h => ?_) (fun h => ?_)
  · refine Cm.s (fun h2 => ?_) (fun h2 => ?_)
    · exact ⟨by rw [decide_eq_true (show lo ≤ x ∧ x ≤ hi from ⟨h, h2⟩)], rfl⟩
    · exact ⟨by rw [decide_eq_false (show ¬ (lo ≤ x ∧ x ≤ hi) from fun e => h2 e.2)], rfl⟩
  · exact ⟨by rw [decide_eq_false (show ¬ (lo ≤ x ∧ x ≤ hi) from fun e => h e.1)], rfl⟩

def LowP (n : Nat) : Prop := 97 ≤ n ∧ n ≤ 122
def DigP (n : Nat) : Prop := 48 ≤ n ∧ n ≤ 57
def AtomP (n : Nat) : Prop := LowP n ∨ DigP n ∨ n = 39 ∨ n = 45 ∨ n = 43 ∨ n = 42 ∨ n = 60 ∨ n = 61 ∨ n = 46
instance (n : Nat) : Decidable (LowP n) := by unfold LowP; infer_instance
instance (n : Nat) : Decidable (DigP n) := by unfold DigP; infer_instance
instance (n : Nat) : Decidable (AtomP n) := by unfold AtomP; infer_instance

theorem vb_t {p : Prop} {_ : Decidable p} (h : p) : Value.bool true = Value.bool (decide p) := by rw [decide_eq_true h]
theorem vb_f {p : Prop} {_ : Decidable p} (h : ¬ p) : Value.bool false = Value.bool (decide p) := by rw [decide_eq_false h]

set_option maxRecDepth 10000 in
/-- spec.l2Byte -/
theorem c_l2Byte {w : World} (n : Nat) : Ret Try.prog 40 [.int .u8 n] w fun r w' => r = .bool (decide (AtomP n)) ∧ w' = w := by
  refine ret_of_vc ttOk Try.func40 rfl (by kernel_rfl) (by kernel_rfl) ?_
  repeat' (refine Cm.s (fun h => ?_) (fun h => ?_))
  all_goals first
    | exact ⟨vb_t (by unfold AtomP LowP DigP; omega), rfl⟩
    | exact ⟨vb_f (by unfold AtomP LowP DigP; omega), rfl⟩

/-- impl.isLower -/
theorem c_isLower {w : World} (n : Nat) : Ret Try.prog 36 [.int .u8 n] w fun r w' => r = .bool (decide (LowP n)) ∧ w' = w := by
  refine ret_of_vc ttOk Try.func36 rfl (by kernel_rfl) (by kernel_rfl) ?_
  repeat' (refine Cm.s (fun h => ?_) (fun h => ?_))
  all_goals first
    | exact ⟨vb_t (by unfold LowP; omega), rfl⟩
    | exact ⟨vb_f (by unfold LowP; omega), rfl⟩

/-- impl.isDigit -/
theorem c_isDigit {w : World} (n : Nat) : Ret Try.prog 37 [.int .u8 n] w fun r w' => r = .bool (decide (DigP n)) ∧ w' = w := by
  refine ret_of_vc ttOk Try.func37 rfl (by kernel_rfl) (by kernel_rfl) ?_
  repeat' (refine Cm.s (fun h => ?_) (fun h => ?_))
  all_goals first
    | exact ⟨vb_t (by unfold DigP; omega), rfl⟩
    | exact ⟨vb_f (by unfold DigP; omega), rfl⟩

theorem c_bytealg {w : World} (s : ByteArray) (n : Int) : Ret Try.prog 77 [.string s, .int .u8 n] w fun r w' => r = .int .i64 (firstIdx s n.toNat.toUInt8) ∧ w' = w := by
  refine ⟨.inl ⟨_, w, ?_, rfl, rfl⟩⟩
  have h := run_callFunc_extern (P := Try.prog) (e := Extern.BytealgIndexByte.indexByte) Try.func77 (by kernel_rfl) (by kernel_rfl) (by kernel_rfl) (by kernel_rfl) #[.string s, .int .u8 n] w
  rw [run_indexByte_string] at h
  exact h

theorem c_liteIndexByte {w : World} (s : ByteArray) (n : Int) : Ret Try.prog 54 [.string s, .int .u8 n] w fun r w' => r = .int .i64 (firstIdx s n.toNat.toUInt8) ∧ w' = w := by
  refine ret_of_vc ttOk Try.func54 rfl (by kernel_rfl) (by kernel_rfl) ?_
  refine (c_bytealg s n).mono ?_
  rintro r w' ⟨rfl, rfl⟩
  exact ⟨rfl, rfl⟩

/-- strings.IndexByte -/
theorem c_IndexByte {w : World} (s : ByteArray) (n : Int) : Ret Try.prog 38 [.string s, .int .u8 n] w fun r w' => r = .int .i64 (firstIdx s n.toNat.toUInt8) ∧ w' = w := by
  refine ret_of_vc ttOk Try.func38 rfl (by kernel_rfl) (by kernel_rfl) ?_
  refine (c_liteIndexByte s n).mono ?_
  rintro r w' ⟨rfl, rfl⟩
  exact ⟨rfl, rfl⟩

theorem firstIdx_marks (b : UInt8) : 0 ≤ firstIdx ⟨#[39, 45, 43, 42, 60, 61, 46]⟩ b ↔ (b.toNat = 39 ∨ b.toNat = 45 ∨ b.toNat = 43 ∨ b.toNat = 42 ∨ b.toNat = 60 ∨ b.toNat = 61 ∨ b.toNat = 46) := by
  have : ∀ b : Fin 256, (0 ≤ firstIdx ⟨#[39, 45, 43, 42, 60, 61, 46]⟩ b.val.toUInt8 ↔ (b.val = 39 ∨ b.val = 45 ∨ b.val = 43 ∨ b.val = 42 ∨ b.val = 60 ∨ b.val = 61 ∨ b.val = 46)) := by decide +kernel
  have h := this ⟨b.toNat, b.toNat_lt⟩
  simp only at h
  rwa [show b.toNat.toUInt8 = b by simp] at h

/-- impl.isAtomByte -/
theorem c_isAtomByte {w : World} (b : UInt8) : Ret Try.prog 21 [.int .u8 b.toNat] w fun r w' => r = .bool (decide (AtomP b.toNat)) ∧ w' = w := by
  refine ret_of_vc ttOk Try.func21 rfl (by kernel_rfl) (by kernel_rfl) ?_
  refine (c_isLower b.toNat).mono ?_
  rintro r w' ⟨rfl, rfl⟩
  by_cases h1 : LowP b.toNat
  · rw [decide_eq_true h1]
    exact ⟨vb_t (.inl h1), rfl⟩
  · rw [decide_eq_false h1]
    refine (c_isDigit b.toNat).mono ?_
    rintro r w' ⟨rfl, rfl⟩
    by_cases h2 : DigP b.toNat
    · rw [decide_eq_true h2]
      exact ⟨vb_t (.inr (.inl h2)), rfl⟩
    · rw [decide_eq_false h2]
      refine (c_IndexByte _ _).mono ?_
      rintro r w' ⟨rfl, rfl⟩
      have hm := firstIdx_marks b
      rw [Int.toNat_natCast, show b.toNat.toUInt8 = b by simp]
      refine Cm.s (fun h => ?_) (fun h => ?_)
      · exact ⟨vb_t (.inr (.inr (hm.1 h))), rfl⟩
      · exact ⟨vb_f (fun e => by rcases e with e | e | e; exact h1 e; exact h2 e; exact h (hm.2 e)), rfl⟩

/-- A valid atom. -/
def AtomOk (s : ByteArray) : Prop := (∀ i, ∀ h : i < s.size, AtomP s[i].toNat) ∧ 1 ≤ s.size ∧ s.size ≤ 12
instance (s : ByteArray) : Decidable (AtomOk s) := by unfold AtomOk; infer_instance

/-- spec.IsValidAtom -/
theorem c_sIsValidAtom {w : World} (s : ByteArray) (hm : s.size ≤ maxLen) : Ret Try.prog 58 [.string s] w fun r w' => r = .bool (decide (AtomOk s)) ∧ w' = w := by
  refine ret_of_vc ttOk Try.func58 rfl (by kernel_rfl) (by kernel_rfl) ?_
  refine Lp.go ttOk (by kernel_rfl) (fun k : Nat => [(0, .string s), (3, .int .i64 k)]) (fun k w' => w' = w ∧ k ≤ s.size ∧ ∀ i, ∀ h : i < s.size, i < k → AtomP s[i].toNat) (fun k => s.size - k) 0
    ⟨rfl, rfl, trivial⟩ ⟨rfl, Nat.zero_le _, fun i _ h => by omega⟩ ?_
  rintro k w' ⟨rfl, hk, hn⟩
  refine Cm.s (fun hlt => ?_) (fun hge => ?_)
  · have hlt : k < s.size := by omega
    refine Go1.ixS hlt ?_
    refine (c_l2Byte _).mono ?_
    rintro r w' ⟨rfl, rfl⟩
    by_cases hb : AtomP s[k].toNat
    · rw [decide_eq_true hb]
      refine Wr.n (k + 1) (by omega) (by omega) ?_
      refine ⟨k + 1, ⟨rfl, rfl, trivial⟩, ⟨rfl, hlt, fun i h1 h2 => ?_⟩, by omega⟩
      by_cases e : i = k
      · subst e; exact hb
      · exact hn i h1 (by omega)
    · rw [decide_eq_false hb]
      exact ⟨vb_f (fun e => hb (e.1 k hlt)), rfl⟩
  · have : k = s.size := by omega
    subst this
    refine (c_l1In _ _ _).mono ?_
    rintro r w' ⟨rfl, rfl⟩
    refine ⟨?_, rfl⟩
    congr 1
    refine decide_eq_decide.2 ⟨fun h => ⟨fun i h1 => hn i h1 h1, by omega, by omega⟩, fun h => ⟨by have := h.2.1; omega, by have := h.2.2; omega⟩⟩

/-- impl.IsValidAtom -/
theorem c_iIsValidAtom {w : World} (s : ByteArray) (hm : s.size ≤ maxLen) : Ret Try.prog 55 [.string s] w fun r w' => r = .bool (decide (AtomOk s)) ∧ w' = w := by
  refine ret_of_vc ttOk Try.func55 rfl (by kernel_rfl) (by kernel_rfl) ?_
  refine Lp.go ttOk (by kernel_rfl) (fun k : Nat => [(0, .string s), (5, .int .i64 s.size), (6, .int .i64 k)]) (fun k w' => w' = w ∧ k ≤ s.size ∧ ∀ i, ∀ h : i < s.size, i < k → AtomP s[i].toNat) (fun k => s.size - k) 0
    ⟨rfl, rfl, rfl, trivial⟩ ⟨rfl, Nat.zero_le _, fun i _ h => by omega⟩ ?_
  rintro k w' ⟨rfl, hk, hn⟩
  refine Cm.s (fun hlt => ?_) (fun hge => ?_)
  · have hlt : k < s.size := by omega
    refine Go1.ixS hlt ?_
    refine (c_isAtomByte _).mono ?_
    rintro r w' ⟨rfl, rfl⟩
    by_cases hb : AtomP s[k].toNat
    · rw [decide_eq_true hb]
      refine Wr.n (k + 1) (by omega) (by omega) ?_
      refine ⟨k + 1, ⟨rfl, rfl, rfl, trivial⟩, ⟨rfl, hlt, fun i h1 h2 => ?_⟩, by omega⟩
      by_cases e : i = k
      · subst e; exact hb
      · exact hn i h1 (by omega)
    · rw [decide_eq_false hb]
      exact ⟨vb_f (fun e => hb (e.1 k hlt)), rfl⟩
  · have : k = s.size := by omega
    subst this
    refine Cm.s (fun h1 => ?_) (fun h1 => ?_)
    · refine Cm.s (fun h2 => ?_) (fun h2 => ?_)
      · exact ⟨vb_t ⟨fun i h1 => hn i h1 h1, by omega, by omega⟩, rfl⟩
      · exact ⟨vb_f (fun e => h2 (by have := e.2.2; omega)), rfl⟩
    · exact ⟨vb_f (fun e => h1 (by have := e.2.1; omega)), rfl⟩

end Go.Proofs.Ytliigpmpeldebaa
