/- Contracts: Index, Contains, IndexOf, keywords, names. Conditions: none. -/
import Derived.Test.YtliigpmpeldebaaGreatStrD
namespace Go.Proofs.YtliigpmpeldebaaGreat
open Go.RowKit

def idx (s : ByteArray) : List ByteArray → Nat → Int
  | [], _ => -1
  | t :: ts, i => if t = s then i else idx s ts (i + 1)

theorem idx_not {s : ByteArray} : ∀ {ss : List ByteArray} {i : Nat}, s ∉ ss → idx s ss i = -1
  | [], _, _ => rfl
  | t :: ts, i, h => by
    simp only [List.mem_cons, not_or] at h
    rw [idx, if_neg (fun e => h.1 e.symm)]
    exact idx_not h.2

theorem idx_at {s : ByteArray} : ∀ {ss : List ByteArray} {i k : Nat} (hk : k < ss.length), s ∉ ss.take k → ss[k] = s → idx s ss i = (i + k : Nat)
  | t :: ts, i, 0, _, _, h => by
    simp at h
    rw [idx, if_pos h]
    rfl
  | t :: ts, i, k + 1, hk, hn, h => by
    simp only [List.take_succ_cons, List.mem_cons, not_or] at hn
    rw [idx, if_neg (fun e => hn.1 e.symm), idx_at (by simpa using hk) hn.2 (by simpa using h)]
    congr 1
    omega

theorem idx_mem {s : ByteArray} : ∀ {ss : List ByteArray} {i : Nat}, 0 ≤ idx s ss i ↔ s ∈ ss
  | [], i => by simp [idx]
  | t :: ts, i => by
    rw [idx]
    split
    · rename_i h
      subst h
      simp
    · rename_i h
      rw [idx_mem]
      simp [Ne.symm h]

/-- slices.Index at []string -/
theorem c_slIndex {w : World} {v : Value} {ss : List ByteArray} {bs : List Nat} (h : Strs w v ss bs) (s : ByteArray) :
    Ret Tryz.prog 105 [v, .string s] w fun r w' => r = .int .i64 (idx s ss 0) ∧ w' = w := by
  obtain ⟨ao, cap, rfl, hm, hcap⟩ := h.form
  refine ret_of_vc ttOk Tryz.func105 rfl (by kernel_rfl) (by kernel_rfl) ?_
  refine Lp.go ttOk (by kernel_rfl) (fun k : Nat => [(0, .slice ao ss.length cap), (1, .string s), (7, .int .i64 ss.length), (8, .int .i64 k)]) (fun k w' => w' = w ∧ k ≤ ss.length ∧ s ∉ ss.take k) (fun k => ss.length - k) 0
    ⟨rfl, rfl, rfl, rfl, trivial⟩ ⟨rfl, Nat.zero_le _, by simp⟩ ?_
  rintro k w' ⟨rfl, hk, hn⟩
  refine Cm.s (fun hlt => ?_) (fun hge => ?_)
  · have hlt : k < ss.length := by omega
    obtain ⟨a, rfl, hc⟩ := h.get hlt
    refine Go1.ix 1 hlt ?_
    refine Ld.one hc ?_
    refine Cm.s (fun he => ?_) (fun he => ?_)
    · exact ⟨by rw [idx_at hlt hn he.symm, Nat.zero_add], rfl⟩
    · refine Wr.n (k + 1) (by omega) (by omega) ?_
      refine ⟨k + 1, ⟨rfl, rfl, rfl, rfl, trivial⟩, ⟨rfl, hlt, ?_⟩, by omega⟩
      rw [List.take_succ_eq_append_getElem hlt]
      simp only [List.mem_append, hn, false_or, List.mem_singleton]
      exact he
  · have : k = ss.length := by omega
    subst this
    rw [List.take_length] at hn
    exact ⟨by rw [idx_not hn], rfl⟩

/-- slices.Contains at []string -/
theorem c_slContains {w : World} {v : Value} {ss : List ByteArray} {bs : List Nat} (h : Strs w v ss bs) (s : ByteArray) :
    Ret Tryz.prog 100 [v, .string s] w fun r w' => r = .bool (has ss s) ∧ w' = w := by
  obtain ⟨ao, cap, rfl, hm, hcap⟩ := h.form
  refine ret_of_vc ttOk Tryz.func100 rfl (by kernel_rfl) (by kernel_rfl) ?_
  refine (c_slIndex h s).mono ?_
  rintro r w' ⟨rfl, rfl⟩
  refine Cm.s (fun h1 => ?_) (fun h1 => ?_)
  · exact ⟨by rw [has_t (idx_mem.1 h1)], rfl⟩
  · exact ⟨by rw [has_f (fun e => h1 (idx_mem.2 e))], rfl⟩



/-- The keywords. -/
def keywords : List ByteArray := [⟨#[105, 110, 116]⟩, ⟨#[98, 111, 111, 108]⟩, ⟨#[97, 115, 115, 111, 99]⟩, ⟨#[100, 121, 110]⟩, ⟨#[105, 102]⟩, ⟨#[108, 101, 116]⟩, ⟨#[99, 97, 115, 101]⟩, ⟨#[110, 101, 119]⟩, ⟨#[109, 101, 116, 104, 111, 100]⟩, ⟨#[112, 97, 99, 107]⟩, ⟨#[116, 114, 117, 101]⟩, ⟨#[102, 97, 108, 115, 101]⟩]

/-- spec.IsReserved -/
theorem c_sIsReserved {w : World} (s : ByteArray) : Ret Tryz.prog 88 [.string s] w fun r w' => r = .bool (has keywords s) ∧ Ext w w' := by
  refine ret_of_vc ttOk Tryz.func88 rfl (by kernel_rfl) (by kernel_rfl) ?_
  refine Go1.bs 9 (keywords.map .string) Tryz.underlying57 tiStr (by omega) (by omega) (by kernel_rfl) ?_
  intro w1 hx hb
  obtain ⟨bs, h1, _⟩ := Strs.of_blk (n := 12) (cap := 12) hb rfl ⟨by unfold maxLen; omega, by omega⟩
  refine (c_l1Has h1 s).mono ?_
  rintro r w' ⟨rfl, rfl⟩
  exact ⟨rfl, hx⟩

/-- impl.IsReserved -/
theorem c_iIsReserved {w : World} (s : ByteArray) : Ret Tryz.prog 89 [.string s] w fun r w' => r = .bool (has keywords s) ∧ Ext w w' := by
  refine ret_of_vc ttOk Tryz.func89 rfl (by kernel_rfl) (by kernel_rfl) ?_
  refine Go1.bs 9 (keywords.map .string) Tryz.underlying57 tiStr (by omega) (by omega) (by kernel_rfl) ?_
  intro w1 hx hb
  obtain ⟨bs, h1, _⟩ := Strs.of_blk (n := 12) (cap := 12) hb rfl ⟨by unfold maxLen; omega, by omega⟩
  refine (c_slContains h1 s).mono ?_
  rintro r w' ⟨rfl, rfl⟩
  exact ⟨rfl, hx⟩

/-- A name's letters. -/
def NameChP (s : ByteArray) (i : Nat) (h : i < s.size) : Prop := LowP s[i].toNat ∨ (i ≠ 0 ∧ DigP s[i].toNat)
/-- A valid name. -/
def NameOk (s : ByteArray) : Prop := (∀ i, ∀ h : i < s.size, NameChP s i h) ∧ 1 ≤ s.size ∧ s.size ≤ 8 ∧ has keywords s = false
instance (s : ByteArray) (i : Nat) (h : i < s.size) : Decidable (NameChP s i h) := by unfold NameChP; infer_instance
instance (s : ByteArray) : Decidable (NameOk s) := by unfold NameOk; infer_instance

set_option maxRecDepth 10000 in
/-- spec.IsValidName -/
theorem c_sIsValidName {w : World} (s : ByteArray) (hm : s.size ≤ maxLen) : Ret Tryz.prog 67 [.string s] w fun r w' => r = .bool (decide (NameOk s)) ∧ Ext w w' := by
  refine ret_of_vc ttOk Tryz.func67 rfl (by kernel_rfl) (by kernel_rfl) ?_
  refine (c_l1In _ _ _).mono ?_
  rintro r w0 ⟨rfl, rfl⟩
  by_cases hin : (1 : Int) ≤ (s.size : Int) ∧ (s.size : Int) ≤ 8
  · rw [decide_eq_true hin]
    refine (c_sIsReserved s).mono ?_
    rintro r w1 ⟨rfl, hx1⟩
    cases hr : has keywords s
    · refine Lp.go ttOk (by kernel_rfl) (fun k : Nat => [(0, .string s), (3, .int .i64 k)]) (fun k w' => Ext w0 w' ∧ k ≤ s.size ∧ ∀ i, ∀ h : i < s.size, i < k → NameChP s i h) (fun k => s.size - k) 0
        ⟨rfl, rfl, trivial⟩ ⟨hx1, Nat.zero_le _, fun i _ h => by omega⟩ ?_
      rintro k w' ⟨hx, hk, hn⟩
      refine Cm.s (fun hlt => ?_) (fun hge => ?_)
      · have hlt : k < s.size := by omega
        have no : ¬ NameChP s k hlt → Value.bool false = Value.bool (decide (NameOk s)) := fun h => vb_f (fun e => h (e.1 k hlt))
        have yes : NameChP s k hlt → ∀ i, ∀ h : i < s.size, i < k + 1 → NameChP s i h := fun h i h1 h2 => by
          by_cases e : i = k
          · subst e; exact h
          · exact hn i h1 (by omega)
        have dig : ¬ (s[k].toNat : Int) < 48 → ¬ (57 : Int) < s[k].toNat → DigP s[k].toNat := fun h1 h2 => by unfold DigP; omega
        have digE : DigP s[k].toNat → ¬ (s[k].toNat : Int) < 48 ∧ ¬ (57 : Int) < s[k].toNat := fun h => by unfold DigP at h; omega
        refine Go1.ixS hlt ?_
        refine Cm.s (fun h1 => ?_) (fun h1 => ?_)
        · refine Go1.ixS hlt ?_
          refine Cm.s (fun h2 => ?_) (fun h2 => ?_)
          · refine Wr.n (k + 1) (by omega) (by omega) ?_
            exact ⟨k + 1, ⟨rfl, rfl, trivial⟩, ⟨hx, hlt, yes (.inl (by unfold LowP; omega))⟩, by omega⟩
          · have nlow : ¬ LowP s[k].toNat := by unfold LowP; omega
            refine Cm.s (fun h3 => ?_) (fun h3 => ?_)
            · exact ⟨no (fun e => by rcases e with e | e; exact nlow e; exact e.1 (by omega)), hx⟩
            · refine Go1.ixS hlt ?_
              refine Cm.s (fun h4 => ?_) (fun h4 => ?_)
              · exact ⟨no (fun e => by rcases e with e | e; exact nlow e; exact (digE e.2).1 h4), hx⟩
              · refine Go1.ixS hlt ?_
                refine Cm.s (fun h5 => ?_) (fun h5 => ?_)
                · exact ⟨no (fun e => by rcases e with e | e; exact nlow e; exact (digE e.2).2 h5), hx⟩
                · refine Wr.n (k + 1) (by omega) (by omega) ?_
                  exact ⟨k + 1, ⟨rfl, rfl, trivial⟩, ⟨hx, hlt, yes (.inr ⟨by omega, dig h4 h5⟩)⟩, by omega⟩
        · have nlow : ¬ LowP s[k].toNat := by unfold LowP; omega
          refine Cm.s (fun h3 => ?_) (fun h3 => ?_)
          · exact ⟨no (fun e => by rcases e with e | e; exact nlow e; exact e.1 (by omega)), hx⟩
          · refine Go1.ixS hlt ?_
            refine Cm.s (fun h4 => ?_) (fun h4 => ?_)
            · exact ⟨no (fun e => by rcases e with e | e; exact nlow e; exact (digE e.2).1 h4), hx⟩
            · refine Go1.ixS hlt ?_
              refine Cm.s (fun h5 => ?_) (fun h5 => ?_)
              · exact ⟨no (fun e => by rcases e with e | e; exact nlow e; exact (digE e.2).2 h5), hx⟩
              · refine Wr.n (k + 1) (by omega) (by omega) ?_
                exact ⟨k + 1, ⟨rfl, rfl, trivial⟩, ⟨hx, hlt, yes (.inr ⟨by omega, dig h4 h5⟩)⟩, by omega⟩
      · have : k = s.size := by omega
        subst this
        exact ⟨vb_t ⟨fun i h1 => hn i h1 h1, by omega, by omega, hr⟩, hx⟩
    · exact ⟨vb_f (fun e => by have h9 := e.2.2.2; rw [hr] at h9; cases h9), hx1⟩
  · rw [decide_eq_false hin]
    exact ⟨vb_f (fun e => hin ⟨by have := e.2.1; omega, by have := e.2.2.1; omega⟩), Chg.refl _ _⟩

set_option maxRecDepth 10000 in
/-- impl.IsValidName -/
theorem c_iIsValidName {w : World} (s : ByteArray) (hm : s.size ≤ maxLen) : Ret Tryz.prog 69 [.string s] w fun r w' => r = .bool (decide (NameOk s)) ∧ Ext w w' := by
  refine ret_of_vc ttOk Tryz.func69 rfl (by kernel_rfl) (by kernel_rfl) ?_
  refine Lp.go ttOk (by kernel_rfl) (fun k : Nat => [(0, .string s), (5, .int .i64 s.size), (6, .int .i64 k)]) (fun k w' => w' = w ∧ k ≤ s.size ∧ ∀ i, ∀ h : i < s.size, i < k → NameChP s i h) (fun k => s.size - k) 0
    ⟨rfl, rfl, rfl, trivial⟩ ⟨rfl, Nat.zero_le _, fun i _ h => by omega⟩ ?_
  rintro k w' ⟨rfl, hk, hn⟩
  refine Cm.s (fun hlt => ?_) (fun hge => ?_)
  · have hlt : k < s.size := by omega
    have no : ¬ NameChP s k hlt → Value.bool false = Value.bool (decide (NameOk s)) := fun h => vb_f (fun e => h (e.1 k hlt))
    have yes : NameChP s k hlt → ∀ i, ∀ h : i < s.size, i < k + 1 → NameChP s i h := fun h i h1 h2 => by
      by_cases e : i = k
      · subst e; exact h
      · exact hn i h1 (by omega)
    refine Go1.ixS hlt ?_
    refine (c_isLower _).mono ?_
    rintro r w0 ⟨rfl, rfl⟩
    by_cases h1 : LowP s[k].toNat
    · rw [decide_eq_true h1]
      refine Wr.n (k + 1) (by omega) (by omega) ?_
      exact ⟨k + 1, ⟨rfl, rfl, rfl, trivial⟩, ⟨rfl, hlt, yes (.inl h1)⟩, by omega⟩
    · rw [decide_eq_false h1]
      refine Cm.s (fun h2 => ?_) (fun h2 => ?_)
      · exact ⟨no (fun e => by rcases e with e | e; exact h1 e; exact e.1 (by omega)), Chg.refl _ _⟩
      · refine Go1.ixS hlt ?_
        refine (c_isDigit _).mono ?_
        rintro r w0 ⟨rfl, rfl⟩
        by_cases h3 : DigP s[k].toNat
        · rw [decide_eq_true h3]
          refine Wr.n (k + 1) (by omega) (by omega) ?_
          exact ⟨k + 1, ⟨rfl, rfl, rfl, trivial⟩, ⟨rfl, hlt, yes (.inr ⟨by omega, h3⟩)⟩, by omega⟩
        · rw [decide_eq_false h3]
          exact ⟨no (fun e => by rcases e with e | e; exact h1 e; exact h3 e.2), Chg.refl _ _⟩
  · have : k = s.size := by omega
    subst this
    refine Cm.s (fun h1 => ?_) (fun h1 => ?_)
    · refine Cm.s (fun h2 => ?_) (fun h2 => ?_)
      · refine (c_iIsReserved s).mono ?_
        rintro r w1 ⟨rfl, hx1⟩
        cases hr : has keywords s
        · exact ⟨vb_t ⟨fun i h1 => hn i h1 h1, by omega, by omega, hr⟩, hx1⟩
        · exact ⟨vb_f (fun e => by have h9 := e.2.2.2; rw [hr] at h9; cases h9), hx1⟩
      · exact ⟨vb_f (fun e => h2 (by have := e.2.2.1; omega)), Chg.refl _ _⟩
    · exact ⟨vb_f (fun e => h1 (by have := e.2.1; omega)), Chg.refl _ _⟩

end Go.Proofs.YtliigpmpeldebaaGreat
