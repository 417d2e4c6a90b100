/- The kinds of this translation's types, as the engine asks them; Contracts: l1Has, slices.Index and slices.Contains at []string; Contracts: the laws' helpers on []string; Contracts: bytes, atoms, names. Conditions: none. -/
import Derived.Test.YtliigpmpeldebaaGreatChecked
import Derived.Test.YtliigpmpeldebaaGreatOwn
import Derived.Laws.Externs
namespace Go.Proofs.YtliigpmpeldebaaGreat
def tt : TT := [
  (9, .str), (4, .boo)
  , (57, .slc 9)
  , (31, .slc 33)
  , (24, .slc 26)
  ]
theorem ttOk : TOk Tryz.prog tt := ttB_ok (by kernel_rfl)

theorem tiSx : TyI Tryz.prog 33 (.agg #[.string ⟨#[]⟩, .slice none 0 0]) 2 40 := TyI.of (by kernel_rfl)
theorem tiTy : TyI Tryz.prog 26 (.agg #[.int .i64 0, .string ⟨#[]⟩, .slice none 0 0]) 3 48 := TyI.of (by kernel_rfl)
theorem tiBool : TyI Tryz.prog 4 (.bool false) 1 1 := TyI.of (by kernel_rfl)
theorem tiStr : TyI Tryz.prog 9 (.string ⟨#[]⟩) 1 16 := TyI.of (by kernel_rfl)
end Go.Proofs.YtliigpmpeldebaaGreat

namespace Go.Proofs.YtliigpmpeldebaaGreat
open Go.RowKit

def has (ss : List ByteArray) (s : ByteArray) : Bool := ss.any fun t => decide (t = s)
theorem has_iff {ss : List ByteArray} {s : ByteArray} : has ss s = true ↔ s ∈ ss := by simp [has]
theorem has_t {ss : List ByteArray} {s : ByteArray} (h : s ∈ ss) : has ss s = true := has_iff.2 h
theorem has_f {ss : List ByteArray} {s : ByteArray} (h : s ∉ ss) : has ss s = false := by
  cases e : has ss s
  · rfl
  · exact absurd (has_iff.1 e) h

/-- spec.l1Has: is s among the list? -/
theorem c_l1Has {w : World} {v : Value} {ss : List ByteArray} {bs : List Nat} (h : Strs w v ss bs) (s : ByteArray) :
    Ret Tryz.prog 99 [v, .string s] w fun r w' => r = .bool (has ss s) ∧ w' = w := by
  obtain ⟨ao, cap, rfl, hm, hcap⟩ := h.form
  refine ret_of_vc ttOk Tryz.func99 rfl (by kernel_rfl) (by kernel_rfl) ?_
  refine Lp.go ttOk (by kernel_rfl) (fun k : Nat => [(0, .slice ao ss.length cap), (1, .string s), (5, .int .i64 k)]) (fun k w' => w' = w ∧ k ≤ ss.length ∧ s ∉ ss.take k) (fun k => ss.length - k) 0
    ⟨rfl, rfl, rfl, trivial⟩ ⟨rfl, Nat.zero_le _, by simp⟩ ?_
  rintro k w' ⟨rfl, hk, hn⟩
  refine Cm.s (fun hlt => ?_) (fun hge => ?_)
  · have hlt : k < ss.length := by omega
    obtain ⟨a, rfl, hc⟩ := h.get hlt
    refine Go1.ix 1 hlt ?_
    refine Ld.one hc ?_
    refine Cm.s (fun he => ?_) (fun he => ?_)
    · exact ⟨by rw [has_t (by rw [← he]; exact List.getElem_mem hlt)], rfl⟩
    · refine Wr.n (k + 1) (by omega) (by omega) ?_
      refine ⟨k + 1, ⟨rfl, rfl, rfl, trivial⟩, ⟨rfl, hlt, ?_⟩, by omega⟩
      rw [List.take_succ_eq_append_getElem hlt]
      simp only [List.mem_append, hn, false_or, List.mem_singleton]
      exact fun e => he e.symm
  · have : k = ss.length := by omega
    subst this
    rw [List.take_length] at hn
    exact ⟨by rw [has_f hn], rfl⟩

end Go.Proofs.YtliigpmpeldebaaGreat

namespace Go.Proofs.YtliigpmpeldebaaGreat
open Go.RowKit


def lenS (ss : List ByteArray) : Nat := (ss.map ByteArray.size).sum

theorem lenS_take_succ {ss : List ByteArray} {k : Nat} (h : k < ss.length) : lenS (ss.take (k + 1)) = lenS (ss.take k) + ss[k].size := by
  rw [List.take_succ_eq_append_getElem h]
  simp only [lenS, List.map_append, List.sum_append, List.map_cons, List.map_nil, List.sum_cons, List.sum_nil, Nat.add_zero]


theorem Strs.of_blk {w : World} {b : Nat} {e : TypeId} {ss : List ByteArray} {n cap : Nat} (h : Blk w b e (ss.map .string)) (hn : n = ss.length) (hm : n ≤ maxLen ∧ n ≤ cap) : ∃ bs, Strs w (.slice (some ⟨b, 0, none⟩) n cap) ss bs ∧ bs.Sublist [b] := by
  subst hn
  by_cases h0 : ss = []
  · subst h0
    exact ⟨[], ⟨_, cap, rfl, hm, .inl ⟨rfl, rfl⟩⟩, by simp⟩
  · refine ⟨[b], ⟨_, cap, by simp, by simpa using hm, .inr ⟨⟨b, 0, none⟩, by simpa using h0, rfl, rfl, ?_⟩⟩, List.Sublist.refl _⟩
    exact Blk.lc0 (post := []) (by simpa using h)

theorem Fresh.sub {n : Nat} {w : World} {bs cs : List Nat} (h : Fresh n w cs) (hs : bs.Sublist cs) : Fresh n w bs := ⟨hs.nodup h.nodup, fun b hb => h.lo b (hs.subset hb), fun b hb => h.blk b (hs.subset hb)⟩

/-- What a function hands back that makes a list of strings. -/
def NewStrs (w : World) (ss : List ByteArray) (r : Value) (w' : World) : Prop := Ext w w' ∧ ∃ bs, Strs w' r ss bs ∧ Fresh w.heap.size w' bs


end Go.Proofs.YtliigpmpeldebaaGreat

namespace Go.Proofs.YtliigpmpeldebaaGreat
open Go.RowKit

/-- spec.l1In -/
theorem c_l1In {w : World} (x lo hi : Int) : Ret Tryz.prog 87 [.int .i64 x, .int .i64 lo, .int .i64 hi] w fun r w' => r = .bool (decide (lo ≤ x ∧ x ≤ hi)) ∧ w' = w := by
  refine ret_of_vc ttOk Tryz.func87 rfl (by kernel_rfl) (by kernel_rfl) ?_
  refine Cm.s (fun h => ?_) (fun h => ?_)
  · refine Cm.s (fun h2 => ?_) (fun h2 => ?_)
    · exact ⟨by rw [decide_eq_true (show lo ≤ x ∧ x ≤ hi from ⟨h, h2⟩)], rfl⟩
    · exact ⟨by rw [decide_eq_false (show ¬ (lo ≤ x ∧ x ≤ hi) from fun e => h2 e.2)], rfl⟩
  · exact ⟨by rw [decide_eq_false (show ¬ (lo ≤ x ∧ x ≤ hi) from fun e => h e.1)], rfl⟩

def LowP (n : Nat) : Prop := 97 ≤ n ∧ n ≤ 122
def DigP (n : Nat) : Prop := 48 ≤ n ∧ n ≤ 57
def AtomP (n : Nat) : Prop := LowP n ∨ DigP n ∨ n = 39 ∨ n = 45 ∨ n = 43 ∨ n = 42 ∨ n = 60 ∨ n = 61 ∨ n = 46
instance (n : Nat) : Decidable (LowP n) := by unfold LowP; infer_instance
instance (n : Nat) : Decidable (DigP n) := by unfold DigP; infer_instance
instance (n : Nat) : Decidable (AtomP n) := by unfold AtomP; infer_instance

theorem vb_t {p : Prop} {_ : Decidable p} (h : p) : Value.bool true = Value.bool (decide p) := by rw [decide_eq_true h]
theorem vb_f {p : Prop} {_ : Decidable p} (h : ¬ p) : Value.bool false = Value.bool (decide p) := by rw [decide_eq_false h]

set_option maxRecDepth 10000 in
/-- spec.l2Byte -/
theorem c_l2Byte {w : World} (n : Nat) : Ret Tryz.prog 104 [.int .u8 n] w fun r w' => r = .bool (decide (AtomP n)) ∧ w' = w := by
  refine ret_of_vc ttOk Tryz.func104 rfl (by kernel_rfl) (by kernel_rfl) ?_
  repeat' (refine Cm.s (fun h => ?_) (fun h => ?_))
  all_goals first
    | exact ⟨vb_t (by unfold AtomP LowP DigP; omega), rfl⟩
    | exact ⟨vb_f (by unfold AtomP LowP DigP; omega), rfl⟩

/-- impl.isLower -/
theorem c_isLower {w : World} (n : Nat) : Ret Tryz.prog 78 [.int .u8 n] w fun r w' => r = .bool (decide (LowP n)) ∧ w' = w := by
  refine ret_of_vc ttOk Tryz.func78 rfl (by kernel_rfl) (by kernel_rfl) ?_
  repeat' (refine Cm.s (fun h => ?_) (fun h => ?_))
  all_goals first
    | exact ⟨vb_t (by unfold LowP; omega), rfl⟩
    | exact ⟨vb_f (by unfold LowP; omega), rfl⟩

/-- impl.isDigit -/
theorem c_isDigit {w : World} (n : Nat) : Ret Tryz.prog 79 [.int .u8 n] w fun r w' => r = .bool (decide (DigP n)) ∧ w' = w := by
  refine ret_of_vc ttOk Tryz.func79 rfl (by kernel_rfl) (by kernel_rfl) ?_
  repeat' (refine Cm.s (fun h => ?_) (fun h => ?_))
  all_goals first
    | exact ⟨vb_t (by unfold DigP; omega), rfl⟩
    | exact ⟨vb_f (by unfold DigP; omega), rfl⟩

theorem c_bytealg {w : World} (s : ByteArray) (n : Int) : Ret Tryz.prog 103 [.string s, .int .u8 n] w fun r w' => r = .int .i64 (firstIdx s n.toNat.toUInt8) ∧ w' = w := by
  refine ⟨.inl ⟨_, w, ?_, rfl, rfl⟩⟩
  have h := run_callFunc_extern (P := Tryz.prog) (e := Extern.BytealgIndexByte.indexByte) Tryz.func103 (by kernel_rfl) (by kernel_rfl) (by kernel_rfl) (by kernel_rfl) #[.string s, .int .u8 n] w
  rw [run_indexByte_string] at h
  exact h

theorem c_liteIndexByte {w : World} (s : ByteArray) (n : Int) : Ret Tryz.prog 95 [.string s, .int .u8 n] w fun r w' => r = .int .i64 (firstIdx s n.toNat.toUInt8) ∧ w' = w := by
  refine ret_of_vc ttOk Tryz.func95 rfl (by kernel_rfl) (by kernel_rfl) ?_
  refine (c_bytealg s n).mono ?_
  rintro r w' ⟨rfl, rfl⟩
  exact ⟨rfl, rfl⟩

/-- strings.IndexByte -/
theorem c_IndexByte {w : World} (s : ByteArray) (n : Int) : Ret Tryz.prog 80 [.string s, .int .u8 n] w fun r w' => r = .int .i64 (firstIdx s n.toNat.toUInt8) ∧ w' = w := by
  refine ret_of_vc ttOk Tryz.func80 rfl (by kernel_rfl) (by kernel_rfl) ?_
  refine (c_liteIndexByte s n).mono ?_
  rintro r w' ⟨rfl, rfl⟩
  exact ⟨rfl, rfl⟩

theorem firstIdx_marks (b : UInt8) : 0 ≤ firstIdx ⟨#[39, 45, 43, 42, 60, 61, 46]⟩ b ↔ (b.toNat = 39 ∨ b.toNat = 45 ∨ b.toNat = 43 ∨ b.toNat = 42 ∨ b.toNat = 60 ∨ b.toNat = 61 ∨ b.toNat = 46) := by
  have : ∀ b : Fin 256, (0 ≤ firstIdx ⟨#[39, 45, 43, 42, 60, 61, 46]⟩ b.val.toUInt8 ↔ (b.val = 39 ∨ b.val = 45 ∨ b.val = 43 ∨ b.val = 42 ∨ b.val = 60 ∨ b.val = 61 ∨ b.val = 46)) := by decide +kernel
  have h := this ⟨b.toNat, b.toNat_lt⟩
  simp only at h
  rwa [show b.toNat.toUInt8 = b by simp] at h

/-- impl.isAtomByte -/
theorem c_isAtomByte {w : World} (b : UInt8) : Ret Tryz.prog 52 [.int .u8 b.toNat] w fun r w' => r = .bool (decide (AtomP b.toNat)) ∧ w' = w := by
  refine ret_of_vc ttOk Tryz.func52 rfl (by kernel_rfl) (by kernel_rfl) ?_
  refine (c_isLower b.toNat).mono ?_
  rintro r w' ⟨rfl, rfl⟩
  by_cases h1 : LowP b.toNat
  · rw [decide_eq_true h1]
    exact ⟨vb_t (.inl h1), rfl⟩
  · rw [decide_eq_false h1]
    refine (c_isDigit b.toNat).mono ?_
    rintro r w' ⟨rfl, rfl⟩
    by_cases h2 : DigP b.toNat
    · rw [decide_eq_true h2]
      exact ⟨vb_t (.inr (.inl h2)), rfl⟩
    · rw [decide_eq_false h2]
      refine (c_IndexByte _ _).mono ?_
      rintro r w' ⟨rfl, rfl⟩
      have hm := firstIdx_marks b
      rw [Int.toNat_natCast, show b.toNat.toUInt8 = b by simp]
      refine Cm.s (fun h => ?_) (fun h => ?_)
      · exact ⟨vb_t (.inr (.inr (hm.1 h))), rfl⟩
      · exact ⟨vb_f (fun e => by rcases e with e | e | e; exact h1 e; exact h2 e; exact h (hm.2 e)), rfl⟩

/-- A valid atom. -/
def AtomOk (s : ByteArray) : Prop := (∀ i, ∀ h : i < s.size, AtomP s[i].toNat) ∧ 1 ≤ s.size ∧ s.size ≤ 12
instance (s : ByteArray) : Decidable (AtomOk s) := by unfold AtomOk; infer_instance

/-- spec.IsValidAtom -/
theorem c_sIsValidAtom {w : World} (s : ByteArray) (hm : s.size ≤ maxLen) : Ret Tryz.prog 98 [.string s] w fun r w' => r = .bool (decide (AtomOk s)) ∧ w' = w := by
  refine ret_of_vc ttOk Tryz.func98 rfl (by kernel_rfl) (by kernel_rfl) ?_
  refine Lp.go ttOk (by kernel_rfl) (fun k : Nat => [(0, .string s), (3, .int .i64 k)]) (fun k w' => w' = w ∧ k ≤ s.size ∧ ∀ i, ∀ h : i < s.size, i < k → AtomP s[i].toNat) (fun k => s.size - k) 0
    ⟨rfl, rfl, trivial⟩ ⟨rfl, Nat.zero_le _, fun i _ h => by omega⟩ ?_
  rintro k w' ⟨rfl, hk, hn⟩
  refine Cm.s (fun hlt => ?_) (fun hge => ?_)
  · have hlt : k < s.size := by omega
    refine Go1.ixS hlt ?_
    refine (c_l2Byte _).mono ?_
    rintro r w' ⟨rfl, rfl⟩
    by_cases hb : AtomP s[k].toNat
    · rw [decide_eq_true hb]
      refine Wr.n (k + 1) (by omega) (by omega) ?_
      refine ⟨k + 1, ⟨rfl, rfl, trivial⟩, ⟨rfl, hlt, fun i h1 h2 => ?_⟩, by omega⟩
      by_cases e : i = k
      · subst e; exact hb
      · exact hn i h1 (by omega)
    · rw [decide_eq_false hb]
      exact ⟨vb_f (fun e => hb (e.1 k hlt)), rfl⟩
  · have : k = s.size := by omega
    subst this
    refine (c_l1In _ _ _).mono ?_
    rintro r w' ⟨rfl, rfl⟩
    refine ⟨?_, rfl⟩
    congr 1
    refine decide_eq_decide.2 ⟨fun h => ⟨fun i h1 => hn i h1 h1, by omega, by omega⟩, fun h => ⟨by have := h.2.1; omega, by have := h.2.2; omega⟩⟩

/-- impl.IsValidAtom -/
theorem c_iIsValidAtom {w : World} (s : ByteArray) (hm : s.size ≤ maxLen) : Ret Tryz.prog 91 [.string s] w fun r w' => r = .bool (decide (AtomOk s)) ∧ w' = w := by
  refine ret_of_vc ttOk Tryz.func91 rfl (by kernel_rfl) (by kernel_rfl) ?_
  refine Lp.go ttOk (by kernel_rfl) (fun k : Nat => [(0, .string s), (5, .int .i64 s.size), (6, .int .i64 k)]) (fun k w' => w' = w ∧ k ≤ s.size ∧ ∀ i, ∀ h : i < s.size, i < k → AtomP s[i].toNat) (fun k => s.size - k) 0
    ⟨rfl, rfl, rfl, trivial⟩ ⟨rfl, Nat.zero_le _, fun i _ h => by omega⟩ ?_
  rintro k w' ⟨rfl, hk, hn⟩
  refine Cm.s (fun hlt => ?_) (fun hge => ?_)
  · have hlt : k < s.size := by omega
    refine Go1.ixS hlt ?_
    refine (c_isAtomByte _).mono ?_
    rintro r w' ⟨rfl, rfl⟩
    by_cases hb : AtomP s[k].toNat
    · rw [decide_eq_true hb]
      refine Wr.n (k + 1) (by omega) (by omega) ?_
      refine ⟨k + 1, ⟨rfl, rfl, rfl, trivial⟩, ⟨rfl, hlt, fun i h1 h2 => ?_⟩, by omega⟩
      by_cases e : i = k
      · subst e; exact hb
      · exact hn i h1 (by omega)
    · rw [decide_eq_false hb]
      exact ⟨vb_f (fun e => hb (e.1 k hlt)), rfl⟩
  · have : k = s.size := by omega
    subst this
    refine Cm.s (fun h1 => ?_) (fun h1 => ?_)
    · refine Cm.s (fun h2 => ?_) (fun h2 => ?_)
      · exact ⟨vb_t ⟨fun i h1 => hn i h1 h1, by omega, by omega⟩, rfl⟩
      · exact ⟨vb_f (fun e => h2 (by have := e.2.2; omega)), rfl⟩
    · exact ⟨vb_f (fun e => h1 (by have := e.2.1; omega)), rfl⟩

end Go.Proofs.YtliigpmpeldebaaGreat
