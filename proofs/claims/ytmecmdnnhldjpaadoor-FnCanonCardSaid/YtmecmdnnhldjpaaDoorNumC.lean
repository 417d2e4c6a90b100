/- Contract: the reference's reading of numerals. Conditions: none. -/
import Derived.Test.YtmecmdnnhldjpaaDoorJNumA
namespace Go.Proofs.YtmecmdnnhldjpaaDoor
open Go.RowKit

theorem get_list {s : ByteArray} {i : Nat} (h : i < s.size) : s.data.toList[i]? = some s[i] := by
  have h3 : i < s.data.toList.length := h
  rw [List.getElem?_eq_getElem h3]
  rfl
theorem ba_list {s t : ByteArray} (h : s.data.toList = t.data.toList) : s = t := by
  refine ByteArray.ext ?_
  exact Array.toList_inj.1 h
/-- What lies behind the sign. -/
def tlN (s : ByteArray) : ByteArray := ⟨(s.data.toList.drop 1).toArray⟩
theorem tlN_ex (s : ByteArray) : s.extract 1 s.size = tlN s := by
  apply ByteArray.ext
  unfold tlN
  rw [ByteArray.data_extract]
  apply Array.ext'
  simp
  rw [show s.size = s.data.toList.length from rfl]
  rw [← List.length_drop, List.drop_one, List.take_length]
theorem tlN_size (s : ByteArray) : (tlN s).size = s.size - 1 := by
  show (s.data.toList.drop 1).length = _
  rw [List.length_drop]
  rfl
theorem run_behind {P : Program} {t : TypeId} (ht : P.underlying t = some .string) {s : ByteArray} (hk : 1 ≤ s.size) {kd : IntKind} (w : World) :
    (Instr.sliceAt t (.string s) (some (.int kd (1 : Int))) none none).run P w = .ok (.string (tlN s)) w := by
  have : (1 : Int) ≤ (s.size : Int) := by omega
  rw [← tlN_ex]
  simp [Instr.sliceAt, Instr.slice, run_underlying ht, Instr.sliceBounds, Instr.sliceBound, asIntOf, this]

/-- What the reference's reading of a numeral of at most k digits asks of the text behind the sign. -/
theorem num_tail {s : ByteArray} {n : Int} {k : Nat} (h : itoaB n = s) (h1 : n.natAbs < 10 ^ k) (hk : 1 ≤ k) : tail_ s.data.toList = Lib.decDigits n.natAbs ∧ 1 ≤ (Lib.decDigits n.natAbs).length ∧ (Lib.decDigits n.natAbs).length ≤ k := by
  subst h
  have e : (itoaB n).data.toList = Lib.itoa n := by show (Lib.itoa n).toArray.toList = _; simp
  rw [e]
  refine ⟨(itoa_tail n).1, ?_, ?_⟩
  · rw [Lib.decDigits_length]; exact Lib.nDigits_pos _
  · rw [Lib.decDigits_length]; exact nDigits_le hk h1
theorem tail_neg {l : List UInt8} (h : l.head? = some 45) : tail_ l = l.drop 1 := by
  cases l with
  | nil => cases h
  | cons c r =>
    obtain rfl : c = 45 := by simpa using h
    rfl
theorem tail_pos {l : List UInt8} (h : l.head? ≠ some 45) : tail_ l = l := by
  unfold tail_
  split
  · exact absurd rfl h
  · rfl

/-- What is read: the numeral's number, of at most k digits. -/
noncomputable abbrev rdO (k : Nat) (s : ByteArray) : Option Int := numO (-((10 ^ k : Nat) : Int) + 1) (((10 ^ k : Nat) : Int) - 1) s
theorem rdO_none {k : Nat} {s : ByteArray} (hk : 1 ≤ k) (h : ∀ n : Int, itoaB n = s → tail_ s.data.toList = Lib.decDigits n.natAbs → 1 ≤ (Lib.decDigits n.natAbs).length → (Lib.decDigits n.natAbs).length ≤ k → False) : rdO k s = none :=
  numO_none fun n h0 h1 h2 => by
    have hn : n.natAbs < 10 ^ k := by
      generalize 10 ^ k = q at h1 h2 ⊢
      omega
    obtain ⟨a, b, c⟩ := num_tail h0 hn hk
    exact h n h0 a b c
/-- Behind the loop: the digits' number, with its sign. -/
theorem rdO_val {k : Nat} {s t : ByteArray} {m : Nat} {z : Int} (ht : tail_ s.data.toList = t.data.toList) (hk : 1 ≤ k) (hz : z.natAbs = m) (hs : (s.data.toList.head? = some 45 ∧ z ≤ 0) ∨ (s.data.toList.head? ≠ some 45 ∧ 0 ≤ z)) (hd : ∀ c ∈ t.data.toList, digB c = true) (hl : t.size ≤ k) (hm : m = rdN 0 t.data.toList) : rdO k s = if itoaB z = s then some z else none := by
  have hb : m < 10 ^ k := by
    have h1 := rdN_lt t.data.toList 0 hd
    have h2 : t.data.toList.length = t.size := rfl
    have h3 : 10 ^ t.size ≤ 10 ^ k := Nat.pow_le_pow_right (by decide) hl
    rw [h2] at h1
    omega
  by_cases h : itoaB z = s
  · rw [if_pos h]
    refine numO_some h ?_ ?_
    · generalize 10 ^ k = q at hb ⊢
      omega
    · generalize 10 ^ k = q at hb ⊢
      omega
  · rw [if_neg h]
    refine rdO_none hk fun n h0 h1 _ _ => h ?_
    have e1 : n.natAbs = m := by
      rw [hm, ← ht, h1, rdN_decDigits]
    have e : s.data.toList = Lib.itoa n := by rw [← h0]
    have hne := decDigits_ne n.natAbs
    have hsg : (n < 0 → s.data.toList.head? = some 45) ∧ (0 ≤ n → s.data.toList.head? ≠ some 45) := by
      refine ⟨fun hn => ?_, fun hn => ?_⟩
      · rw [e]
        unfold Lib.itoa
        rw [if_pos hn]
        rfl
      · rw [e]
        unfold Lib.itoa
        rw [if_neg (by omega)]
        have hd := decDigits_dig n.toNat
        generalize Lib.decDigits n.toNat = l at hd
        intro hh
        cases l with
        | nil => cases hh
        | cons c r =>
          obtain rfl : c = 45 := by simpa using hh
          exact absurd (hd 45 List.mem_cons_self) (by decide)
    have : n = z := by
      rcases hs with ⟨a, b⟩ | ⟨a, b⟩
      · have : ¬ 0 ≤ n := fun hn => hsg.2 hn a
        omega
      · have : ¬ n < 0 := fun hn => a (hsg.1 hn)
        omega
    rw [← this]
    exact h0
theorem wrap_sub {q : Nat} (h : 48 ≤ q) (h2 : q < 256) : IntKind.u8.wrap ((q : Int) - 48) = ((q - 48 : Nat) : Int) := by
  have e : ((q : Int) - 48) = ((q - 48 : Nat) : Int) := by omega
  rw [e]
  have : q - 48 < 256 := by omega
  generalize q - 48 = r at this ⊢
  have : ∀ q : Fin 256, IntKind.u8.wrap (q.val : Int) = (q.val : Int) := by decide +kernel
  exact this ⟨r, by omega⟩
/-- A number and whether there is one. -/
noncomputable def numV (o : Option Int) : Value := .tuple #[.int .i64 (o.getD 0), .bool o.isSome]
theorem numO_sub {lo hi lo' hi' : Int} {s : ByteArray} (h1 : lo ≤ lo') (h2 : hi' ≤ hi) : numO lo' hi' s = (numO lo hi s).bind fun n => if lo' ≤ n ∧ n ≤ hi' then some n else none := by
  cases h : numO lo hi s with
  | none =>
    refine numO_none fun n a b c => ?_
    rw [numO_some a (by omega) (by omega)] at h
    cases h
  | some n =>
    obtain ⟨a, b, c⟩ := numO_eq h
    show _ = if lo' ≤ n ∧ n ≤ hi' then some n else none
    by_cases hn : lo' ≤ n ∧ n ≤ hi'
    · rw [if_pos hn]
      exact numO_some a hn.1 hn.2
    · rw [if_neg hn]
      refine numO_none fun m a' b' c' => hn ?_
      have := itoaB_inj (a'.trans a.symm)
      omega
end Go.Proofs.YtmecmdnnhldjpaaDoor
