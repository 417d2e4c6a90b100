/- Decimal numerals, plain: what the reference's loops spell and read; Contract: the reference's FormatInt. Conditions: none. -/
import Derived.Lib.ItoaNum
import Derived.Lib.AtoiAll
import Derived.Lib.AtoiAllCases
import Derived.Test.YtmecmdnnhldjpaaDoorEng
import Derived.Test.YtmecmdnnhldjpaaDoorJMarkT
namespace Go.Proofs.YtmecmdnnhldjpaaDoor
open Go.RowKit

/-- The digits of u, none for 0. -/
def dd (u : Nat) : List UInt8 := if u = 0 then [] else Lib.decDigits u
theorem dd_zero : dd 0 = [] := by simp [dd]
theorem dd_step {u : Nat} (h : u ≠ 0) : dd u = dd (u / 10) ++ [UInt8.ofNat (48 + u % 10)] := by
  unfold dd
  rw [if_neg h, Lib.decDigits]
  by_cases h10 : u < 10
  · rw [dif_pos h10, if_pos (by omega), Nat.mod_eq_of_lt h10]; rfl
  · rw [dif_neg h10, if_neg (by omega)]
theorem dd_pos {u : Nat} (h : u ≠ 0) : dd u = Lib.decDigits u := by simp [dd, h]
theorem decDigits_zero : Lib.decDigits 0 = [48] := by rw [Lib.decDigits, dif_pos (by omega)]; rfl

/-- The number that digits spell, behind acc. -/
def rdS (a : Nat) (c : UInt8) : Nat := 10 * a + (c.toNat - 48)
def rdN (acc : Nat) (l : List UInt8) : Nat := l.foldl rdS acc
theorem rdN_nil (a : Nat) : rdN a [] = a := rfl
theorem rdN_cons (a : Nat) (c : UInt8) (r : List UInt8) : rdN a (c :: r) = rdN (10 * a + (c.toNat - 48)) r := by
  unfold rdN
  rw [List.foldl_cons]
  rfl
def digB (c : UInt8) : Bool := Nat.ble 48 c.toNat && Nat.ble c.toNat 57
theorem digB_iff {c : UInt8} : digB c = true ↔ 48 ≤ c.toNat ∧ c.toNat ≤ 57 := by simp [digB]
theorem rdN_append (l r : List UInt8) (a : Nat) : rdN a (l ++ r) = rdN (rdN a l) r := List.foldl_append
theorem ofNat_dig {d : Nat} (h : d < 10) : (UInt8.ofNat (48 + d)).toNat = 48 + d := by
  simp [UInt8.toNat_ofNat']; omega
theorem decDigits_dig (u : Nat) : ∀ c ∈ Lib.decDigits u, digB c = true := by
  induction u using Nat.strongRecOn with
  | _ u ih =>
    rw [Lib.decDigits]
    intro c hc
    split at hc
    · obtain rfl : c = UInt8.ofNat (48 + u) := by simpa using hc
      rw [digB_iff, ofNat_dig (by omega)]; omega
    · rcases List.mem_append.1 hc with hc | hc
      · exact ih (u / 10) (by omega) c hc
      · obtain rfl : c = UInt8.ofNat (48 + u % 10) := by simpa using hc
        rw [digB_iff, ofNat_dig (by omega)]; omega
theorem rdN_decDigits (u : Nat) : rdN 0 (Lib.decDigits u) = u := by
  induction u using Nat.strongRecOn with
  | _ u ih =>
    rw [Lib.decDigits]
    split
    · rename_i h
      rw [rdN_cons, rdN_nil, ofNat_dig h]
      omega
    · rw [rdN_append, ih (u / 10) (by omega)]
      rw [rdN_cons, rdN_nil, ofNat_dig (show u % 10 < 10 by omega)]
      omega
theorem decDigits_ne (u : Nat) : Lib.decDigits u ≠ [] := fun h => by
  have := congrArg List.length h
  rw [Lib.decDigits_length] at this
  have := Lib.nDigits_pos u
  simp at *
  omega
theorem rdN_lt : ∀ (l : List UInt8) (a : Nat), (∀ c ∈ l, digB c = true) → rdN a l < (a + 1) * 10 ^ l.length
  | [], a, _ => by rw [rdN_nil]; simp
  | c :: l, a, h => by
    have h1 := digB_iff.1 (h c (by simp))
    have h2 := rdN_lt l (10 * a + (c.toNat - 48)) fun x hx => h x (by simp [hx])
    simp only [rdN_cons, List.length_cons, Nat.pow_succ]
    calc _ < _ := h2
      _ ≤ (10 * (a + 1)) * 10 ^ l.length := Nat.mul_le_mul_right _ (by omega)
      _ = _ := by rw [Nat.mul_comm 10 (a + 1), Nat.mul_assoc, Nat.mul_comm 10]
theorem nDigits_le {u k : Nat} (hk : 1 ≤ k) (h : u < 10 ^ k) : Lib.nDigits u ≤ k := by
  induction k generalizing u with
  | zero => omega
  | succ k ih =>
    by_cases h10 : u < 10
    · rw [Lib.nDigits_small h10]; omega
    · rw [Lib.nDigits_big h10]
      rw [Nat.pow_succ] at h
      by_cases hk0 : k = 0
      · subst hk0; simp at h; omega
      · have := ih (u := u / 10) (by omega) (by omega)
        omega

/-- The numeral of n. -/
abbrev itoaB (n : Int) : ByteArray := ⟨(Lib.itoa n).toArray⟩
theorem itoa_inj {n m : Int} (h : Lib.itoa n = Lib.itoa m) : n = m := by
  have hd : ∀ u : Nat, (45 :: Lib.decDigits u) ≠ [] := by simp
  have no : ∀ u v : Nat, (45 : UInt8) :: Lib.decDigits u ≠ Lib.decDigits v := fun u v e => by
    have := decDigits_dig v 45 (by rw [← e]; simp)
    simp [digB] at this
  unfold Lib.itoa at h
  split at h <;> split at h
  · have := congrArg (rdN 0) (List.cons.inj h).2
    rw [rdN_decDigits, rdN_decDigits] at this
    omega
  · exact absurd h (no _ _)
  · exact absurd h.symm (no _ _)
  · have := congrArg (rdN 0) h
    rw [rdN_decDigits, rdN_decDigits] at this
    omega
theorem itoaB_inj {n m : Int} (h : itoaB n = itoaB m) : n = m := by
  refine itoa_inj ?_
  have := congrArg (fun b : ByteArray => b.data.toList) h
  simpa [itoaB] using this

theorem rdN_ge : ∀ (l : List UInt8) (a : Nat), a ≤ rdN a l
  | [], a => Nat.le_refl _
  | c :: l, a => by
    have := rdN_ge l (10 * a + (c.toNat - 48))
    simp only [rdN_cons]
    omega
theorem parseUint10_digs : ∀ (l : List UInt8) (a : Nat), (∀ c ∈ l, digB c = true) → rdN a l < 18446744073709551616 → Lib.parseUint10 a l = .ok (rdN a l)
  | [], a, _, _ => rfl
  | c :: l, a, h, hb => by
    have h1 := digB_iff.1 (h c (by simp))
    have h2 := rdN_ge l (10 * a + (c.toNat - 48))
    simp only [rdN_cons] at hb ⊢
    rw [Lib.parseUint10, if_pos h1, if_neg (by omega), if_neg (by omega), Nat.mul_comm a 10]
    exact parseUint10_digs l _ (fun x hx => h x (by simp [hx])) hb
theorem parseMag_dec {u : Nat} (h : u < 18446744073709551616) : Lib.parseMag (Lib.decDigits u) = .ok u := by
  rw [Lib.parseMag, if_neg (decDigits_ne u), parseUint10_digs _ _ (decDigits_dig u) (by rw [rdN_decDigits]; exact h), rdN_decDigits]
theorem atoi_itoa {n : Int} (h1 : -9223372036854775808 ≤ n) (h2 : n ≤ 9223372036854775807) : Lib.atoiAll (Lib.itoa n) = .ok n := by
  unfold Lib.itoa
  split
  · rw [Lib.atoiAll]
    simp only [show (45 : UInt8).toNat = 45 from rfl, or_true, if_true]
    rw [parseMag_dec (by omega)]
    simp only
    rw [if_neg (by simp), if_neg (by omega)]
    simp
    omega
  · have hne := decDigits_ne n.toNat
    have hd := decDigits_dig n.toNat
    have hp := parseMag_dec (u := n.toNat) (by omega)
    revert hne hd hp
    generalize Lib.decDigits n.toNat = l
    intro hne hd hp
    cases l with
    | nil => exact absurd rfl hne
    | cons c r =>
      have hc := digB_iff.1 (hd c (by simp))
      have h45 : c.toNat ≠ 45 := by omega
      have h43 : c.toNat ≠ 43 := by omega
      rw [Lib.atoiAll]
      simp only [h45, h43, or_self, if_false, hp]
      rw [if_neg (by omega), if_neg (by simp)]
      simp
      omega

/-- The number from lo to hi whose numeral is s. -/
noncomputable def numO (lo hi : Int) (s : ByteArray) : Option Int := by
  classical exact if h : ∃ n : Int, itoaB n = s ∧ lo ≤ n ∧ n ≤ hi then some h.choose else none
theorem numO_some {lo hi n : Int} {s : ByteArray} (h : itoaB n = s) (h1 : lo ≤ n) (h2 : n ≤ hi) : numO lo hi s = some n := by
  have hh : ∃ n : Int, itoaB n = s ∧ lo ≤ n ∧ n ≤ hi := ⟨n, h, h1, h2⟩
  unfold numO
  rw [dif_pos hh]
  exact congrArg some (itoaB_inj (hh.choose_spec.1.trans h.symm))
theorem numO_none {lo hi : Int} {s : ByteArray} (h : ∀ n : Int, itoaB n = s → lo ≤ n → n ≤ hi → False) : numO lo hi s = none := by
  unfold numO
  exact dif_neg fun ⟨n, h0, h1, h2⟩ => h n h0 h1 h2
theorem numO_eq {lo hi n : Int} {s : ByteArray} (h : numO lo hi s = some n) : itoaB n = s ∧ lo ≤ n ∧ n ≤ hi := by
  unfold numO at h
  split at h
  · rename_i hh
    obtain rfl := Option.some.inj h
    exact hh.choose_spec
  · cases h

/-- The text behind its sign. -/
def tail_ (l : List UInt8) : List UInt8 := match l with
  | 45 :: r => r
  | l => l
/-- What reading at most k digits reads. -/
def sgnN (l : List UInt8) (m : Nat) : Int := match l with
  | 45 :: _ => -(m : Int)
  | _ => m
theorem itoa_tail (n : Int) : tail_ (Lib.itoa n) = Lib.decDigits n.natAbs ∧ sgnN (Lib.itoa n) n.natAbs = n := by
  unfold Lib.itoa
  split
  · refine ⟨rfl, ?_⟩
    show -(n.natAbs : Int) = n
    omega
  · have e : n.toNat = n.natAbs := by omega
    rw [e]
    have hd := decDigits_dig n.natAbs
    generalize Lib.decDigits n.natAbs = l at hd ⊢
    cases l with
    | nil => refine ⟨rfl, ?_⟩; show (n.natAbs : Int) = n; omega
    | cons c r =>
      have hc := digB_iff.1 (hd c (by simp))
      have : c ≠ 45 := fun e => by rw [e] at hc; simp at hc
      constructor
      · unfold tail_
        split
        · rename_i heq; exact absurd (List.cons.inj heq).1 this
        · rfl
      · unfold sgnN
        split
        · rename_i heq; exact absurd (List.cons.inj heq).1 this
        · omega
end Go.Proofs.YtmecmdnnhldjpaaDoor

namespace Go.Proofs.YtmecmdnnhldjpaaDoor
open Go.RowKit

theorem dd_len {u : Nat} (h : u ≤ 9223372036854775808) : (dd u).length ≤ 20 := by
  unfold dd
  split
  · simp
  · rw [Lib.decDigits_length]
    exact nDigits_le (by decide) (Nat.lt_of_le_of_lt h (by decide))
theorem tmod_abs (m : Int) : (m.tmod 10 = ((m.natAbs % 10 : Nat) : Int) ∨ m.tmod 10 = -((m.natAbs % 10 : Nat) : Int)) ∧ (m.tdiv 10).natAbs = m.natAbs / 10 ∧ (0 ≤ m → 0 ≤ m.tdiv 10) ∧ (m ≤ 0 → m.tdiv 10 ≤ 0) := by
  obtain ⟨k, rfl | rfl⟩ := Int.eq_nat_or_neg m
  · rw [Int.tmod_eq_emod_of_nonneg (by omega), Int.tdiv_eq_ediv_of_nonneg (by omega)]
    omega
  · rw [Int.neg_tmod, Int.neg_tdiv, Int.tmod_eq_emod_of_nonneg (by omega), Int.tdiv_eq_ediv_of_nonneg (by omega)]
    omega
theorem itoaB_neg {n : Int} (h : n < 0) : itoaB n = ⟨#[45]⟩ ++ ⟨(Lib.decDigits n.natAbs).toArray⟩ := by
  have e : Lib.itoa n = 45 :: Lib.decDigits n.natAbs := by unfold Lib.itoa; rw [if_pos h]
  show (⟨(Lib.itoa n).toArray⟩ : ByteArray) = _
  rw [e]
  refine ByteArray.ext ?_
  rw [ByteArray.data_append]
  apply Array.toList_inj.1
  simp
theorem itoaB_pos {n : Int} (h : ¬ n < 0) : itoaB n = ⟨(Lib.decDigits n.natAbs).toArray⟩ := by
  have e : Lib.itoa n = Lib.decDigits n.natAbs := by unfold Lib.itoa; rw [if_neg h]; congr 1; omega
  show (⟨(Lib.itoa n).toArray⟩ : ByteArray) = _
  rw [e]
theorem byt_ofList (s : ByteArray) {l : List UInt8} (h : s.data.toList = l) : s = ⟨l.toArray⟩ := by
  refine ByteArray.ext ?_
  apply Array.toList_inj.1
  rw [h]

theorem wrap_dig {q : Nat} (h : q < 10) : IntKind.u8.wrap ((48 + q : Nat) : Int) = ((48 + q : Nat) : Int) := by
  have : 48 + q < 256 := by omega
  generalize 48 + q = r at this ⊢
  have : ∀ q : Fin 256, IntKind.u8.wrap (q.val : Int) = (q.val : Int) := by decide +kernel
  exact this ⟨r, by omega⟩
theorem bytesV_dig {q : Nat} (h : q < 10) : bytesV ⟨#[(48 + q).toUInt8]⟩ = [.int .u8 ((48 + q : Nat) : Int)] := by
  simp only [bytesV, List.map_cons, List.map_nil]
  rw [show (48 + q).toUInt8.toNat = 48 + q by simp; omega]
/-- spec.FormatInt -/
theorem c_sFormatInt (n : Int) (h0 : -9223372036854775808 ≤ n) (h1 : n ≤ 9223372036854775807) {w : World} : Ret Tryd.prog 35 [.int .i64 n] w fun r w' => r = .string (itoaB n) ∧ Ext w w' := by
  have hM : maxLen = 9223372036854775807 := rfl
  refine ret_of_vc ttOk Tryd.func35 rfl (by kernel_rfl) (by kernel_rfl) ?_
  refine Cm.s (fun h => ?_) (fun hn0 => ?_)
  · subst h
    refine ⟨?_, Chg.refl _ _⟩
    rw [itoaB_pos (by omega), Int.natAbs_zero, decDigits_zero]
  generalize hb : decide (n < 0) = b
  refine Cm.v (c := b) hb ?_
  have hna : n.natAbs ≠ 0 := by omega
  refine Lp.go ttOk (by kernel_rfl) (fun s : Int × ByteArray => [(0, .int .i64 s.1), (3, .bool b), (4, .string s.2)])
    (fun s w' => Ext w w' ∧ dd s.1.natAbs ++ s.2.data.toList = dd n.natAbs ∧ -9223372036854775808 ≤ s.1 ∧ s.1 ≤ 9223372036854775807) (fun s => s.1.natAbs) (n, ⟨#[]⟩)
    ⟨rfl, rfl, rfl, trivial⟩ ⟨Chg.refl _ _, by simp, h0, h1⟩ ?_
  rintro ⟨m, out⟩ w' ⟨hx, hm, m0, m1⟩
  simp only at hm m0 m1
  have hlen := dd_len (u := n.natAbs) (by omega)
  have hol : out.size ≤ 20 := by
    have e := congrArg List.length hm
    rw [List.length_append] at e
    have : out.size = out.data.toList.length := rfl
    omega
  obtain ⟨hmod, hdiv, hsg, hsl⟩ := tmod_abs m
  refine Cm.ns (fun hne => ?_) (fun he => ?_)
  · have hm0 : m.natAbs ≠ 0 := by omega
    obtain ⟨q, hq⟩ : ∃ q, q = m.natAbs % 10 := ⟨_, rfl⟩
    have hq9 : q < 10 := by omega
    have hnext : dd (m.tdiv 10).natAbs ++ (⟨#[(48 + q).toUInt8]⟩ ++ out : ByteArray).data.toList = dd n.natAbs := by
      rw [← hm, hdiv, dd_step hm0, ← hq, ByteArray.data_append]
      simp
    rw [← hq] at hmod
    have ht1 : -9223372036854775808 ≤ m.tdiv 10 := by omega
    have ht2 : m.tdiv 10 ≤ 9223372036854775807 := by omega
    refine Go1.rem (by decide) ?_
    rcases hmod with e | e
    · rw [e]
      refine Cm.f (by omega) ?_
      refine Wr.n (48 + q) (by simp) (by omega) ?_
      refine Go1.cvi Tryd.underlying3 Tryd.underlying5 ?_
      rw [wrap_dig hq9]
      refine Go1.bs 5 [.int .u8 ((48 + q : Nat) : Int)] (z := .int .u8 0) (size := 1) (bytes := 1) Tryd.underlying45 (TyI.of (by kernel_rfl)) (by decide) (by decide) (by kernel_rfl) ?_
      intro w2 hx2 hb2
      refine Go1.cbs (s := ⟨#[(48 + q).toUInt8]⟩) Tryd.underlying45 Tryd.underlying5 Tryd.underlying9 rfl (by rw [bytesV_dig hq9]; exact Blk.lc0 (post := []) hb2) ?_
      refine Go1.cat (by show 1 + out.size ≤ _; omega) ?_
      refine Go1.quo (by decide) (IntWalk.i64_in (m.tdiv 10) ⟨ht1, ht2⟩) ?_
      exact ⟨(m.tdiv 10, ⟨#[(48 + q).toUInt8]⟩ ++ out), ⟨rfl, rfl, rfl, trivial⟩, ⟨hx.trans hx2, hnext, by simp only; omega, by simp only; omega⟩, by simp only; omega⟩
    · rw [e]
      refine Cm.s (fun hneg => ?_) (fun hpos => ?_)
      · refine Wr.i (r := (q : Int)) (by omega) (by omega) (by omega) ?_
        refine Wr.n (48 + q) (by simp) (by omega) ?_
        refine Go1.cvi Tryd.underlying3 Tryd.underlying5 ?_
        rw [wrap_dig hq9]
        refine Go1.bs 5 [.int .u8 ((48 + q : Nat) : Int)] (z := .int .u8 0) (size := 1) (bytes := 1) Tryd.underlying45 (TyI.of (by kernel_rfl)) (by decide) (by decide) (by kernel_rfl) ?_
        intro w2 hx2 hb2
        refine Go1.cbs (s := ⟨#[(48 + q).toUInt8]⟩) Tryd.underlying45 Tryd.underlying5 Tryd.underlying9 rfl (by rw [bytesV_dig hq9]; exact Blk.lc0 (post := []) hb2) ?_
        refine Go1.cat (by show 1 + out.size ≤ _; omega) ?_
        refine Go1.quo (by decide) (IntWalk.i64_in (m.tdiv 10) ⟨ht1, ht2⟩) ?_
        exact ⟨(m.tdiv 10, ⟨#[(48 + q).toUInt8]⟩ ++ out), ⟨rfl, rfl, rfl, trivial⟩, ⟨hx.trans hx2, hnext, by simp only; omega, by simp only; omega⟩, by simp only; omega⟩
      · rw [show (-(q : Int)) = ((q : Nat) : Int) by have : ¬ -(q : Int) < 0 := hpos; omega]
        refine Wr.n (48 + q) (by simp) (by omega) ?_
        refine Go1.cvi Tryd.underlying3 Tryd.underlying5 ?_
        rw [wrap_dig hq9]
        refine Go1.bs 5 [.int .u8 ((48 + q : Nat) : Int)] (z := .int .u8 0) (size := 1) (bytes := 1) Tryd.underlying45 (TyI.of (by kernel_rfl)) (by decide) (by decide) (by kernel_rfl) ?_
        intro w2 hx2 hb2
        refine Go1.cbs (s := ⟨#[(48 + q).toUInt8]⟩) Tryd.underlying45 Tryd.underlying5 Tryd.underlying9 rfl (by rw [bytesV_dig hq9]; exact Blk.lc0 (post := []) hb2) ?_
        refine Go1.cat (by show 1 + out.size ≤ _; omega) ?_
        refine Go1.quo (by decide) (IntWalk.i64_in (m.tdiv 10) ⟨ht1, ht2⟩) ?_
        exact ⟨(m.tdiv 10, ⟨#[(48 + q).toUInt8]⟩ ++ out), ⟨rfl, rfl, rfl, trivial⟩, ⟨hx.trans hx2, hnext, by simp only; omega, by simp only; omega⟩, by simp only; omega⟩
  · have he : m = 0 := he
    subst he
    rw [Int.natAbs_zero, dd_zero, List.nil_append, dd_pos hna] at hm
    have ho := byt_ofList out hm
    cases b
    · have hn : ¬ n < 0 := by simpa using hb
      exact ⟨by rw [itoaB_pos hn, ← ho], hx⟩
    · have hn : n < 0 := by simpa using hb
      refine Go1.cat (by show 1 + out.size ≤ _; omega) ?_
      exact ⟨by rw [itoaB_neg hn, ← ho], hx⟩
end Go.Proofs.YtmecmdnnhldjpaaDoor
