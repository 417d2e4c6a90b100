/- Contract: the reference's FormatInt. Conditions: none. -/
import Derived.Test.YtmaklbdlijcopaaDoorNumA
import Derived.Test.YtmaklbdlijcopaaDoorMarkT
namespace Go.Proofs.YtmaklbdlijcopaaDoor
open Go.RowKit

theorem dd_len {u : Nat} (h : u ≤ 9223372036854775808) : (dd u).length ≤ 20 := by
  unfold dd
  split
  · simp
  · rw [Lib.decDigits_length]
    exact nDigits_le (by decide) (Nat.lt_of_le_of_lt h (by decide))
theorem tmod_abs (m : Int) : (m.tmod 10 = ((m.natAbs % 10 : Nat) : Int) ∨ m.tmod 10 = -((m.natAbs % 10 : Nat) : Int)) ∧ (m.tdiv 10).natAbs = m.natAbs / 10 ∧ (0 ≤ m → 0 ≤ m.tdiv 10) ∧ (m ≤ 0 → m.tdiv 10 ≤ 0) := by
  obtain ⟨k, rfl | rfl⟩ := Int.eq_nat_or_neg m
  · rw [Int.tmod_eq_emod_of_nonneg (by omega), Int.tdiv_eq_ediv_of_nonneg (by omega)]
    omega
  · rw [Int.neg_tmod, Int.neg_tdiv, Int.tmod_eq_emod_of_nonneg (by omega), Int.tdiv_eq_ediv_of_nonneg (by omega)]
    omega
theorem itoaB_neg {n : Int} (h : n < 0) : itoaB n = ⟨#[45]⟩ ++ ⟨(Lib.decDigits n.natAbs).toArray⟩ := by
  have e : Lib.itoa n = 45 :: Lib.decDigits n.natAbs := by unfold Lib.itoa; rw [if_pos h]
  show (⟨(Lib.itoa n).toArray⟩ : ByteArray) = _
  rw [e]
  refine ByteArray.ext ?_
  rw [ByteArray.data_append]
  apply Array.toList_inj.1
  simp
theorem itoaB_pos {n : Int} (h : ¬ n < 0) : itoaB n = ⟨(Lib.decDigits n.natAbs).toArray⟩ := by
  have e : Lib.itoa n = Lib.decDigits n.natAbs := by unfold Lib.itoa; rw [if_neg h]; congr 1; omega
  show (⟨(Lib.itoa n).toArray⟩ : ByteArray) = _
  rw [e]
theorem byt_ofList (s : ByteArray) {l : List UInt8} (h : s.data.toList = l) : s = ⟨l.toArray⟩ := by
  refine ByteArray.ext ?_
  apply Array.toList_inj.1
  rw [h]

theorem wrap_dig {q : Nat} (h : q < 10) : IntKind.u8.wrap ((48 + q : Nat) : Int) = ((48 + q : Nat) : Int) := by
  have : 48 + q < 256 := by omega
  generalize 48 + q = r at this ⊢
  have : ∀ q : Fin 256, IntKind.u8.wrap (q.val : Int) = (q.val : Int) := by decide +kernel
  exact this ⟨r, by omega⟩
theorem bytesV_dig {q : Nat} (h : q < 10) : bytesV ⟨#[(48 + q).toUInt8]⟩ = [.int .u8 ((48 + q : Nat) : Int)] := by
  simp only [bytesV, List.map_cons, List.map_nil]
  rw [show (48 + q).toUInt8.toNat = 48 + q by simp; omega]
/-- spec.FormatInt -/
theorem c_sFormatInt (n : Int) (h0 : -9223372036854775808 ≤ n) (h1 : n ≤ 9223372036854775807) {w : World} : Ret Tryd.prog 16 [.int .i64 n] w fun r w' => r = .string (itoaB n) ∧ Ext w w' := by
  have hM : maxLen = 9223372036854775807 := rfl
  refine ret_of_vc ttOk Tryd.func16 rfl (by kernel_rfl) (by kernel_rfl) ?_
  refine Cm.s (fun h => ?_) (fun hn0 => ?_)
  · subst h
    refine ⟨?_, Chg.refl _ _⟩
    rw [itoaB_pos (by omega), Int.natAbs_zero, decDigits_zero]
  generalize hb : decide (n < 0) = b
  refine Cm.v (c := b) hb ?_
  have hna : n.natAbs ≠ 0 := by omega
  refine Lp.go ttOk (by kernel_rfl) (fun s : Int × ByteArray => [(0, .int .i64 s.1), (3, .bool b), (4, .string s.2)])
    (fun s w' => Ext w w' ∧ dd s.1.natAbs ++ s.2.data.toList = dd n.natAbs ∧ -9223372036854775808 ≤ s.1 ∧ s.1 ≤ 9223372036854775807) (fun s => s.1.natAbs) (n, ⟨#[]⟩)
    ⟨rfl, rfl, rfl, trivial⟩ ⟨Chg.refl _ _, by simp, h0, h1⟩ ?_
  rintro ⟨m, out⟩ w' ⟨hx, hm, m0, m1⟩
  simp only at hm m0 m1
  have hlen := dd_len (u := n.natAbs) (by omega)
  have hol : out.size ≤ 20 := by
    have e := congrArg List.length hm
    rw [List.length_append] at e
    have : out.size = out.data.toList.length := rfl
    omega
  obtain ⟨hmod, hdiv, hsg, hsl⟩ := tmod_abs m
  refine Cm.ns (fun hne => ?_) (fun he => ?_)
  · have hm0 : m.natAbs ≠ 0 := by omega
    obtain ⟨q, hq⟩ : ∃ q, q = m.natAbs % 10 := ⟨_, rfl⟩
    have hq9 : q < 10 := by omega
    have hnext : dd (m.tdiv 10).natAbs ++ (⟨#[(48 + q).toUInt8]⟩ ++ out : ByteArray).data.toList = dd n.natAbs := by
      rw [← hm, hdiv, dd_step hm0, ← hq, ByteArray.data_append]
      simp
    rw [← hq] at hmod
    have ht1 : -9223372036854775808 ≤ m.tdiv 10 := by omega
    have ht2 : m.tdiv 10 ≤ 9223372036854775807 := by omega
    refine Go1.rem (by decide) ?_
    rcases hmod with e | e
    · rw [e]
      refine Cm.f (by omega) ?_
      refine Wr.n (48 + q) (by simp) (by omega) ?_
      refine Go1.cvi Tryd.underlying3 Tryd.underlying5 ?_
      rw [wrap_dig hq9]
      refine Go1.bs 5 [.int .u8 ((48 + q : Nat) : Int)] (z := .int .u8 0) (size := 1) (bytes := 1) Tryd.underlying22 (TyI.of (by kernel_rfl)) (by decide) (by decide) (by kernel_rfl) ?_
      intro w2 hx2 hb2
      refine Go1.cbs (s := ⟨#[(48 + q).toUInt8]⟩) Tryd.underlying22 Tryd.underlying5 Tryd.underlying9 rfl (by rw [bytesV_dig hq9]; exact Blk.lc0 (post := []) hb2) ?_
      refine Go1.cat (by show 1 + out.size ≤ _; omega) ?_
      refine Go1.quo (by decide) (IntWalk.i64_in (m.tdiv 10) ⟨ht1, ht2⟩) ?_
      exact ⟨(m.tdiv 10, ⟨#[(48 + q).toUInt8]⟩ ++ out), ⟨rfl, rfl, rfl, trivial⟩, ⟨hx.trans hx2, hnext, by simp only; omega, by simp only; omega⟩, by simp only; omega⟩
    · rw [e]
      refine Cm.s (fun hneg => ?_) (fun hpos => ?_)
      · refine Wr.i (r := (q : Int)) (by omega) (by omega) (by omega) ?_
        refine Wr.n (48 + q) (by simp) (by omega) ?_
        refine Go1.cvi Tryd.underlying3 Tryd.underlying5 ?_
        rw [wrap_dig hq9]
        refine Go1.bs 5 [.int .u8 ((48 + q : Nat) : Int)] (z := .int .u8 0) (size := 1) (bytes := 1) Tryd.underlying22 (TyI.of (by kernel_rfl)) (by decide) (by decide) (by kernel_rfl) ?_
        intro w2 hx2 hb2
        refine Go1.cbs (s := ⟨#[(48 + q).toUInt8]⟩) Tryd.underlying22 Tryd.underlying5 Tryd.underlying9 rfl (by rw [bytesV_dig hq9]; exact Blk.lc0 (post := []) hb2) ?_
        refine Go1.cat (by show 1 + out.size ≤ _; omega) ?_
        refine Go1.quo (by decide) (IntWalk.i64_in (m.tdiv 10) ⟨ht1, ht2⟩) ?_
        exact ⟨(m.tdiv 10, ⟨#[(48 + q).toUInt8]⟩ ++ out), ⟨rfl, rfl, rfl, trivial⟩, ⟨hx.trans hx2, hnext, by simp only; omega, by simp only; omega⟩, by simp only; omega⟩
      · rw [show (-(q : Int)) = ((q : Nat) : Int) by have : ¬ -(q : Int) < 0 := hpos; omega]
        refine Wr.n (48 + q) (by simp) (by omega) ?_
        refine Go1.cvi Tryd.underlying3 Tryd.underlying5 ?_
        rw [wrap_dig hq9]
        refine Go1.bs 5 [.int .u8 ((48 + q : Nat) : Int)] (z := .int .u8 0) (size := 1) (bytes := 1) Tryd.underlying22 (TyI.of (by kernel_rfl)) (by decide) (by decide) (by kernel_rfl) ?_
        intro w2 hx2 hb2
        refine Go1.cbs (s := ⟨#[(48 + q).toUInt8]⟩) Tryd.underlying22 Tryd.underlying5 Tryd.underlying9 rfl (by rw [bytesV_dig hq9]; exact Blk.lc0 (post := []) hb2) ?_
        refine Go1.cat (by show 1 + out.size ≤ _; omega) ?_
        refine Go1.quo (by decide) (IntWalk.i64_in (m.tdiv 10) ⟨ht1, ht2⟩) ?_
        exact ⟨(m.tdiv 10, ⟨#[(48 + q).toUInt8]⟩ ++ out), ⟨rfl, rfl, rfl, trivial⟩, ⟨hx.trans hx2, hnext, by simp only; omega, by simp only; omega⟩, by simp only; omega⟩
  · have he : m = 0 := he
    subst he
    rw [Int.natAbs_zero, dd_zero, List.nil_append, dd_pos hna] at hm
    have ho := byt_ofList out hm
    cases b
    · have hn : ¬ n < 0 := by simpa using hb
      exact ⟨by rw [itoaB_pos hn, ← ho], hx⟩
    · have hn : n < 0 := by simpa using hb
      refine Go1.cat (by show 1 + out.size ≤ _; omega) ?_
      exact ⟨by rw [itoaB_neg hn, ← ho], hx⟩
end Go.Proofs.YtmaklbdlijcopaaDoor
