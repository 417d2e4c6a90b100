/- Draws: numbers, numerals, a text and a byte. Conditions: none. -/
import Derived.Test.YtmaklbdlijcopaaDoorNumB
import Derived.Test.YtmaklbdlijcopaaDoorStrI
namespace Go.Proofs.YtmaklbdlijcopaaDoor
open Go.RowKit

theorem itoaB_size {n : Int} (h0 : -9223372036854775808 ≤ n) (h1 : n ≤ 9223372036854775807) : (itoaB n).size ≤ 21 := by
  have hd : (Lib.decDigits n.natAbs).length ≤ 20 := by
    rw [Lib.decDigits_length]
    exact nDigits_le (by decide) (Nat.lt_of_le_of_lt (show n.natAbs ≤ 9223372036854775808 by omega) (by decide))
  have e : ByteArray.size ⟨(Lib.decDigits n.natAbs).toArray⟩ = (Lib.decDigits n.natAbs).length := rfl
  by_cases h : n < 0
  · rw [itoaB_neg h, ByteArray.size_append, e]
    have : ByteArray.size ⟨#[45]⟩ = 1 := rfl
    omega
  · rw [itoaB_pos h, e]
    omega
/-- spec.l1Below, of any number -/
theorem c_l1BelowN {w : World} {g : Nat} (hc : Cu w g) (m : Nat) (h0 : 0 < m) : Ret Tryd.prog 37 [.pointer (some ⟨g, 0, none⟩), .int .i64 m] w fun r w' => (∃ n : Nat, r = .int .i64 n ∧ n < m) ∧ Dw g w w' := by
  have hM : maxLen = 9223372036854775807 := rfl
  by_cases h1 : m ≤ 256
  · exact c_l1Below hc m h0 h1
  refine ret_of_vc ttOkD Tryd.func37 rfl (by kernel_rfl) (by kernel_rfl) ?_
  refine Cm.f (by omega) ?_
  refine Cm.f (by omega) ?_
  refine (c_l1Byte hc).mono ?_
  rintro _ w1 ⟨⟨a, rfl, ha⟩, hd1⟩
  refine (c_l1Byte hd1.2).mono ?_
  rintro _ w2 ⟨⟨b, rfl, hb⟩, hd2⟩
  refine (c_l1Byte hd2.2).mono ?_
  rintro _ w3 ⟨⟨c, rfl, hcc⟩, hd3⟩
  refine (c_l1Byte hd3.2).mono ?_
  rintro _ w4 ⟨⟨d, rfl, hd⟩, hd4⟩
  refine Wr.n (a * 16777216) (by simp) (by omega) ?_
  refine Wr.n (b * 65536) (by simp) (by omega) ?_
  refine Wr.n (a * 16777216 + b * 65536) (by simp) (by omega) ?_
  refine Wr.n (c * 256) (by simp) (by omega) ?_
  refine Wr.n (a * 16777216 + b * 65536 + c * 256) (by simp) (by omega) ?_
  refine Wr.n (a * 16777216 + b * 65536 + c * 256 + d) (by simp) (by omega) ?_
  obtain ⟨n, hn⟩ : ∃ n : Nat, n = a * 16777216 + b * 65536 + c * 256 + d := ⟨_, rfl⟩
  rw [← hn]
  refine Go1.rem (by omega) ?_
  have : ((n : Int).tmod (m : Int)) = ((n % m : Nat) : Int) := by rw [Int.tmod_eq_emod_of_nonneg (by omega)]; omega
  rw [this]
  exact ⟨⟨n % m, rfl, Nat.mod_lt _ h0⟩, ((hd1.trans hd2).trans hd3).trans hd4⟩
theorem lit_row {w : World} {g n : Nat} {e : TypeId} {xs : List Value} (h : Blk w g e xs) (h0 : xs ≠ []) (hm : xs.length ≤ maxLen) (hn : n = xs.length) : Row w (.slice (some ⟨g, 0, none⟩) n n) xs [g] := by
  subst hn
  exact ⟨some ⟨g, 0, none⟩, xs.length, rfl, ⟨hm, Nat.le_refl _⟩, .inr ⟨⟨g, 0, none⟩, h0, rfl, rfl, Blk.lc0 (post := []) (by simpa using h)⟩⟩
/-- spec.l1PickInt -/
theorem c_l1PickInt {w : World} {g : Nat} (hc : Cu w g) {v : Value} {zs : List Int} {bs : List Nat} (hk : Row w v (zs.map (Value.int .i64)) bs) (hg : g ∉ bs) (h0 : 0 < zs.length) (h1 : zs.length ≤ 256) :
    Ret Tryd.prog 35 [.pointer (some ⟨g, 0, none⟩), v] w fun r w' => (∃ z, r = .int .i64 z ∧ z ∈ zs) ∧ Dw g w w' := by
  obtain ⟨ao, cap, rfl, hm, hcap⟩ := hk.form
  rw [List.length_map] at hm hcap hk ⊢
  refine ret_of_vc ttOkD Tryd.func35 rfl (by kernel_rfl) (by kernel_rfl) ?_
  refine (c_l1Below hc zs.length h0 h1).mono ?_
  rintro _ w1 ⟨⟨n, rfl, hn⟩, hd⟩
  have hk1 : Row w1 (.slice ao zs.length cap) (zs.map (Value.int .i64)) bs := Row.chg hd.1 (fun b hb h => hg (h ▸ hb)) hk
  obtain ⟨a, rfl, hcell⟩ := hk1.get (i := n) (x := .int .i64 zs[n]) (by simp [hn])
  refine Go1.ix 1 hn (Ld.one hcell ?_)
  exact ⟨⟨zs[n], rfl, List.getElem_mem hn⟩, hd⟩
/-- spec.l1Whole -/
theorem c_l1Whole {w : World} {g : Nat} (hc : Cu w g) : Ret Tryd.prog 26 [.pointer (some ⟨g, 0, none⟩)] w fun r w' => (∃ n : Int, r = .int .i64 n ∧ -9223372036854775808 ≤ n ∧ n ≤ 9223372036854775807) ∧ Dw g w w' := by
  have hM : maxLen = 9223372036854775807 := rfl
  have hg := hc.lt
  refine ret_of_vc ttOkD Tryd.func26 rfl (by kernel_rfl) (by kernel_rfl) ?_
  refine (c_l1Below hc 3 (by decide) (by decide)).mono ?_
  rintro _ w1 ⟨⟨m, rfl, hm⟩, hd1⟩
  have sz1 := hd1.size
  refine Cm.s (fun h => ?_) (fun h => ?_)
  · refine Go1.bs 3 (([0, 1, -1, 9, 10, 999999, 1000000, 999999999999, 1000000000000, -999999999999, 9223372036854775807, -9223372036854775808] : List Int).map (Value.int .i64)) (z := .int .i64 0) (size := 1) (bytes := 8) Tryd.underlying48 (TyI.of (by kernel_rfl)) (by decide) (by decide) (by kernel_rfl) ?_
    intro w2 hx2 hb2
    refine (c_l1PickInt (hd1.2.ext hx2) (lit_row hb2 (by simp) (by decide) rfl) (by simp; omega) (by decide) (by decide)).mono ?_
    rintro _ w3 ⟨⟨z, rfl, hz⟩, hd3⟩
    have key : ∀ z ∈ ([0, 1, -1, 9, 10, 999999, 1000000, 999999999999, 1000000000000, -999999999999, 9223372036854775807, -9223372036854775808] : List Int), -9223372036854775808 ≤ z ∧ z ≤ 9223372036854775807 := by decide
    exact ⟨⟨z, rfl, key z hz⟩, (hd1.ext hx2).trans hd3⟩
  refine Cm.s (fun h => ?_) (fun h => ?_)
  · refine (c_l1BelowN hd1.2 1000000 (by decide)).mono ?_
    rintro _ w2 ⟨⟨k, rfl, hk⟩, hd2⟩
    refine Wr.i (r := (k : Int) - 500000) rfl (by omega) (by omega) ?_
    exact ⟨⟨_, rfl, by omega, by omega⟩, hd1.trans hd2⟩
  · refine (c_l1Below hd1.2 20 (by decide) (by decide)).mono ?_
    rintro _ w2 ⟨⟨k, rfl, hk⟩, hd2⟩
    exact ⟨⟨_, rfl, by omega, by omega⟩, hd1.trans hd2⟩
/-- spec.DrawFormatInt -/
theorem c_DrawFormatInt {w : World} {v : Value} (hv : OCode w v) : Ret Tryd.prog 10 [v] w fun r w' => (∃ n : Int, r = .int .i64 n ∧ -9223372036854775808 ≤ n ∧ n ≤ 9223372036854775807) ∧ Ext w w' := by
  obtain ⟨zs0, bs0, hr0⟩ := hv
  refine ret_of_vc ttOkD Tryd.func10 rfl (by kernel_rfl) (by kernel_rfl) ?_
  refine (c_l1New ⟨zs0, bs0, hr0⟩).mono ?_
  rintro _ w1 ⟨hx1, g, rfl, hg, hc1⟩
  refine (c_l1Whole hc1).mono ?_
  rintro _ w2 ⟨h, hd⟩
  exact ⟨h, hx1.chg hd.1 (fun x hx => by omega)⟩
/-- spec.DrawParseNumber -/
theorem c_DrawParseNumber {w : World} {v : Value} (hv : OCode w v) : Ret Tryd.prog 14 [v] w fun r w' => (∃ s, r = .string s ∧ s.size ≤ 100) ∧ Ext w w' := by
  obtain ⟨zs0, bs0, hr0⟩ := hv
  refine ret_of_vc ttOkD Tryd.func14 rfl (by kernel_rfl) (by kernel_rfl) ?_
  refine (c_l1New ⟨zs0, bs0, hr0⟩).mono ?_
  rintro _ w1 ⟨hx1, g, rfl, hg, hc1⟩
  have lt1 := hc1.lt
  refine (c_l1Once hc1 2 (by decide) (by decide)).mono ?_
  rintro _ w2 ⟨⟨b, rfl⟩, hd2⟩
  have sz2 := hd2.size
  obtain rfl | rfl : b = true ∨ b = false := by cases b <;> simp
  · refine (c_l1Whole hd2.2).mono ?_
    rintro _ w3 ⟨⟨n, rfl, h0, h1⟩, hd3⟩
    refine (c_sFormatInt n h0 h1).mono ?_
    rintro _ w4 ⟨rfl, hx4⟩
    exact ⟨⟨_, rfl, Nat.le_trans (itoaB_size h0 h1) (by decide)⟩, (hx1.chg (hd2.trans hd3).1 (fun x hx => by omega)).trans hx4⟩
  · refine Go1.bs 9 ([⟨#[]⟩, ⟨#[48, 48]⟩, ⟨#[48, 49]⟩, ⟨#[45, 49]⟩, ⟨#[43, 49]⟩, ⟨#[120]⟩, ⟨#[57, 57, 57, 57, 57, 57]⟩, ⟨#[49, 48, 48, 48, 48, 48, 48]⟩, ⟨#[45, 48]⟩, ⟨#[45]⟩, ⟨#[32, 49]⟩, ⟨#[49, 32]⟩].map Value.string) (size := 1) (bytes := 16) Tryd.underlying30 tiStr (by decide) (by decide) (by kernel_rfl) ?_
    intro w3 hx3 hb3
    refine (c_l1Pick (hd2.2.ext hx3) (lit_strs hb3 (by decide) rfl) (by simp; omega) (by decide) (by decide)).mono ?_
    rintro _ w4 ⟨⟨s, rfl, hs⟩, hd4⟩
    have key : ∀ s ∈ ([⟨#[]⟩, ⟨#[48, 48]⟩, ⟨#[48, 49]⟩, ⟨#[45, 49]⟩, ⟨#[43, 49]⟩, ⟨#[120]⟩, ⟨#[57, 57, 57, 57, 57, 57]⟩, ⟨#[49, 48, 48, 48, 48, 48, 48]⟩, ⟨#[45, 48]⟩, ⟨#[45]⟩, ⟨#[32, 49]⟩, ⟨#[49, 32]⟩] : List ByteArray), s.size ≤ 100 := by decide
    exact ⟨⟨s, rfl, key s hs⟩, hx1.chg ((hd2.ext hx3).trans hd4).1 (fun x hx => by omega)⟩
/-- spec.DrawSplitByte -/
theorem c_DrawSplitByte {w : World} {v : Value} (hv : OCode w v) : Ret Tryd.prog 22 [v] w fun r w' => (∃ (s : ByteArray) (b : UInt8), r = .tuple #[.string s, .int .u8 b.toNat] ∧ s.size ≤ 100) ∧ Ext w w' := by
  obtain ⟨zs0, bs0, hr0⟩ := hv
  refine ret_of_vc ttOkD Tryd.func22 rfl (by kernel_rfl) (by kernel_rfl) ?_
  refine (c_l1New ⟨zs0, bs0, hr0⟩).mono ?_
  rintro _ w1 ⟨hx1, g, rfl, hg, hc1⟩
  have lt1 := hc1.lt
  refine Go1.bs 9 ([⟨#[]⟩, ⟨#[97]⟩, ⟨#[97, 44, 98]⟩, ⟨#[44]⟩, ⟨#[97, 44, 44, 98, 44]⟩, ⟨#[97, 10, 98, 10]⟩].map Value.string) (size := 1) (bytes := 16) Tryd.underlying30 tiStr (by decide) (by decide) (by kernel_rfl) ?_
  intro w3 hx3 hb3
  refine (c_l1Pick (hc1.ext hx3) (lit_strs hb3 (by decide) rfl) (by simp; omega) (by decide) (by decide)).mono ?_
  rintro _ w4 ⟨⟨s, rfl, hs⟩, hd4⟩
  have key : ∀ s ∈ ([⟨#[]⟩, ⟨#[97]⟩, ⟨#[97, 44, 98]⟩, ⟨#[44]⟩, ⟨#[97, 44, 44, 98, 44]⟩, ⟨#[97, 10, 98, 10]⟩] : List ByteArray), s.size ≤ 100 := by decide
  have sz3 := hx3.size
  have sz4 := hd4.size
  refine Go1.bs 3 (([44, 10] : List Int).map (Value.int .i64)) (z := .int .i64 0) (size := 1) (bytes := 8) Tryd.underlying48 (TyI.of (by kernel_rfl)) (by decide) (by decide) (by kernel_rfl) ?_
  intro w5 hx5 hb5
  refine (c_l1PickInt (hd4.2.ext hx5) (lit_row hb5 (by simp) (by decide) rfl) (by simp; omega) (by decide) (by decide)).mono ?_
  rintro _ w6 ⟨⟨z, rfl, hz⟩, hd6⟩
  have hz : z = 44 ∨ z = 10 := by simpa using hz
  refine Go1.cvi Tryd.underlying3 Tryd.underlying5 ?_
  have hx : Ext w w6 := (hx1.trans hx3).chg ((hd4.ext hx5).trans hd6).1 (fun x hx => by omega)
  rcases hz with rfl | rfl
  · exact ⟨⟨s, 44, by rw [show IntKind.u8.wrap 44 = 44 by decide]; rfl, key s hs⟩, hx⟩
  · exact ⟨⟨s, 10, by rw [show IntKind.u8.wrap 10 = 10 by decide]; rfl, key s hs⟩, hx⟩
end Go.Proofs.YtmaklbdlijcopaaDoor
