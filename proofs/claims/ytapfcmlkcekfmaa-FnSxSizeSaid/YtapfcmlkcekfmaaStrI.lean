/- Draws: below a bound, once in so often, out of a list; a list of names. Conditions: none. -/
import Derived.Test.YtapfcmlkcekfmaaStrH
namespace Go.Proofs.Ytapfcmlkcekfmaa
open Go.RowKit

/-- spec.l1New -/
theorem c_l1New {w : World} {v : Value} (hv : OCode w v) : Ret Try.prog 39 [v] w fun r w' => Ext w w' ∧ ∃ g, r = .pointer (some ⟨g, 0, none⟩) ∧ w.heap.size ≤ g ∧ Cu w' g := by
  obtain ⟨zs, bs, hr⟩ := hv
  have hlt : ∀ b ∈ bs, b < w.heap.size := by
    obtain ⟨ao, cap, _, _, ⟨_, rfl⟩ | ⟨a, h0, _, rfl, hc⟩⟩ := hr
    · simp
    · intro b hb
      obtain rfl : b = a.block := by simpa using hb
      cases hz : zs.map (Value.int .u8) with
      | nil => exact absurd hz h0
      | cons x r =>
        rw [hz] at hc
        have := World.block_lt_of_cell? w (a.add 0) (hc 0 _ rfl)
        have e : (a.add 0).block = a.block := by unfold Addr.add; split <;> rfl
        omega
  obtain ⟨ao, cap, rfl, hm, hcap⟩ := hr.form
  rw [List.length_map] at hm hcap hr
  rw [List.length_map]
  have hM : maxLen = 9223372036854775807 := rfl
  refine ret_of_vc ttOkD Try.func39 rfl (by kernel_rfl) (by kernel_rfl) ?_
  refine Wr.any fun h0 => ?_
  refine Lp.go ttOkD (by kernel_rfl) (fun b : Nat × Int => [(0, .slice ao zs.length cap), (3, .int .i64 b.2), (4, .int .i64 b.1)]) (fun b w' => Ext w w' ∧ b.1 ≤ zs.length) (fun b => zs.length - b.1) (0, h0)
    ⟨rfl, rfl, rfl, trivial⟩ ⟨Chg.refl _ _, Nat.zero_le _⟩ ?_
  rintro ⟨i, h⟩ w1 ⟨hx, hi⟩
  simp only at hi
  have fin : ∀ w1, Ext w w1 → ∀ h : Int, ∀ w2, Ext w1 w2 → Blk w2 w1.heap.size 66 [.slice ao zs.length cap, .int .i64 0, .int .i64 h] → Ext w w2 ∧ ∃ g, Value.pointer (some ⟨w1.heap.size, 0, none⟩) = .pointer (some ⟨g, 0, none⟩) ∧ w.heap.size ≤ g ∧ Cu w2 g := by
    intro w1 hx h w2 hx2 hb
    refine ⟨hx.trans hx2, _, rfl, hx.size, ⟨_, zs, bs, 0, h, hb, hr.ext (hx.trans hx2), fun b hb => ?_, Nat.zero_le _⟩⟩
    have := hlt b hb
    have := hx.size
    omega
  refine Cm.s (fun hl => Cm.s (fun h4 => ?_) (fun h4 => ?_)) (fun hl => ?_)
  · have hil : i < zs.length := by have : (i : Int) < zs.length := hl; omega
    obtain ⟨a, rfl, hcell⟩ := (Row.ext hx hr).get (i := i) (x := .int .u8 zs[i]) (by rw [List.getElem?_map, List.getElem?_eq_getElem hil]; rfl)
    refine Wr.any fun h1 => ?_
    refine Go1.ix 1 hil (Ld.one hcell ?_)
    refine Go1.cvi Try.underlying5 Try.underlying3 ?_
    refine Wr.any fun h2 => Wr.any fun h3 => ?_
    obtain ⟨n, _, e⟩ := run_and (P := Try.prog) (t := 3) (ox := .tmp 26) (oy := .const (.int .i64 1073741823)) (x := h3) (y := 1073741823) (by omega)
    refine Go1.go (e _) ?_
    refine Wr.n (i + 1) (by simp) (by omega) ?_
    exact ⟨(i + 1, (n : Int)), ⟨rfl, rfl, rfl, trivial⟩, ⟨hx, hil⟩, by simp; omega⟩
  · refine Go1.bd [.slice ao zs.length cap, .int .i64 0, .int .i64 h] ?_
    refine Go1.bx ?_
    intro w2 hx2 hb2
    exact fin w1 hx h w2 hx2 hb2
  · refine Go1.bd [.slice ao zs.length cap, .int .i64 0, .int .i64 h] ?_
    refine Go1.bx ?_
    intro w2 hx2 hb2
    exact fin w1 hx h w2 hx2 hb2
/-- spec.l1Below -/
theorem c_l1Below {w : World} {g : Nat} (hc : Cu w g) (m : Nat) (h0 : 0 < m) (h1 : m ≤ 256) : Ret Try.prog 48 [.pointer (some ⟨g, 0, none⟩), .int .i64 m] w fun r w' => (∃ n : Nat, r = .int .i64 n ∧ n < m) ∧ Dw g w w' := by
  refine ret_of_vc ttOkD Try.func48 rfl (by kernel_rfl) (by kernel_rfl) ?_
  refine Cm.f (by omega) ?_
  refine Cm.t (by omega) ?_
  refine (c_l1Byte hc).mono ?_
  rintro _ w1 ⟨⟨n, rfl, hn⟩, hd⟩
  refine Go1.rem (by omega) ?_
  have : ((n : Int).tmod (m : Int)) = ((n % m : Nat) : Int) := by rw [Int.tmod_eq_emod_of_nonneg (by omega)]; omega
  rw [this]
  exact ⟨⟨n % m, rfl, Nat.mod_lt _ h0⟩, hd⟩
/-- spec.l1Once -/
theorem c_l1Once {w : World} {g : Nat} (hc : Cu w g) (m : Nat) (h0 : 0 < m) (h1 : m ≤ 256) : Ret Try.prog 56 [.pointer (some ⟨g, 0, none⟩), .int .i64 m] w fun r w' => (∃ b, r = .bool b) ∧ Dw g w w' := by
  refine ret_of_vc ttOkD Try.func56 rfl (by kernel_rfl) (by kernel_rfl) ?_
  refine (c_l1Below hc m h0 h1).mono ?_
  rintro _ w1 ⟨⟨n, rfl, hn⟩, hd⟩
  exact Cm.s (fun _ => ⟨⟨_, rfl⟩, hd⟩) (fun _ => ⟨⟨_, rfl⟩, hd⟩)
/-- spec.l1Pick -/
theorem c_l1Pick {w : World} {g : Nat} (hc : Cu w g) {v : Value} {ss : List ByteArray} {bs : List Nat} (hk : Strs w v ss bs) (hg : g ∉ bs) (h0 : 0 < ss.length) (h1 : ss.length ≤ 256) :
    Ret Try.prog 49 [.pointer (some ⟨g, 0, none⟩), v] w fun r w' => (∃ s, r = .string s ∧ s ∈ ss) ∧ Dw g w w' := by
  obtain ⟨ao, cap, rfl, hm, hcap⟩ := hk.form
  refine ret_of_vc ttOkD Try.func49 rfl (by kernel_rfl) (by kernel_rfl) ?_
  refine (c_l1Below hc ss.length h0 h1).mono ?_
  rintro _ w1 ⟨⟨n, rfl, hn⟩, hd⟩
  have hk1 : Strs w1 (.slice ao ss.length cap) ss bs := Row.chg hd.1 (fun b hb h => hg (h ▸ hb)) hk
  obtain ⟨a, rfl, hcell⟩ := hk1.get hn
  refine Go1.ix 1 hn (Ld.one hcell ?_)
  exact ⟨⟨ss[n], rfl, List.getElem_mem hn⟩, hd⟩

/-- A pick out of a literal that is new. -/
theorem lit_strs {w : World} {g : Nat} {ss : List ByteArray} (h : Blk w g 9 (ss.map .string)) (hm : ss.length ≤ maxLen) {n : Nat} (hn : n = ss.length) : Strs w (.slice (some ⟨g, 0, none⟩) n n) ss (if ss = [] then [] else [g]) := by
  subst hn
  by_cases h0 : ss = []
  · subst h0
    exact ⟨some ⟨g, 0, none⟩, 0, rfl, ⟨Nat.zero_le _, Nat.zero_le _⟩, .inl ⟨rfl, by simp⟩⟩
  · exact ⟨some ⟨g, 0, none⟩, ss.length, by rw [List.length_map], ⟨by rw [List.length_map]; exact hm, by rw [List.length_map]; exact Nat.le_refl _⟩, .inr ⟨⟨g, 0, none⟩, by simpa using h0, rfl, by rw [if_neg h0], Blk.lc0 (post := []) (by simpa using h)⟩⟩
/-- Strings that a draw made. -/
def DrS (g : Nat) (w : World) (r : Value) (w' : World) : Prop := ∃ ss bs, Strs w' r ss bs ∧ Fresh w.heap.size w' bs ∧ ss.length ≤ 4 ∧ Dw g w w'

/-- spec.l3List -/
theorem c_l3List {w : World} {g : Nat} (hc : Cu w g) : Ret Try.prog 44 [.pointer (some ⟨g, 0, none⟩)] w (DrS g w) := by
  have hM : maxLen = 9223372036854775807 := rfl
  have hg := hc.lt
  refine ret_of_vc ttOkD Try.func44 rfl (by kernel_rfl) (by kernel_rfl) ?_
  refine Go1.b0 9 (size := 1) (bytes := 16) Try.underlying37 tiStr ?_
  intro w1 u hx1 hg1 hu
  subst hu
  have sz1 := hx1.size
  refine (c_l1Below (hc.ext hx1) 5 (by decide) (by decide)).mono ?_
  rintro _ w2 ⟨⟨n, rfl, hn⟩, hd2⟩
  have hd02 : Dw g w w2 := ⟨hx1.chgM hd2.1, hd2.2⟩
  have hg2 : Grow w2 9 1 (.slice (some ⟨w.heap.size, 0, none⟩) 0 0) 0 [] [w.heap.size] := hg1.chg hd2.1 (by
    intro b hb h
    have : b = w.heap.size := by simpa using hb
    omega)
  refine Lp.go ttOkD (by kernel_rfl) (fun b : Nat × Value => [(0, .pointer (some ⟨g, 0, none⟩)), (3, b.2), (4, .int .i64 n), (5, .int .i64 b.1)])
    (fun b w' => Dw g w w' ∧ b.1 ≤ n ∧ ∃ ss O, ss.length = b.1 ∧ Grow w' 9 1 b.2 b.1 (ss.map .string) O ∧ ∀ b ∈ O, w.heap.size ≤ b) (fun b => n - b.1) (0, .slice (some ⟨w.heap.size, 0, none⟩) 0 0)
    ⟨rfl, rfl, rfl, rfl, trivial⟩ ⟨hd02, Nat.zero_le _, [], [w.heap.size], rfl, hg2, by simp⟩ ?_
  rintro ⟨k, r⟩ w3 ⟨hd3, hk, ss, O, hss, hgr, hO⟩
  simp only at hk hss hgr
  refine Cm.s (fun hlt => ?_) (fun hge => ?_)
  · have hlt : k < n := by have : (k : Int) < n := hlt; omega
    refine Go1.bs 9 ([⟨#[97]⟩, ⟨#[98]⟩, ⟨#[99]⟩, ⟨#[100]⟩, ⟨#[101]⟩, ⟨#[102]⟩].map Value.string) (size := 1) (bytes := 16) Try.underlying37 tiStr (by decide) (by decide) (by kernel_rfl) ?_
    intro w4 hx4 hb4
    have sz3 := hd3.size
    have sz4 := hx4.size
    refine (c_l1Pick (hd3.2.ext hx4) (lit_strs hb4 (by decide) rfl) (by simp; omega) (by decide) (by decide)).mono ?_
    rintro _ w5 ⟨⟨s, rfl, _⟩, hd5⟩
    have hd35 := (hd3.ext hx4).trans hd5
    refine Go1.bs 9 [.string s] (size := 1) (bytes := 16) Try.underlying37 tiStr (by decide) (by decide) (by kernel_rfl) ?_
    intro w6 hx6 hb6
    have hnO : ∀ b ∈ O, ¬ b = g := fun b hb h => by have := hO b hb; omega
    refine Go1.app (size := 1) (bytes := 16) Try.underlying37 tiStr (by rfl) (by decide) (((hgr.ext hx4).chg hd5.1 hnO).ext hx6) (m := 1) (news := [.string s]) (Blk.lc0 (post := []) hb6) (by simp) (by simp [Value.oneCell']) (by omega) (by decide) ?_
    intro r7 w7 O7 hc7 hg7 hO7
    refine Wr.n (k + 1) (by simp) (by omega) ?_
    have sz6 := (hd35.ext hx6).size
    refine ⟨(k + 1, r7), ⟨rfl, rfl, rfl, rfl, trivial⟩, ⟨(hd35.ext hx6).big hc7 hO hg, hlt, ss ++ [s], O7, by simp; omega, ?_, fun b hb => ?_⟩, by simp; omega⟩
    · simp only
      rw [List.map_append]
      exact hg7
    · rcases hO7 b hb with h | h
      · exact hO b h
      · omega
  · obtain ⟨cs, h1, h2⟩ := hgr.strs (by omega)
    exact ⟨ss, cs, h1, (hgr.fresh hO).sub h2, by omega, hd3⟩
/-- spec.DrawUnion -/
theorem c_DrawUnion {w : World} {v : Value} (hv : OCode w v) : Ret Try.prog 28 [v] w fun r w' => Ext w w' ∧ ∃ a b ss tt bs cs, r = .tuple #[a, b] ∧ Strs w' a ss bs ∧ Strs w' b tt cs ∧ ss.length ≤ 4 ∧ tt.length ≤ 4 := by
  refine ret_of_vc ttOkD Try.func28 rfl (by kernel_rfl) (by kernel_rfl) ?_
  refine (c_l1New hv).mono ?_
  rintro _ w1 ⟨hx1, g, rfl, hg, hc1⟩
  have hg1 := hc1.lt
  refine (c_l3List hc1).mono ?_
  rintro a w2 ⟨ss, bs, hs, hf, hl, hd⟩
  refine (c_l3List hd.2).mono ?_
  rintro b w3 ⟨tt, cs, ht, hft, hlt, hd2⟩
  obtain ⟨_, _, rfl, _, _⟩ := hs.form
  obtain ⟨_, _, rfl, _, _⟩ := ht.form
  refine ⟨hx1.chg (hd.1.trans' hd2.1) (fun x hx => by omega), _, _, ss, tt, bs, cs, rfl, Row.chg hd2.1 (fun b hb h => by have := hf.lo b hb; omega) hs, ht, hl, hlt⟩
end Go.Proofs.Ytapfcmlkcekfmaa
