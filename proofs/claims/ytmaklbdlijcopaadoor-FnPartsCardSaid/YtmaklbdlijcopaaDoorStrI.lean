/- Draws: below a bound, once in so often, out of a list; a list of names. Conditions: none. -/
import Derived.Test.YtmaklbdlijcopaaDoorStrH
namespace Go.Proofs.YtmaklbdlijcopaaDoor
open Go.RowKit

/-- spec.l1New -/
theorem c_l1New {w : World} {v : Value} (hv : OCode w v) : Ret Tryd.prog 27 [v] w fun r w' => Ext w w' ∧ ∃ g, r = .pointer (some ⟨g, 0, none⟩) ∧ w.heap.size ≤ g ∧ Cu w' g := by
  obtain ⟨zs, bs, hr⟩ := hv
  have hlt : ∀ b ∈ bs, b < w.heap.size := by
    obtain ⟨ao, cap, _, _, ⟨_, rfl⟩ | ⟨a, h0, _, rfl, hc⟩⟩ := hr
    · simp
    · intro b hb
      obtain rfl : b = a.block := by simpa using hb
      cases hz : zs.map (Value.int .u8) with
      | nil => exact absurd hz h0
      | cons x r =>
        rw [hz] at hc
        have := World.block_lt_of_cell? w (a.add 0) (hc 0 _ rfl)
        have e : (a.add 0).block = a.block := by unfold Addr.add; split <;> rfl
        omega
  obtain ⟨ao, cap, rfl, hm, hcap⟩ := hr.form
  rw [List.length_map] at hm hcap hr
  rw [List.length_map]
  have hM : maxLen = 9223372036854775807 := rfl
  refine ret_of_vc ttOkD Tryd.func27 rfl (by kernel_rfl) (by kernel_rfl) ?_
  refine Wr.any fun h0 => ?_
  refine Lp.go ttOkD (by kernel_rfl) (fun b : Nat × Int => [(0, .slice ao zs.length cap), (3, .int .i64 b.2), (4, .int .i64 b.1)]) (fun b w' => Ext w w' ∧ b.1 ≤ zs.length) (fun b => zs.length - b.1) (0, h0)
    ⟨rfl, rfl, rfl, trivial⟩ ⟨Chg.refl _ _, Nat.zero_le _⟩ ?_
  rintro ⟨i, h⟩ w1 ⟨hx, hi⟩
  simp only at hi
  have fin : ∀ w1, Ext w w1 → ∀ h : Int, ∀ w2, Ext w1 w2 → Blk w2 w1.heap.size 51 [.slice ao zs.length cap, .int .i64 0, .int .i64 h] → Ext w w2 ∧ ∃ g, Value.pointer (some ⟨w1.heap.size, 0, none⟩) = .pointer (some ⟨g, 0, none⟩) ∧ w.heap.size ≤ g ∧ Cu w2 g := by
    intro w1 hx h w2 hx2 hb
    refine ⟨hx.trans hx2, _, rfl, hx.size, ⟨_, zs, bs, 0, h, hb, hr.ext (hx.trans hx2), fun b hb => ?_, Nat.zero_le _⟩⟩
    have := hlt b hb
    have := hx.size
    omega
  refine Cm.s (fun hl => Cm.s (fun h4 => ?_) (fun h4 => ?_)) (fun hl => ?_)
  · have hil : i < zs.length := by have : (i : Int) < zs.length := hl; omega
    obtain ⟨a, rfl, hcell⟩ := (Row.ext hx hr).get (i := i) (x := .int .u8 zs[i]) (by rw [List.getElem?_map, List.getElem?_eq_getElem hil]; rfl)
    refine Wr.any fun h1 => ?_
    refine Go1.ix 1 hil (Ld.one hcell ?_)
    refine Go1.cvi Tryd.underlying5 Tryd.underlying3 ?_
    refine Wr.any fun h2 => Wr.any fun h3 => ?_
    obtain ⟨n, _, e⟩ := run_and (P := Tryd.prog) (t := 3) (ox := .tmp 26) (oy := .const (.int .i64 1073741823)) (x := h3) (y := 1073741823) (by omega)
    refine Go1.go (e _) ?_
    refine Wr.n (i + 1) (by simp) (by omega) ?_
    exact ⟨(i + 1, (n : Int)), ⟨rfl, rfl, rfl, trivial⟩, ⟨hx, hil⟩, by simp; omega⟩
  · refine Go1.bd [.slice ao zs.length cap, .int .i64 0, .int .i64 h] ?_
    refine Go1.bx ?_
    intro w2 hx2 hb2
    exact fin w1 hx h w2 hx2 hb2
  · refine Go1.bd [.slice ao zs.length cap, .int .i64 0, .int .i64 h] ?_
    refine Go1.bx ?_
    intro w2 hx2 hb2
    exact fin w1 hx h w2 hx2 hb2
/-- spec.l1Below -/
theorem c_l1Below {w : World} {g : Nat} (hc : Cu w g) (m : Nat) (h0 : 0 < m) (h1 : m ≤ 256) : Ret Tryd.prog 37 [.pointer (some ⟨g, 0, none⟩), .int .i64 m] w fun r w' => (∃ n : Nat, r = .int .i64 n ∧ n < m) ∧ Dw g w w' := by
  refine ret_of_vc ttOkD Tryd.func37 rfl (by kernel_rfl) (by kernel_rfl) ?_
  refine Cm.f (by omega) ?_
  refine Cm.t (by omega) ?_
  refine (c_l1Byte hc).mono ?_
  rintro _ w1 ⟨⟨n, rfl, hn⟩, hd⟩
  refine Go1.rem (by omega) ?_
  have : ((n : Int).tmod (m : Int)) = ((n % m : Nat) : Int) := by rw [Int.tmod_eq_emod_of_nonneg (by omega)]; omega
  rw [this]
  exact ⟨⟨n % m, rfl, Nat.mod_lt _ h0⟩, hd⟩
/-- spec.l1Once -/
theorem c_l1Once {w : World} {g : Nat} (hc : Cu w g) (m : Nat) (h0 : 0 < m) (h1 : m ≤ 256) : Ret Tryd.prog 30 [.pointer (some ⟨g, 0, none⟩), .int .i64 m] w fun r w' => (∃ b, r = .bool b) ∧ Dw g w w' := by
  refine ret_of_vc ttOkD Tryd.func30 rfl (by kernel_rfl) (by kernel_rfl) ?_
  refine (c_l1Below hc m h0 h1).mono ?_
  rintro _ w1 ⟨⟨n, rfl, hn⟩, hd⟩
  exact Cm.s (fun _ => ⟨⟨_, rfl⟩, hd⟩) (fun _ => ⟨⟨_, rfl⟩, hd⟩)
/-- spec.l1Pick -/
theorem c_l1Pick {w : World} {g : Nat} (hc : Cu w g) {v : Value} {ss : List ByteArray} {bs : List Nat} (hk : Strs w v ss bs) (hg : g ∉ bs) (h0 : 0 < ss.length) (h1 : ss.length ≤ 256) :
    Ret Tryd.prog 31 [.pointer (some ⟨g, 0, none⟩), v] w fun r w' => (∃ s, r = .string s ∧ s ∈ ss) ∧ Dw g w w' := by
  obtain ⟨ao, cap, rfl, hm, hcap⟩ := hk.form
  refine ret_of_vc ttOkD Tryd.func31 rfl (by kernel_rfl) (by kernel_rfl) ?_
  refine (c_l1Below hc ss.length h0 h1).mono ?_
  rintro _ w1 ⟨⟨n, rfl, hn⟩, hd⟩
  have hk1 : Strs w1 (.slice ao ss.length cap) ss bs := Row.chg hd.1 (fun b hb h => hg (h ▸ hb)) hk
  obtain ⟨a, rfl, hcell⟩ := hk1.get hn
  refine Go1.ix 1 hn (Ld.one hcell ?_)
  exact ⟨⟨ss[n], rfl, List.getElem_mem hn⟩, hd⟩

/-- A pick out of a literal that is new. -/
theorem lit_strs {w : World} {g : Nat} {ss : List ByteArray} (h : Blk w g 9 (ss.map .string)) (hm : ss.length ≤ maxLen) {n : Nat} (hn : n = ss.length) : Strs w (.slice (some ⟨g, 0, none⟩) n n) ss (if ss = [] then [] else [g]) := by
  subst hn
  by_cases h0 : ss = []
  · subst h0
    exact ⟨some ⟨g, 0, none⟩, 0, rfl, ⟨Nat.zero_le _, Nat.zero_le _⟩, .inl ⟨rfl, by simp⟩⟩
  · exact ⟨some ⟨g, 0, none⟩, ss.length, by rw [List.length_map], ⟨by rw [List.length_map]; exact hm, by rw [List.length_map]; exact Nat.le_refl _⟩, .inr ⟨⟨g, 0, none⟩, by simpa using h0, rfl, by rw [if_neg h0], Blk.lc0 (post := []) (by simpa using h)⟩⟩
end Go.Proofs.YtmaklbdlijcopaaDoor
