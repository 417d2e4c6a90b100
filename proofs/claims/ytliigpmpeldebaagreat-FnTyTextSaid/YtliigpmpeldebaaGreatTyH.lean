/- Contracts: a valid Type. Conditions: none. -/
import Derived.Test.YtliigpmpeldebaaGreatTyF
import Derived.Test.YtliigpmpeldebaaGreatTyD
import Derived.Test.YtliigpmpeldebaaGreatStrE
namespace Go.Proofs.YtliigpmpeldebaaGreat
open Go.RowKit

/-- Does a node satisfy the rule of its kind? -/
def headP (l : TLab) (n : Nat) : Prop := (l.1 = 1 ∨ l.1 = 4) ∧ NameOk l.2 ∧ n = 0 ∨ l.1 = 3 ∧ NameOk l.2 ∧ n = 1 ∨ l.1 = 2 ∧ (NameOk l.2 ∧ n ≤ 3 ∨ baseN l.2 = true ∧ n = 0)
mutual
/-- Does every node? -/
def fmT : Tp → Prop
  | .mk l ks => headP l ks.length ∧ fmTL ks
def fmTL : List Tp → Prop
  | [] => True
  | k :: ks => fmT k ∧ fmTL ks
end
theorem fmTL_iff (ks : List Tp) : fmTL ks ↔ ∀ t ∈ ks, fmT t := by
  induction ks with
  | nil => simp [fmTL]
  | cons k ks ih => simp only [fmTL, ih, List.mem_cons, forall_eq_or_imp]
theorem fmT_iff {l : TLab} {ks : List Tp} : fmT (.mk l ks) ↔ headP l ks.length ∧ ∀ t ∈ ks, fmT t := by simp [fmT, fmTL_iff]
def leftM (left need : Nat) : Int := if need ≤ left then ((left - need : Nat) : Int) else -1

def LeftTSaid (ks : List Tp) : Prop := ∀ (l : TLab) (w : World) (v : Value) (bs : List Nat) (left : Nat), Kids encT w v ks bs → left ≤ 4294967296 →
    Ret Tryz.prog 34 [.agg #[.int .i64 l.1, .string l.2, v], .int .i64 left] w fun r w' => r = .int .i64 (leftM left (1 + Rose.cnt ks)) ∧ Ext w w'

/-- spec.l4Left -/
theorem c_l4Left (ks : List Tp) : LeftTSaid ks := by
  refine Rose.forest (fun ks ih => ?_) ks
  intro l w v bs left hk hl
  obtain ⟨ao, cap, rfl, hm, hcap⟩ := hk.form
  have hM : maxLen = 9223372036854775807 := rfl
  refine ret_of_vc ttOk Tryz.func34 rfl (by kernel_rfl) (by kernel_rfl) ?_
  refine Go1.bx ?_
  intro w1 hx1 hb1
  refine Wr.i (r := (left : Int) - 1) rfl (by omega) (by omega) ?_
  refine Lp.go ttOk (by kernel_rfl) (fun b : Nat × Int => [(1, .int .i64 b.2), (2, .pointer (some ⟨w.heap.size, 0, none⟩)), (5, .int .i64 b.1)]) (fun b w' => Ext w1 w' ∧ b.1 ≤ ks.length ∧ b.2 = leftM left (1 + Rose.cnt (ks.take b.1))) (fun b => ks.length - b.1) (0, (left : Int) - 1)
    ⟨rfl, rfl, rfl, trivial⟩ ⟨Chg.refl _ _, Nat.zero_le _, by simp only [List.take_zero, Rose.cnt_nil, leftM]; split <;> omega⟩ ?_
  rintro ⟨k, x⟩ w3 ⟨hx, hk1, hxe⟩
  simp only at hk1 hxe
  refine Go1.fl 2 (Ld.one (hb1.ext hx).at2 ?_)
  refine Cm.s (fun hlt => ?_) (fun hge => ?_)
  · have hkl : k < ks.length := by have : (k : Int) < ks.length := hlt; omega
    refine Cm.s (fun h0 => ?_) (fun h0 => ?_)
    · have h0 : 0 ≤ x := h0
      obtain ⟨a, t, v1, b1, rfl, ht, hc, hkt, _⟩ := hk.get encT_sz hkl
      have htm := List.mem_of_getElem? ht
      have hct := Rose.cnt_take ht
      have hle : 1 + Rose.cnt (ks.take k) ≤ left := by
        unfold leftM at hxe
        split at hxe <;> omega
      have hx' : x = ((left - (1 + Rose.cnt (ks.take k)) : Nat) : Int) := by rw [hxe, leftM, if_pos hle]
      subst hx'
      refine Go1.fl 2 (Ld.one (hb1.ext hx).at2 ?_)
      refine Go1.ix 3 hkl (Ld.agg (hc.chg (hx1.trans hx) (.inr id)) ?_)
      refine (ih t htm _ _ _ _ _ (hkt.ext (hx1.trans hx)) (by omega)).mono ?_
      rintro r w5 ⟨rfl, hx5⟩
      refine Wr.n (k + 1) (by simp) (by omega) ?_
      refine ⟨(k + 1, leftM (left - (1 + Rose.cnt (ks.take k))) (1 + Rose.cnt t.kids)), ⟨rfl, rfl, rfl, trivial⟩, ⟨hx.trans hx5, hkl, ?_⟩, by simp; omega⟩
      simp only [leftM, hct]
      split <;> split <;> omega
    · have h0 : ¬ 0 ≤ x := h0
      refine ⟨?_, hx1.trans hx⟩
      have hle : ¬ 1 + Rose.cnt (ks.take k) ≤ left := by
        intro h
        rw [leftM, if_pos h] at hxe
        omega
      obtain ⟨t, ht⟩ : ∃ t, ks[k]? = some t := ⟨ks[k], List.getElem?_eq_getElem hkl⟩
      have := Rose.cnt_take_le ht
      rw [hxe, leftM, if_neg hle, leftM, if_neg (by omega)]
  · have : k = ks.length := by have : ¬ (k : Int) < ks.length := hge; omega
    subst this
    rw [List.take_length] at hxe
    exact ⟨by rw [hxe], hx1.trans hx⟩
def FormTSaid (ks : List Tp) : Prop := Rose.AlL (fun s => s.2.size ≤ maxLen) ks → ∀ (l : TLab) (w : World) (v : Value) (bs : List Nat), l.2.size ≤ maxLen → Kids encT w v ks bs →
    Ret Tryz.prog 36 [.agg #[.int .i64 l.1, .string l.2, v]] w fun r w' => Says (fmT (.mk l ks)) r ∧ Ext w w'

set_option maxHeartbeats 1600000 in
/-- spec.l4Form -/
theorem c_l4Form (ks : List Tp) : FormTSaid ks := by
  refine Rose.forest (fun ks ih => ?_) ks
  intro ha l w v bs hl hk
  obtain ⟨ao, cap, rfl, hm, hcap⟩ := hk.form
  have hM : maxLen = 9223372036854775807 := rfl
  refine ret_of_vc ttOk Tryz.func36 rfl (by kernel_rfl) (by kernel_rfl) ?_
  refine Go1.bx ?_
  intro w1 hx1 hb1
  refine Go1.fl 1 (Ld.one hb1.at1 ?_)
  refine (c_sIsValidName l.2 hl).mono ?_
  rintro r w2 ⟨rfl, hx2⟩
  have hb2 := hb1.ext hx2
  refine Go1.fl 0 (Ld.one hb2.at0 ?_)
  by_cases hnm : NameOk l.2
  · rw [decide_eq_true hnm]
    refine Cm.s (fun h1 => ?_) (fun h1 => ?_)
    · refine Go1.fl 2 (Ld.one hb2.at2 ?_)
      refine Cm.s (fun hlen => ?_) (fun hlen => ?_)
      · have hb0 : (true = true) ↔ headP l ks.length := by
          unfold headP
          simp [h1, hnm, show ks.length = 0 by omega] <;> omega
        refine Lp.go ttOk (by kernel_rfl) (fun b : Nat × Bool => [(1, .pointer (some ⟨w.heap.size, 0, none⟩)), (3, .bool b.2), (4, .int .i64 b.1)]) (fun b w' => Ext w1 w' ∧ b.1 ≤ ks.length ∧ (b.2 = true ↔ headP l ks.length ∧ ∀ t ∈ ks.take b.1, fmT t)) (fun b => ks.length - b.1) (0, true)
          ⟨rfl, rfl, rfl, trivial⟩ ⟨hx2, Nat.zero_le _, by simpa using hb0⟩ ?_
        rintro ⟨k, ok⟩ w3 ⟨hx, hk1, hok⟩
        simp only at hk1 hok
        refine Go1.fl 2 (Ld.one (hb1.ext hx).at2 ?_)
        refine Cm.s (fun hlt => ?_) (fun hge => ?_)
        · have hkl : k < ks.length := by have : (k : Int) < ks.length := hlt; omega
          obtain ⟨t, ht⟩ : ∃ t, ks[k]? = some t := ⟨ks[k], List.getElem?_eq_getElem hkl⟩
          have htm := List.mem_of_getElem? ht
          have hat := Rose.AlL_mem ha htm
          have htk : (∀ u ∈ ks.take (k + 1), fmT u) ↔ (∀ u ∈ ks.take k, fmT u) ∧ fmT t := by
            rw [take_succ_get ht]
            simp only [List.mem_append, List.mem_singleton]
            exact ⟨fun h => ⟨fun u hu => h u (.inl hu), h t (.inr rfl)⟩, fun h u hu => hu.elim (h.1 u) (fun e => e ▸ h.2)⟩
          cases ok
          · refine Wr.n (k + 1) (by simp) (by omega) ?_
            refine ⟨(k + 1, false), ⟨rfl, rfl, rfl, trivial⟩, ⟨hx, hkl, ?_⟩, by simp; omega⟩
            simp only [htk]
            exact ⟨fun h => by simp at h, fun h => hok.2 ⟨h.1, h.2.1⟩⟩
          · obtain ⟨a, t', v1, b1, rfl, ht', hc, hkt, _⟩ := hk.get encT_sz hkl
            rw [ht] at ht'
            obtain rfl := Option.some.inj ht'
            refine Go1.fl 2 (Ld.one (hb1.ext hx).at2 ?_)
            refine Go1.ix 3 hkl (Ld.agg (hc.chg (hx1.trans hx) (.inr id)) ?_)
            refine (ih t htm hat.2 _ _ _ _ hat.1 (hkt.ext (hx1.trans hx))).mono ?_
            rintro r w5 ⟨⟨b, rfl, hb⟩, hx5⟩
            rw [t.eta] at hb
            refine Wr.n (k + 1) (by simp) (by omega) ?_
            refine ⟨(k + 1, b), ⟨rfl, rfl, rfl, trivial⟩, ⟨hx.trans hx5, hkl, ?_⟩, by simp; omega⟩
            simp only [htk, hb]
            exact ⟨fun h => ⟨(hok.1 rfl).1, (hok.1 rfl).2, h⟩, fun h => h.2.2⟩
        · have : k = ks.length := by have : ¬ (k : Int) < ks.length := hge; omega
          subst this
          rw [List.take_length] at hok
          exact ⟨⟨ok, rfl, by rw [fmT_iff]; exact hok⟩, hx1.trans hx⟩
      · have hb0 : (false = true) ↔ headP l ks.length := by
          unfold headP
          simp [h1, hnm, show ¬ ks.length = 0 by omega] <;> omega
        refine Lp.go ttOk (by kernel_rfl) (fun b : Nat × Bool => [(1, .pointer (some ⟨w.heap.size, 0, none⟩)), (3, .bool b.2), (4, .int .i64 b.1)]) (fun b w' => Ext w1 w' ∧ b.1 ≤ ks.length ∧ (b.2 = true ↔ headP l ks.length ∧ ∀ t ∈ ks.take b.1, fmT t)) (fun b => ks.length - b.1) (0, false)
          ⟨rfl, rfl, rfl, trivial⟩ ⟨hx2, Nat.zero_le _, by simpa using hb0⟩ ?_
        rintro ⟨k, ok⟩ w3 ⟨hx, hk1, hok⟩
        simp only at hk1 hok
        refine Go1.fl 2 (Ld.one (hb1.ext hx).at2 ?_)
        refine Cm.s (fun hlt => ?_) (fun hge => ?_)
        · have hkl : k < ks.length := by have : (k : Int) < ks.length := hlt; omega
          obtain ⟨t, ht⟩ : ∃ t, ks[k]? = some t := ⟨ks[k], List.getElem?_eq_getElem hkl⟩
          have htm := List.mem_of_getElem? ht
          have hat := Rose.AlL_mem ha htm
          have htk : (∀ u ∈ ks.take (k + 1), fmT u) ↔ (∀ u ∈ ks.take k, fmT u) ∧ fmT t := by
            rw [take_succ_get ht]
            simp only [List.mem_append, List.mem_singleton]
            exact ⟨fun h => ⟨fun u hu => h u (.inl hu), h t (.inr rfl)⟩, fun h u hu => hu.elim (h.1 u) (fun e => e ▸ h.2)⟩
          cases ok
          · refine Wr.n (k + 1) (by simp) (by omega) ?_
            refine ⟨(k + 1, false), ⟨rfl, rfl, rfl, trivial⟩, ⟨hx, hkl, ?_⟩, by simp; omega⟩
            simp only [htk]
            exact ⟨fun h => by simp at h, fun h => hok.2 ⟨h.1, h.2.1⟩⟩
          · obtain ⟨a, t', v1, b1, rfl, ht', hc, hkt, _⟩ := hk.get encT_sz hkl
            rw [ht] at ht'
            obtain rfl := Option.some.inj ht'
            refine Go1.fl 2 (Ld.one (hb1.ext hx).at2 ?_)
            refine Go1.ix 3 hkl (Ld.agg (hc.chg (hx1.trans hx) (.inr id)) ?_)
            refine (ih t htm hat.2 _ _ _ _ hat.1 (hkt.ext (hx1.trans hx))).mono ?_
            rintro r w5 ⟨⟨b, rfl, hb⟩, hx5⟩
            rw [t.eta] at hb
            refine Wr.n (k + 1) (by simp) (by omega) ?_
            refine ⟨(k + 1, b), ⟨rfl, rfl, rfl, trivial⟩, ⟨hx.trans hx5, hkl, ?_⟩, by simp; omega⟩
            simp only [htk, hb]
            exact ⟨fun h => ⟨(hok.1 rfl).1, (hok.1 rfl).2, h⟩, fun h => h.2.2⟩
        · have : k = ks.length := by have : ¬ (k : Int) < ks.length := hge; omega
          subst this
          rw [List.take_length] at hok
          exact ⟨⟨ok, rfl, by rw [fmT_iff]; exact hok⟩, hx1.trans hx⟩
    · refine Cm.s (fun h4 => ?_) (fun h4 => ?_)
      · refine Go1.fl 2 (Ld.one hb2.at2 ?_)
        refine Cm.s (fun hlen => ?_) (fun hlen => ?_)
        · have hb0 : (true = true) ↔ headP l ks.length := by
            unfold headP
            simp [h4, hnm, show ks.length = 0 by omega] <;> omega
          refine Lp.go ttOk (by kernel_rfl) (fun b : Nat × Bool => [(1, .pointer (some ⟨w.heap.size, 0, none⟩)), (3, .bool b.2), (4, .int .i64 b.1)]) (fun b w' => Ext w1 w' ∧ b.1 ≤ ks.length ∧ (b.2 = true ↔ headP l ks.length ∧ ∀ t ∈ ks.take b.1, fmT t)) (fun b => ks.length - b.1) (0, true)
            ⟨rfl, rfl, rfl, trivial⟩ ⟨hx2, Nat.zero_le _, by simpa using hb0⟩ ?_
          rintro ⟨k, ok⟩ w3 ⟨hx, hk1, hok⟩
          simp only at hk1 hok
          refine Go1.fl 2 (Ld.one (hb1.ext hx).at2 ?_)
          refine Cm.s (fun hlt => ?_) (fun hge => ?_)
          · have hkl : k < ks.length := by have : (k : Int) < ks.length := hlt; omega
            obtain ⟨t, ht⟩ : ∃ t, ks[k]? = some t := ⟨ks[k], List.getElem?_eq_getElem hkl⟩
            have htm := List.mem_of_getElem? ht
            have hat := Rose.AlL_mem ha htm
            have htk : (∀ u ∈ ks.take (k + 1), fmT u) ↔ (∀ u ∈ ks.take k, fmT u) ∧ fmT t := by
              rw [take_succ_get ht]
              simp only [List.mem_append, List.mem_singleton]
              exact ⟨fun h => ⟨fun u hu => h u (.inl hu), h t (.inr rfl)⟩, fun h u hu => hu.elim (h.1 u) (fun e => e ▸ h.2)⟩
            cases ok
            · refine Wr.n (k + 1) (by simp) (by omega) ?_
              refine ⟨(k + 1, false), ⟨rfl, rfl, rfl, trivial⟩, ⟨hx, hkl, ?_⟩, by simp; omega⟩
              simp only [htk]
              exact ⟨fun h => by simp at h, fun h => hok.2 ⟨h.1, h.2.1⟩⟩
            · obtain ⟨a, t', v1, b1, rfl, ht', hc, hkt, _⟩ := hk.get encT_sz hkl
              rw [ht] at ht'
              obtain rfl := Option.some.inj ht'
              refine Go1.fl 2 (Ld.one (hb1.ext hx).at2 ?_)
              refine Go1.ix 3 hkl (Ld.agg (hc.chg (hx1.trans hx) (.inr id)) ?_)
              refine (ih t htm hat.2 _ _ _ _ hat.1 (hkt.ext (hx1.trans hx))).mono ?_
              rintro r w5 ⟨⟨b, rfl, hb⟩, hx5⟩
              rw [t.eta] at hb
              refine Wr.n (k + 1) (by simp) (by omega) ?_
              refine ⟨(k + 1, b), ⟨rfl, rfl, rfl, trivial⟩, ⟨hx.trans hx5, hkl, ?_⟩, by simp; omega⟩
              simp only [htk, hb]
              exact ⟨fun h => ⟨(hok.1 rfl).1, (hok.1 rfl).2, h⟩, fun h => h.2.2⟩
          · have : k = ks.length := by have : ¬ (k : Int) < ks.length := hge; omega
            subst this
            rw [List.take_length] at hok
            exact ⟨⟨ok, rfl, by rw [fmT_iff]; exact hok⟩, hx1.trans hx⟩
        · have hb0 : (false = true) ↔ headP l ks.length := by
            unfold headP
            simp [h4, hnm, show ¬ ks.length = 0 by omega] <;> omega
          refine Lp.go ttOk (by kernel_rfl) (fun b : Nat × Bool => [(1, .pointer (some ⟨w.heap.size, 0, none⟩)), (3, .bool b.2), (4, .int .i64 b.1)]) (fun b w' => Ext w1 w' ∧ b.1 ≤ ks.length ∧ (b.2 = true ↔ headP l ks.length ∧ ∀ t ∈ ks.take b.1, fmT t)) (fun b => ks.length - b.1) (0, false)
            ⟨rfl, rfl, rfl, trivial⟩ ⟨hx2, Nat.zero_le _, by simpa using hb0⟩ ?_
          rintro ⟨k, ok⟩ w3 ⟨hx, hk1, hok⟩
          simp only at hk1 hok
          refine Go1.fl 2 (Ld.one (hb1.ext hx).at2 ?_)
          refine Cm.s (fun hlt => ?_) (fun hge => ?_)
          · have hkl : k < ks.length := by have : (k : Int) < ks.length := hlt; omega
            obtain ⟨t, ht⟩ : ∃ t, ks[k]? = some t := ⟨ks[k], List.getElem?_eq_getElem hkl⟩
            have htm := List.mem_of_getElem? ht
            have hat := Rose.AlL_mem ha htm
            have htk : (∀ u ∈ ks.take (k + 1), fmT u) ↔ (∀ u ∈ ks.take k, fmT u) ∧ fmT t := by
              rw [take_succ_get ht]
              simp only [List.mem_append, List.mem_singleton]
              exact ⟨fun h => ⟨fun u hu => h u (.inl hu), h t (.inr rfl)⟩, fun h u hu => hu.elim (h.1 u) (fun e => e ▸ h.2)⟩
            cases ok
            · refine Wr.n (k + 1) (by simp) (by omega) ?_
              refine ⟨(k + 1, false), ⟨rfl, rfl, rfl, trivial⟩, ⟨hx, hkl, ?_⟩, by simp; omega⟩
              simp only [htk]
              exact ⟨fun h => by simp at h, fun h => hok.2 ⟨h.1, h.2.1⟩⟩
            · obtain ⟨a, t', v1, b1, rfl, ht', hc, hkt, _⟩ := hk.get encT_sz hkl
              rw [ht] at ht'
              obtain rfl := Option.some.inj ht'
              refine Go1.fl 2 (Ld.one (hb1.ext hx).at2 ?_)
              refine Go1.ix 3 hkl (Ld.agg (hc.chg (hx1.trans hx) (.inr id)) ?_)
              refine (ih t htm hat.2 _ _ _ _ hat.1 (hkt.ext (hx1.trans hx))).mono ?_
              rintro r w5 ⟨⟨b, rfl, hb⟩, hx5⟩
              rw [t.eta] at hb
              refine Wr.n (k + 1) (by simp) (by omega) ?_
              refine ⟨(k + 1, b), ⟨rfl, rfl, rfl, trivial⟩, ⟨hx.trans hx5, hkl, ?_⟩, by simp; omega⟩
              simp only [htk, hb]
              exact ⟨fun h => ⟨(hok.1 rfl).1, (hok.1 rfl).2, h⟩, fun h => h.2.2⟩
          · have : k = ks.length := by have : ¬ (k : Int) < ks.length := hge; omega
            subst this
            rw [List.take_length] at hok
            exact ⟨⟨ok, rfl, by rw [fmT_iff]; exact hok⟩, hx1.trans hx⟩
      · refine Cm.s (fun h3 => ?_) (fun h3 => ?_)
        · refine Go1.fl 2 (Ld.one hb2.at2 ?_)
          refine Cm.s (fun hlen => ?_) (fun hlen => ?_)
          · have hb0 : (true = true) ↔ headP l ks.length := by
              unfold headP
              simp [h3, hnm, show ks.length = 1 by omega] <;> omega
            refine Lp.go ttOk (by kernel_rfl) (fun b : Nat × Bool => [(1, .pointer (some ⟨w.heap.size, 0, none⟩)), (3, .bool b.2), (4, .int .i64 b.1)]) (fun b w' => Ext w1 w' ∧ b.1 ≤ ks.length ∧ (b.2 = true ↔ headP l ks.length ∧ ∀ t ∈ ks.take b.1, fmT t)) (fun b => ks.length - b.1) (0, true)
              ⟨rfl, rfl, rfl, trivial⟩ ⟨hx2, Nat.zero_le _, by simpa using hb0⟩ ?_
            rintro ⟨k, ok⟩ w3 ⟨hx, hk1, hok⟩
            simp only at hk1 hok
            refine Go1.fl 2 (Ld.one (hb1.ext hx).at2 ?_)
            refine Cm.s (fun hlt => ?_) (fun hge => ?_)
            · have hkl : k < ks.length := by have : (k : Int) < ks.length := hlt; omega
              obtain ⟨t, ht⟩ : ∃ t, ks[k]? = some t := ⟨ks[k], List.getElem?_eq_getElem hkl⟩
              have htm := List.mem_of_getElem? ht
              have hat := Rose.AlL_mem ha htm
              have htk : (∀ u ∈ ks.take (k + 1), fmT u) ↔ (∀ u ∈ ks.take k, fmT u) ∧ fmT t := by
                rw [take_succ_get ht]
                simp only [List.mem_append, List.mem_singleton]
                exact ⟨fun h => ⟨fun u hu => h u (.inl hu), h t (.inr rfl)⟩, fun h u hu => hu.elim (h.1 u) (fun e => e ▸ h.2)⟩
              cases ok
              · refine Wr.n (k + 1) (by simp) (by omega) ?_
                refine ⟨(k + 1, false), ⟨rfl, rfl, rfl, trivial⟩, ⟨hx, hkl, ?_⟩, by simp; omega⟩
                simp only [htk]
                exact ⟨fun h => by simp at h, fun h => hok.2 ⟨h.1, h.2.1⟩⟩
              · obtain ⟨a, t', v1, b1, rfl, ht', hc, hkt, _⟩ := hk.get encT_sz hkl
                rw [ht] at ht'
                obtain rfl := Option.some.inj ht'
                refine Go1.fl 2 (Ld.one (hb1.ext hx).at2 ?_)
                refine Go1.ix 3 hkl (Ld.agg (hc.chg (hx1.trans hx) (.inr id)) ?_)
                refine (ih t htm hat.2 _ _ _ _ hat.1 (hkt.ext (hx1.trans hx))).mono ?_
                rintro r w5 ⟨⟨b, rfl, hb⟩, hx5⟩
                rw [t.eta] at hb
                refine Wr.n (k + 1) (by simp) (by omega) ?_
                refine ⟨(k + 1, b), ⟨rfl, rfl, rfl, trivial⟩, ⟨hx.trans hx5, hkl, ?_⟩, by simp; omega⟩
                simp only [htk, hb]
                exact ⟨fun h => ⟨(hok.1 rfl).1, (hok.1 rfl).2, h⟩, fun h => h.2.2⟩
            · have : k = ks.length := by have : ¬ (k : Int) < ks.length := hge; omega
              subst this
              rw [List.take_length] at hok
              exact ⟨⟨ok, rfl, by rw [fmT_iff]; exact hok⟩, hx1.trans hx⟩
          · have hb0 : (false = true) ↔ headP l ks.length := by
              unfold headP
              simp [h3, hnm, show ¬ ks.length = 1 by omega] <;> omega
            refine Lp.go ttOk (by kernel_rfl) (fun b : Nat × Bool => [(1, .pointer (some ⟨w.heap.size, 0, none⟩)), (3, .bool b.2), (4, .int .i64 b.1)]) (fun b w' => Ext w1 w' ∧ b.1 ≤ ks.length ∧ (b.2 = true ↔ headP l ks.length ∧ ∀ t ∈ ks.take b.1, fmT t)) (fun b => ks.length - b.1) (0, false)
              ⟨rfl, rfl, rfl, trivial⟩ ⟨hx2, Nat.zero_le _, by simpa using hb0⟩ ?_
            rintro ⟨k, ok⟩ w3 ⟨hx, hk1, hok⟩
            simp only at hk1 hok
            refine Go1.fl 2 (Ld.one (hb1.ext hx).at2 ?_)
            refine Cm.s (fun hlt => ?_) (fun hge => ?_)
            · have hkl : k < ks.length := by have : (k : Int) < ks.length := hlt; omega
              obtain ⟨t, ht⟩ : ∃ t, ks[k]? = some t := ⟨ks[k], List.getElem?_eq_getElem hkl⟩
              have htm := List.mem_of_getElem? ht
              have hat := Rose.AlL_mem ha htm
              have htk : (∀ u ∈ ks.take (k + 1), fmT u) ↔ (∀ u ∈ ks.take k, fmT u) ∧ fmT t := by
                rw [take_succ_get ht]
                simp only [List.mem_append, List.mem_singleton]
                exact ⟨fun h => ⟨fun u hu => h u (.inl hu), h t (.inr rfl)⟩, fun h u hu => hu.elim (h.1 u) (fun e => e ▸ h.2)⟩
              cases ok
              · refine Wr.n (k + 1) (by simp) (by omega) ?_
                refine ⟨(k + 1, false), ⟨rfl, rfl, rfl, trivial⟩, ⟨hx, hkl, ?_⟩, by simp; omega⟩
                simp only [htk]
                exact ⟨fun h => by simp at h, fun h => hok.2 ⟨h.1, h.2.1⟩⟩
              · obtain ⟨a, t', v1, b1, rfl, ht', hc, hkt, _⟩ := hk.get encT_sz hkl
                rw [ht] at ht'
                obtain rfl := Option.some.inj ht'
                refine Go1.fl 2 (Ld.one (hb1.ext hx).at2 ?_)
                refine Go1.ix 3 hkl (Ld.agg (hc.chg (hx1.trans hx) (.inr id)) ?_)
                refine (ih t htm hat.2 _ _ _ _ hat.1 (hkt.ext (hx1.trans hx))).mono ?_
                rintro r w5 ⟨⟨b, rfl, hb⟩, hx5⟩
                rw [t.eta] at hb
                refine Wr.n (k + 1) (by simp) (by omega) ?_
                refine ⟨(k + 1, b), ⟨rfl, rfl, rfl, trivial⟩, ⟨hx.trans hx5, hkl, ?_⟩, by simp; omega⟩
                simp only [htk, hb]
                exact ⟨fun h => ⟨(hok.1 rfl).1, (hok.1 rfl).2, h⟩, fun h => h.2.2⟩
            · have : k = ks.length := by have : ¬ (k : Int) < ks.length := hge; omega
              subst this
              rw [List.take_length] at hok
              exact ⟨⟨ok, rfl, by rw [fmT_iff]; exact hok⟩, hx1.trans hx⟩
        · refine Cm.s (fun h2 => ?_) (fun h2 => ?_)
          · refine Go1.fl 2 (Ld.one hb2.at2 ?_)
            refine Cm.s (fun hlen => ?_) (fun hlen => ?_)
            · have hb0 : (true = true) ↔ headP l ks.length := by
                unfold headP
                simp [h2, hnm, show ks.length ≤ 3 by omega] <;> omega
              refine Lp.go ttOk (by kernel_rfl) (fun b : Nat × Bool => [(1, .pointer (some ⟨w.heap.size, 0, none⟩)), (3, .bool b.2), (4, .int .i64 b.1)]) (fun b w' => Ext w1 w' ∧ b.1 ≤ ks.length ∧ (b.2 = true ↔ headP l ks.length ∧ ∀ t ∈ ks.take b.1, fmT t)) (fun b => ks.length - b.1) (0, true)
                ⟨rfl, rfl, rfl, trivial⟩ ⟨hx2, Nat.zero_le _, by simpa using hb0⟩ ?_
              rintro ⟨k, ok⟩ w3 ⟨hx, hk1, hok⟩
              simp only at hk1 hok
              refine Go1.fl 2 (Ld.one (hb1.ext hx).at2 ?_)
              refine Cm.s (fun hlt => ?_) (fun hge => ?_)
              · have hkl : k < ks.length := by have : (k : Int) < ks.length := hlt; omega
                obtain ⟨t, ht⟩ : ∃ t, ks[k]? = some t := ⟨ks[k], List.getElem?_eq_getElem hkl⟩
                have htm := List.mem_of_getElem? ht
                have hat := Rose.AlL_mem ha htm
                have htk : (∀ u ∈ ks.take (k + 1), fmT u) ↔ (∀ u ∈ ks.take k, fmT u) ∧ fmT t := by
                  rw [take_succ_get ht]
                  simp only [List.mem_append, List.mem_singleton]
                  exact ⟨fun h => ⟨fun u hu => h u (.inl hu), h t (.inr rfl)⟩, fun h u hu => hu.elim (h.1 u) (fun e => e ▸ h.2)⟩
                cases ok
                · refine Wr.n (k + 1) (by simp) (by omega) ?_
                  refine ⟨(k + 1, false), ⟨rfl, rfl, rfl, trivial⟩, ⟨hx, hkl, ?_⟩, by simp; omega⟩
                  simp only [htk]
                  exact ⟨fun h => by simp at h, fun h => hok.2 ⟨h.1, h.2.1⟩⟩
                · obtain ⟨a, t', v1, b1, rfl, ht', hc, hkt, _⟩ := hk.get encT_sz hkl
                  rw [ht] at ht'
                  obtain rfl := Option.some.inj ht'
                  refine Go1.fl 2 (Ld.one (hb1.ext hx).at2 ?_)
                  refine Go1.ix 3 hkl (Ld.agg (hc.chg (hx1.trans hx) (.inr id)) ?_)
                  refine (ih t htm hat.2 _ _ _ _ hat.1 (hkt.ext (hx1.trans hx))).mono ?_
                  rintro r w5 ⟨⟨b, rfl, hb⟩, hx5⟩
                  rw [t.eta] at hb
                  refine Wr.n (k + 1) (by simp) (by omega) ?_
                  refine ⟨(k + 1, b), ⟨rfl, rfl, rfl, trivial⟩, ⟨hx.trans hx5, hkl, ?_⟩, by simp; omega⟩
                  simp only [htk, hb]
                  exact ⟨fun h => ⟨(hok.1 rfl).1, (hok.1 rfl).2, h⟩, fun h => h.2.2⟩
              · have : k = ks.length := by have : ¬ (k : Int) < ks.length := hge; omega
                subst this
                rw [List.take_length] at hok
                exact ⟨⟨ok, rfl, by rw [fmT_iff]; exact hok⟩, hx1.trans hx⟩
            · refine Go1.fl 1 (Ld.one hb2.at1 ?_)
              refine (c_l4Base l.2).mono ?_
              rintro r w' ⟨rfl, hw'⟩
              obtain rfl : w2 = w' := hw'.symm
              cases hba : baseN l.2
              · have hb0 : (false = true) ↔ headP l ks.length := by
                  unfold headP
                  simp [h2, hnm, show ¬ ks.length ≤ 3 by omega, hba] <;> omega
                refine Lp.go ttOk (by kernel_rfl) (fun b : Nat × Bool => [(1, .pointer (some ⟨w.heap.size, 0, none⟩)), (3, .bool b.2), (4, .int .i64 b.1)]) (fun b w' => Ext w1 w' ∧ b.1 ≤ ks.length ∧ (b.2 = true ↔ headP l ks.length ∧ ∀ t ∈ ks.take b.1, fmT t)) (fun b => ks.length - b.1) (0, false)
                  ⟨rfl, rfl, rfl, trivial⟩ ⟨hx2, Nat.zero_le _, by simpa using hb0⟩ ?_
                rintro ⟨k, ok⟩ w3 ⟨hx, hk1, hok⟩
                simp only at hk1 hok
                refine Go1.fl 2 (Ld.one (hb1.ext hx).at2 ?_)
                refine Cm.s (fun hlt => ?_) (fun hge => ?_)
                · have hkl : k < ks.length := by have : (k : Int) < ks.length := hlt; omega
                  obtain ⟨t, ht⟩ : ∃ t, ks[k]? = some t := ⟨ks[k], List.getElem?_eq_getElem hkl⟩
                  have htm := List.mem_of_getElem? ht
                  have hat := Rose.AlL_mem ha htm
                  have htk : (∀ u ∈ ks.take (k + 1), fmT u) ↔ (∀ u ∈ ks.take k, fmT u) ∧ fmT t := by
                    rw [take_succ_get ht]
                    simp only [List.mem_append, List.mem_singleton]
                    exact ⟨fun h => ⟨fun u hu => h u (.inl hu), h t (.inr rfl)⟩, fun h u hu => hu.elim (h.1 u) (fun e => e ▸ h.2)⟩
                  cases ok
                  · refine Wr.n (k + 1) (by simp) (by omega) ?_
                    refine ⟨(k + 1, false), ⟨rfl, rfl, rfl, trivial⟩, ⟨hx, hkl, ?_⟩, by simp; omega⟩
                    simp only [htk]
                    exact ⟨fun h => by simp at h, fun h => hok.2 ⟨h.1, h.2.1⟩⟩
                  · obtain ⟨a, t', v1, b1, rfl, ht', hc, hkt, _⟩ := hk.get encT_sz hkl
                    rw [ht] at ht'
                    obtain rfl := Option.some.inj ht'
                    refine Go1.fl 2 (Ld.one (hb1.ext hx).at2 ?_)
                    refine Go1.ix 3 hkl (Ld.agg (hc.chg (hx1.trans hx) (.inr id)) ?_)
                    refine (ih t htm hat.2 _ _ _ _ hat.1 (hkt.ext (hx1.trans hx))).mono ?_
                    rintro r w5 ⟨⟨b, rfl, hb⟩, hx5⟩
                    rw [t.eta] at hb
                    refine Wr.n (k + 1) (by simp) (by omega) ?_
                    refine ⟨(k + 1, b), ⟨rfl, rfl, rfl, trivial⟩, ⟨hx.trans hx5, hkl, ?_⟩, by simp; omega⟩
                    simp only [htk, hb]
                    exact ⟨fun h => ⟨(hok.1 rfl).1, (hok.1 rfl).2, h⟩, fun h => h.2.2⟩
                · have : k = ks.length := by have : ¬ (k : Int) < ks.length := hge; omega
                  subst this
                  rw [List.take_length] at hok
                  exact ⟨⟨ok, rfl, by rw [fmT_iff]; exact hok⟩, hx1.trans hx⟩
              · refine Go1.fl 2 (Ld.one hb2.at2 ?_)
                refine Cm.s (fun hlen => ?_) (fun hlen => ?_)
                · have hb0 : (true = true) ↔ headP l ks.length := by
                    unfold headP
                    simp [h2, hnm, show ¬ ks.length ≤ 3 by omega, hba, show ks.length = 0 by omega] <;> omega
                  refine Lp.go ttOk (by kernel_rfl) (fun b : Nat × Bool => [(1, .pointer (some ⟨w.heap.size, 0, none⟩)), (3, .bool b.2), (4, .int .i64 b.1)]) (fun b w' => Ext w1 w' ∧ b.1 ≤ ks.length ∧ (b.2 = true ↔ headP l ks.length ∧ ∀ t ∈ ks.take b.1, fmT t)) (fun b => ks.length - b.1) (0, true)
                    ⟨rfl, rfl, rfl, trivial⟩ ⟨hx2, Nat.zero_le _, by simpa using hb0⟩ ?_
                  rintro ⟨k, ok⟩ w3 ⟨hx, hk1, hok⟩
                  simp only at hk1 hok
                  refine Go1.fl 2 (Ld.one (hb1.ext hx).at2 ?_)
                  refine Cm.s (fun hlt => ?_) (fun hge => ?_)
                  · have hkl : k < ks.length := by have : (k : Int) < ks.length := hlt; omega
                    obtain ⟨t, ht⟩ : ∃ t, ks[k]? = some t := ⟨ks[k], List.getElem?_eq_getElem hkl⟩
                    have htm := List.mem_of_getElem? ht
                    have hat := Rose.AlL_mem ha htm
                    have htk : (∀ u ∈ ks.take (k + 1), fmT u) ↔ (∀ u ∈ ks.take k, fmT u) ∧ fmT t := by
                      rw [take_succ_get ht]
                      simp only [List.mem_append, List.mem_singleton]
                      exact ⟨fun h => ⟨fun u hu => h u (.inl hu), h t (.inr rfl)⟩, fun h u hu => hu.elim (h.1 u) (fun e => e ▸ h.2)⟩
                    cases ok
                    · refine Wr.n (k + 1) (by simp) (by omega) ?_
                      refine ⟨(k + 1, false), ⟨rfl, rfl, rfl, trivial⟩, ⟨hx, hkl, ?_⟩, by simp; omega⟩
                      simp only [htk]
                      exact ⟨fun h => by simp at h, fun h => hok.2 ⟨h.1, h.2.1⟩⟩
                    · obtain ⟨a, t', v1, b1, rfl, ht', hc, hkt, _⟩ := hk.get encT_sz hkl
                      rw [ht] at ht'
                      obtain rfl := Option.some.inj ht'
                      refine Go1.fl 2 (Ld.one (hb1.ext hx).at2 ?_)
                      refine Go1.ix 3 hkl (Ld.agg (hc.chg (hx1.trans hx) (.inr id)) ?_)
                      refine (ih t htm hat.2 _ _ _ _ hat.1 (hkt.ext (hx1.trans hx))).mono ?_
                      rintro r w5 ⟨⟨b, rfl, hb⟩, hx5⟩
                      rw [t.eta] at hb
                      refine Wr.n (k + 1) (by simp) (by omega) ?_
                      refine ⟨(k + 1, b), ⟨rfl, rfl, rfl, trivial⟩, ⟨hx.trans hx5, hkl, ?_⟩, by simp; omega⟩
                      simp only [htk, hb]
                      exact ⟨fun h => ⟨(hok.1 rfl).1, (hok.1 rfl).2, h⟩, fun h => h.2.2⟩
                  · have : k = ks.length := by have : ¬ (k : Int) < ks.length := hge; omega
                    subst this
                    rw [List.take_length] at hok
                    exact ⟨⟨ok, rfl, by rw [fmT_iff]; exact hok⟩, hx1.trans hx⟩
                · have hb0 : (false = true) ↔ headP l ks.length := by
                    unfold headP
                    simp [h2, hnm, show ¬ ks.length ≤ 3 by omega, hba, show ¬ ks.length = 0 by omega] <;> omega
                  refine Lp.go ttOk (by kernel_rfl) (fun b : Nat × Bool => [(1, .pointer (some ⟨w.heap.size, 0, none⟩)), (3, .bool b.2), (4, .int .i64 b.1)]) (fun b w' => Ext w1 w' ∧ b.1 ≤ ks.length ∧ (b.2 = true ↔ headP l ks.length ∧ ∀ t ∈ ks.take b.1, fmT t)) (fun b => ks.length - b.1) (0, false)
                    ⟨rfl, rfl, rfl, trivial⟩ ⟨hx2, Nat.zero_le _, by simpa using hb0⟩ ?_
                  rintro ⟨k, ok⟩ w3 ⟨hx, hk1, hok⟩
                  simp only at hk1 hok
                  refine Go1.fl 2 (Ld.one (hb1.ext hx).at2 ?_)
                  refine Cm.s (fun hlt => ?_) (fun hge => ?_)
                  · have hkl : k < ks.length := by have : (k : Int) < ks.length := hlt; omega
                    obtain ⟨t, ht⟩ : ∃ t, ks[k]? = some t := ⟨ks[k], List.getElem?_eq_getElem hkl⟩
                    have htm := List.mem_of_getElem? ht
                    have hat := Rose.AlL_mem ha htm
                    have htk : (∀ u ∈ ks.take (k + 1), fmT u) ↔ (∀ u ∈ ks.take k, fmT u) ∧ fmT t := by
                      rw [take_succ_get ht]
                      simp only [List.mem_append, List.mem_singleton]
                      exact ⟨fun h => ⟨fun u hu => h u (.inl hu), h t (.inr rfl)⟩, fun h u hu => hu.elim (h.1 u) (fun e => e ▸ h.2)⟩
                    cases ok
                    · refine Wr.n (k + 1) (by simp) (by omega) ?_
                      refine ⟨(k + 1, false), ⟨rfl, rfl, rfl, trivial⟩, ⟨hx, hkl, ?_⟩, by simp; omega⟩
                      simp only [htk]
                      exact ⟨fun h => by simp at h, fun h => hok.2 ⟨h.1, h.2.1⟩⟩
                    · obtain ⟨a, t', v1, b1, rfl, ht', hc, hkt, _⟩ := hk.get encT_sz hkl
                      rw [ht] at ht'
                      obtain rfl := Option.some.inj ht'
                      refine Go1.fl 2 (Ld.one (hb1.ext hx).at2 ?_)
                      refine Go1.ix 3 hkl (Ld.agg (hc.chg (hx1.trans hx) (.inr id)) ?_)
                      refine (ih t htm hat.2 _ _ _ _ hat.1 (hkt.ext (hx1.trans hx))).mono ?_
                      rintro r w5 ⟨⟨b, rfl, hb⟩, hx5⟩
                      rw [t.eta] at hb
                      refine Wr.n (k + 1) (by simp) (by omega) ?_
                      refine ⟨(k + 1, b), ⟨rfl, rfl, rfl, trivial⟩, ⟨hx.trans hx5, hkl, ?_⟩, by simp; omega⟩
                      simp only [htk, hb]
                      exact ⟨fun h => ⟨(hok.1 rfl).1, (hok.1 rfl).2, h⟩, fun h => h.2.2⟩
                  · have : k = ks.length := by have : ¬ (k : Int) < ks.length := hge; omega
                    subst this
                    rw [List.take_length] at hok
                    exact ⟨⟨ok, rfl, by rw [fmT_iff]; exact hok⟩, hx1.trans hx⟩
          · exact ⟨Says.f fun h => by have := (fmT_iff.1 h).1; unfold headP at this; simp [h1, h4, h3, h2] at this, hx1.trans hx2⟩
  · rw [decide_eq_false hnm]
    refine Cm.s (fun h1 => ?_) (fun h1 => ?_)
    · have hb0 : (false = true) ↔ headP l ks.length := by
        unfold headP
        simp [h1, hnm] <;> omega
      refine Lp.go ttOk (by kernel_rfl) (fun b : Nat × Bool => [(1, .pointer (some ⟨w.heap.size, 0, none⟩)), (3, .bool b.2), (4, .int .i64 b.1)]) (fun b w' => Ext w1 w' ∧ b.1 ≤ ks.length ∧ (b.2 = true ↔ headP l ks.length ∧ ∀ t ∈ ks.take b.1, fmT t)) (fun b => ks.length - b.1) (0, false)
        ⟨rfl, rfl, rfl, trivial⟩ ⟨hx2, Nat.zero_le _, by simpa using hb0⟩ ?_
      rintro ⟨k, ok⟩ w3 ⟨hx, hk1, hok⟩
      simp only at hk1 hok
      refine Go1.fl 2 (Ld.one (hb1.ext hx).at2 ?_)
      refine Cm.s (fun hlt => ?_) (fun hge => ?_)
      · have hkl : k < ks.length := by have : (k : Int) < ks.length := hlt; omega
        obtain ⟨t, ht⟩ : ∃ t, ks[k]? = some t := ⟨ks[k], List.getElem?_eq_getElem hkl⟩
        have htm := List.mem_of_getElem? ht
        have hat := Rose.AlL_mem ha htm
        have htk : (∀ u ∈ ks.take (k + 1), fmT u) ↔ (∀ u ∈ ks.take k, fmT u) ∧ fmT t := by
          rw [take_succ_get ht]
          simp only [List.mem_append, List.mem_singleton]
          exact ⟨fun h => ⟨fun u hu => h u (.inl hu), h t (.inr rfl)⟩, fun h u hu => hu.elim (h.1 u) (fun e => e ▸ h.2)⟩
        cases ok
        · refine Wr.n (k + 1) (by simp) (by omega) ?_
          refine ⟨(k + 1, false), ⟨rfl, rfl, rfl, trivial⟩, ⟨hx, hkl, ?_⟩, by simp; omega⟩
          simp only [htk]
          exact ⟨fun h => by simp at h, fun h => hok.2 ⟨h.1, h.2.1⟩⟩
        · obtain ⟨a, t', v1, b1, rfl, ht', hc, hkt, _⟩ := hk.get encT_sz hkl
          rw [ht] at ht'
          obtain rfl := Option.some.inj ht'
          refine Go1.fl 2 (Ld.one (hb1.ext hx).at2 ?_)
          refine Go1.ix 3 hkl (Ld.agg (hc.chg (hx1.trans hx) (.inr id)) ?_)
          refine (ih t htm hat.2 _ _ _ _ hat.1 (hkt.ext (hx1.trans hx))).mono ?_
          rintro r w5 ⟨⟨b, rfl, hb⟩, hx5⟩
          rw [t.eta] at hb
          refine Wr.n (k + 1) (by simp) (by omega) ?_
          refine ⟨(k + 1, b), ⟨rfl, rfl, rfl, trivial⟩, ⟨hx.trans hx5, hkl, ?_⟩, by simp; omega⟩
          simp only [htk, hb]
          exact ⟨fun h => ⟨(hok.1 rfl).1, (hok.1 rfl).2, h⟩, fun h => h.2.2⟩
      · have : k = ks.length := by have : ¬ (k : Int) < ks.length := hge; omega
        subst this
        rw [List.take_length] at hok
        exact ⟨⟨ok, rfl, by rw [fmT_iff]; exact hok⟩, hx1.trans hx⟩
    · refine Cm.s (fun h4 => ?_) (fun h4 => ?_)
      · have hb0 : (false = true) ↔ headP l ks.length := by
          unfold headP
          simp [h4, hnm] <;> omega
        refine Lp.go ttOk (by kernel_rfl) (fun b : Nat × Bool => [(1, .pointer (some ⟨w.heap.size, 0, none⟩)), (3, .bool b.2), (4, .int .i64 b.1)]) (fun b w' => Ext w1 w' ∧ b.1 ≤ ks.length ∧ (b.2 = true ↔ headP l ks.length ∧ ∀ t ∈ ks.take b.1, fmT t)) (fun b => ks.length - b.1) (0, false)
          ⟨rfl, rfl, rfl, trivial⟩ ⟨hx2, Nat.zero_le _, by simpa using hb0⟩ ?_
        rintro ⟨k, ok⟩ w3 ⟨hx, hk1, hok⟩
        simp only at hk1 hok
        refine Go1.fl 2 (Ld.one (hb1.ext hx).at2 ?_)
        refine Cm.s (fun hlt => ?_) (fun hge => ?_)
        · have hkl : k < ks.length := by have : (k : Int) < ks.length := hlt; omega
          obtain ⟨t, ht⟩ : ∃ t, ks[k]? = some t := ⟨ks[k], List.getElem?_eq_getElem hkl⟩
          have htm := List.mem_of_getElem? ht
          have hat := Rose.AlL_mem ha htm
          have htk : (∀ u ∈ ks.take (k + 1), fmT u) ↔ (∀ u ∈ ks.take k, fmT u) ∧ fmT t := by
            rw [take_succ_get ht]
            simp only [List.mem_append, List.mem_singleton]
            exact ⟨fun h => ⟨fun u hu => h u (.inl hu), h t (.inr rfl)⟩, fun h u hu => hu.elim (h.1 u) (fun e => e ▸ h.2)⟩
          cases ok
          · refine Wr.n (k + 1) (by simp) (by omega) ?_
            refine ⟨(k + 1, false), ⟨rfl, rfl, rfl, trivial⟩, ⟨hx, hkl, ?_⟩, by simp; omega⟩
            simp only [htk]
            exact ⟨fun h => by simp at h, fun h => hok.2 ⟨h.1, h.2.1⟩⟩
          · obtain ⟨a, t', v1, b1, rfl, ht', hc, hkt, _⟩ := hk.get encT_sz hkl
            rw [ht] at ht'
            obtain rfl := Option.some.inj ht'
            refine Go1.fl 2 (Ld.one (hb1.ext hx).at2 ?_)
            refine Go1.ix 3 hkl (Ld.agg (hc.chg (hx1.trans hx) (.inr id)) ?_)
            refine (ih t htm hat.2 _ _ _ _ hat.1 (hkt.ext (hx1.trans hx))).mono ?_
            rintro r w5 ⟨⟨b, rfl, hb⟩, hx5⟩
            rw [t.eta] at hb
            refine Wr.n (k + 1) (by simp) (by omega) ?_
            refine ⟨(k + 1, b), ⟨rfl, rfl, rfl, trivial⟩, ⟨hx.trans hx5, hkl, ?_⟩, by simp; omega⟩
            simp only [htk, hb]
            exact ⟨fun h => ⟨(hok.1 rfl).1, (hok.1 rfl).2, h⟩, fun h => h.2.2⟩
        · have : k = ks.length := by have : ¬ (k : Int) < ks.length := hge; omega
          subst this
          rw [List.take_length] at hok
          exact ⟨⟨ok, rfl, by rw [fmT_iff]; exact hok⟩, hx1.trans hx⟩
      · refine Cm.s (fun h3 => ?_) (fun h3 => ?_)
        · have hb0 : (false = true) ↔ headP l ks.length := by
            unfold headP
            simp [h3, hnm] <;> omega
          refine Lp.go ttOk (by kernel_rfl) (fun b : Nat × Bool => [(1, .pointer (some ⟨w.heap.size, 0, none⟩)), (3, .bool b.2), (4, .int .i64 b.1)]) (fun b w' => Ext w1 w' ∧ b.1 ≤ ks.length ∧ (b.2 = true ↔ headP l ks.length ∧ ∀ t ∈ ks.take b.1, fmT t)) (fun b => ks.length - b.1) (0, false)
            ⟨rfl, rfl, rfl, trivial⟩ ⟨hx2, Nat.zero_le _, by simpa using hb0⟩ ?_
          rintro ⟨k, ok⟩ w3 ⟨hx, hk1, hok⟩
          simp only at hk1 hok
          refine Go1.fl 2 (Ld.one (hb1.ext hx).at2 ?_)
          refine Cm.s (fun hlt => ?_) (fun hge => ?_)
          · have hkl : k < ks.length := by have : (k : Int) < ks.length := hlt; omega
            obtain ⟨t, ht⟩ : ∃ t, ks[k]? = some t := ⟨ks[k], List.getElem?_eq_getElem hkl⟩
            have htm := List.mem_of_getElem? ht
            have hat := Rose.AlL_mem ha htm
            have htk : (∀ u ∈ ks.take (k + 1), fmT u) ↔ (∀ u ∈ ks.take k, fmT u) ∧ fmT t := by
              rw [take_succ_get ht]
              simp only [List.mem_append, List.mem_singleton]
              exact ⟨fun h => ⟨fun u hu => h u (.inl hu), h t (.inr rfl)⟩, fun h u hu => hu.elim (h.1 u) (fun e => e ▸ h.2)⟩
            cases ok
            · refine Wr.n (k + 1) (by simp) (by omega) ?_
              refine ⟨(k + 1, false), ⟨rfl, rfl, rfl, trivial⟩, ⟨hx, hkl, ?_⟩, by simp; omega⟩
              simp only [htk]
              exact ⟨fun h => by simp at h, fun h => hok.2 ⟨h.1, h.2.1⟩⟩
            · obtain ⟨a, t', v1, b1, rfl, ht', hc, hkt, _⟩ := hk.get encT_sz hkl
              rw [ht] at ht'
              obtain rfl := Option.some.inj ht'
              refine Go1.fl 2 (Ld.one (hb1.ext hx).at2 ?_)
              refine Go1.ix 3 hkl (Ld.agg (hc.chg (hx1.trans hx) (.inr id)) ?_)
              refine (ih t htm hat.2 _ _ _ _ hat.1 (hkt.ext (hx1.trans hx))).mono ?_
              rintro r w5 ⟨⟨b, rfl, hb⟩, hx5⟩
              rw [t.eta] at hb
              refine Wr.n (k + 1) (by simp) (by omega) ?_
              refine ⟨(k + 1, b), ⟨rfl, rfl, rfl, trivial⟩, ⟨hx.trans hx5, hkl, ?_⟩, by simp; omega⟩
              simp only [htk, hb]
              exact ⟨fun h => ⟨(hok.1 rfl).1, (hok.1 rfl).2, h⟩, fun h => h.2.2⟩
          · have : k = ks.length := by have : ¬ (k : Int) < ks.length := hge; omega
            subst this
            rw [List.take_length] at hok
            exact ⟨⟨ok, rfl, by rw [fmT_iff]; exact hok⟩, hx1.trans hx⟩
        · refine Cm.s (fun h2 => ?_) (fun h2 => ?_)
          · refine Go1.fl 1 (Ld.one hb2.at1 ?_)
            refine (c_l4Base l.2).mono ?_
            rintro r w' ⟨rfl, hw'⟩
            obtain rfl : w2 = w' := hw'.symm
            cases hba : baseN l.2
            · have hb0 : (false = true) ↔ headP l ks.length := by
                unfold headP
                simp [h2, hnm, hba] <;> omega
              refine Lp.go ttOk (by kernel_rfl) (fun b : Nat × Bool => [(1, .pointer (some ⟨w.heap.size, 0, none⟩)), (3, .bool b.2), (4, .int .i64 b.1)]) (fun b w' => Ext w1 w' ∧ b.1 ≤ ks.length ∧ (b.2 = true ↔ headP l ks.length ∧ ∀ t ∈ ks.take b.1, fmT t)) (fun b => ks.length - b.1) (0, false)
                ⟨rfl, rfl, rfl, trivial⟩ ⟨hx2, Nat.zero_le _, by simpa using hb0⟩ ?_
              rintro ⟨k, ok⟩ w3 ⟨hx, hk1, hok⟩
              simp only at hk1 hok
              refine Go1.fl 2 (Ld.one (hb1.ext hx).at2 ?_)
              refine Cm.s (fun hlt => ?_) (fun hge => ?_)
              · have hkl : k < ks.length := by have : (k : Int) < ks.length := hlt; omega
                obtain ⟨t, ht⟩ : ∃ t, ks[k]? = some t := ⟨ks[k], List.getElem?_eq_getElem hkl⟩
                have htm := List.mem_of_getElem? ht
                have hat := Rose.AlL_mem ha htm
                have htk : (∀ u ∈ ks.take (k + 1), fmT u) ↔ (∀ u ∈ ks.take k, fmT u) ∧ fmT t := by
                  rw [take_succ_get ht]
                  simp only [List.mem_append, List.mem_singleton]
                  exact ⟨fun h => ⟨fun u hu => h u (.inl hu), h t (.inr rfl)⟩, fun h u hu => hu.elim (h.1 u) (fun e => e ▸ h.2)⟩
                cases ok
                · refine Wr.n (k + 1) (by simp) (by omega) ?_
                  refine ⟨(k + 1, false), ⟨rfl, rfl, rfl, trivial⟩, ⟨hx, hkl, ?_⟩, by simp; omega⟩
                  simp only [htk]
                  exact ⟨fun h => by simp at h, fun h => hok.2 ⟨h.1, h.2.1⟩⟩
                · obtain ⟨a, t', v1, b1, rfl, ht', hc, hkt, _⟩ := hk.get encT_sz hkl
                  rw [ht] at ht'
                  obtain rfl := Option.some.inj ht'
                  refine Go1.fl 2 (Ld.one (hb1.ext hx).at2 ?_)
                  refine Go1.ix 3 hkl (Ld.agg (hc.chg (hx1.trans hx) (.inr id)) ?_)
                  refine (ih t htm hat.2 _ _ _ _ hat.1 (hkt.ext (hx1.trans hx))).mono ?_
                  rintro r w5 ⟨⟨b, rfl, hb⟩, hx5⟩
                  rw [t.eta] at hb
                  refine Wr.n (k + 1) (by simp) (by omega) ?_
                  refine ⟨(k + 1, b), ⟨rfl, rfl, rfl, trivial⟩, ⟨hx.trans hx5, hkl, ?_⟩, by simp; omega⟩
                  simp only [htk, hb]
                  exact ⟨fun h => ⟨(hok.1 rfl).1, (hok.1 rfl).2, h⟩, fun h => h.2.2⟩
              · have : k = ks.length := by have : ¬ (k : Int) < ks.length := hge; omega
                subst this
                rw [List.take_length] at hok
                exact ⟨⟨ok, rfl, by rw [fmT_iff]; exact hok⟩, hx1.trans hx⟩
            · refine Go1.fl 2 (Ld.one hb2.at2 ?_)
              refine Cm.s (fun hlen => ?_) (fun hlen => ?_)
              · have hb0 : (true = true) ↔ headP l ks.length := by
                  unfold headP
                  simp [h2, hnm, hba, show ks.length = 0 by omega] <;> omega
                refine Lp.go ttOk (by kernel_rfl) (fun b : Nat × Bool => [(1, .pointer (some ⟨w.heap.size, 0, none⟩)), (3, .bool b.2), (4, .int .i64 b.1)]) (fun b w' => Ext w1 w' ∧ b.1 ≤ ks.length ∧ (b.2 = true ↔ headP l ks.length ∧ ∀ t ∈ ks.take b.1, fmT t)) (fun b => ks.length - b.1) (0, true)
                  ⟨rfl, rfl, rfl, trivial⟩ ⟨hx2, Nat.zero_le _, by simpa using hb0⟩ ?_
                rintro ⟨k, ok⟩ w3 ⟨hx, hk1, hok⟩
                simp only at hk1 hok
                refine Go1.fl 2 (Ld.one (hb1.ext hx).at2 ?_)
                refine Cm.s (fun hlt => ?_) (fun hge => ?_)
                · have hkl : k < ks.length := by have : (k : Int) < ks.length := hlt; omega
                  obtain ⟨t, ht⟩ : ∃ t, ks[k]? = some t := ⟨ks[k], List.getElem?_eq_getElem hkl⟩
                  have htm := List.mem_of_getElem? ht
                  have hat := Rose.AlL_mem ha htm
                  have htk : (∀ u ∈ ks.take (k + 1), fmT u) ↔ (∀ u ∈ ks.take k, fmT u) ∧ fmT t := by
                    rw [take_succ_get ht]
                    simp only [List.mem_append, List.mem_singleton]
                    exact ⟨fun h => ⟨fun u hu => h u (.inl hu), h t (.inr rfl)⟩, fun h u hu => hu.elim (h.1 u) (fun e => e ▸ h.2)⟩
                  cases ok
                  · refine Wr.n (k + 1) (by simp) (by omega) ?_
                    refine ⟨(k + 1, false), ⟨rfl, rfl, rfl, trivial⟩, ⟨hx, hkl, ?_⟩, by simp; omega⟩
                    simp only [htk]
                    exact ⟨fun h => by simp at h, fun h => hok.2 ⟨h.1, h.2.1⟩⟩
                  · obtain ⟨a, t', v1, b1, rfl, ht', hc, hkt, _⟩ := hk.get encT_sz hkl
                    rw [ht] at ht'
                    obtain rfl := Option.some.inj ht'
                    refine Go1.fl 2 (Ld.one (hb1.ext hx).at2 ?_)
                    refine Go1.ix 3 hkl (Ld.agg (hc.chg (hx1.trans hx) (.inr id)) ?_)
                    refine (ih t htm hat.2 _ _ _ _ hat.1 (hkt.ext (hx1.trans hx))).mono ?_
                    rintro r w5 ⟨⟨b, rfl, hb⟩, hx5⟩
                    rw [t.eta] at hb
                    refine Wr.n (k + 1) (by simp) (by omega) ?_
                    refine ⟨(k + 1, b), ⟨rfl, rfl, rfl, trivial⟩, ⟨hx.trans hx5, hkl, ?_⟩, by simp; omega⟩
                    simp only [htk, hb]
                    exact ⟨fun h => ⟨(hok.1 rfl).1, (hok.1 rfl).2, h⟩, fun h => h.2.2⟩
                · have : k = ks.length := by have : ¬ (k : Int) < ks.length := hge; omega
                  subst this
                  rw [List.take_length] at hok
                  exact ⟨⟨ok, rfl, by rw [fmT_iff]; exact hok⟩, hx1.trans hx⟩
              · have hb0 : (false = true) ↔ headP l ks.length := by
                  unfold headP
                  simp [h2, hnm, hba, show ¬ ks.length = 0 by omega] <;> omega
                refine Lp.go ttOk (by kernel_rfl) (fun b : Nat × Bool => [(1, .pointer (some ⟨w.heap.size, 0, none⟩)), (3, .bool b.2), (4, .int .i64 b.1)]) (fun b w' => Ext w1 w' ∧ b.1 ≤ ks.length ∧ (b.2 = true ↔ headP l ks.length ∧ ∀ t ∈ ks.take b.1, fmT t)) (fun b => ks.length - b.1) (0, false)
                  ⟨rfl, rfl, rfl, trivial⟩ ⟨hx2, Nat.zero_le _, by simpa using hb0⟩ ?_
                rintro ⟨k, ok⟩ w3 ⟨hx, hk1, hok⟩
                simp only at hk1 hok
                refine Go1.fl 2 (Ld.one (hb1.ext hx).at2 ?_)
                refine Cm.s (fun hlt => ?_) (fun hge => ?_)
                · have hkl : k < ks.length := by have : (k : Int) < ks.length := hlt; omega
                  obtain ⟨t, ht⟩ : ∃ t, ks[k]? = some t := ⟨ks[k], List.getElem?_eq_getElem hkl⟩
                  have htm := List.mem_of_getElem? ht
                  have hat := Rose.AlL_mem ha htm
                  have htk : (∀ u ∈ ks.take (k + 1), fmT u) ↔ (∀ u ∈ ks.take k, fmT u) ∧ fmT t := by
                    rw [take_succ_get ht]
                    simp only [List.mem_append, List.mem_singleton]
                    exact ⟨fun h => ⟨fun u hu => h u (.inl hu), h t (.inr rfl)⟩, fun h u hu => hu.elim (h.1 u) (fun e => e ▸ h.2)⟩
                  cases ok
                  · refine Wr.n (k + 1) (by simp) (by omega) ?_
                    refine ⟨(k + 1, false), ⟨rfl, rfl, rfl, trivial⟩, ⟨hx, hkl, ?_⟩, by simp; omega⟩
                    simp only [htk]
                    exact ⟨fun h => by simp at h, fun h => hok.2 ⟨h.1, h.2.1⟩⟩
                  · obtain ⟨a, t', v1, b1, rfl, ht', hc, hkt, _⟩ := hk.get encT_sz hkl
                    rw [ht] at ht'
                    obtain rfl := Option.some.inj ht'
                    refine Go1.fl 2 (Ld.one (hb1.ext hx).at2 ?_)
                    refine Go1.ix 3 hkl (Ld.agg (hc.chg (hx1.trans hx) (.inr id)) ?_)
                    refine (ih t htm hat.2 _ _ _ _ hat.1 (hkt.ext (hx1.trans hx))).mono ?_
                    rintro r w5 ⟨⟨b, rfl, hb⟩, hx5⟩
                    rw [t.eta] at hb
                    refine Wr.n (k + 1) (by simp) (by omega) ?_
                    refine ⟨(k + 1, b), ⟨rfl, rfl, rfl, trivial⟩, ⟨hx.trans hx5, hkl, ?_⟩, by simp; omega⟩
                    simp only [htk, hb]
                    exact ⟨fun h => ⟨(hok.1 rfl).1, (hok.1 rfl).2, h⟩, fun h => h.2.2⟩
                · have : k = ks.length := by have : ¬ (k : Int) < ks.length := hge; omega
                  subst this
                  rw [List.take_length] at hok
                  exact ⟨⟨ok, rfl, by rw [fmT_iff]; exact hok⟩, hx1.trans hx⟩
          · exact ⟨Says.f fun h => by have := (fmT_iff.1 h).1; unfold headP at this; simp [h1, h4, h3, h2] at this, hx1.trans hx2⟩
def FrmSaid (ks : List Tp) : Prop := Rose.AlL (fun s => s.2.size ≤ maxLen) ks → ∀ (w : World) (v : Value) (bs : List Nat), Kids encT w v ks bs →
    Ret Tryz.prog 71 [v, .func (.func 72) #[] #[]] w fun r w' => Says (∃ t ∈ ks, ¬ fmT t) r ∧ Ext w w'

theorem c_isFormed' {l : TLab} {ks : List Tp} (ih : FrmSaid ks) (ha : Rose.AlL (fun s => s.2.size ≤ maxLen) ks) (hl : l.2.size ≤ maxLen) {w : World} {v : Value} {bs : List Nat} (hk : Kids encT w v ks bs) :
    Ret Tryz.prog 43 [.agg #[.int .i64 l.1, .string l.2, v]] w fun r w' => Says (fmT (.mk l ks)) r ∧ Ext w w' := by
  obtain ⟨ao, cap, rfl, hm, hcap⟩ := hk.form
  refine ret_of_vc ttOk Tryz.func43 rfl (by kernel_rfl) (by kernel_rfl) ?_
  refine Go1.bx ?_
  intro w1 hx1 hb1
  refine Go1.fl 0 (Ld.one hb1.at0 ?_)
  refine Cm.s (fun h1 => ?_) (fun h1 => ?_)
  · refine Go1.fl 1 (Ld.one hb1.at1 ?_)
    refine (c_iIsValidName l.2 hl).mono ?_
    rintro r w2 ⟨rfl, hx2⟩
    have hb2 := hb1.ext hx2
    by_cases hnm : NameOk l.2
    · rw [decide_eq_true hnm]
      refine Go1.fl 2 (Ld.one hb2.at2 ?_)
      refine Cm.s (fun hlen => ?_) (fun hlen => ?_)
      · have hb0 : headP l ks.length := by
          unfold headP
          simp [h1, hnm, show ks.length = 0 by omega] <;> omega
        refine Go1.fl 2 (Ld.one hb2.at2 ?_)
        refine (ih ha w2 _ bs (hk.ext (hx1.trans hx2))).mono ?_
        rintro r w3 ⟨⟨b, rfl, hb⟩, hx3⟩
        cases b
        · refine ⟨Says.t (fmT_iff.2 ⟨hb0, fun t ht => Classical.byContradiction fun hn => ?_⟩), (hx1.trans hx2).trans hx3⟩
          simpa using hb.2 ⟨t, ht, hn⟩
        · obtain ⟨t, ht, hn⟩ := hb.1 rfl
          exact ⟨Says.f fun h => hn ((fmT_iff.1 h).2 t ht), (hx1.trans hx2).trans hx3⟩
      · refine ⟨Says.f fun h => ?_, hx1.trans hx2⟩
        have hb0 := (fmT_iff.1 h).1
        unfold headP at hb0
        simp [h1, hnm, show ¬ ks.length = 0 by omega] at hb0
    · rw [decide_eq_false hnm]
      refine ⟨Says.f fun h => ?_, hx1.trans hx2⟩
      have hb0 := (fmT_iff.1 h).1
      unfold headP at hb0
      simp [h1, hnm] at hb0
  · refine Cm.s (fun h4 => ?_) (fun h4 => ?_)
    · refine Go1.fl 1 (Ld.one hb1.at1 ?_)
      refine (c_iIsValidName l.2 hl).mono ?_
      rintro r w2 ⟨rfl, hx2⟩
      have hb2 := hb1.ext hx2
      by_cases hnm : NameOk l.2
      · rw [decide_eq_true hnm]
        refine Go1.fl 2 (Ld.one hb2.at2 ?_)
        refine Cm.s (fun hlen => ?_) (fun hlen => ?_)
        · have hb0 : headP l ks.length := by
            unfold headP
            simp [h4, hnm, show ks.length = 0 by omega] <;> omega
          refine Go1.fl 2 (Ld.one hb2.at2 ?_)
          refine (ih ha w2 _ bs (hk.ext (hx1.trans hx2))).mono ?_
          rintro r w3 ⟨⟨b, rfl, hb⟩, hx3⟩
          cases b
          · refine ⟨Says.t (fmT_iff.2 ⟨hb0, fun t ht => Classical.byContradiction fun hn => ?_⟩), (hx1.trans hx2).trans hx3⟩
            simpa using hb.2 ⟨t, ht, hn⟩
          · obtain ⟨t, ht, hn⟩ := hb.1 rfl
            exact ⟨Says.f fun h => hn ((fmT_iff.1 h).2 t ht), (hx1.trans hx2).trans hx3⟩
        · refine ⟨Says.f fun h => ?_, hx1.trans hx2⟩
          have hb0 := (fmT_iff.1 h).1
          unfold headP at hb0
          simp [h4, hnm, show ¬ ks.length = 0 by omega] at hb0
      · rw [decide_eq_false hnm]
        refine ⟨Says.f fun h => ?_, hx1.trans hx2⟩
        have hb0 := (fmT_iff.1 h).1
        unfold headP at hb0
        simp [h4, hnm] at hb0
    · refine Cm.s (fun h3 => ?_) (fun h3 => ?_)
      · refine Go1.fl 1 (Ld.one hb1.at1 ?_)
        refine (c_iIsValidName l.2 hl).mono ?_
        rintro r w2 ⟨rfl, hx2⟩
        have hb2 := hb1.ext hx2
        by_cases hnm : NameOk l.2
        · rw [decide_eq_true hnm]
          refine Go1.fl 2 (Ld.one hb2.at2 ?_)
          refine Cm.s (fun hlen => ?_) (fun hlen => ?_)
          · have hb0 : headP l ks.length := by
              unfold headP
              simp [h3, hnm, show ks.length = 1 by omega] <;> omega
            refine Go1.fl 2 (Ld.one hb2.at2 ?_)
            refine (ih ha w2 _ bs (hk.ext (hx1.trans hx2))).mono ?_
            rintro r w3 ⟨⟨b, rfl, hb⟩, hx3⟩
            cases b
            · refine ⟨Says.t (fmT_iff.2 ⟨hb0, fun t ht => Classical.byContradiction fun hn => ?_⟩), (hx1.trans hx2).trans hx3⟩
              simpa using hb.2 ⟨t, ht, hn⟩
            · obtain ⟨t, ht, hn⟩ := hb.1 rfl
              exact ⟨Says.f fun h => hn ((fmT_iff.1 h).2 t ht), (hx1.trans hx2).trans hx3⟩
          · refine ⟨Says.f fun h => ?_, hx1.trans hx2⟩
            have hb0 := (fmT_iff.1 h).1
            unfold headP at hb0
            simp [h3, hnm, show ¬ ks.length = 1 by omega] at hb0
        · rw [decide_eq_false hnm]
          refine ⟨Says.f fun h => ?_, hx1.trans hx2⟩
          have hb0 := (fmT_iff.1 h).1
          unfold headP at hb0
          simp [h3, hnm] at hb0
      · refine Cm.s (fun h2 => ?_) (fun h2 => ?_)
        · refine Go1.fl 1 (Ld.one hb1.at1 ?_)
          refine (c_iIsValidName l.2 hl).mono ?_
          rintro r w2 ⟨rfl, hx2⟩
          have hb2 := hb1.ext hx2
          by_cases hnm : NameOk l.2
          · rw [decide_eq_true hnm]
            refine Go1.fl 2 (Ld.one hb2.at2 ?_)
            refine Cm.s (fun hlen => ?_) (fun hlen => ?_)
            · have hb0 : headP l ks.length := by
                unfold headP
                simp [h2, hnm, show ks.length ≤ 3 by omega] <;> omega
              refine Go1.fl 2 (Ld.one hb2.at2 ?_)
              refine (ih ha w2 _ bs (hk.ext (hx1.trans hx2))).mono ?_
              rintro r w3 ⟨⟨b, rfl, hb⟩, hx3⟩
              cases b
              · refine ⟨Says.t (fmT_iff.2 ⟨hb0, fun t ht => Classical.byContradiction fun hn => ?_⟩), (hx1.trans hx2).trans hx3⟩
                simpa using hb.2 ⟨t, ht, hn⟩
              · obtain ⟨t, ht, hn⟩ := hb.1 rfl
                exact ⟨Says.f fun h => hn ((fmT_iff.1 h).2 t ht), (hx1.trans hx2).trans hx3⟩
            · refine Go1.fl 1 (Ld.one hb2.at1 ?_)
              refine (c_isBuiltIn l.2).mono ?_
              rintro r w' ⟨rfl, hw'⟩
              obtain rfl : w2 = w' := hw'.symm
              cases hba : baseN l.2
              · refine ⟨Says.f fun h => ?_, hx1.trans hx2⟩
                have hb0 := (fmT_iff.1 h).1
                unfold headP at hb0
                simp [h2, hnm, show ¬ ks.length ≤ 3 by omega, hba] at hb0
              · refine Go1.fl 2 (Ld.one hb2.at2 ?_)
                refine Cm.s (fun hlen => ?_) (fun hlen => ?_)
                · have hb0 : headP l ks.length := by
                    unfold headP
                    simp [h2, hnm, show ¬ ks.length ≤ 3 by omega, hba, show ks.length = 0 by omega] <;> omega
                  refine Go1.fl 2 (Ld.one hb2.at2 ?_)
                  refine (ih ha w2 _ bs (hk.ext (hx1.trans hx2))).mono ?_
                  rintro r w3 ⟨⟨b, rfl, hb⟩, hx3⟩
                  cases b
                  · refine ⟨Says.t (fmT_iff.2 ⟨hb0, fun t ht => Classical.byContradiction fun hn => ?_⟩), (hx1.trans hx2).trans hx3⟩
                    simpa using hb.2 ⟨t, ht, hn⟩
                  · obtain ⟨t, ht, hn⟩ := hb.1 rfl
                    exact ⟨Says.f fun h => hn ((fmT_iff.1 h).2 t ht), (hx1.trans hx2).trans hx3⟩
                · refine ⟨Says.f fun h => ?_, hx1.trans hx2⟩
                  have hb0 := (fmT_iff.1 h).1
                  unfold headP at hb0
                  simp [h2, hnm, show ¬ ks.length ≤ 3 by omega, hba, show ¬ ks.length = 0 by omega] at hb0
          · rw [decide_eq_false hnm]
            refine Go1.fl 1 (Ld.one hb2.at1 ?_)
            refine (c_isBuiltIn l.2).mono ?_
            rintro r w' ⟨rfl, hw'⟩
            obtain rfl : w2 = w' := hw'.symm
            cases hba : baseN l.2
            · refine ⟨Says.f fun h => ?_, hx1.trans hx2⟩
              have hb0 := (fmT_iff.1 h).1
              unfold headP at hb0
              simp [h2, hnm, hba] at hb0
            · refine Go1.fl 2 (Ld.one hb2.at2 ?_)
              refine Cm.s (fun hlen => ?_) (fun hlen => ?_)
              · have hb0 : headP l ks.length := by
                  unfold headP
                  simp [h2, hnm, hba, show ks.length = 0 by omega] <;> omega
                refine Go1.fl 2 (Ld.one hb2.at2 ?_)
                refine (ih ha w2 _ bs (hk.ext (hx1.trans hx2))).mono ?_
                rintro r w3 ⟨⟨b, rfl, hb⟩, hx3⟩
                cases b
                · refine ⟨Says.t (fmT_iff.2 ⟨hb0, fun t ht => Classical.byContradiction fun hn => ?_⟩), (hx1.trans hx2).trans hx3⟩
                  simpa using hb.2 ⟨t, ht, hn⟩
                · obtain ⟨t, ht, hn⟩ := hb.1 rfl
                  exact ⟨Says.f fun h => hn ((fmT_iff.1 h).2 t ht), (hx1.trans hx2).trans hx3⟩
              · refine ⟨Says.f fun h => ?_, hx1.trans hx2⟩
                have hb0 := (fmT_iff.1 h).1
                unfold headP at hb0
                simp [h2, hnm, hba, show ¬ ks.length = 0 by omega] at hb0
        · refine ⟨Says.f fun h => ?_, hx1⟩
          have hb0 := (fmT_iff.1 h).1
          unfold headP at hb0
          simp [h1, h4, h3, h2] at hb0

/-- slices.ContainsFunc at Type, with what isFormed hands it -/
theorem c_ContainsFormed (ks : List Tp) : FrmSaid ks := by
  refine Rose.forest (fun ks ih => ?_) ks
  intro ha w v bs hk
  obtain ⟨ao, cap, rfl, hm, hcap⟩ := hk.form
  have hM : maxLen = 9223372036854775807 := rfl
  have idx : Ret Tryz.prog 90 [.slice ao ks.length cap, .func (.func 72) #[] #[]] w fun r w' => (∃ n : Int, r = .int .i64 n ∧ (0 ≤ n ↔ ∃ t ∈ ks, ¬ fmT t)) ∧ Ext w w' := by
    refine ret_of_vc ttOk Tryz.func90 rfl (by kernel_rfl) (by kernel_rfl) ?_
    refine Lp.go ttOk (by kernel_rfl) (fun k : Nat => [(0, .slice ao ks.length cap), (1, .func (.func 72) #[] #[]), (7, .int .i64 ks.length), (8, .int .i64 k)]) (fun k w' => Ext w w' ∧ k ≤ ks.length ∧ ∀ t ∈ ks.take k, fmT t) (fun k => ks.length - k) 0
      ⟨rfl, rfl, rfl, rfl, trivial⟩ ⟨Chg.refl _ _, Nat.zero_le _, by simp⟩ ?_
    rintro k w1 ⟨hx, hk1, hn⟩
    refine Cm.s (fun hlt => ?_) (fun hge => ?_)
    · have hlt : k < ks.length := by omega
      obtain ⟨a, t, v1, b1, rfl, ht, hc, hkt, _⟩ := hk.get encT_sz hlt
      have htm := List.mem_of_getElem? ht
      have hat := Rose.AlL_mem ha htm
      obtain ⟨ao3, cap3, rfl, _, _⟩ := hkt.form
      refine Go1.ix 3 hlt (Ld.agg (hc.chg hx (.inr id)) ?_)
      have call : Ret Tryz.prog 72 [.agg #[.int .i64 t.lab.1, .string t.lab.2, .slice ao3 t.kids.length cap3]] w1 fun r w' => Says (¬ fmT t) r ∧ Ext w1 w' := by
        refine ret_of_vc ttOk Tryz.func72 rfl (by kernel_rfl) (by kernel_rfl) ?_
        refine Go1.bx ?_
        intro w2 hx2 hb2
        refine Ld.agg (vs := [.int .i64 t.lab.1, .string t.lab.2, .slice ao3 t.kids.length cap3]) (Blk.lc0 (post := []) hb2) ?_
        refine (c_isFormed' (ih t htm) hat.2 hat.1 (hkt.ext (hx.trans hx2))).mono ?_
        rintro r w3 ⟨⟨b, rfl, hb⟩, hx3⟩
        rw [t.eta] at hb
        cases b
        · exact ⟨Says.t fun h => by simpa using hb.2 h, hx2.trans hx3⟩
        · exact ⟨Says.f fun h => h (hb.1 rfl), hx2.trans hx3⟩
      refine call.mono ?_
      rintro r w2 ⟨⟨b, rfl, hb⟩, hx2⟩
      cases b
      · refine Wr.n (k + 1) (by omega) (by omega) ?_
        refine ⟨k + 1, ⟨rfl, rfl, rfl, rfl, trivial⟩, ⟨hx.trans hx2, hlt, fun u hu => ?_⟩, by omega⟩
        rw [take_succ_get ht] at hu
        rcases List.mem_append.1 hu with hu | hu
        · exact hn u hu
        · obtain rfl : u = t := by simpa using hu
          exact Classical.byContradiction fun h => by simpa using hb.2 h
      · exact ⟨⟨k, rfl, ⟨fun _ => ⟨t, htm, hb.1 rfl⟩, fun _ => by omega⟩⟩, hx.trans hx2⟩
    · have : k = ks.length := by omega
      subst this
      rw [List.take_length] at hn
      exact ⟨⟨-1, rfl, ⟨fun h => by omega, fun ⟨t, ht, h⟩ => absurd (hn t ht) h⟩⟩, hx⟩
  refine ret_of_vc ttOk Tryz.func71 rfl (by kernel_rfl) (by kernel_rfl) ?_
  refine idx.mono ?_
  rintro r w1 ⟨⟨n, rfl, hn⟩, hx1⟩
  refine Cm.s (fun h => ?_) (fun h => ?_)
  · exact ⟨Says.t (hn.1 h), hx1⟩
  · exact ⟨Says.f fun e => h (hn.2 e), hx1⟩

/-- impl.isFormed -/
theorem c_isFormed {l : TLab} {ks : List Tp} (ha : Rose.AlL (fun s => s.2.size ≤ maxLen) ks) (hl : l.2.size ≤ maxLen) {w : World} {v : Value} {bs : List Nat} (hk : Kids encT w v ks bs) :
    Ret Tryz.prog 43 [.agg #[.int .i64 l.1, .string l.2, v]] w fun r w' => Says (fmT (.mk l ks)) r ∧ Ext w w' := c_isFormed' (c_ContainsFormed ks) ha hl hk
/-- A valid Type. -/
def okT (t : Tp) : Prop := 1 + Rose.cnt t.kids ≤ 60 ∧ fmT t ∧ dpTL t.kids ≤ 6
/-- spec.IsValidType -/
theorem c_sIsValidType {l : TLab} {ks : List Tp} (hl : l.2.size ≤ maxLen) (ha : Rose.AlL (fun s => s.2.size ≤ maxLen) ks) {w : World} {v : Value} {bs : List Nat} (hk : Kids encT w v ks bs) :
    Ret Tryz.prog 12 [.agg #[.int .i64 l.1, .string l.2, v]] w fun r w' => Says (okT (.mk l ks)) r ∧ Ext w w' := by
  obtain ⟨ao, cap, rfl, hm, hcap⟩ := hk.form
  refine ret_of_vc ttOk Tryz.func12 rfl (by kernel_rfl) (by kernel_rfl) ?_
  refine Go1.bx ?_
  intro w1 hx1 hb1
  refine Ld.agg (vs := [.int .i64 l.1, .string l.2, .slice ao ks.length cap]) (Blk.lc0 (post := []) hb1) ?_
  refine (c_l4Left ks l w1 _ bs 60 (hk.ext hx1) (by decide)).mono ?_
  rintro r w2 ⟨rfl, hx2⟩
  refine Cm.s (fun h0 => ?_) (fun h0 => ?_)
  · have hcn : 1 + Rose.cnt ks ≤ 60 := by
      unfold leftM at h0
      split at h0 <;> omega
    refine Ld.agg (vs := [.int .i64 l.1, .string l.2, .slice ao ks.length cap]) (Blk.lc0 (post := []) (hb1.ext hx2)) ?_
    refine (c_sTypeDepth ks (by omega) l w2 _ bs (hk.ext (hx1.trans hx2))).mono ?_
    rintro r w3 ⟨rfl, hx3⟩
    refine Cm.s (fun h1 => ?_) (fun h1 => ?_)
    · refine Ld.agg (vs := [.int .i64 l.1, .string l.2, .slice ao ks.length cap]) (Blk.lc0 (post := []) (hb1.ext (hx2.trans hx3))) ?_
      refine (c_l4Form ks ha l w3 _ bs hl (hk.ext ((hx1.trans hx2).trans hx3))).mono ?_
      rintro r w4 ⟨⟨b, rfl, hb⟩, hx4⟩
      cases b
      · exact ⟨Says.f fun h => by simpa using hb.2 h.2.1, ((hx1.trans hx2).trans hx3).trans hx4⟩
      · exact ⟨Says.t ⟨hcn, hb.1 rfl, by simp only [Rose.kids]; omega⟩, ((hx1.trans hx2).trans hx3).trans hx4⟩
    · exact ⟨Says.f fun h => h1 (by have := h.2.2; simp only [Rose.kids] at this; omega), (hx1.trans hx2).trans hx3⟩
  · refine ⟨Says.f fun h => h0 ?_, hx1.trans hx2⟩
    have := h.1
    simp only [Rose.kids] at this
    rw [leftM, if_pos this]
    omega

/-- impl.IsValidType -/
theorem c_iIsValidType {l : TLab} {ks : List Tp} (hl : l.2.size ≤ maxLen) (ha : Rose.AlL (fun s => s.2.size ≤ maxLen) ks) (hs : Rose.cnt ks ≤ 4294967296) {w : World} {v : Value} {bs : List Nat} (hk : Kids encT w v ks bs) :
    Ret Tryz.prog 19 [.agg #[.int .i64 l.1, .string l.2, v]] w fun r w' => Says (okT (.mk l ks)) r ∧ Ext w w' := by
  obtain ⟨ao, cap, rfl, hm, hcap⟩ := hk.form
  refine ret_of_vc ttOk Tryz.func19 rfl (by kernel_rfl) (by kernel_rfl) ?_
  refine Go1.bx ?_
  intro w1 hx1 hb1
  refine Ld.agg (vs := [.int .i64 l.1, .string l.2, .slice ao ks.length cap]) (Blk.lc0 (post := []) hb1) ?_
  refine (c_isFormed ha hl (hk.ext hx1)).mono ?_
  rintro r w2 ⟨⟨b, rfl, hb⟩, hx2⟩
  cases b
  · exact ⟨Says.f fun h => by simpa using hb.2 h.2.1, hx1.trans hx2⟩
  · refine Ld.agg (vs := [.int .i64 l.1, .string l.2, .slice ao ks.length cap]) (Blk.lc0 (post := []) (hb1.ext hx2)) ?_
    refine (c_iTypeDepth ks hs l w2 _ bs (hk.ext (hx1.trans hx2))).mono ?_
    rintro r w3 ⟨rfl, hx3⟩
    refine Cm.s (fun h1 => ?_) (fun h1 => ?_)
    · refine Ld.agg (vs := [.int .i64 l.1, .string l.2, .slice ao ks.length cap]) (Blk.lc0 (post := []) (hb1.ext (hx2.trans hx3))) ?_
      refine (c_iTypeSize ks hs l w3 _ bs (hk.ext ((hx1.trans hx2).trans hx3))).mono ?_
      rintro r w4 ⟨rfl, hx4⟩
      refine Cm.s (fun h2 => ?_) (fun h2 => ?_)
      · exact ⟨Says.t ⟨by simp only [Rose.kids]; omega, hb.1 rfl, by simp only [Rose.kids]; omega⟩, ((hx1.trans hx2).trans hx3).trans hx4⟩
      · exact ⟨Says.f fun h => h2 (by have := h.1; simp only [Rose.kids] at this; omega), ((hx1.trans hx2).trans hx3).trans hx4⟩
    · exact ⟨Says.f fun h => h1 (by have := h.2.2; simp only [Rose.kids] at this; omega), (hx1.trans hx2).trans hx3⟩
end Go.Proofs.YtliigpmpeldebaaGreat
