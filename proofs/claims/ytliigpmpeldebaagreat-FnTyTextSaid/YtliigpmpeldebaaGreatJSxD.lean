/- Contracts: a valid SExpr; Contracts: strings.Builder, by the library's own. Conditions: none. -/
import Derived.Test.YtliigpmpeldebaaGreatSxC
import Derived.Test.YtliigpmpeldebaaGreatJTy
import Derived.Test.YtliigpmpeldebaaGreatTyC
import Derived.Test.YtliigpmpeldebaaGreatJLaw
import Derived.Shelf.Strings.BuilderK
namespace Go.Proofs.YtliigpmpeldebaaGreat
open Go.RowKit

mutual
/-- Are the atoms valid, and without a list? -/
def fmS : Sx → Prop
  | .mk l ks => (l = em ∧ fmSL ks) ∨ (l ≠ em ∧ AtomOk l ∧ ks = [])
def fmSL : List Sx → Prop
  | [] => True
  | k :: ks => fmS k ∧ fmSL ks
end
theorem fmSL_iff (ks : List Sx) : fmSL ks ↔ ∀ t ∈ ks, fmS t := by
  induction ks with
  | nil => simp [fmSL]
  | cons k ks ih => simp only [fmSL, ih, List.mem_cons, forall_eq_or_imp]
theorem fmS_atom {l : ByteArray} {ks : List Sx} (h : l ≠ em) : fmS (.mk l ks) ↔ AtomOk l ∧ ks = [] := by simp [fmS, h]
theorem fmS_list {l : ByteArray} {ks : List Sx} (h : l = em) : fmS (.mk l ks) ↔ ∀ t ∈ ks, fmS t := by simp [fmS, h, fmSL_iff]

/-- What l2Left leaves. -/
def leftN (left need : Nat) : Int := if need ≤ left then ((left - need : Nat) : Int) else -1
def LeftSaid (ks : List Sx) : Prop := ∀ (l : ByteArray) (w : World) (v : Value) (bs : List Nat) (left : Nat), Kids encS w v ks bs → left ≤ 4294967296 →
    Ret Tryz.prog 83 [.agg #[.string l, v], .int .i64 left] w fun r w' => r = .int .i64 (leftN left (1 + Rose.cnt ks)) ∧ Ext w w'

/-- spec.l2Left -/
theorem c_l2Left (ks : List Sx) : LeftSaid ks := by
  refine Rose.forest (fun ks ih => ?_) ks
  intro l w v bs left hk hl
  obtain ⟨ao, cap, rfl, hm, hcap⟩ := hk.form
  have hM : maxLen = 9223372036854775807 := rfl
  refine ret_of_vc ttOk Tryz.func83 rfl (by kernel_rfl) (by kernel_rfl) ?_
  refine Go1.bx ?_
  intro w1 hx1 hb1
  refine Wr.i (r := (left : Int) - 1) rfl (by omega) (by omega) ?_
  refine Lp.go ttOk (by kernel_rfl) (fun b : Nat × Int => [(1, .int .i64 b.2), (2, .pointer (some ⟨w.heap.size, 0, none⟩)), (5, .int .i64 b.1)]) (fun b w' => Ext w1 w' ∧ b.1 ≤ ks.length ∧ b.2 = leftN left (1 + Rose.cnt (ks.take b.1))) (fun b => ks.length - b.1) (0, (left : Int) - 1)
    ⟨rfl, rfl, rfl, trivial⟩ ⟨Chg.refl _ _, Nat.zero_le _, by simp only [List.take_zero, Rose.cnt_nil, leftN]; split <;> omega⟩ ?_
  rintro ⟨k, x⟩ w3 ⟨hx, hk1, hxe⟩
  simp only at hk1 hxe
  refine Go1.fl 1 (Ld.one (hb1.ext hx).at1 ?_)
  refine Cm.s (fun hlt => ?_) (fun hge => ?_)
  · have hkl : k < ks.length := by have : (k : Int) < ks.length := hlt; omega
    refine Cm.s (fun h0 => ?_) (fun h0 => ?_)
    · have h0 : 0 ≤ x := h0
      obtain ⟨a, t, v1, b1, rfl, ht, hc, hkt, _⟩ := hk.get encS_sz hkl
      have htm := List.mem_of_getElem? ht
      have hct := Rose.cnt_take ht
      have hle : 1 + Rose.cnt (ks.take k) ≤ left := by
        unfold leftN at hxe
        split at hxe <;> omega
      have hx' : x = ((left - (1 + Rose.cnt (ks.take k)) : Nat) : Int) := by rw [hxe, leftN, if_pos hle]
      subst hx'
      refine Go1.fl 1 (Ld.one (hb1.ext hx).at1 ?_)
      refine Go1.ix 2 hkl (Ld.agg (hc.chg (hx1.trans hx) (.inr id)) ?_)
      refine (ih t htm _ _ _ _ _ (hkt.ext (hx1.trans hx)) (by omega)).mono ?_
      rintro r w5 ⟨rfl, hx5⟩
      refine Wr.n (k + 1) (by simp) (by omega) ?_
      refine ⟨(k + 1, leftN (left - (1 + Rose.cnt (ks.take k))) (1 + Rose.cnt t.kids)), ⟨rfl, rfl, rfl, trivial⟩, ⟨hx.trans hx5, hkl, ?_⟩, by simp; omega⟩
      simp only [leftN, hct]
      split <;> split <;> omega
    · have h0 : ¬ 0 ≤ x := h0
      refine ⟨?_, hx1.trans hx⟩
      have hle : ¬ 1 + Rose.cnt (ks.take k) ≤ left := by
        intro h
        rw [leftN, if_pos h] at hxe
        omega
      obtain ⟨t, ht⟩ : ∃ t, ks[k]? = some t := ⟨ks[k], List.getElem?_eq_getElem hkl⟩
      have := Rose.cnt_take_le ht
      rw [hxe, leftN, if_neg hle, leftN, if_neg (by omega)]
  · have : k = ks.length := by have : ¬ (k : Int) < ks.length := hge; omega
    subst this
    rw [List.take_length] at hxe
    exact ⟨by rw [hxe], hx1.trans hx⟩

def FormSaid (ks : List Sx) : Prop := Rose.AlL (fun s => s.size ≤ maxLen) ks → ∀ (l : ByteArray) (w : World) (v : Value) (bs : List Nat), l.size ≤ maxLen → Kids encS w v ks bs →
    Ret Tryz.prog 84 [.agg #[.string l, v]] w fun r w' => Says (fmS (.mk l ks)) r ∧ Ext w w'

/-- spec.l2Form -/
theorem c_l2Form (ks : List Sx) : FormSaid ks := by
  refine Rose.forest (fun ks ih => ?_) ks
  intro ha l w v bs hl hk
  obtain ⟨ao, cap, rfl, hm, hcap⟩ := hk.form
  have hM : maxLen = 9223372036854775807 := rfl
  refine ret_of_vc ttOk Tryz.func84 rfl (by kernel_rfl) (by kernel_rfl) ?_
  refine Go1.bx ?_
  intro w1 hx1 hb1
  refine Go1.fl 0 (Ld.one hb1.at0 ?_)
  refine Cm.ns (fun hne => ?_) (fun he => ?_)
  · refine Go1.fl 0 (Ld.one hb1.at0 ?_)
    refine (c_sIsValidAtom l hl).mono ?_
    rintro r w2 ⟨rfl, hw2⟩
    obtain rfl : w1 = w2 := hw2.symm
    by_cases hat : AtomOk l
    · rw [decide_eq_true hat]
      refine Go1.fl 1 (Ld.one hb1.at1 ?_)
      refine Cm.s (fun h0 => ?_) (fun h0 => ?_)
      · exact ⟨Says.t ((fmS_atom hne).2 ⟨hat, List.eq_nil_of_length_eq_zero (by omega)⟩), hx1⟩
      · exact ⟨Says.f fun h => h0 (by rw [((fmS_atom hne).1 h).2]; rfl), hx1⟩
    · rw [decide_eq_false hat]
      exact ⟨Says.f fun h => hat ((fmS_atom hne).1 h).1, hx1⟩
  · refine Lp.go ttOk (by kernel_rfl) (fun k : Nat => [(1, .pointer (some ⟨w.heap.size, 0, none⟩)), (3, .int .i64 k)]) (fun k w' => Ext w1 w' ∧ k ≤ ks.length ∧ ∀ t ∈ ks.take k, fmS t) (fun k => ks.length - k) 0
      ⟨rfl, rfl, trivial⟩ ⟨Chg.refl _ _, Nat.zero_le _, by simp⟩ ?_
    rintro k w3 ⟨hx, hk1, hn⟩
    refine Go1.fl 1 (Ld.one (hb1.ext hx).at1 ?_)
    refine Cm.s (fun hlt => ?_) (fun hge => ?_)
    · have hlt : k < ks.length := by omega
      obtain ⟨a, t, v1, b1, rfl, ht, hc, hkt, _⟩ := hk.get encS_sz hlt
      have htm := List.mem_of_getElem? ht
      have hat := Rose.AlL_mem ha htm
      refine Go1.fl 1 (Ld.one (hb1.ext hx).at1 ?_)
      refine Go1.ix 2 hlt (Ld.agg (hc.chg (hx1.trans hx) (.inr id)) ?_)
      refine (ih t htm hat.2 _ _ _ _ hat.1 (hkt.ext (hx1.trans hx))).mono ?_
      rintro r w5 ⟨⟨b, rfl, hb⟩, hx5⟩
      rw [t.eta] at hb
      cases b
      · refine ⟨Says.f fun h => ?_, (hx1.trans hx).trans hx5⟩
        simpa using hb.2 ((fmS_list he).1 h t htm)
      · refine Wr.n (k + 1) (by omega) (by omega) ?_
        refine ⟨k + 1, ⟨rfl, rfl, trivial⟩, ⟨hx.trans hx5, hlt, fun u hu => ?_⟩, by omega⟩
        rw [take_succ_get ht] at hu
        rcases List.mem_append.1 hu with hu | hu
        · exact hn u hu
        · obtain rfl : u = t := by simpa using hu
          exact hb.1 rfl
    · have : k = ks.length := by omega
      subst this
      rw [List.take_length] at hn
      exact ⟨Says.t ((fmS_list he).2 hn), hx1.trans hx⟩

/-- A valid SExpr. -/
def okS (t : Sx) : Prop := 1 + Rose.cnt t.kids ≤ 900 ∧ fmS t ∧ dpS t ≤ 14
/-- spec.IsValidSExpr -/
theorem c_sIsValidSExpr {l : ByteArray} {ks : List Sx} (hl : l.size ≤ maxLen) (ha : Rose.AlL (fun s => s.size ≤ maxLen) ks) {w : World} {v : Value} {bs : List Nat} (hk : Kids encS w v ks bs) :
    Ret Tryz.prog 64 [.agg #[.string l, v]] w fun r w' => Says (okS (.mk l ks)) r ∧ Ext w w' := by
  obtain ⟨ao, cap, rfl, hm, hcap⟩ := hk.form
  refine ret_of_vc ttOk Tryz.func64 rfl (by kernel_rfl) (by kernel_rfl) ?_
  refine Go1.bx ?_
  intro w1 hx1 hb1
  refine Ld.agg (vs := [.string l, .slice ao ks.length cap]) (Blk.lc0 (post := []) hb1) ?_
  refine (c_l2Left ks l w1 _ bs 900 (hk.ext hx1) (by decide)).mono ?_
  rintro r w2 ⟨rfl, hx2⟩
  refine Cm.s (fun h0 => ?_) (fun h0 => ?_)
  · have hcn : 1 + Rose.cnt ks ≤ 900 := by
      unfold leftN at h0
      split at h0 <;> omega
    refine Ld.agg (vs := [.string l, .slice ao ks.length cap]) (Blk.lc0 (post := []) (hb1.ext hx2)) ?_
    refine (c_l2Form ks ha l w2 _ bs hl (hk.ext (hx1.trans hx2))).mono ?_
    rintro r w3 ⟨⟨b, rfl, hb⟩, hx3⟩
    cases b
    · exact ⟨Says.f fun h => by simpa using hb.2 h.2.1, (hx1.trans hx2).trans hx3⟩
    · refine Ld.agg (vs := [.string l, .slice ao ks.length cap]) (Blk.lc0 (post := []) (hb1.ext (hx2.trans hx3))) ?_
      refine (c_sSExprDepth ks (by omega) l w3 _ bs (hk.ext ((hx1.trans hx2).trans hx3))).mono ?_
      rintro r w4 ⟨rfl, hx4⟩
      refine Cm.s (fun h1 => ?_) (fun h1 => ?_)
      · exact ⟨Says.t ⟨hcn, hb.1 rfl, by omega⟩, ((hx1.trans hx2).trans hx3).trans hx4⟩
      · exact ⟨Says.f fun h => h1 (by have := h.2.2; omega), ((hx1.trans hx2).trans hx3).trans hx4⟩
  · refine ⟨Says.f fun h => h0 ?_, hx1.trans hx2⟩
    have := h.1
    simp only [Rose.kids] at this
    rw [leftN, if_pos this]
    omega

def AreSaid (ks : List Sx) : Prop := Rose.AlL (fun s => s.size ≤ maxLen) ks → ∀ (w : World) (v : Value) (bs : List Nat), Kids encS w v ks bs →
    Ret Tryz.prog 92 [v, .func (.func 93) #[] #[]] w fun r w' => Says (∃ t ∈ ks, ¬ fmS t) r ∧ Ext w w'

theorem c_areAtoms' {l : ByteArray} {ks : List Sx} (ih : AreSaid ks) (ha : Rose.AlL (fun s => s.size ≤ maxLen) ks) (hl : l.size ≤ maxLen) {w : World} {v : Value} {bs : List Nat} (hk : Kids encS w v ks bs) :
    Ret Tryz.prog 73 [.agg #[.string l, v]] w fun r w' => Says (fmS (.mk l ks)) r ∧ Ext w w' := by
  obtain ⟨ao, cap, rfl, hm, hcap⟩ := hk.form
  refine ret_of_vc ttOk Tryz.func73 rfl (by kernel_rfl) (by kernel_rfl) ?_
  refine Go1.bx ?_
  intro w1 hx1 hb1
  refine Go1.fl 0 (Ld.one hb1.at0 ?_)
  refine Cm.ns (fun hne => ?_) (fun he => ?_)
  · refine Go1.fl 0 (Ld.one hb1.at0 ?_)
    refine (c_iIsValidAtom l hl).mono ?_
    rintro r w2 ⟨rfl, hw2⟩
    obtain rfl : w1 = w2 := hw2.symm
    by_cases hat : AtomOk l
    · rw [decide_eq_true hat]
      refine Go1.fl 1 (Ld.one hb1.at1 ?_)
      refine Cm.s (fun h0 => ?_) (fun h0 => ?_)
      · exact ⟨Says.t ((fmS_atom hne).2 ⟨hat, List.eq_nil_of_length_eq_zero (by omega)⟩), hx1⟩
      · exact ⟨Says.f fun h => h0 (by rw [((fmS_atom hne).1 h).2]; rfl), hx1⟩
    · rw [decide_eq_false hat]
      exact ⟨Says.f fun h => hat ((fmS_atom hne).1 h).1, hx1⟩
  · refine Go1.fl 1 (Ld.one hb1.at1 ?_)
    refine (ih ha w1 _ bs (hk.ext hx1)).mono ?_
    rintro r w2 ⟨⟨b, rfl, hb⟩, hx2⟩
    cases b
    · refine ⟨Says.t ((fmS_list he).2 fun t ht => Classical.byContradiction fun hn => ?_), hx1.trans hx2⟩
      simpa using hb.2 ⟨t, ht, hn⟩
    · obtain ⟨t, ht, hn⟩ := hb.1 rfl
      exact ⟨Says.f fun h => hn ((fmS_list he).1 h t ht), hx1.trans hx2⟩

/-- slices.ContainsFunc at SExpr, with what areAtoms hands it -/
theorem c_ContainsAtoms (ks : List Sx) : AreSaid ks := by
  refine Rose.forest (fun ks ih => ?_) ks
  intro ha w v bs hk
  obtain ⟨ao, cap, rfl, hm, hcap⟩ := hk.form
  have hM : maxLen = 9223372036854775807 := rfl
  have idx : Ret Tryz.prog 101 [.slice ao ks.length cap, .func (.func 93) #[] #[]] w fun r w' => (∃ n : Int, r = .int .i64 n ∧ (0 ≤ n ↔ ∃ t ∈ ks, ¬ fmS t)) ∧ Ext w w' := by
    refine ret_of_vc ttOk Tryz.func101 rfl (by kernel_rfl) (by kernel_rfl) ?_
    refine Lp.go ttOk (by kernel_rfl) (fun k : Nat => [(0, .slice ao ks.length cap), (1, .func (.func 93) #[] #[]), (7, .int .i64 ks.length), (8, .int .i64 k)]) (fun k w' => Ext w w' ∧ k ≤ ks.length ∧ ∀ t ∈ ks.take k, fmS t) (fun k => ks.length - k) 0
      ⟨rfl, rfl, rfl, rfl, trivial⟩ ⟨Chg.refl _ _, Nat.zero_le _, by simp⟩ ?_
    rintro k w1 ⟨hx, hk1, hn⟩
    refine Cm.s (fun hlt => ?_) (fun hge => ?_)
    · have hlt : k < ks.length := by omega
      obtain ⟨a, t, v1, b1, rfl, ht, hc, hkt, _⟩ := hk.get encS_sz hlt
      have htm := List.mem_of_getElem? ht
      have hat := Rose.AlL_mem ha htm
      obtain ⟨ao3, cap3, rfl, _, _⟩ := hkt.form
      refine Go1.ix 2 hlt (Ld.agg (hc.chg hx (.inr id)) ?_)
      have call : Ret Tryz.prog 93 [.agg #[.string t.lab, .slice ao3 t.kids.length cap3]] w1 fun r w' => Says (¬ fmS t) r ∧ Ext w1 w' := by
        refine ret_of_vc ttOk Tryz.func93 rfl (by kernel_rfl) (by kernel_rfl) ?_
        refine Go1.bx ?_
        intro w2 hx2 hb2
        refine Ld.agg (vs := [.string t.lab, .slice ao3 t.kids.length cap3]) (Blk.lc0 (post := []) hb2) ?_
        refine (c_areAtoms' (ih t htm) hat.2 hat.1 (hkt.ext (hx.trans hx2))).mono ?_
        rintro r w3 ⟨⟨b, rfl, hb⟩, hx3⟩
        rw [t.eta] at hb
        cases b
        · exact ⟨Says.t fun h => by simpa using hb.2 h, hx2.trans hx3⟩
        · exact ⟨Says.f fun h => h (hb.1 rfl), hx2.trans hx3⟩
      refine call.mono ?_
      rintro r w2 ⟨⟨b, rfl, hb⟩, hx2⟩
      cases b
      · refine Wr.n (k + 1) (by omega) (by omega) ?_
        refine ⟨k + 1, ⟨rfl, rfl, rfl, rfl, trivial⟩, ⟨hx.trans hx2, hlt, fun u hu => ?_⟩, by omega⟩
        rw [take_succ_get ht] at hu
        rcases List.mem_append.1 hu with hu | hu
        · exact hn u hu
        · obtain rfl : u = t := by simpa using hu
          exact Classical.byContradiction fun h => by simpa using hb.2 h
      · exact ⟨⟨k, rfl, ⟨fun _ => ⟨t, htm, hb.1 rfl⟩, fun _ => by omega⟩⟩, hx.trans hx2⟩
    · have : k = ks.length := by omega
      subst this
      rw [List.take_length] at hn
      exact ⟨⟨-1, rfl, ⟨fun h => by omega, fun ⟨t, ht, h⟩ => absurd (hn t ht) h⟩⟩, hx⟩
  refine ret_of_vc ttOk Tryz.func92 rfl (by kernel_rfl) (by kernel_rfl) ?_
  refine idx.mono ?_
  rintro r w1 ⟨⟨n, rfl, hn⟩, hx1⟩
  refine Cm.s (fun h => ?_) (fun h => ?_)
  · exact ⟨Says.t (hn.1 h), hx1⟩
  · exact ⟨Says.f fun e => h (hn.2 e), hx1⟩

/-- impl.areAtoms -/
theorem c_areAtoms {l : ByteArray} {ks : List Sx} (ha : Rose.AlL (fun s => s.size ≤ maxLen) ks) (hl : l.size ≤ maxLen) {w : World} {v : Value} {bs : List Nat} (hk : Kids encS w v ks bs) :
    Ret Tryz.prog 73 [.agg #[.string l, v]] w fun r w' => Says (fmS (.mk l ks)) r ∧ Ext w w' := c_areAtoms' (c_ContainsAtoms ks) ha hl hk
/-- impl.IsValidSExpr -/
theorem c_iIsValidSExpr {l : ByteArray} {ks : List Sx} (hl : l.size ≤ maxLen) (ha : Rose.AlL (fun s => s.size ≤ maxLen) ks) (hs : Rose.cnt ks ≤ 4294967296) {w : World} {v : Value} {bs : List Nat} (hk : Kids encS w v ks bs) :
    Ret Tryz.prog 46 [.agg #[.string l, v]] w fun r w' => Says (okS (.mk l ks)) r ∧ Ext w w' := by
  obtain ⟨ao, cap, rfl, hm, hcap⟩ := hk.form
  refine ret_of_vc ttOk Tryz.func46 rfl (by kernel_rfl) (by kernel_rfl) ?_
  refine Go1.bx ?_
  intro w1 hx1 hb1
  refine Ld.agg (vs := [.string l, .slice ao ks.length cap]) (Blk.lc0 (post := []) hb1) ?_
  refine (c_areAtoms ha hl (hk.ext hx1)).mono ?_
  rintro r w2 ⟨⟨b, rfl, hb⟩, hx2⟩
  cases b
  · exact ⟨Says.f fun h => by simpa using hb.2 h.2.1, hx1.trans hx2⟩
  · refine Ld.agg (vs := [.string l, .slice ao ks.length cap]) (Blk.lc0 (post := []) (hb1.ext hx2)) ?_
    refine (c_iSExprDepth ks hs l w2 _ bs (hk.ext (hx1.trans hx2))).mono ?_
    rintro r w3 ⟨rfl, hx3⟩
    refine Cm.s (fun h1 => ?_) (fun h1 => ?_)
    · refine Ld.agg (vs := [.string l, .slice ao ks.length cap]) (Blk.lc0 (post := []) (hb1.ext (hx2.trans hx3))) ?_
      refine (c_iSExprSize ks hs l w3 _ bs (hk.ext ((hx1.trans hx2).trans hx3))).mono ?_
      rintro r w4 ⟨rfl, hx4⟩
      refine Cm.s (fun h2 => ?_) (fun h2 => ?_)
      · exact ⟨Says.t ⟨by simp only [Rose.kids]; omega, hb.1 rfl, by omega⟩, ((hx1.trans hx2).trans hx3).trans hx4⟩
      · exact ⟨Says.f fun h => h2 (by have := h.1; simp only [Rose.kids] at this; omega), ((hx1.trans hx2).trans hx3).trans hx4⟩
    · exact ⟨Says.f fun h => h1 (by have := h.2.2; omega), (hx1.trans hx2).trans hx3⟩
end Go.Proofs.YtliigpmpeldebaaGreat

namespace Go.Proofs.YtliigpmpeldebaaGreat
open Go.Shelf

def sh_ren : Go.Shelf.Ren := ⟨fun | 166 => 76 | 167 => 77 | 169 => 48 | 240 => 94 | 276 => 102 | n => n, fun | 0 => 0 | 3 => 3 | 4 => 4 | 5 => 5 | 9 => 9 | 20 => 20 | 37 => 22 | 70 => 63 | 72 => 65 | 75 => 86 | 80 => 67 | 127 => 90 | 164 => 103 | n => n, fun | n => n⟩
theorem sh_lays166 : Go.Proofs.Lays.n166 Tryz.prog sh_ren := {
  mixed := by kernel_rfl
  f166 := Tryz.func76.trans (congrArg some (by kernel_rfl))
  f240 := Tryz.func94.trans (congrArg some (by kernel_rfl))
  f276 := Tryz.func102.trans (congrArg some (by kernel_rfl))
  t0 := Tryz.underlying0
  a0 := Tryz.isAgg0
  z0 := Tryz.sizeOf0
  v0 := Tryz.zeroValue0
  t3 := Tryz.underlying3
  a3 := Tryz.isAgg3
  z3 := Tryz.sizeOf3
  v3 := Tryz.zeroValue3
  t4 := Tryz.underlying4
  a4 := Tryz.isAgg4
  z4 := Tryz.sizeOf4
  v4 := Tryz.zeroValue4
  t9 := Tryz.underlying9
  a9 := Tryz.isAgg9
  z9 := Tryz.sizeOf9
  v9 := Tryz.zeroValue9
  t20 := Tryz.underlying20
  a20 := Tryz.isAgg20
  z20 := Tryz.sizeOf20
  v20 := Tryz.zeroValue20
  t37 := Tryz.underlying22
  a37 := Tryz.isAgg22
  z37 := Tryz.sizeOf22
  v37 := Tryz.zeroValue22
  t70 := Tryz.underlying63
  a70 := Tryz.isAgg63
  z70 := Tryz.sizeOf63
  v70 := Tryz.zeroValue63
  t72 := Tryz.underlying65
  a72 := Tryz.isAgg65
  z72 := Tryz.sizeOf65
  v72 := Tryz.zeroValue65
  t75 := Tryz.underlying86
  a75 := Tryz.isAgg86
  z75 := Tryz.sizeOf86
  v75 := Tryz.zeroValue86
  t164 := Tryz.underlying103
  a164 := Tryz.isAgg103
  z164 := Tryz.sizeOf103
  v164 := Tryz.zeroValue103 }
theorem sh_lays167 : Go.Proofs.Lays.n167 Tryz.prog sh_ren := {
  mixed := by kernel_rfl
  f167 := Tryz.func77.trans (congrArg some (by kernel_rfl))
  f240 := Tryz.func94.trans (congrArg some (by kernel_rfl))
  f276 := Tryz.func102.trans (congrArg some (by kernel_rfl))
  t0 := Tryz.underlying0
  a0 := Tryz.isAgg0
  z0 := Tryz.sizeOf0
  v0 := Tryz.zeroValue0
  t4 := Tryz.underlying4
  a4 := Tryz.isAgg4
  z4 := Tryz.sizeOf4
  v4 := Tryz.zeroValue4
  t5 := Tryz.underlying5
  a5 := Tryz.isAgg5
  z5 := Tryz.sizeOf5
  v5 := Tryz.zeroValue5
  t9 := Tryz.underlying9
  a9 := Tryz.isAgg9
  z9 := Tryz.sizeOf9
  v9 := Tryz.zeroValue9
  t20 := Tryz.underlying20
  a20 := Tryz.isAgg20
  z20 := Tryz.sizeOf20
  v20 := Tryz.zeroValue20
  t37 := Tryz.underlying22
  a37 := Tryz.isAgg22
  z37 := Tryz.sizeOf22
  v37 := Tryz.zeroValue22
  t70 := Tryz.underlying63
  a70 := Tryz.isAgg63
  z70 := Tryz.sizeOf63
  v70 := Tryz.zeroValue63
  t72 := Tryz.underlying65
  a72 := Tryz.isAgg65
  z72 := Tryz.sizeOf65
  v72 := Tryz.zeroValue65
  t75 := Tryz.underlying86
  a75 := Tryz.isAgg86
  z75 := Tryz.sizeOf86
  v75 := Tryz.zeroValue86
  t164 := Tryz.underlying103
  a164 := Tryz.isAgg103
  z164 := Tryz.sizeOf103
  v164 := Tryz.zeroValue103 }
theorem sh_lays169 : Go.Proofs.Lays.n169 Tryz.prog sh_ren := {
  mixed := by kernel_rfl
  f169 := Tryz.func48.trans (congrArg some (by kernel_rfl))
  t0 := Tryz.underlying0
  a0 := Tryz.isAgg0
  z0 := Tryz.sizeOf0
  v0 := Tryz.zeroValue0
  t3 := Tryz.underlying3
  a3 := Tryz.isAgg3
  z3 := Tryz.sizeOf3
  v3 := Tryz.zeroValue3
  t9 := Tryz.underlying9
  a9 := Tryz.isAgg9
  z9 := Tryz.sizeOf9
  v9 := Tryz.zeroValue9
  t37 := Tryz.underlying22
  a37 := Tryz.isAgg22
  z37 := Tryz.sizeOf22
  v37 := Tryz.zeroValue22
  t70 := Tryz.underlying63
  a70 := Tryz.isAgg63
  z70 := Tryz.sizeOf63
  v70 := Tryz.zeroValue63
  t72 := Tryz.underlying65
  a72 := Tryz.isAgg65
  z72 := Tryz.sizeOf65
  v72 := Tryz.zeroValue65
  t127 := Tryz.underlying90
  a127 := Tryz.isAgg90
  z127 := Tryz.sizeOf90
  v127 := Tryz.zeroValue90 }
theorem sh_lays240 : Go.Proofs.Lays.n240 Tryz.prog sh_ren := {
  mixed := by kernel_rfl
  f240 := Tryz.func94.trans (congrArg some (by kernel_rfl))
  f276 := Tryz.func102.trans (congrArg some (by kernel_rfl))
  t0 := Tryz.underlying0
  a0 := Tryz.isAgg0
  z0 := Tryz.sizeOf0
  v0 := Tryz.zeroValue0
  t4 := Tryz.underlying4
  a4 := Tryz.isAgg4
  z4 := Tryz.sizeOf4
  v4 := Tryz.zeroValue4
  t9 := Tryz.underlying9
  a9 := Tryz.isAgg9
  z9 := Tryz.sizeOf9
  v9 := Tryz.zeroValue9
  t20 := Tryz.underlying20
  a20 := Tryz.isAgg20
  z20 := Tryz.sizeOf20
  v20 := Tryz.zeroValue20
  t70 := Tryz.underlying63
  a70 := Tryz.isAgg63
  z70 := Tryz.sizeOf63
  v70 := Tryz.zeroValue63
  t72 := Tryz.underlying65
  a72 := Tryz.isAgg65
  z72 := Tryz.sizeOf65
  v72 := Tryz.zeroValue65
  t164 := Tryz.underlying103
  a164 := Tryz.isAgg103
  z164 := Tryz.sizeOf103
  v164 := Tryz.zeroValue103 }
theorem sh_extra : Go.Proofs.Builder.Extra Tryz.prog sh_ren := {
  sizeBuilder := by kernel_rfl
  liesBuilder := by kernel_rfl
  t5 := Tryz.underlying5
  a5 := Tryz.isAgg5
  z5 := Tryz.sizeOf5
  v5 := Tryz.zeroValue5
  infoByte := by kernel_rfl
  cellsByte := by kernel_rfl
  sizeByte := by kernel_rfl
  neB5 := by decide }
end Go.Proofs.YtliigpmpeldebaaGreat
