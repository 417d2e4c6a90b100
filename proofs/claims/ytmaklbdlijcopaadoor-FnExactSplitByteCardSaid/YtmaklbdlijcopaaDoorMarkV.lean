/- Contracts: the laws' marks on SExprs and on strings. Conditions: none. -/
import Derived.Test.YtmaklbdlijcopaaDoorMarkU
namespace Go.Proofs.YtmaklbdlijcopaaDoor
open Go.RowKit

/-- A marked SExpr's label. -/
def gS (k : Nat) : ByteArray := mt k


/-- A slice of one-cell elements that the call owns, at its i-th element. -/
theorem Row.at {w : World} {n0 : Nat} {ao : Option Addr} {n cap : Nat} {xs : List Value} {x : Value} {ys : List Value} {bs : List Nat} (h : Row w (.slice ao n cap) (xs ++ x :: ys) bs) (hf : Fresh n0 w bs) :
    ∃ a, ao = some a ∧ a.block ∈ bs ∧ w.cell? (a.add xs.length) = some x ∧ ∀ (w' : World) (u : Value), Chg (fun k => k = a.block) w w' → (∃ e cs', Blk w' a.block e cs') → w'.cell? (a.add xs.length) = some u →
      (∀ a' v, a' ≠ a.add xs.length → w.cell? a' = some v → w'.cell? a' = some v) → Row w' (.slice ao n cap) (xs ++ u :: ys) bs ∧ Fresh n0 w' bs := by
  obtain ⟨ao', cap', h1, hm, h2⟩ := h
  simp only [Value.slice.injEq] at h1
  obtain ⟨rfl, rfl, rfl⟩ := h1
  rcases h2 with ⟨h2, _⟩ | ⟨a, _, rfl, rfl, hL⟩
  · simp at h2
  · have hx := hL xs.length x (by rw [List.getElem?_append_right (Nat.le_refl _)]; simp)
    obtain ⟨c0, e0, hbl⟩ := hf.blk a.block (by simp)
    have hspot : a.spot = none := by
      cases hxs : xs with
      | nil =>
        rw [hxs] at hx
        have := (hbl.addr (a := a) rfl (by simpa [Addr.add] using hx)).1
        rw [this]
      | cons y l =>
        have := hL 0 y (by rw [hxs]; rfl)
        have := (hbl.addr (a := a) rfl (by simpa [Addr.add] using this)).1
        rw [this]
    refine ⟨a, rfl, by simp, hx, fun w' u hc ⟨e', cs', hb'⟩ hcell hoth => ⟨⟨some a, cap, by simp, by simpa using hm, .inr ⟨a, by simp, rfl, rfl, fun i v hv => ?_⟩⟩, ⟨hf.nodup, hf.lo, fun b hb => ?_⟩⟩⟩
    · by_cases hi : i = xs.length
      · subst hi
        rw [List.getElem?_append_right (Nat.le_refl _)] at hv
        simp at hv
        subst hv
        exact hcell
      · refine hoth _ _ (add_ne hspot hi) (hL i v ?_)
        rw [← hv]
        by_cases hlt : i < xs.length
        · rw [List.getElem?_append_left hlt, List.getElem?_append_left hlt]
        · rw [List.getElem?_append_right (by omega), List.getElem?_append_right (by omega)]
          obtain ⟨d, hd⟩ : ∃ d, i - xs.length = d + 1 := ⟨i - xs.length - 1, by omega⟩
          rw [hd]
          rfl
    · obtain rfl : b = a.block := by simpa using hb
      exact ⟨cs', e', hb'⟩

def mkStrs (k n : Nat) : List ByteArray := (List.range n).map fun i => mt (k + i)
theorem mkStrs_length (k n : Nat) : (mkStrs k n).length = n := by simp [mkStrs]
theorem mkStrs_succ (k n : Nat) : mkStrs k (n + 1) = mkStrs k n ++ [mt (k + n)] := by simp [mkStrs, List.range_succ]

/-- laws.markStringS -/
theorem c_markStringS {ss : List ByteArray} {w : World} {v : Value} {bs : List Nat} {n0 k : Nat} (hk : Strs w v ss bs) (hf : Fresh n0 w bs) (hs : k + ss.length ≤ 1152921504606846975) :
    Ret Tryd.prog 20 [v, .int .i64 k] w fun r w' => r = .int .i64 (k + ss.length : Nat) ∧ Chg (· ∈ bs) w w' ∧ Strs w' v (mkStrs k ss.length) bs ∧ Fresh n0 w' bs := by
  obtain ⟨ao, cap, rfl, hm, hcap⟩ := hk.form
  have hM : maxLen = 9223372036854775807 := rfl
  refine ret_of_vc ttOk Tryd.func20 rfl (by kernel_rfl) (by kernel_rfl) ?_
  refine Lp.go ttOk (by kernel_rfl) (fun i : Nat => [(0, .slice ao ss.length cap), (1, .int .i64 (k + i : Nat)), (5, .int .i64 i)])
    (fun i w' => Chg (· ∈ bs) w w' ∧ i ≤ ss.length ∧ Strs w' (.slice ao ss.length cap) (mkStrs k i ++ ss.drop i) bs ∧ Fresh n0 w' bs) (fun i => ss.length - i) 0
    ⟨rfl, rfl, rfl, trivial⟩ ⟨Chg.refl _ _, Nat.zero_le _, by simpa [mkStrs] using hk, hf⟩ ?_
  rintro i w1 ⟨hc1, hi, hk1, hf1⟩
  refine Cm.s (fun hlt => ?_) (fun hge => ?_)
  · have hlt : i < ss.length := by omega
    refine (c_markText (k + i) (by omega)).mono ?_
    rintro r w3 ⟨rfl, hx3⟩
    have hk3 := hk1.ext hx3
    have hf3 := hf1.ext hx3
    rw [List.drop_eq_getElem_cons hlt] at hk3
    have hk4 : Row w3 (.slice ao ss.length cap) ((mkStrs k i).map Value.string ++ Value.string ss[i] :: (ss.drop (i + 1)).map Value.string) bs := by
      have : ((mkStrs k i).map Value.string ++ Value.string ss[i] :: (ss.drop (i + 1)).map Value.string) = (mkStrs k i ++ ss[i] :: ss.drop (i + 1)).map Value.string := by rw [List.map_append, List.map_cons]
      rw [this]
      exact hk3
    obtain ⟨a, rfl, hab, hcell, hst⟩ := hk4.at hf3
    have hX : ((mkStrs k i).map Value.string).length = i := by simp [mkStrs]
    rw [hX] at hcell hst
    obtain ⟨c1, e1, hbl⟩ := hf3.blk a.block hab
    refine Go1.ix 1 hlt ?_
    rw [Nat.mul_one]
    refine Go0.set (v := .string (mt (k + i))) hbl (by unfold Addr.add; split <;> rfl) hcell (by simp [Value.oneCell']) (by simp [Value.cells]) ?_
    intro w4 hc4 hb4 hs4 hv4 ho4
    obtain ⟨hk5, hf5⟩ := hst w4 _ hc4 ⟨_, hb4⟩ hv4 ho4
    refine Wr.n (k + i + 1) (by omega) (by omega) ?_
    refine Wr.n (i + 1) (by omega) (by omega) ?_
    refine ⟨i + 1, ⟨rfl, rfl, rfl, trivial⟩, ⟨(hc1.ext hx3).sub hc4 fun b hb => hb ▸ hab, hlt, ?_, hf5⟩, by omega⟩
    rw [mkStrs_succ]
    have : ((mkStrs k i ++ [mt (k + i)]) ++ ss.drop (i + 1)).map Value.string = ((mkStrs k i).map Value.string ++ Value.string (mt (k + i)) :: (ss.drop (i + 1)).map Value.string) := by rw [List.map_append, List.map_append, List.append_assoc]; rfl
    show Row _ _ _ _
    rw [this]
    exact hk5
  · have : i = ss.length := by omega
    subst this
    rw [List.drop_length, List.append_nil] at hk1
    exact ⟨rfl, hc1, hk1, hf1⟩
/-- laws.heldStringS -/
theorem c_heldStringS {n : Nat} {w : World} {v : Value} {bs : List Nat} {k : Nat} (hk : Strs w v (mkStrs k n) bs) (hs : k + n ≤ 1152921504606846975) :
    Ret Tryd.prog 21 [v, .int .i64 k] w fun r w' => r = .int .i64 (k + n : Nat) ∧ Ext w w' := by
  obtain ⟨ao, cap, rfl, hm, hcap⟩ := hk.form
  rw [mkStrs_length] at hm hcap hk
  have hM : maxLen = 9223372036854775807 := rfl
  rw [mkStrs_length]
  refine ret_of_vc ttOk Tryd.func21 rfl (by kernel_rfl) (by kernel_rfl) ?_
  refine Lp.go ttOk (by kernel_rfl) (fun i : Nat => [(0, .slice ao n cap), (1, .int .i64 (k + i : Nat)), (5, .int .i64 i)])
    (fun i w' => Ext w w' ∧ i ≤ n) (fun i => n - i) 0 ⟨rfl, rfl, rfl, trivial⟩ ⟨Chg.refl _ _, Nat.zero_le _⟩ ?_
  rintro i w1 ⟨hx1, hi⟩
  refine Cm.s (fun hlt => ?_) (fun hge => ?_)
  · have hlt : i < n := by omega
    have hlt' : i < (mkStrs k n).length := by rw [mkStrs_length]; exact hlt
    have hk' : Strs w1 (.slice ao (mkStrs k n).length cap) (mkStrs k n) bs := by rw [mkStrs_length]; exact hk.ext hx1
    obtain ⟨a, rfl, hc⟩ := hk'.get hlt'
    have hgi : (mkStrs k n)[i] = mt (k + i) := by simp [mkStrs]
    rw [hgi] at hc
    refine Dr.x [0, 1, 2, 3, 4, 5, 6] ttOk ?_
    refine GoS.ix 1 hlt (LdS.x1 hc ?_)
    refine ⟨fun w2 hx2 => ?_⟩
    refine (c_markText (k + i) (by omega)).mono ?_
    rintro r w3 ⟨rfl, hx3⟩
    refine Af.ext (hx2.trans hx3) ?_
    refine Cm.v (c := false) (by simp) ?_
    intro w4 hx4
    refine Wr.n (k + i + 1) (by omega) (by omega) ?_
    refine Wr.n (i + 1) (by omega) (by omega) ?_
    exact ⟨i + 1, ⟨rfl, rfl, rfl, trivial⟩, ⟨((hx1.trans hx2).trans hx3).trans hx4, hlt⟩, by omega⟩
  · have : i = n := by omega
    subst this
    exact ⟨rfl, hx1⟩
end Go.Proofs.YtmaklbdlijcopaaDoor
