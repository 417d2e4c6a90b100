/- Contracts: the laws' marks on SExprs and on strings. Conditions: none. -/
import Derived.Test.YtdoanmhiedemaaaMarkU
namespace Go.Proofs.Ytdoanmhiedemaaa
open Go.RowKit

/-- A marked SExpr's label. -/
def gS (k : Nat) : ByteArray := mt k
def MkSSaid (ks : List Sx) : Prop := ∀ (w : World) (v : Value) (bs : List Nat) (n0 k : Nat), Kids encS w v ks bs → Fresh n0 w bs → k + 1 * Rose.cnt ks ≤ 1152921504606846975 → Ret Try.prog 80 [v, .int .i64 k] w (Marked encS gS 1 n0 k v ks bs w)

/-- laws.markSExprS -/
theorem c_markSExprS (ks : List Sx) : MkSSaid ks := by
  refine Rose.forest (fun ks ih => ?_) ks
  intro w v bs n0 k hk hf hs
  obtain ⟨ao, cap, rfl, hm, hcap⟩ := hk.form
  have hM : maxLen = 9223372036854775807 := rfl
  refine ret_of_vc ttOk Try.func80 rfl (by kernel_rfl) (by kernel_rfl) ?_
  refine Lp.go ttOk (by kernel_rfl) (fun i : Nat => [(0, .slice ao ks.length cap), (1, .int .i64 (k + 1 * Rose.cnt (ks.take i) : Nat)), (5, .int .i64 i)])
    (fun i w' => Chg (· ∈ bs) w w' ∧ i ≤ ks.length ∧ Kids encS w' (.slice ao ks.length cap) (mkRL gS 1 k (ks.take i) ++ ks.drop i) bs ∧ Fresh n0 w' bs) (fun i => ks.length - i) 0
    ⟨rfl, by rw [List.take_zero, Rose.cnt_nil]; rfl, rfl, trivial⟩ ⟨Chg.refl _ _, Nat.zero_le _, by rw [List.take_zero, mkRL_nil]; exact hk, hf⟩ ?_
  rintro i w1 ⟨hc1, hi, hk1, hf1⟩
  refine Cm.s (fun hlt => ?_) (fun hge => ?_)
  · have hlt : i < ks.length := by omega
    obtain ⟨t, ht⟩ : ∃ t, ks[i]? = some t := ⟨ks[i], List.getElem?_eq_getElem hlt⟩
    have htm := List.mem_of_getElem? ht
    have hct := Rose.cnt_take_le ht
    have hcm := Rose.cnt_mem htm
    rw [drop_get ht] at hk1
    have hX : (mkRL gS 1 k (ks.take i)).length = i := by rw [mkRL_length]; simp; omega
    have htk := mkRL_take (g := gS) (d := 1) ht k
    have hck := Rose.cnt_take ht
    generalize hXe : mkRL gS 1 k (ks.take i) = X at hk1 hX htk
    generalize hKe : k + 1 * Rose.cnt (ks.take i) = kk at htk
    -- the atom
    refine (c_markText kk (by omega)).mono ?_
    rintro r w3 ⟨rfl, hx3⟩
    have hk3 := hk1.ext hx3
    have hf3 := hf1.ext hx3
    obtain ⟨a, b2', vt', rfl, hab', hanb', hsb', hfb', hL', hKt', hst', _⟩ := hk3.at encS_sz hf3
    rw [hX] at hL' hst'
    obtain ⟨c1, e1, hbl'⟩ := hf3.blk a.block hab'
    refine Go1.ix 2 hlt (Go1.fl 0 ?_)
    refine Go0.set (v := .string (mt kk)) hbl' (by unfold Addr.add; split <;> (try split) <;> rfl) (hL' 0 _ rfl) (by simp [Value.oneCell']) (by simp [Value.cells]) ?_
    intro w4 hc4 hb4 hs4 hv4 ho4
    obtain ⟨hk4, hf4⟩ := hst' w4 (mt kk) 0 (.string (mt kk)) (by simp [encS]) (fun j hj => by
      match j with
      | 0 => exact absurd rfl hj
      | j + 1 => rfl) rfl hc4 ⟨_, hb4⟩ hv4 ho4
    refine Wr.n (kk + 1) (by omega) (by omega) ?_
    -- the arguments
    obtain ⟨a2, b3, vt3, ha2, hab2, hanb2, hsb2, hfb2, hL2, hKt2, _, hkd⟩ := hk4.at encS_sz hf4
    cases ha2
    rw [hX] at hL2
    refine Go1.ix 2 hlt (Go1.fl 1 (Ld.one (hL2 1 _ rfl) ?_))
    refine (ih t htm w4 vt3 b3 n0 (kk + 1) hKt2 hfb2 (by omega)).mono ?_
    rintro r w5 ⟨rfl, hc5, hk5, hf5⟩
    obtain ⟨hk6, hf6⟩ := hkd w5 _ (mkRL_length _ _) hc5 hk5 hf5
    refine Wr.n (i + 1) (by omega) (by omega) ?_
    have hab0 : a.block ∈ bs := hab'
    refine ⟨i + 1, ⟨rfl, ?_, rfl, trivial⟩, ⟨?_, hlt, ?_, hf6⟩, by omega⟩
    · show some (Value.int .i64 _) = some (Value.int .i64 _)
      rw [show kk + 1 + 1 * Rose.cnt t.kids = k + 1 * Rose.cnt (ks.take (i + 1)) by omega]
    · have s4 : Chg (· ∈ bs) w w4 := (hc1.ext hx3).sub hc4 fun b hb => hb ▸ hab0
      exact s4.sub hc5 fun b hb => hsb2 b hb
    · rw [htk, List.append_assoc]
      exact hk6
  · have : i = ks.length := by omega
    subst this
    rw [List.take_length, List.drop_length, List.append_nil] at hk1
    refine ⟨?_, hc1, hk1, hf1⟩
    rw [List.take_length]
/-- laws.markSExpr -/
theorem c_markSExpr {l : ByteArray} {ks : List Sx} {w : World} {v : Value} {bs : List Nat} {n0 k : Nat} (hk : Kids encS w v ks bs) (hf : Fresh n0 w bs) (hs : k + 1 * Rose.cnt ks ≤ 1152921504606846975) : Ret Try.prog 30 [.agg #[.string l, v], .int .i64 k] w (Marked encS gS 1 n0 k v ks bs w) := by
  refine ret_of_vc ttOk Try.func30 rfl (by kernel_rfl) (by kernel_rfl) ?_
  refine Go1.bx ?_
  intro w1 hx1 hb1
  refine Go1.fl 1 (Ld.one hb1.at1 ?_)
  refine (c_markSExprS ks w1 v bs n0 k (hk.ext hx1) (hf.ext hx1) hs).mono ?_
  rintro r w2 ⟨rfl, hc, hk2, hf2⟩
  exact ⟨rfl, hx1.chgM hc, hk2, hf2⟩

def HdSSaid (ks : List Sx) : Prop := ∀ (w : World) (v : Value) (bs : List Nat) (k : Nat), Kids encS w v (mkRL gS 1 k ks) bs → k + 1 * Rose.cnt ks ≤ 1152921504606846975 → Ret Try.prog 81 [v, .int .i64 k] w fun r w' => r = .int .i64 (k + 1 * Rose.cnt ks : Nat) ∧ Ext w w'

/-- laws.heldSExprS -/
theorem c_heldSExprS (ks : List Sx) : HdSSaid ks := by
  refine Rose.forest (fun ks ih => ?_) ks
  intro w v bs k hk hs
  obtain ⟨ao, cap, rfl, hm, hcap⟩ := hk.form
  rw [mkRL_length] at hm hcap hk
  have hM : maxLen = 9223372036854775807 := rfl
  rw [mkRL_length]
  refine ret_of_vc ttOk Try.func81 rfl (by kernel_rfl) (by kernel_rfl) ?_
  refine Lp.go ttOk (by kernel_rfl) (fun i : Nat => [(0, .slice ao ks.length cap), (1, .int .i64 (k + 1 * Rose.cnt (ks.take i) : Nat)), (5, .int .i64 i)])
    (fun i w' => Ext w w' ∧ i ≤ ks.length) (fun i => ks.length - i) 0
    ⟨rfl, by rw [List.take_zero, Rose.cnt_nil]; rfl, rfl, trivial⟩ ⟨Chg.refl _ _, Nat.zero_le _⟩ ?_
  rintro i w1 ⟨hx1, hi⟩
  refine Cm.s (fun hlt => ?_) (fun hge => ?_)
  · have hlt : i < ks.length := by omega
    obtain ⟨t, ht⟩ : ∃ t, ks[i]? = some t := ⟨ks[i], List.getElem?_eq_getElem hlt⟩
    have htm := List.mem_of_getElem? ht
    have hct := Rose.cnt_take_le ht
    have hck := Rose.cnt_take ht
    obtain ⟨a, t', v1, b1, rfl, ht', hc, hkt, _⟩ := (hk.ext hx1).get encS_sz hlt
    rw [mkRL_get ht] at ht'
    obtain rfl := Option.some.inj ht'
    simp only [Rose.lab, Rose.kids] at hc hkt
    generalize hKe : k + 1 * Rose.cnt (ks.take i) = kk at hc hkt
    refine Dr.x [0, 1, 2, 3, 4, 5, 6, 7] ttOk ?_
    refine GoS.ix 2 hlt (GoS.fl 0 (LdS.x1 (hc 0 _ rfl) ?_))
    refine ⟨fun w2 hx2 => ?_⟩
    refine (c_markText kk (by omega)).mono ?_
    rintro r w3 ⟨rfl, hx3⟩
    refine Af.ext (hx2.trans hx3) ?_
    refine Cm.v (c := false) (by simp [gS]) ?_
    intro w4 hx4
    have hx14 := (hx2.trans hx3).trans hx4
    refine Wr.n (kk + 1) (by omega) (by omega) ?_
    refine Go1.ix 2 hlt (Go1.fl 1 (Ld.one (hx14.cell (hc 1 _ rfl)) ?_))
    refine (ih t htm w4 v1 b1 (kk + 1) (hkt.ext hx14) (by omega)).mono ?_
    rintro r w5 ⟨rfl, hx5⟩
    refine Cm.f (by omega) ?_
    refine Wr.n (i + 1) (by omega) (by omega) ?_
    refine ⟨i + 1, ⟨rfl, ?_, rfl, trivial⟩, ⟨(hx1.trans hx14).trans hx5, hlt⟩, by omega⟩
    show some (Value.int .i64 _) = some (Value.int .i64 _)
    rw [show kk + 1 + 1 * Rose.cnt t.kids = k + 1 * Rose.cnt (ks.take (i + 1)) by omega]
  · have : i = ks.length := by omega
    subst this
    refine ⟨?_, hx1⟩
    rw [List.take_length]
/-- laws.heldSExpr -/
theorem c_heldSExpr {l : ByteArray} {ks : List Sx} {w : World} {v : Value} {bs : List Nat} {k : Nat} (hk : Kids encS w v (mkRL gS 1 k ks) bs) (hs : k + 1 * Rose.cnt ks ≤ 1152921504606846975) : Ret Try.prog 31 [.agg #[.string l, v], .int .i64 k] w fun r w' => r = .int .i64 (k + 1 * Rose.cnt ks : Nat) ∧ Ext w w' := by
  refine ret_of_vc ttOk Try.func31 rfl (by kernel_rfl) (by kernel_rfl) ?_
  refine Go1.bx ?_
  intro w1 hx1 hb1
  refine Go1.fl 1 (Ld.one hb1.at1 ?_)
  refine (c_heldSExprS ks w1 v bs k (hk.ext hx1) hs).mono ?_
  rintro r w2 ⟨rfl, hx2⟩
  refine Cm.f (by omega) ?_
  exact ⟨rfl, hx1.trans hx2⟩

/-- A slice of one-cell elements that the call owns, at its i-th element. -/
theorem Row.at {w : World} {n0 : Nat} {ao : Option Addr} {n cap : Nat} {xs : List Value} {x : Value} {ys : List Value} {bs : List Nat} (h : Row w (.slice ao n cap) (xs ++ x :: ys) bs) (hf : Fresh n0 w bs) :
    ∃ a, ao = some a ∧ a.block ∈ bs ∧ w.cell? (a.add xs.length) = some x ∧ ∀ (w' : World) (u : Value), Chg (fun k => k = a.block) w w' → (∃ e cs', Blk w' a.block e cs') → w'.cell? (a.add xs.length) = some u →
      (∀ a' v, a' ≠ a.add xs.length → w.cell? a' = some v → w'.cell? a' = some v) → Row w' (.slice ao n cap) (xs ++ u :: ys) bs ∧ Fresh n0 w' bs := by
  obtain ⟨ao', cap', h1, hm, h2⟩ := h
  simp only [Value.slice.injEq] at h1
  obtain ⟨rfl, rfl, rfl⟩ := h1
  rcases h2 with ⟨h2, _⟩ | ⟨a, _, rfl, rfl, hL⟩
  · simp at h2
  · have hx := hL xs.length x (by rw [List.getElem?_append_right (Nat.le_refl _)]; simp)
    obtain ⟨c0, e0, hbl⟩ := hf.blk a.block (by simp)
    have hspot : a.spot = none := by
      cases hxs : xs with
      | nil =>
        rw [hxs] at hx
        have := (hbl.addr (a := a) rfl (by simpa [Addr.add] using hx)).1
        rw [this]
      | cons y l =>
        have := hL 0 y (by rw [hxs]; rfl)
        have := (hbl.addr (a := a) rfl (by simpa [Addr.add] using this)).1
        rw [this]
    refine ⟨a, rfl, by simp, hx, fun w' u hc ⟨e', cs', hb'⟩ hcell hoth => ⟨⟨some a, cap, by simp, by simpa using hm, .inr ⟨a, by simp, rfl, rfl, fun i v hv => ?_⟩⟩, ⟨hf.nodup, hf.lo, fun b hb => ?_⟩⟩⟩
    · by_cases hi : i = xs.length
      · subst hi
        rw [List.getElem?_append_right (Nat.le_refl _)] at hv
        simp at hv
        subst hv
        exact hcell
      · refine hoth _ _ (add_ne hspot hi) (hL i v ?_)
        rw [← hv]
        by_cases hlt : i < xs.length
        · rw [List.getElem?_append_left hlt, List.getElem?_append_left hlt]
        · rw [List.getElem?_append_right (by omega), List.getElem?_append_right (by omega)]
          obtain ⟨d, hd⟩ : ∃ d, i - xs.length = d + 1 := ⟨i - xs.length - 1, by omega⟩
          rw [hd]
          rfl
    · obtain rfl : b = a.block := by simpa using hb
      exact ⟨cs', e', hb'⟩

def mkStrs (k n : Nat) : List ByteArray := (List.range n).map fun i => mt (k + i)
theorem mkStrs_length (k n : Nat) : (mkStrs k n).length = n := by simp [mkStrs]
theorem mkStrs_succ (k n : Nat) : mkStrs k (n + 1) = mkStrs k n ++ [mt (k + n)] := by simp [mkStrs, List.range_succ]

end Go.Proofs.Ytdoanmhiedemaaa
