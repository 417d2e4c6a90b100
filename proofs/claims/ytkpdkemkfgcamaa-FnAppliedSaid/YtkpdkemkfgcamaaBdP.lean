/- What a match makes of its pattern; contracts of equalTypes and big. Conditions: none. -/
import Derived.Test.YtkpdkemkfgcamaaBdO
import Derived.Test.YtkpdkemkfgcamaaBdB
import Derived.Test.YtkpdkemkfgcamaaTyB
namespace Go.Proofs.Ytkpdkemkfgcamaa
open Go.RowKit

/-- What xs binds, ys binds alike. -/
def BExt (xs ys : List Bi) : Prop := ∀ s u, lookO s xs = some u → lookO s ys = some u
theorem BExt.refl (xs : List Bi) : BExt xs xs := fun _ _ h => h
theorem BExt.trans {xs ys zs : List Bi} (h : BExt xs ys) (k : BExt ys zs) : BExt xs zs := fun s u e => k s u (h s u e)
theorem lookO_app {s : ByteArray} {u : Tp} {x : Bi} : ∀ {xs : List Bi}, lookO s xs = some u → lookO s (xs ++ [x]) = some u
  | [], h => by cases h
  | y :: ys, h => by
    simp only [lookO, List.cons_append] at h ⊢
    by_cases e : y.1 = s
    · rw [if_pos e] at h ⊢; exact h
    · rw [if_neg e] at h ⊢; exact lookO_app h
theorem lookO_new {s : ByteArray} {u : Tp} : ∀ {xs : List Bi}, lookO s xs = none → lookO s (xs ++ [(s, u)]) = some u
  | [], _ => by simp [lookO]
  | y :: ys, h => by
    simp only [lookO, List.cons_append] at h ⊢
    by_cases e : y.1 = s
    · rw [if_pos e] at h; cases h
    · rw [if_neg e] at h ⊢; exact lookO_new h
def MatchAp (ps : List Tp) : Prop := ∀ (ts : List Tp) (xs ys : List Bi), ps.length = ts.length → matchL ps ts xs = some ys → BExt xs ys ∧ ∀ zs, BExt ys zs → apL zs ps = ts
theorem matchT_ap {p t : Tp} (ih : MatchAp p.kids) {xs ys : List Bi} (h : matchT p t xs = some ys) : BExt xs ys ∧ ∀ zs, BExt ys zs → apT zs p = t := by
  have ep : ∀ zs, apT zs p = apT zs (.mk p.lab p.kids) := fun zs => by rw [p.eta]
  rw [matchT_eq] at h
  by_cases h1 : p.lab.1 = 1
  · rw [if_pos h1] at h
    cases hl : lookO p.lab.2 xs with
    | some u =>
      rw [hl] at h
      simp only at h
      by_cases e : u = t
      · rw [if_pos e] at h
        obtain rfl : xs = ys := by simpa using h
        subst e
        exact ⟨BExt.refl _, fun zs hz => by rw [ep, apT_eq, if_pos h1, hz _ _ hl]; rfl⟩
      · rw [if_neg e] at h; cases h
    | none =>
      rw [hl] at h
      obtain rfl : xs ++ [(p.lab.2, t)] = ys := by simpa using h
      exact ⟨fun s u e => lookO_app e, fun zs hz => by rw [ep, apT_eq, if_pos h1, hz _ _ (lookO_new hl)]; rfl⟩
  · rw [if_neg h1] at h
    by_cases h2 : p.lab = t.lab ∧ p.kids.length = t.kids.length
    · rw [if_pos h2] at h
      obtain ⟨h3, h4⟩ := ih _ _ _ h2.2 h
      exact ⟨h3, fun zs hz => by rw [ep, apT_eq, if_neg h1, h4 zs hz, h2.1]; exact t.eta⟩
    · rw [if_neg h2] at h; cases h
theorem matchL_ap (ps : List Tp) : MatchAp ps := by
  refine Rose.forest (p := MatchAp) (fun ps ih => ?_) ps
  induction ps with
  | nil =>
    intro ts xs ys hl h
    cases ts with
    | nil =>
      obtain rfl : xs = ys := by simpa [matchL] using h
      exact ⟨BExt.refl _, fun zs _ => by rw [apL]⟩
    | cons t ts => simp at hl
  | cons p ps ihp =>
    intro ts xs ys hl h
    cases ts with
    | nil => simp at hl
    | cons t ts =>
      rw [matchL_cons] at h
      cases hm : matchT p t xs with
      | none => rw [hm] at h; cases h
      | some us =>
        rw [hm] at h
        obtain ⟨h1, h2⟩ := matchT_ap (ih p List.mem_cons_self) hm
        obtain ⟨h3, h4⟩ := ihp (fun q hq => ih q (List.mem_cons_of_mem _ hq)) ts us ys (by simpa using hl) h
        exact ⟨h1.trans h3, fun zs hz => by rw [apL_cons, h2 zs (h3.trans hz), h4 zs hz]⟩
theorem mAll_ap {ps ts : List Tp} {ys : List Bi} (h : mAll ps ts [] = some ys) : apL ys ps = ts := by
  unfold mAll at h
  by_cases hl : ps.length = ts.length
  · rw [if_pos hl] at h
    exact (matchL_ap ps ts [] ys hl h).2 ys (BExt.refl _)
  · rw [if_neg hl] at h; cases h

/-- laws.equalTypes -/
theorem c_equalTypes {ss tt : List Tp} {w : World} {v u : Value} {bs cs : List Nat} (hk : Kids encT w v ss bs) (gk : Kids encT w u tt cs) :
    Ret Try.prog 32 [v, u] w fun r w' => (∃ b, r = .bool b ∧ (b = true ↔ ss = tt)) ∧ Ext w w' := by
  obtain ⟨ao, cap, rfl, hm, hcap⟩ := hk.form
  obtain ⟨ao2, cap2, rfl, hm2, hcap2⟩ := gk.form
  have hM : maxLen = 9223372036854775807 := rfl
  refine ret_of_vc ttOkD Try.func32 rfl (by kernel_rfl) (by kernel_rfl) ?_
  refine Cm.ns (fun hne => ⟨⟨false, rfl, by simp; intro e; exact hne (by rw [e])⟩, Chg.refl _ _⟩) (fun he => ?_)
  have he : ss.length = tt.length := by omega
  refine Lp.go ttOkD (by kernel_rfl) (fun k : Nat => [(0, .slice ao ss.length cap), (1, .slice ao2 tt.length cap2), (5, .int .i64 k)]) (fun k w' => Ext w w' ∧ k ≤ ss.length ∧ ss.take k = tt.take k) (fun k => ss.length - k) 0
    ⟨rfl, rfl, rfl, trivial⟩ ⟨Chg.refl _ _, Nat.zero_le _, rfl⟩ ?_
  rintro k w1 ⟨hx, hk1, hn⟩
  refine Cm.s (fun hlt => ?_) (fun hge => ?_)
  · have hlt : k < ss.length := by omega
    have hlt2 : k < tt.length := by omega
    obtain ⟨a, t, v1, b1, rfl, ht, hc, hkt, _⟩ := (hk.ext hx).get encT_sz hlt
    obtain ⟨a2, t2, v2, b2, rfl, ht2, hc2, hkt2, _⟩ := (gk.ext hx).get encT_sz hlt2
    obtain ⟨ax, cx, rfl, _, _⟩ := hkt.form
    obtain ⟨ay, cy, rfl, _, _⟩ := hkt2.form
    refine Dr.x [0, 1, 2, 3, 4, 5, 6, 7, 8, 9] ttOkD ?_
    refine GoS.ix 3 hlt (LdS.xn (vs := [.int .i64 t.lab.1, .string t.lab.2, .slice ax t.kids.length cx]) hc ?_)
    refine GoS.ix 3 hlt2 (LdS.xn (vs := [.int .i64 t2.lab.1, .string t2.lab.2, .slice ay t2.kids.length cy]) hc2 ?_)
    refine ⟨fun w2 hx2 => ?_⟩
    refine (c_sEqualType (hkt.ext hx2) (hkt2.ext hx2)).mono ?_
    rintro _ w3 ⟨⟨b, rfl, hb⟩, hx3⟩
    refine Af.ext (hx2.trans hx3) ?_
    cases b with
    | false =>
      intro w4 hx4
      refine ⟨⟨false, rfl, ?_⟩, ((hx.trans hx2).trans hx3).trans hx4⟩
      simp only [Bool.false_eq_true, false_iff]
      rintro rfl
      rw [ht] at ht2
      obtain rfl : t = t2 := by simpa using ht2
      simpa using hb.2 ⟨rfl, rfl⟩
    | true =>
      intro w4 hx4
      obtain ⟨e1, e2⟩ := hb.1 rfl
      obtain rfl : t = t2 := Rose.ext e1 e2
      refine Wr.n (k + 1) (by omega) (by omega) ?_
      refine ⟨k + 1, ⟨rfl, rfl, rfl, trivial⟩, ⟨((hx.trans hx2).trans hx3).trans hx4, hlt, ?_⟩, by omega⟩
      rw [take_succ_get ht, take_succ_get ht2, hn]
  · have : k = ss.length := by omega
    subst this
    rw [List.take_length, he, List.take_length] at hn
    exact ⟨⟨true, rfl, by simp [hn]⟩, hx⟩
/-- laws.big -/
theorem c_big2 {w : World} {v : Value} {zs : List Int} {bs : List Nat} (hr : Row w v (zs.map (Value.int .u8)) bs) : Ret Try.prog 27 [v] w fun r w' => (∃ b, r = .bool b ∧ (b = false → zs.length ≤ 1048576)) ∧ w' = w := by
  obtain ⟨ao, cap, rfl, hm, hcap⟩ := hr.form
  refine ret_of_vc ttOkD Try.func27 rfl (by kernel_rfl) (by kernel_rfl) ?_
  refine Cm.s (fun h => ⟨⟨_, rfl, by simp⟩, rfl⟩) (fun h => ⟨⟨_, rfl, fun _ => ?_⟩, rfl⟩)
  simp only [List.length_map] at h
  omega
end Go.Proofs.Ytkpdkemkfgcamaa
