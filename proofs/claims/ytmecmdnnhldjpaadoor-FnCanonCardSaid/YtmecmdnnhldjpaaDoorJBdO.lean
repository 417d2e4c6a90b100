/- Draws: DrawMatch, DrawMatchAll; What a match makes of its pattern; contracts of equalTypes and big. Conditions: none. -/
import Derived.Test.YtmecmdnnhldjpaaDoorBdN
import Derived.Test.YtmecmdnnhldjpaaDoorBdI
import Derived.Test.YtmecmdnnhldjpaaDoorStrF
import Derived.Test.YtmecmdnnhldjpaaDoorJBdA
import Derived.Test.YtmecmdnnhldjpaaDoorJTyB
namespace Go.Proofs.YtmecmdnnhldjpaaDoor
open Go.RowKit

theorem kids_1 {w : World} {b : Nat} {e : TypeId} {p : Tp} {vp : Value} {bp : List Nat} (hb : Blk w b e [.int .i64 p.lab.1, .string p.lab.2, vp]) (hk : Kids encT w vp p.kids bp) : ∃ cs, Kids encT w (.slice (some ⟨b, 0, none⟩) 1 1) [p] cs := by
  obtain ⟨cs, h, _⟩ := Kids.of_blk (enc := encT) (ts := [p]) (vs := [vp]) (rest := []) (n := 1) (cap := 1) (bs := bp) (by simpa [fl, encT] using hb) ⟨bp, [], by simp, hk, rfl⟩ rfl ⟨by decide, Nat.le_refl _⟩
  exact ⟨cs, h⟩
theorem kids_2 {w : World} {b : Nat} {e : TypeId} {p q : Tp} {vp vq : Value} {bp bq : List Nat} (hb : Blk w b e [.int .i64 p.lab.1, .string p.lab.2, vp, .int .i64 q.lab.1, .string q.lab.2, vq]) (hk : Kids encT w vp p.kids bp) (gk : Kids encT w vq q.kids bq) : ∃ cs, Kids encT w (.slice (some ⟨b, 0, none⟩) 2 2) [p, q] cs := by
  obtain ⟨cs, h, _⟩ := Kids.of_blk (enc := encT) (ts := [p, q]) (vs := [vp, vq]) (rest := []) (n := 2) (cap := 2) (bs := bp ++ bq) (by simpa [fl, encT] using hb) ⟨bp, bq, by simp, hk, bq, [], by simp, gk, rfl⟩ rfl ⟨by decide, Nat.le_refl _⟩
  exact ⟨cs, h⟩

theorem Grow.row {w : World} {e : TypeId} {v : Value} {xs : List Value} {n : Nat} {O : List Nat} (h : Grow w e 1 v n xs O) (hm : n ≤ maxLen) : ∃ bs, Row w v xs bs ∧ bs.Sublist O := by
  obtain ⟨h0, h1⟩ := h
  have hn : n = xs.length := by simpa using h0.symm
  rcases h1 with ⟨rfl, rfl, rfl⟩ | ⟨g, cap, rest, rfl, rfl, hb, hc, _, _⟩
  · obtain rfl : xs = [] := List.eq_nil_of_length_eq_zero hn.symm
    exact ⟨[], ⟨none, 0, rfl, ⟨Nat.zero_le _, Nat.zero_le _⟩, .inl ⟨rfl, rfl⟩⟩, List.Sublist.refl _⟩
  · subst hn
    by_cases h0 : xs = []
    · subst h0
      exact ⟨[], ⟨_, cap, rfl, ⟨Nat.zero_le _, Nat.zero_le _⟩, .inl ⟨rfl, rfl⟩⟩, by simp⟩
    · exact ⟨[g], ⟨_, cap, rfl, ⟨hm, hc⟩, .inr ⟨⟨g, 0, none⟩, h0, rfl, rfl, Blk.lc0 hb⟩⟩, List.Sublist.refl _⟩

end Go.Proofs.YtmecmdnnhldjpaaDoor

namespace Go.Proofs.YtmecmdnnhldjpaaDoor
open Go.RowKit

/-- What xs binds, ys binds alike. -/
def BExt (xs ys : List Bi) : Prop := ∀ s u, lookO s xs = some u → lookO s ys = some u
theorem BExt.refl (xs : List Bi) : BExt xs xs := fun _ _ h => h
theorem BExt.trans {xs ys zs : List Bi} (h : BExt xs ys) (k : BExt ys zs) : BExt xs zs := fun s u e => k s u (h s u e)
theorem lookO_app {s : ByteArray} {u : Tp} {x : Bi} : ∀ {xs : List Bi}, lookO s xs = some u → lookO s (xs ++ [x]) = some u
  | [], h => by cases h
  | y :: ys, h => by
    simp only [lookO, List.cons_append] at h ⊢
    by_cases e : y.1 = s
    · rw [if_pos e] at h ⊢; exact h
    · rw [if_neg e] at h ⊢; exact lookO_app h
theorem lookO_new {s : ByteArray} {u : Tp} : ∀ {xs : List Bi}, lookO s xs = none → lookO s (xs ++ [(s, u)]) = some u
  | [], _ => by simp [lookO]
  | y :: ys, h => by
    simp only [lookO, List.cons_append] at h ⊢
    by_cases e : y.1 = s
    · rw [if_pos e] at h; cases h
    · rw [if_neg e] at h ⊢; exact lookO_new h
def MatchAp (ps : List Tp) : Prop := ∀ (ts : List Tp) (xs ys : List Bi), ps.length = ts.length → matchL ps ts xs = some ys → BExt xs ys ∧ ∀ zs, BExt ys zs → apL zs ps = ts
theorem matchT_ap {p t : Tp} (ih : MatchAp p.kids) {xs ys : List Bi} (h : matchT p t xs = some ys) : BExt xs ys ∧ ∀ zs, BExt ys zs → apT zs p = t := by
  have ep : ∀ zs, apT zs p = apT zs (.mk p.lab p.kids) := fun zs => by rw [p.eta]
  rw [matchT_eq] at h
  by_cases h1 : p.lab.1 = 1
  · rw [if_pos h1] at h
    cases hl : lookO p.lab.2 xs with
    | some u =>
      rw [hl] at h
      simp only at h
      by_cases e : u = t
      · rw [if_pos e] at h
        obtain rfl : xs = ys := by simpa using h
        subst e
        exact ⟨BExt.refl _, fun zs hz => by rw [ep, apT_eq, if_pos h1, hz _ _ hl]; rfl⟩
      · rw [if_neg e] at h; cases h
    | none =>
      rw [hl] at h
      obtain rfl : xs ++ [(p.lab.2, t)] = ys := by simpa using h
      exact ⟨fun s u e => lookO_app e, fun zs hz => by rw [ep, apT_eq, if_pos h1, hz _ _ (lookO_new hl)]; rfl⟩
  · rw [if_neg h1] at h
    by_cases h2 : p.lab = t.lab ∧ p.kids.length = t.kids.length
    · rw [if_pos h2] at h
      obtain ⟨h3, h4⟩ := ih _ _ _ h2.2 h
      exact ⟨h3, fun zs hz => by rw [ep, apT_eq, if_neg h1, h4 zs hz, h2.1]; exact t.eta⟩
    · rw [if_neg h2] at h; cases h
theorem matchL_ap (ps : List Tp) : MatchAp ps := by
  refine Rose.forest (p := MatchAp) (fun ps ih => ?_) ps
  induction ps with
  | nil =>
    intro ts xs ys hl h
    cases ts with
    | nil =>
      obtain rfl : xs = ys := by simpa [matchL] using h
      exact ⟨BExt.refl _, fun zs _ => by rw [apL]⟩
    | cons t ts => simp at hl
  | cons p ps ihp =>
    intro ts xs ys hl h
    cases ts with
    | nil => simp at hl
    | cons t ts =>
      rw [matchL_cons] at h
      cases hm : matchT p t xs with
      | none => rw [hm] at h; cases h
      | some us =>
        rw [hm] at h
        obtain ⟨h1, h2⟩ := matchT_ap (ih p List.mem_cons_self) hm
        obtain ⟨h3, h4⟩ := ihp (fun q hq => ih q (List.mem_cons_of_mem _ hq)) ts us ys (by simpa using hl) h
        exact ⟨h1.trans h3, fun zs hz => by rw [apL_cons, h2 zs (h3.trans hz), h4 zs hz]⟩
theorem mAll_ap {ps ts : List Tp} {ys : List Bi} (h : mAll ps ts [] = some ys) : apL ys ps = ts := by
  unfold mAll at h
  by_cases hl : ps.length = ts.length
  · rw [if_pos hl] at h
    exact (matchL_ap ps ts [] ys hl h).2 ys (BExt.refl _)
  · rw [if_neg hl] at h; cases h

/-- laws.big -/
theorem c_big2 {w : World} {v : Value} {zs : List Int} {bs : List Nat} (hr : Row w v (zs.map (Value.int .u8)) bs) : Ret Tryd.prog 29 [v] w fun r w' => (∃ b, r = .bool b ∧ (b = false → zs.length ≤ 1048576)) ∧ w' = w := by
  obtain ⟨ao, cap, rfl, hm, hcap⟩ := hr.form
  refine ret_of_vc ttOkD Tryd.func29 rfl (by kernel_rfl) (by kernel_rfl) ?_
  refine Cm.s (fun h => ⟨⟨_, rfl, by simp⟩, rfl⟩) (fun h => ⟨⟨_, rfl, fun _ => ?_⟩, rfl⟩)
  simp only [List.length_map] at h
  omega
end Go.Proofs.YtmecmdnnhldjpaaDoor
