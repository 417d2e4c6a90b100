/- Matching, in plain Lean; Contracts: matching. Conditions: none. -/
import Derived.Test.YtkpdkemkfgcamaaJBdE
namespace Go.Proofs.Ytkpdkemkfgcamaa
open Go.RowKit

open Classical in
mutual
/-- What makes the pattern equal to the type, on top of what is bound; none: nothing does. -/
noncomputable def matchT : Tp → Tp → List Bi → Option (List Bi)
  | .mk l ks, t, s => if l.1 = 1 then (match lookO l.2 s with
      | some u => if u = t then some s else none
      | none => some (s ++ [(l.2, t)])) else if l = t.lab ∧ ks.length = t.kids.length then matchL ks t.kids s else none
noncomputable def matchL : List Tp → List Tp → List Bi → Option (List Bi)
  | [], _, s => some s
  | _ :: _, [], s => some s
  | p :: ps, t :: ts, s => match matchT p t s with
    | some s' => matchL ps ts s'
    | none => none
end

open Classical in
theorem matchT_eq (p t : Tp) (s : List Bi) : matchT p t s = if p.lab.1 = 1 then (match lookO p.lab.2 s with
      | some u => if u = t then some s else none
      | none => some (s ++ [(p.lab.2, t)])) else if p.lab = t.lab ∧ p.kids.length = t.kids.length then matchL p.kids t.kids s else none := by
  cases p
  rw [matchT]
  rfl
theorem matchL_cons (p t : Tp) (ps ts : List Tp) (s : List Bi) : matchL (p :: ps) (t :: ts) s = (matchT p t s).bind (matchL ps ts) := by
  simp only [matchL]
  cases matchT p t s <;> rfl
end Go.Proofs.Ytkpdkemkfgcamaa

namespace Go.Proofs.Ytkpdkemkfgcamaa
open Go.RowKit

/-- What a step of matching answers: the bindings, and whether there are some. -/
def MatchR (n0 : Nat) (w : World) (o : Option (List Bi)) (O cs : List Nat) (res : Value) (w' : World) : Prop :=
  ∃ r' ok, res = .tuple #[r', .bool ok] ∧ Chg (· ∈ O) w w' ∧ ok = o.isSome ∧ ∀ xs', o = some xs' → ∃ O' cs', GrowB n0 w' r' xs' O' cs' ∧ (∀ b ∈ O', b ∈ O ∨ w.heap.size ≤ b) ∧ ∀ b ∈ cs', b ∈ cs ∨ w.heap.size ≤ b

theorem matchL_cnt (ps : List Tp) : ∀ (ts : List Tp) (s s' : List Bi), matchL ps ts s = some s' → cntB s' ≤ cntB s + Rose.cnt ts := by
  refine Rose.forest (p := fun ps => ∀ (ts : List Tp) (s s' : List Bi), matchL ps ts s = some s' → cntB s' ≤ cntB s + Rose.cnt ts) (fun ps ih => ?_) ps
  induction ps with
  | nil =>
    intro ts s s' h
    simp only [matchL, Option.some.injEq] at h
    subst h
    omega
  | cons p ps ihp =>
    intro ts s s' h
    cases ts with
    | nil =>
      simp only [matchL, Option.some.injEq] at h
      subst h
      omega
    | cons t ts =>
      rw [matchL_cons] at h
      cases h1 : matchT p t s with
      | none => rw [h1] at h; simp at h
      | some s1 =>
        rw [h1] at h
        have h2 := ihp (fun q hq => ih q (List.mem_cons_of_mem _ hq)) ts s1 s' h
        have h3 : cntB s1 ≤ cntB s + (1 + Rose.cnt t.kids) := by
          rw [matchT_eq] at h1
          split at h1
          · split at h1
            · split at h1
              · simp only [Option.some.injEq] at h1; subst h1; omega
              · cases h1
            · simp only [Option.some.injEq] at h1
              subst h1
              rw [cntB_append]
              simp only [cntB]
              omega
          · split at h1
            · have := ih p List.mem_cons_self t.kids s s1 h1
              omega
            · cases h1
        have h4 : Rose.cnt (t :: ts) = 1 + Rose.cnt t.kids + Rose.cnt ts := by
          show Rose.wtL _ _ = 1 + Rose.wtL _ _ + Rose.wtL _ _
          rw [Rose.wtL_cons]
        omega

theorem matchL_append (ps ps' : List Tp) : ∀ (ts ts' : List Tp) {xs : List Bi}, ps.length = ts.length → matchL (ps ++ ps') (ts ++ ts') xs = (matchL ps ts xs).bind (matchL ps' ts') := by
  induction ps with
  | nil =>
    intro ts ts' xs h
    obtain rfl : ts = [] := List.eq_nil_of_length_eq_zero h.symm
    simp [matchL]
  | cons p ps ih =>
    intro ts ts' xs h
    cases ts with
    | nil => simp at h
    | cons t ts =>
      rw [List.cons_append, List.cons_append, matchL_cons, matchL_cons]
      cases matchT p t xs with
      | none => rfl
      | some x => exact ih ts ts' (by simpa using h)
theorem matchL_none {ps ts : List Tp} {xs : List Bi} {i : Nat} (hi : i ≤ ps.length ∧ i ≤ ts.length) (h : matchL (ps.take i) (ts.take i) xs = none) : matchL ps ts xs = none := by
  have := matchL_append (ps.take i) (ps.drop i) (ts.take i) (ts.drop i) (xs := xs) (by simp; omega)
  rw [List.take_append_drop, List.take_append_drop, h] at this
  exact this

def AllSaid (ps : List Tp) : Prop := ∀ (ts : List Tp) (w : World) (v u r : Value) (bs bt O cs : List Nat) (n0 : Nat) (xs : List Bi), ps.length ≤ ts.length → Kids encT w v ps bs → Kids encT w u ts bt → GrowB n0 w r xs O cs → (∀ b ∈ bs, b ∉ O) → (∀ b ∈ bt, b ∉ O) →
    n0 ≤ w.heap.size → cntB xs + Rose.cnt ts ≤ 4294967000 → Ret Try.prog 61 [v, u, r] w (MatchR n0 w (matchL ps ts xs) O cs)

theorem c_l7Match' {p t : Tp} (ih : AllSaid p.kids) {w : World} {v u r : Value} {bs bt O cs : List Nat} {n0 : Nat} {xs : List Bi} (hk : Kids encT w v p.kids bs) (gk : Kids encT w u t.kids bt) (hg : GrowB n0 w r xs O cs) (hd : ∀ b ∈ bs, b ∉ O) (gd : ∀ b ∈ bt, b ∉ O)
    (hn : n0 ≤ w.heap.size) (hN : cntB xs + (1 + Rose.cnt t.kids) ≤ 4294967000) :
    Ret Try.prog 83 [.agg #[.int .i64 p.lab.1, .string p.lab.2, v], .agg #[.int .i64 t.lab.1, .string t.lab.2, u], r] w (MatchR n0 w (matchT p t xs) O cs) := by
  obtain ⟨ao, cap, rfl, _, _⟩ := hk.form
  obtain ⟨ao2, cap2, rfl, _, _⟩ := gk.form
  have hM : maxLen = 9223372036854775807 := rfl
  have hxl := cntB_length xs
  rw [matchT_eq]
  refine ret_of_vc ttOkB Try.func83 rfl (by kernel_rfl) (by kernel_rfl) ?_
  refine Go1.bx ?_
  intro w1 hx1 hb1
  refine Go1.bx ?_
  intro w2 hx2 hb2
  have hx02 := hx1.trans hx2
  have hb1 := hb1.ext hx2
  have hg2 := hg.ext hx02
  obtain ⟨ds, hds, _⟩ := hg2.bds (by omega)
  refine Go1.fl 0 (Ld.one hb1.at0 ?_)
  refine Cm.s (fun h1 => ?_) (fun h1 => ?_)
  · rw [if_pos h1]
    refine Go1.fl 1 (Ld.one hb1.at1 ?_)
    have hlk := c_sLookup (by omega) p.lab.2 hds
    cases hl : lookO p.lab.2 xs with
    | some x =>
      rw [hl, show lookT p.lab.2 xs = x by rw [lookT, hl]; rfl] at hlk
      refine hlk.mono ?_
      rintro _ w3 ⟨hx3, v3, cs3, rfl, hk3, _⟩
      obtain ⟨ao3, cap3, rfl, _, _⟩ := hk3.form
      refine Go1.al tiTy ?_
      intro w4 hx4 hb4
      have lt4 := hb4.lt
      refine Go0.st (off := 0) (vs := [.int .i64 x.lab.1, .string x.lab.2, .slice ao3 x.kids.length cap3]) hb4 rfl rfl (by simp [Value.cells]) (by simp [Value.oneCell']) ?_
      intro w5 hx5 hb5 _
      have hb5 : Blk w5 w3.heap.size 40 [.int .i64 x.lab.1, .string x.lab.2, .slice ao3 x.kids.length cap3] := hb5
      have hx35 : Ext w3 w5 := hx4.chg hx5 (by omega)
      refine Ld.agg (vs := [.int .i64 x.lab.1, .string x.lab.2, .slice ao3 x.kids.length cap3]) (Blk.lc0 (post := []) hb5) ?_
      refine Ld.agg (vs := [.int .i64 t.lab.1, .string t.lab.2, .slice ao2 t.kids.length cap2]) (Blk.lc0 (post := []) (hb2.ext (hx3.trans hx35))) ?_
      have hx05 := hx02.trans (hx3.trans hx35)
      refine (c_sEqualType (hk3.ext hx35) (gk.ext hx05)).mono ?_
      rintro _ w6 ⟨⟨b, rfl, hb⟩, hx6⟩
      have hx06 := hx05.trans hx6
      have hxt : (x = t) ↔ (x.lab = t.lab ∧ x.kids = t.kids) := ⟨fun e => by rw [e]; exact ⟨rfl, rfl⟩, fun e => Rose.ext e.1 e.2⟩
      refine ⟨r, b, rfl, hx06.mono fun _ _ h => h.elim, ?_, fun xs' h => ?_⟩
      all_goals simp only at *
      · by_cases e : x = t
        · rw [if_pos e]; exact hb.2 (hxt.1 e)
        · rw [if_neg e]
          cases b
          · rfl
          · exact absurd (hxt.2 (hb.1 rfl)) e
      · by_cases e : x = t
        · rw [if_pos e] at h
          obtain rfl : xs = xs' := by simpa using h
          exact ⟨O, cs, hg.ext hx06, fun b hb => .inl hb, fun b hb => .inl hb⟩
        · rw [if_neg e] at h; cases h
    | none =>
      rw [hl, show lookT p.lab.2 xs = emT by rw [lookT, hl]; rfl] at hlk
      refine hlk.mono ?_
      rintro _ w3 ⟨hx3, v3, cs3, rfl, hk3, _⟩
      obtain ⟨ao3, cap3, rfl, _, _⟩ := hk3.form
      refine Go1.al tiTy ?_
      intro w4 hx4 hb4
      have lt4 := hb4.lt
      refine Go0.st (off := 0) (vs := [.int .i64 emT.lab.1, .string emT.lab.2, .slice ao3 emT.kids.length cap3]) hb4 rfl rfl (by simp [Value.cells]) (by simp [Value.oneCell']) ?_
      intro w5 hx5 hb5 _
      have hx35 : Ext w3 w5 := hx4.chg hx5 (by omega)
      have hx25 := hx3.trans hx35
      have hx05 := hx02.trans hx25
      refine Dr.x [0, 1, 2, 3, 4, 5, 6, 7, 8, 9] ttOkB ?_
      refine GoS.fl 1 (LdS.x1 (hb1.ext hx25).at1 ?_)
      refine LdS.xn (vs := [.int .i64 t.lab.1, .string t.lab.2, .slice ao2 t.kids.length cap2]) (Blk.lc0 (post := []) (hb2.ext hx25)) ?_
      refine ⟨fun w6 hx6 => ?_⟩
      refine (c_l4Copy (by omega) (gk.ext (hx05.trans hx6))).mono ?_
      rintro _ w7 ⟨hx7, v7, cs7, rfl, hk7, hf7⟩
      obtain ⟨ao7, cap7, rfl, _, _⟩ := hk7.form
      refine Af.ext (hx6.trans hx7) ?_
      refine GoS.bd [.string p.lab.2, .int .i64 t.lab.1, .string t.lab.2, .slice ao7 t.kids.length cap7] ?_
      refine ⟨fun w8 hx8 => ?_⟩
      refine Go1.bs 72 [.string p.lab.2, .int .i64 t.lab.1, .string t.lab.2, .slice ao7 t.kids.length cap7] (size := 4) (bytes := 64) Try.underlying28 tiBd (by decide) (by decide) (by kernel_rfl) ?_
      intro w9 hx9 hb9
      refine Af.ext (hx8.trans hx9) ?_
      refine ⟨fun w10 hx10 => ?_⟩
      have hx010 := ((((hx05.trans hx6).trans hx7).trans hx8).trans hx9).trans hx10
      obtain ⟨vs, hgr, hbl, hfr⟩ := hg
      refine Go1.app (size := 4) (bytes := 64) Try.underlying28 tiBd (by rfl) (by decide) (hgr.ext hx010) (m := 1) (news := [.string p.lab.2, .int .i64 t.lab.1, .string t.lab.2, .slice ao7 t.kids.length cap7]) (Blk.lc0 (post := []) (hb9.ext hx10)) (by simp) (by simp [Value.oneCell']) (by omega) (by decide) ?_
      intro r11 w11 O11 hc11 hg11 hO11
      refine Af.new ?_
      intro w12 hx12
      have s10 := hx010.size
      have s06 := (hx05.trans hx6).size
      have hf7' : Fresh w.heap.size w10 cs7 := (((hf7.ext hx8).ext hx9).ext hx10).mono s06
      have hsn := GrowB.snoc (r := r) (x := (p.lab.2, t)) hx010 hbl hfr (((hk7.ext hx8).ext hx9).ext hx10) hf7' hc11 hg11 hO11 hn
      refine ⟨r11, true, rfl, (hx010.chgM hc11).ext hx12, by simp only; rfl, fun xs' h => ?_⟩
      obtain rfl : xs ++ [(p.lab.2, t)] = xs' := by simpa using h
      refine ⟨O11, cs ++ cs7, hsn.ext hx12, fun b hb => (hO11 b hb).imp id fun h => by omega, fun b hb => ?_⟩
      rcases List.mem_append.1 hb with hb | hb
      · exact .inl hb
      · exact .inr (hf7'.lo b hb)
  · rw [if_neg h1]
    have no : ¬ (p.lab = t.lab ∧ p.kids.length = t.kids.length) → ∀ r' w', Ext w w' → MatchR n0 w (if p.lab = t.lab ∧ p.kids.length = t.kids.length then matchL p.kids t.kids xs else none) O cs (.tuple #[r', .bool false]) w' := by
      intro h r' w' hx
      rw [if_neg h]
      exact ⟨r', false, rfl, hx.mono fun _ _ h => h.elim, rfl, fun xs' h => by cases h⟩
    refine Go1.fl 0 (Ld.one hb1.at0 ?_)
    refine Go1.fl 0 (Ld.one hb2.at0 ?_)
    refine Cm.ns (fun hne => ?_) (fun he0 => ?_)
    · exact no (fun h => hne (by rw [h.1])) _ _ hx02
    refine Go1.fl 1 (Ld.one hb1.at1 ?_)
    refine Go1.fl 1 (Ld.one hb2.at1 ?_)
    refine Cm.ns (fun hne => ?_) (fun he1 => ?_)
    · exact no (fun h => hne (by rw [h.1])) _ _ hx02
    refine Go1.fl 2 (Ld.one hb1.at2 ?_)
    refine Go1.fl 2 (Ld.one hb2.at2 ?_)
    refine Cm.ns (fun hne => ?_) (fun he2 => ?_)
    · exact no (fun h => hne (by rw [h.2])) _ _ hx02
    have hle : p.kids.length = t.kids.length := by omega
    rw [if_pos ⟨Prod.ext he0 he1, hle⟩]
    refine Go1.fl 2 (Ld.one hb1.at2 ?_)
    refine Go1.fl 2 (Ld.one hb2.at2 ?_)
    have sz := hx02.size
    refine (ih t.kids w2 _ _ r bs bt O cs n0 xs (by omega) (hk.ext hx02) (gk.ext hx02) hg2 hd gd (by omega) (by omega)).mono ?_
    rintro _ w3 ⟨r', ok, rfl, hc3, hok, hs3⟩
    refine ⟨r', ok, rfl, hx02.chgM hc3, hok, fun xs' h => ?_⟩
    obtain ⟨O', cs', h1, h2, h3⟩ := hs3 xs' h
    exact ⟨O', cs', h1, fun b hb => (h2 b hb).imp id fun h => by omega, fun b hb => (h3 b hb).imp id fun h => by omega⟩

/-- spec.l7All -/
theorem c_l7All (ps : List Tp) : AllSaid ps := by
  refine Rose.forest (fun ps ih => ?_) ps
  intro ts w v u r bs bt O cs n0 xs hle hk gk hg hd gd hn hN
  obtain ⟨ao, cap, rfl, hm, _⟩ := hk.form
  obtain ⟨ao2, cap2, rfl, hm2, _⟩ := gk.form
  have hM : maxLen = 9223372036854775807 := rfl
  have hbl := Kids.lt encT_ne ps hk
  have gbl := Kids.lt encT_ne ts gk
  refine ret_of_vc ttOkB Try.func61 rfl (by kernel_rfl) (by kernel_rfl) ?_
  refine Lp.go ttOkB (by kernel_rfl) (fun b : Nat × Value => [(0, .slice ao ps.length cap), (1, .slice ao2 ts.length cap2), (2, b.2), (8, .int .i64 b.1)])
    (fun b w' => Chg (· ∈ O) w w' ∧ b.1 ≤ ps.length ∧ ∃ xi Oi ci, matchL (ps.take b.1) (ts.take b.1) xs = some xi ∧ GrowB n0 w' b.2 xi Oi ci ∧ (∀ b ∈ Oi, b ∈ O ∨ w.heap.size ≤ b) ∧ ∀ b ∈ ci, b ∈ cs ∨ w.heap.size ≤ b) (fun b => ps.length - b.1) (0, r)
    ⟨rfl, rfl, rfl, rfl, trivial⟩ ⟨Chg.refl _ _, Nat.zero_le _, xs, O, cs, by simp [matchL], hg, fun b hb => .inl hb, fun b hb => .inl hb⟩ ?_
  rintro ⟨i, r⟩ w1 ⟨hc1, hi, xi, Oi, ci, hmi, hgi, hOi, hci⟩
  simp only at hi hmi hgi
  have sz1 := hc1.size
  refine Cm.s (fun hlt => ?_) (fun hge => ?_)
  · have hil : i < ps.length := by have : (i : Int) < ps.length := hlt; omega
    have hil2 : i < ts.length := by omega
    obtain ⟨a, p, v1, b1, rfl, ht, hc, hkt, hsb⟩ := (hk.chg hc1 hd).get encT_sz hil
    obtain ⟨a2, t, u1, c1, rfl, ht2, hc2, gkt, gsb⟩ := (gk.chg hc1 gd).get encT_sz hil2
    obtain ⟨ao3, cap3, rfl, _, _⟩ := hkt.form
    obtain ⟨ao4, cap4, rfl, _, _⟩ := gkt.form
    have hct := Rose.cnt_take_le ht2
    have hmc := matchL_cnt _ _ _ _ hmi
    have hstep : matchL (ps.take (i + 1)) (ts.take (i + 1)) xs = matchT p t xi := by
      rw [take_succ_get ht, take_succ_get ht2, matchL_append _ _ _ _ (by simp; omega), hmi]
      show matchL [p] [t] xi = _
      rw [matchL_cons]
      cases matchT p t xi <;> simp [matchL]
    refine Dr.x [0, 1, 2, 3, 4, 5, 6, 7, 8, 9, 10, 11, 12, 13, 14] ttOkB ?_
    refine GoS.ix 3 hil (LdS.xn hc ?_)
    refine GoS.ix 3 hil2 (LdS.xn hc2 ?_)
    refine ⟨fun w2 hx2 => ?_⟩
    have sz2 := hx2.size
    refine (c_l7Match' (ih p (List.mem_of_getElem? ht)) (hkt.ext hx2) (gkt.ext hx2) (hgi.ext hx2) (fun b hb hb' => ?_) (fun b hb hb' => ?_) (by omega) (by omega)).mono ?_
    · have := hbl b (hsb b hb)
      rcases hOi b hb' with h | h
      · exact hd b (hsb b hb) h
      · omega
    · have := gbl b (gsb b hb)
      rcases hOi b hb' with h | h
      · exact gd b (gsb b hb) h
      · omega
    · rintro _ w3 ⟨r3, ok, rfl, hc3, hok, hs3⟩
      refine Af.new ?_
      intro w4 hx4
      have hc4 : Chg (· ∈ O) w w4 := ((hc1.ext hx2).comp hc3 (fun b hb => hOi b hb)).ext hx4
      cases hr : matchT p t xi with
      | none =>
        rw [hr] at hok
        subst hok
        have hnone : matchL ps ts xs = none := matchL_none (i := i + 1) ⟨by omega, by omega⟩ (by rw [hstep, hr])
        rw [hnone]
        exact ⟨r, false, rfl, hc4, rfl, fun xs' h => by cases h⟩
      | some x3 =>
        rw [hr] at hok
        subst hok
        obtain ⟨O3, c3, hg3, hO3, hc3'⟩ := hs3 x3 hr
        refine Wr.n (i + 1) (by simp) (by omega) ?_
        refine ⟨(i + 1, r3), ⟨rfl, rfl, rfl, rfl, trivial⟩, ⟨hc4, hil, x3, O3, c3, by rw [hstep, hr], hg3.ext hx4, fun b hb => ?_, fun b hb => ?_⟩, by simp; omega⟩
        · rcases hO3 b hb with h | h
          · exact hOi b h
          · right; omega
        · rcases hc3' b hb with h | h
          · exact hci b h
          · right; omega
  · have : i = ps.length := by have : ¬ (i : Int) < ps.length := hge; omega
    subst this
    rw [List.take_length] at hmi
    have hfin : matchL ps ts xs = some xi := by
      have := matchL_append ps [] (ts.take ps.length) (ts.drop ps.length) (xs := xs) (by simp; omega)
      rw [List.append_nil, List.take_append_drop, hmi] at this
      rw [this]
      simp [matchL]
    rw [hfin]
    refine ⟨r, true, rfl, hc1, rfl, fun xs' h => ?_⟩
    obtain rfl : xi = xs' := by simpa using h
    exact ⟨Oi, ci, hgi, hOi, hci⟩
end Go.Proofs.Ytkpdkemkfgcamaa
