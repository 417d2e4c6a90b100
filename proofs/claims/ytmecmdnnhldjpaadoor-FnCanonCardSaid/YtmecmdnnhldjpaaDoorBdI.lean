/- Contracts: the program's matching. Conditions: none. -/
import Derived.Test.YtmecmdnnhldjpaaDoorBdH
namespace Go.Proofs.YtmecmdnnhldjpaaDoor
open Go.RowKit

/-- Matching lists whose lengths may differ. -/
noncomputable def mAll (ps ts : List Tp) (xs : List Bi) : Option (List Bi) := if ps.length = ts.length then matchL ps ts xs else none

/-- What the program's step answers: as MatchR; where there is none, a nil slice. -/
def MatchN (n0 : Nat) (w : World) (o : Option (List Bi)) (O cs : List Nat) (res : Value) (w' : World) : Prop :=
  MatchR n0 w o O cs res w' ∧ (o = none → res = .tuple #[.slice none 0 0, .bool false])

def AllISaid (ps : List Tp) : Prop := ∀ (ts : List Tp) (w : World) (v u r : Value) (bs bt O cs : List Nat) (n0 : Nat) (xs : List Bi), Kids encT w v ps bs → Kids encT w u ts bt → GrowB n0 w r xs O cs → (∀ b ∈ bs, b ∉ O) → (∀ b ∈ bt, b ∉ O) →
    n0 ≤ w.heap.size → cntB xs + Rose.cnt ts ≤ 4294967000 → Ret Tryd.prog 64 [r, v, u] w (MatchN n0 w (mAll ps ts xs) O cs)

theorem c_match' {p t : Tp} (ih : AllISaid p.kids) {w : World} {v u r : Value} {bs bt O cs : List Nat} {n0 : Nat} {xs : List Bi} (hk : Kids encT w v p.kids bs) (gk : Kids encT w u t.kids bt) (hg : GrowB n0 w r xs O cs) (hd : ∀ b ∈ bs, b ∉ O) (gd : ∀ b ∈ bt, b ∉ O)
    (hn : n0 ≤ w.heap.size) (hN : cntB xs + (1 + Rose.cnt t.kids) ≤ 4294967000) :
    Ret Tryd.prog 70 [r, .agg #[.int .i64 p.lab.1, .string p.lab.2, v], .agg #[.int .i64 t.lab.1, .string t.lab.2, u]] w (MatchR n0 w (matchT p t xs) O cs) := by
  obtain ⟨ao, cap, rfl, _, _⟩ := hk.form
  obtain ⟨ao2, cap2, rfl, _, _⟩ := gk.form
  have hM : maxLen = 9223372036854775807 := rfl
  have hxl := cntB_length xs
  rw [matchT_eq]
  refine ret_of_vc ttOkB Tryd.func70 rfl (by kernel_rfl) (by kernel_rfl) ?_
  refine Go1.bx ?_
  intro w1 hx1 hb1
  refine Go1.bx ?_
  intro w2 hx2 hb2
  have hx02 := hx1.trans hx2
  have hb1 := hb1.ext hx2
  have hg2 := hg.ext hx02
  obtain ⟨ds, hds, _⟩ := hg2.bds (by omega)
  refine Go1.fl 0 (Ld.one hb1.at0 ?_)
  refine Cm.s (fun h1 => ?_) (fun h1 => ?_)
  · rw [if_pos h1]
    refine Go1.fl 1 (Ld.one hb1.at1 ?_)
    have hlk := c_iLookup (by omega) p.lab.2 hds
    cases hl : lookO p.lab.2 xs with
    | some x =>
      rw [hl, show lookT p.lab.2 xs = x by rw [lookT, hl]; rfl] at hlk
      refine hlk.mono ?_
      rintro _ w3 ⟨hx3, v3, cs3, rfl, hk3, _⟩
      obtain ⟨ao3, cap3, rfl, _, _⟩ := hk3.form
      refine Go1.al tiTy ?_
      intro w4 hx4 hb4
      have lt4 := hb4.lt
      refine Go0.st (off := 0) (vs := [.int .i64 x.lab.1, .string x.lab.2, .slice ao3 x.kids.length cap3]) hb4 rfl rfl (by simp [Value.cells]) (by simp [Value.oneCell']) ?_
      intro w5 hx5 hb5 _
      have hb5 : Blk w5 w3.heap.size 38 [.int .i64 x.lab.1, .string x.lab.2, .slice ao3 x.kids.length cap3] := hb5
      have hx35 : Ext w3 w5 := hx4.chg hx5 (by omega)
      refine Ld.agg (vs := [.int .i64 x.lab.1, .string x.lab.2, .slice ao3 x.kids.length cap3]) (Blk.lc0 (post := []) hb5) ?_
      refine Ld.agg (vs := [.int .i64 t.lab.1, .string t.lab.2, .slice ao2 t.kids.length cap2]) (Blk.lc0 (post := []) (hb2.ext (hx3.trans hx35))) ?_
      have hx05 := hx02.trans (hx3.trans hx35)
      refine (c_iEqualType (hk3.ext hx35) (gk.ext hx05)).mono ?_
      rintro _ w6 ⟨⟨b, rfl, hb⟩, hx6⟩
      have hx06 := hx05.trans hx6
      have hxt : (x = t) ↔ (x.lab = t.lab ∧ x.kids = t.kids) := ⟨fun e => by rw [e]; exact ⟨rfl, rfl⟩, fun e => Rose.ext e.1 e.2⟩
      refine ⟨r, b, rfl, hx06.mono fun _ _ h => h.elim, ?_, fun xs' h => ?_⟩
      all_goals simp only at *
      · by_cases e : x = t
        · rw [if_pos e]; exact hb.2 (hxt.1 e)
        · rw [if_neg e]
          cases b
          · rfl
          · exact absurd (hxt.2 (hb.1 rfl)) e
      · by_cases e : x = t
        · rw [if_pos e] at h
          obtain rfl : xs = xs' := by simpa using h
          exact ⟨O, cs, hg.ext hx06, fun b hb => .inl hb, fun b hb => .inl hb⟩
        · rw [if_neg e] at h; cases h
    | none =>
      rw [hl, show lookT p.lab.2 xs = emT by rw [lookT, hl]; rfl] at hlk
      refine hlk.mono ?_
      rintro _ w3 ⟨hx3, v3, cs3, rfl, hk3, _⟩
      obtain ⟨ao3, cap3, rfl, _, _⟩ := hk3.form
      refine Go1.al tiTy ?_
      intro w4 hx4 hb4
      have lt4 := hb4.lt
      refine Go0.st (off := 0) (vs := [.int .i64 emT.lab.1, .string emT.lab.2, .slice ao3 emT.kids.length cap3]) hb4 rfl rfl (by simp [Value.cells]) (by simp [Value.oneCell']) ?_
      intro w5 hx5 hb5 _
      have hx35 : Ext w3 w5 := hx4.chg hx5 (by omega)
      have hx25 := hx3.trans hx35
      have hx05 := hx02.trans hx25
      refine Dr.x [0, 1, 2, 3, 4, 5, 6, 7, 8, 9] ttOkB ?_
      refine GoS.fl 1 (LdS.x1 (hb1.ext hx25).at1 ?_)
      refine LdS.xn (vs := [.int .i64 t.lab.1, .string t.lab.2, .slice ao2 t.kids.length cap2]) (Blk.lc0 (post := []) (hb2.ext hx25)) ?_
      refine ⟨fun w6 hx6 => ?_⟩
      refine (c_copyType (by omega) (gk.ext (hx05.trans hx6))).mono ?_
      rintro _ w7 ⟨hx7, v7, cs7, rfl, hk7, hf7⟩
      obtain ⟨ao7, cap7, rfl, _, _⟩ := hk7.form
      refine Af.ext (hx6.trans hx7) ?_
      refine GoS.bd [.string p.lab.2, .int .i64 t.lab.1, .string t.lab.2, .slice ao7 t.kids.length cap7] ?_
      refine ⟨fun w8 hx8 => ?_⟩
      refine Go1.bs 54 [.string p.lab.2, .int .i64 t.lab.1, .string t.lab.2, .slice ao7 t.kids.length cap7] (size := 4) (bytes := 64) Tryd.underlying24 tiBd (by decide) (by decide) (by kernel_rfl) ?_
      intro w9 hx9 hb9
      refine Af.ext (hx8.trans hx9) ?_
      refine ⟨fun w10 hx10 => ?_⟩
      have hx010 := ((((hx05.trans hx6).trans hx7).trans hx8).trans hx9).trans hx10
      obtain ⟨vs, hgr, hbl, hfr⟩ := hg
      refine Go1.app (size := 4) (bytes := 64) Tryd.underlying24 tiBd (by rfl) (by decide) (hgr.ext hx010) (m := 1) (news := [.string p.lab.2, .int .i64 t.lab.1, .string t.lab.2, .slice ao7 t.kids.length cap7]) (Blk.lc0 (post := []) (hb9.ext hx10)) (by simp) (by simp [Value.oneCell']) (by omega) (by decide) ?_
      intro r11 w11 O11 hc11 hg11 hO11
      refine Af.new ?_
      intro w12 hx12
      have s10 := hx010.size
      have s06 := (hx05.trans hx6).size
      have hf7' : Fresh w.heap.size w10 cs7 := (((hf7.ext hx8).ext hx9).ext hx10).mono s06
      have hsn := GrowB.snoc (r := r) (x := (p.lab.2, t)) hx010 hbl hfr (((hk7.ext hx8).ext hx9).ext hx10) hf7' hc11 hg11 hO11 hn
      refine ⟨r11, true, rfl, (hx010.chgM hc11).ext hx12, by simp only; rfl, fun xs' h => ?_⟩
      obtain rfl : xs ++ [(p.lab.2, t)] = xs' := by simpa using h
      refine ⟨O11, cs ++ cs7, hsn.ext hx12, fun b hb => (hO11 b hb).imp id fun h => by omega, fun b hb => ?_⟩
      rcases List.mem_append.1 hb with hb | hb
      · exact .inl hb
      · exact .inr (hf7'.lo b hb)
  · rw [if_neg h1]
    have no : ¬ (p.lab = t.lab) → ∀ r' w', Ext w w' → MatchR n0 w (if p.lab = t.lab ∧ p.kids.length = t.kids.length then matchL p.kids t.kids xs else none) O cs (.tuple #[r', .bool false]) w' := by
      intro h r' w' hx
      rw [if_neg fun e => h e.1]
      exact ⟨r', false, rfl, hx.mono fun _ _ h => h.elim, rfl, fun xs' h => by cases h⟩
    refine Go1.fl 0 (Ld.one hb1.at0 ?_)
    refine Go1.fl 0 (Ld.one hb2.at0 ?_)
    refine Cm.ns (fun hne => ?_) (fun he0 => ?_)
    · exact no (fun h => hne (by rw [h])) _ _ hx02
    refine Go1.fl 1 (Ld.one hb1.at1 ?_)
    refine Go1.fl 1 (Ld.one hb2.at1 ?_)
    refine Cm.ns (fun hne => ?_) (fun he1 => ?_)
    · exact no (fun h => hne (by rw [h])) _ _ hx02
    have heq : p.lab = t.lab := Prod.ext he0 he1
    have hmm : (if p.lab = t.lab ∧ p.kids.length = t.kids.length then matchL p.kids t.kids xs else none) = mAll p.kids t.kids xs := by
      unfold mAll
      by_cases hle : p.kids.length = t.kids.length
      · rw [if_pos ⟨heq, hle⟩, if_pos hle]
      · rw [if_neg fun h => hle h.2, if_neg hle]
    rw [hmm]
    refine Go1.fl 2 (Ld.one hb1.at2 ?_)
    refine Go1.fl 2 (Ld.one hb2.at2 ?_)
    have sz := hx02.size
    refine (ih t.kids w2 _ _ r bs bt O cs n0 xs (hk.ext hx02) (gk.ext hx02) hg2 hd gd (by omega) (by omega)).mono ?_
    rintro _ w3 ⟨⟨r', ok, rfl, hc3, hok, hs3⟩, _⟩
    refine ⟨r', ok, rfl, hx02.chgM hc3, hok, fun xs' h => ?_⟩
    obtain ⟨O', cs', h1, h2, h3⟩ := hs3 xs' h
    exact ⟨O', cs', h1, fun b hb => (h2 b hb).imp id fun h => by omega, fun b hb => (h3 b hb).imp id fun h => by omega⟩

/-- impl.matchAll -/
theorem c_matchAll (ps : List Tp) : AllISaid ps := by
  refine Rose.forest (fun ps ih => ?_) ps
  intro ts w v u r bs bt O cs n0 xs hk gk hg hd gd hn hN
  obtain ⟨ao, cap, rfl, hm, _⟩ := hk.form
  obtain ⟨ao2, cap2, rfl, hm2, _⟩ := gk.form
  have hM : maxLen = 9223372036854775807 := rfl
  have hbl := Kids.lt encT_ne ps hk
  have gbl := Kids.lt encT_ne ts gk
  refine ret_of_vc ttOkB Tryd.func64 rfl (by kernel_rfl) (by kernel_rfl) ?_
  refine Cm.ns (fun hne => ?_) (fun hle => ?_)
  · have : mAll ps ts xs = none := if_neg fun h => hne (by rw [h])
    rw [this]
    exact ⟨⟨_, false, rfl, Chg.refl _ _, rfl, fun xs' h => by cases h⟩, fun _ => rfl⟩
  have hle : ps.length = ts.length := by omega
  have hmm : mAll ps ts xs = matchL ps ts xs := if_pos hle
  rw [hmm]
  refine Lp.go ttOkB (by kernel_rfl) (fun b : Nat × Value => [(0, b.2), (1, .slice ao ps.length cap), (2, .slice ao2 ts.length cap2), (17, .int .i64 ps.length), (18, .int .i64 b.1)])
    (fun b w' => Chg (· ∈ O) w w' ∧ b.1 ≤ ps.length ∧ ∃ xi Oi ci, matchL (ps.take b.1) (ts.take b.1) xs = some xi ∧ GrowB n0 w' b.2 xi Oi ci ∧ (∀ b ∈ Oi, b ∈ O ∨ w.heap.size ≤ b) ∧ ∀ b ∈ ci, b ∈ cs ∨ w.heap.size ≤ b) (fun b => ps.length - b.1) (0, r)
    ⟨rfl, rfl, rfl, rfl, rfl, trivial⟩ ⟨Chg.refl _ _, Nat.zero_le _, xs, O, cs, by simp [matchL], hg, fun b hb => .inl hb, fun b hb => .inl hb⟩ ?_
  rintro ⟨i, r⟩ w1 ⟨hc1, hi, xi, Oi, ci, hmi, hgi, hOi, hci⟩
  simp only at hi hmi hgi
  have sz1 := hc1.size
  refine Cm.s (fun hlt => ?_) (fun hge => ?_)
  · have hil : i < ps.length := by have : (i : Int) < ps.length := hlt; omega
    have hil2 : i < ts.length := by omega
    obtain ⟨a, p, v1, b1, rfl, ht, hc, hkt, hsb⟩ := (hk.chg hc1 hd).get encT_sz hil
    obtain ⟨a2, t, u1, c1, rfl, ht2, hc2, gkt, gsb⟩ := (gk.chg hc1 gd).get encT_sz hil2
    obtain ⟨ao3, cap3, rfl, _, _⟩ := hkt.form
    obtain ⟨ao4, cap4, rfl, _, _⟩ := gkt.form
    have hct := Rose.cnt_take_le ht2
    have hmc := matchL_cnt _ _ _ _ hmi
    have hstep : matchL (ps.take (i + 1)) (ts.take (i + 1)) xs = matchT p t xi := by
      rw [take_succ_get ht, take_succ_get ht2, matchL_append _ _ _ _ (by simp; omega), hmi]
      show matchL [p] [t] xi = _
      rw [matchL_cons]
      cases matchT p t xi <;> simp [matchL]
    refine Dr.x [0, 1, 2, 3, 4, 5, 6, 7, 8, 9, 10, 11, 12, 13, 14] ttOkB ?_
    refine GoS.ix 3 hil (LdS.xn hc ?_)
    refine GoS.ix 3 hil2 (LdS.xn hc2 ?_)
    refine ⟨fun w2 hx2 => ?_⟩
    have sz2 := hx2.size
    refine (c_match' (ih p (List.mem_of_getElem? ht)) (hkt.ext hx2) (gkt.ext hx2) (hgi.ext hx2) (fun b hb hb' => ?_) (fun b hb hb' => ?_) (by omega) (by omega)).mono ?_
    · have := hbl b (hsb b hb)
      rcases hOi b hb' with h | h
      · exact hd b (hsb b hb) h
      · omega
    · have := gbl b (gsb b hb)
      rcases hOi b hb' with h | h
      · exact gd b (gsb b hb) h
      · omega
    · rintro _ w3 ⟨r3, ok, rfl, hc3, hok, hs3⟩
      refine Af.new ?_
      intro w4 hx4
      have hc4 : Chg (· ∈ O) w w4 := ((hc1.ext hx2).comp hc3 (fun b hb => hOi b hb)).ext hx4
      cases hr : matchT p t xi with
      | none =>
        rw [hr] at hok
        subst hok
        have hnone : matchL ps ts xs = none := matchL_none (i := i + 1) ⟨by omega, by omega⟩ (by rw [hstep, hr])
        rw [hnone]
        exact ⟨⟨_, false, rfl, hc4, rfl, fun xs' h => by cases h⟩, fun _ => rfl⟩
      | some x3 =>
        rw [hr] at hok
        subst hok
        obtain ⟨O3, c3, hg3, hO3, hc3'⟩ := hs3 x3 hr
        refine Wr.n (i + 1) (by simp) (by omega) ?_
        refine ⟨(i + 1, r3), ⟨rfl, rfl, rfl, rfl, rfl, trivial⟩, ⟨hc4, hil, x3, O3, c3, by rw [hstep, hr], hg3.ext hx4, fun b hb => ?_, fun b hb => ?_⟩, by simp; omega⟩
        · rcases hO3 b hb with h | h
          · exact hOi b h
          · right; omega
        · rcases hc3' b hb with h | h
          · exact hci b h
          · right; omega
  · have : i = ps.length := by have : ¬ (i : Int) < ps.length := hge; omega
    subst this
    rw [List.take_length, hle, List.take_length] at hmi
    rw [hmi]
    exact ⟨⟨r, true, rfl, hc1, rfl, fun xs' h => by
      obtain rfl : xi = xs' := by simpa using h
      exact ⟨Oi, ci, hgi, hOi, hci⟩⟩, fun h => by cases h⟩

/-- What a function hands back that makes bindings, and a bool. -/
def NewBds2 (w : World) (ok : Bool) (xs : List Bi) (res : Value) (w' : World) : Prop := Ext w w' ∧ ∃ r bs, res = .tuple #[r, .bool ok] ∧ Bds w' r xs bs ∧ Fresh w.heap.size w' bs

theorem mAll_cnt {ps ts : List Tp} : cntB ((mAll ps ts []).getD []) ≤ Rose.cnt ts := by
  unfold mAll
  split
  · cases h : matchL ps ts [] with
    | none => simp [cntB]
    | some xs =>
      have := matchL_cnt _ _ _ _ h
      simpa [cntB] using this
  · simp [cntB]


theorem kids_one {w : World} {b : Nat} {e : TypeId} {l : TLab} {ks : List Tp} {ao : Option Addr} {cap : Nat} {bs : List Nat} (hb : Blk w b e [.int .i64 l.1, .string l.2, .slice ao ks.length cap]) (hk : Kids encT w (.slice ao ks.length cap) ks bs) :
    ∃ cs, Kids encT w (.slice (some ⟨b, 0, none⟩) 1 1) [.mk l ks] cs := by
  obtain ⟨cs, h, _⟩ := Kids.of_blk (enc := encT) (ts := [Rose.mk l ks]) (vs := [.slice ao ks.length cap]) (rest := []) (n := 1) (cap := 1) (bs := bs) (by simpa [fl, encT, Rose.lab] using hb) ⟨bs, [], by simp, hk, rfl⟩ rfl ⟨by decide, Nat.le_refl _⟩
  exact ⟨cs, h⟩

/-- impl.Match -/
theorem c_iMatch {l m : TLab} {ks ls : List Tp} (hN : Rose.cnt ls ≤ 4294966000) {w : World} {v u : Value} {bs bt : List Nat} (hk : Kids encT w v ks bs) (gk : Kids encT w u ls bt) :
    Ret Tryd.prog 50 [.agg #[.int .i64 l.1, .string l.2, v], .agg #[.int .i64 m.1, .string m.2, u]] w (NewBds2 w (mAll [.mk l ks] [.mk m ls] []).isSome ((mAll [.mk l ks] [.mk m ls] []).getD [])) := by
  obtain ⟨ao, cap, rfl, hm, _⟩ := hk.form
  obtain ⟨ao2, cap2, rfl, hm2, _⟩ := gk.form
  have hM : maxLen = 9223372036854775807 := rfl
  refine ret_of_vc ttOkB Tryd.func50 rfl (by kernel_rfl) (by kernel_rfl) ?_
  refine Go1.bx ?_
  intro w1 hx1 hb1
  refine Go1.bx ?_
  intro w2 hx2 hb2
  refine Ld.agg (vs := [.int .i64 l.1, .string l.2, .slice ao ks.length cap]) (Blk.lc0 (post := []) (hb1.ext hx2)) ?_
  refine Go1.bs 38 [.int .i64 l.1, .string l.2, .slice ao ks.length cap] (size := 3) (bytes := 48) Tryd.underlying26 tiTy (by decide) (by decide) (by kernel_rfl) ?_
  intro w3 hx3 hb3
  refine Ld.agg (vs := [.int .i64 m.1, .string m.2, .slice ao2 ls.length cap2]) (Blk.lc0 (post := []) (hb2.ext hx3)) ?_
  refine Go1.bs 38 [.int .i64 m.1, .string m.2, .slice ao2 ls.length cap2] (size := 3) (bytes := 48) Tryd.underlying26 tiTy (by decide) (by decide) (by kernel_rfl) ?_
  intro w4 hx4 hb4
  have hx04 := ((hx1.trans hx2).trans hx3).trans hx4
  have sz := hx04.size
  obtain ⟨cs1, h1⟩ := kids_one (hb3.ext hx4) (hk.ext hx04)
  obtain ⟨cs2, h2⟩ := kids_one hb4 (gk.ext hx04)
  have hcn : Rose.cnt [Rose.mk m ls] = 1 + Rose.cnt ls := by
    show Rose.wtL _ _ = 1 + Rose.wtL _ _
    rw [Rose.wtL_cons, Rose.wtL_nil]
    simp [Rose.kids]
  refine (c_matchAll [.mk l ks] [.mk m ls] w4 _ _ _ cs1 cs2 [] [] w4.heap.size [] h1 h2 ⟨[], Grow.nil, rfl, Fresh.nil _ _⟩ (by simp) (by simp) (Nat.le_refl _) (by rw [hcn]; simp [cntB]; omega)).mono ?_
  rintro _ w5 ⟨⟨r', ok, rfl, hc, hok, hs⟩, hno⟩
  have hx : Ext w w5 := hx04.trans (hc.mono fun _ _ h => by simp at h)
  have hcn2 := @mAll_cnt [.mk l ks] [.mk m ls]
  cases hr : mAll [.mk l ks] [.mk m ls] [] with
  | none =>
    have := hno hr
    simp only [Value.tuple.injEq, Array.mk.injEq, List.cons.injEq, Value.bool.injEq, and_true] at this
    obtain ⟨rfl, rfl⟩ := this
    exact ⟨hx, _, [], rfl, Bds.nil, Fresh.nil _ _⟩
  | some xs =>
    rw [hr] at hok
    subst hok
    obtain ⟨O', cs', hg, _, _⟩ := hs xs hr
    rw [hr] at hcn2
    have hcn2 : cntB xs ≤ Rose.cnt [Rose.mk m ls] := hcn2
    have := cntB_length xs
    obtain ⟨bs', h1, h2⟩ := hg.bds (by omega)
    obtain ⟨_, _, _, hf⟩ := hg
    exact ⟨hx, r', bs', rfl, h1, (hf.sub h2).mono sz⟩
/-- impl.Matches -/
theorem c_iMatches {l m : TLab} {ks ls : List Tp} (hN : Rose.cnt ls ≤ 4294966000) {w : World} {v u : Value} {bs bt : List Nat} (hk : Kids encT w v ks bs) (gk : Kids encT w u ls bt) :
    Ret Tryd.prog 31 [.agg #[.int .i64 l.1, .string l.2, v], .agg #[.int .i64 m.1, .string m.2, u]] w fun r w' => r = .bool (mAll [.mk l ks] [.mk m ls] []).isSome ∧ Ext w w' := by
  obtain ⟨ao, cap, rfl, hm, _⟩ := hk.form
  obtain ⟨ao2, cap2, rfl, hm2, _⟩ := gk.form
  refine ret_of_vc ttOkB Tryd.func31 rfl (by kernel_rfl) (by kernel_rfl) ?_
  refine Go1.bx ?_
  intro w1 hx1 hb1
  refine Go1.bx ?_
  intro w2 hx2 hb2
  refine Ld.agg (vs := [.int .i64 l.1, .string l.2, .slice ao ks.length cap]) (Blk.lc0 (post := []) (hb1.ext hx2)) ?_
  refine Ld.agg (vs := [.int .i64 m.1, .string m.2, .slice ao2 ls.length cap2]) (Blk.lc0 (post := []) hb2) ?_
  have hx02 := hx1.trans hx2
  refine (c_iMatch (by omega) (hk.ext hx02) (gk.ext hx02)).mono ?_
  rintro _ w5 ⟨hx5, r', bs', rfl, h1, hf⟩
  exact ⟨rfl, hx02.trans hx5⟩
end Go.Proofs.YtmecmdnnhldjpaaDoor
