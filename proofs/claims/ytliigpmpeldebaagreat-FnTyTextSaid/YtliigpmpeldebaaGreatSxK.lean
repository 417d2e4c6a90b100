/- The program's ParseSExpr: the walk. Conditions: none. -/
import Derived.Test.YtliigpmpeldebaaGreatSxJ
namespace Go.Proofs.YtliigpmpeldebaaGreat
open Go.RowKit

theorem at_mid {xs ys : List Value} {a : Value} {n : Nat} (h : n = xs.length) : (xs ++ [a] ++ ys)[n]? = some a := by subst h; simp
theorem PS.form {n0 : Nat} {w : World} {ov v : Value} {vs : List Value} {tss : List (List Sx)} {Oo bs : List Nat} (h : PS n0 w ov (v :: vs) tss Oo bs) :
    ∃ g cap rest, ov = .slice (some ⟨g, 0, none⟩) (vs.length + 1) cap ∧ Oo = [g] ∧ Blk w g tL (vs.reverse ++ [v] ++ rest) ∧ vs.length + 1 ≤ cap ∧ cap ≤ maxLen ∧ (vs.reverse ++ [v] ++ rest).length = cap * 1 := by
  obtain ⟨g, cap, rest, h1, h2, h3, h4, h5, h6⟩ := h.out.own (by simp)
  rw [List.reverse_cons] at h3 h6
  rw [List.length_cons] at h1 h4
  exact ⟨g, cap, rest, h1, h2, h3, h4, h5, h6⟩
theorem PS.pop {n0 : Nat} {w : World} {ov v pv : Value} {vs : List Value} {ts us : List Sx} {tss : List (List Sx)} {Oo bs : List Nat} (h : PS n0 w ov (v :: pv :: vs) (ts :: us :: tss) Oo bs) (hm : ts.length ≤ maxLen) :
    ∃ g cap rest bs2 ds, ov = .slice (some ⟨g, 0, none⟩) (vs.length + 2) cap ∧ Blk w g tL (vs.reverse ++ [pv] ++ ([v] ++ rest)) ∧ vs.length + 2 ≤ cap ∧ cap ≤ maxLen ∧ (vs.reverse ++ [pv] ++ ([v] ++ rest)).length = cap * 1 ∧
      Kids encS w v ts ds ∧ Fresh n0 w ([g] ++ (bs2 ++ ds)) ∧ PS n0 w (.slice (some ⟨g, 0, none⟩) (vs.length + 1) cap) (pv :: vs) (us :: tss) [g] bs2 := by
  obtain ⟨g, cap, rest, h1, rfl, h3, h4, h5, h6⟩ := h.form
  rw [List.length_cons] at h1 h4
  rw [List.reverse_cons, List.append_assoc] at h3 h6
  obtain ⟨O, cs, xs, b2, rfl, hg, hk, hs⟩ := h.stk
  obtain ⟨ds, hkd, hsub⟩ : ∃ ds, Kids encS w v ts ds ∧ ds.Sublist (O ++ cs) := by
    rcases hg.2 with ⟨rfl, h0, rfl⟩ | ⟨g1, cap1, rest1, rfl, rfl, hb, hc, _⟩
    · obtain rfl : ts = [] := List.eq_nil_of_length_eq_zero h0
      exact ⟨[], Kids.nil, List.nil_sublist _⟩
    · exact Kids.of_blk hb hk rfl ⟨hm, hc⟩
  have hF := h.fr
  have hnd := hF.nodup
  have hsb := hsub.subset
  have hdn := hsub.nodup (show (O ++ cs).Nodup by simp only [List.nodup_append, List.mem_append] at hnd ⊢; grind)
  refine ⟨g, cap, rest, b2, ds, h1, h3, h4, h5, h6, hkd, ⟨?_, fun b hb => hF.lo b ?_, fun b hb => hF.blk b ?_⟩, ⟨?_, hs, ⟨?_, fun b hb => hF.lo b ?_, fun b hb => hF.blk b ?_⟩⟩⟩
  · simp only [List.nodup_append, List.mem_append] at hnd ⊢
    have h2 : ∀ b ∈ ds, b ∈ O ∨ b ∈ cs := fun b hb => List.mem_append.1 (hsb hb)
    exact ⟨by simp, ⟨hnd.2.1.2.1, hdn, fun a ha b hb e => hnd.2.1.2.2 b (h2 b hb) a ha e.symm⟩, fun a ha b hb => hnd.2.2 a ha b (hb.elim .inr fun h => .inl (h2 b h))⟩
  · have : ∀ b ∈ ds, b ∈ O ∨ b ∈ cs := fun b hb => List.mem_append.1 (hsb hb)
    simp only [List.mem_append] at hb ⊢
    grind
  · have : ∀ b ∈ ds, b ∈ O ∨ b ∈ cs := fun b hb => List.mem_append.1 (hsb hb)
    simp only [List.mem_append] at hb ⊢
    grind
  · rw [List.length_cons, List.reverse_cons]
    exact Grow.mk' (by simp) h3 (by omega) h5 h6
  · simp only [List.nodup_append, List.mem_append] at hnd ⊢
    grind
  · simp only [List.mem_append] at hb ⊢
    grind
  · simp only [List.mem_append] at hb ⊢
    grind
theorem PS.put {n0 : Nat} {w : World} {pv vt : Value} {vs rest : List Value} {us : List Sx} {tss : List (List Sx)} {t : Sx} {g cap : Nat} {bs ds : List Nat} (h : PS n0 w (.slice (some ⟨g, 0, none⟩) (vs.length + 1) cap) (pv :: vs) (us :: tss) [g] bs)
    (hkd : Kids encS w vt t.kids ds) (hF : Fresh n0 w ([g] ++ (bs ++ ds))) (hn : n0 ≤ w.heap.size) (h1 : vs.length + 1 ≤ cap) (h2 : cap ≤ maxLen) (h3 : (vs.reverse ++ [pv] ++ rest).length = cap * 1) :
    ∃ O1 xs1, Grow w tS 2 pv us.length (fl encS us xs1) O1 ∧ (∀ b ∈ O1, b ≠ g ∧ n0 ≤ b) ∧ n0 ≤ g ∧ ∀ w' pv' O1', Chg (fun k => k ∈ O1 ∨ k = g) w w' → Grow w' tS 2 pv' (us.length + 1) (fl encS us xs1 ++ [.string t.lab, vt]) O1' → (∀ b ∈ O1', b ∈ O1 ∨ w.heap.size ≤ b) →
      Blk w' g tL (vs.reverse ++ [pv'] ++ rest) → ∃ bs', PS n0 w' (.slice (some ⟨g, 0, none⟩) (vs.length + 1) cap) (pv' :: vs) ((us ++ [t]) :: tss) [g] bs' := by
  obtain ⟨O1, c1, xs1, b2, rfl, hg, hk, hs⟩ := h.stk
  refine ⟨O1, xs1, hg, fun b hb => ⟨fun e => ?_, hF.lo b (by simp [hb])⟩, hF.lo g (by simp), fun w' pv' O1' hc hg' hO hb => ⟨_, PS.add hk hs hkd hF (hc.mono fun x _ h => by simpa using h) hg' hO (Grow.mk' (by simp) hb h1 h2 (by simpa using h3)) hn⟩⟩
  have := h.fr.nodup
  simp only [List.nodup_append, List.mem_append] at this
  grind

/-- impl.ParseSExpr -/
theorem c_iParseSExpr {s : ByteArray} (hs : s.size ≤ 2097152) {w : World} : Ret Tryz.prog 22 [.string s] w (NewSxB w (prO s.data.toList)) := by
  have hM : maxLen = 9223372036854775807 := rfl
  refine ret_of_vc ttOkP Tryz.func22 rfl (by kernel_rfl) (by kernel_rfl) ?_
  refine Go1.al tiSx ?_
  intro w1 hx1 hbR
  have ltR := hbR.lt
  have sz1 := hx1.size
  refine Go1.bs tL [.slice none 0 0] (size := 1) (bytes := 24) Tryz.underlying71 tiLs (by decide) (by decide) (by kernel_rfl) ?_
  intro w2 hx2 hbO
  have sz2 := hx2.size
  have noK : ∀ w', Ext w w' → (∀ y, ¬ Prs s.data.toList y) → ∀ u, Chg (fun k => k = w.heap.size) w' u → NewSxB w (prO s.data.toList) (.tuple #[.agg #[.string em, .slice none 0 0], .bool false]) u := by
    intro w' hx' hno u hcu
    rw [prO_none hno]
    exact ⟨hx'.chg hcu (by omega), _, [], rfl, Kids.nil, Fresh.nil _ _⟩
  have lx0 : Lx s 0 0 [[]] := ⟨by simp, by rw [drp0, rnK_one, rnL_nil]; cases lexA [] s.data.toList <;> rfl, by rw [rnK_one, rnL_nil]; rfl, by simp [wsL], fun ts ht => Rose.AlL_of (by simp at ht; subst ht; simp)⟩
  have ps0 : PS w1.heap.size w2 (.slice (some ⟨w1.heap.size, 0, none⟩) 1 1) [.slice none 0 0] [[]] [w1.heap.size] [] :=
    ⟨Grow.mk' (rest := []) rfl (by simpa using hbO) (by decide) (by decide) rfl, ⟨[], [], [], [], rfl, Grow.nil, rfl, rfl⟩, Fresh.one hbO (Nat.le_refl _)⟩
  refine Lp.go ttOkP (by kernel_rfl) (fun q : Nat × Nat × Value => [(0, .string s), (2, .pointer (some ⟨w.heap.size, 0, none⟩)), (3, .bool false), (4, q.2.2), (5, .int .i64 (q.2.1 : Nat)), (6, .int .i64 (q.1 : Nat))])
    (fun q w' => Ext w w' ∧ Blk w' w.heap.size tS [.string em, .slice none 0 0] ∧ w1.heap.size ≤ w'.heap.size ∧ ∃ vs tss Oo bs, PS w1.heap.size w' q.2.2 vs tss Oo bs ∧ Lx s q.1 q.2.1 tss ∧ (tss.length ≤ 15 ∧ q.2.1 ≤ 1800 ∧ q.1 ≤ s.size))
    (fun q => s.size - q.1) (0, 0, .slice (some ⟨w1.heap.size, 0, none⟩) 1 1)
    ⟨rfl, rfl, rfl, rfl, rfl, rfl, trivial⟩ ⟨hx1.trans hx2, hbR.ext hx2, sz2, _, _, _, _, ps0, lx0, by simp, Nat.zero_le _, Nat.zero_le _⟩ ?_
  rintro ⟨i, c, ov⟩ w3 ⟨hx3, hbR3, sz3, vsA, tssA, Oo, bs, hps, hlx, htl, hcl, hil⟩
  dsimp only at hps hlx hcl hil ⊢
  have sz03 := hx3.size
  obtain ⟨v, vs, rfl⟩ : ∃ v vs, vsA = v :: vs := by
    cases vsA with
    | nil => exact absurd (List.eq_nil_of_length_eq_zero hps.stk.length.symm) hlx.ne
    | cons v vs => exact ⟨v, vs, rfl⟩
  obtain ⟨ts, r, aov, capv, rfl, rfl⟩ := hps.stk.slice
  have hlen := hps.stk.length
  have htsc := (hlx.len (List.mem_cons_self)).1
  simp only [List.length_cons] at hlen htl
  obtain ⟨g, cap, rest, rfl, rfl, hbg, hc1, hc2, hc3⟩ := hps.form
  have hgn : w1.heap.size ≤ g := hps.fr.lo g (by simp)
  refine Cm.s (fun hlt => ?_) (fun hge => ?_)
  · have hlt : i < s.size := by omega
    refine Wr.n vs.length (by simp) (by omega) ?_
    refine Go1.ixS hlt ?_
    refine Cm.s (fun h32 => ?_) (fun h32 => ?_)
    · refine Wr.n (i + 1) (by simp) (by omega) ?_
      exact ⟨(i + 1, c, _), ⟨rfl, rfl, rfl, rfl, rfl, rfl, trivial⟩, ⟨hx3, hbR3, sz3, _, _, _, _, hps, hlx.bl hlt (.inl (by omega)), by simp only [List.length_cons]; omega, hcl, hlt⟩, by show s.size - (i + 1) < s.size - i; omega⟩
    refine Cm.s (fun h10 => ?_) (fun h10 => ?_)
    · refine Wr.n (i + 1) (by simp) (by omega) ?_
      exact ⟨(i + 1, c, _), ⟨rfl, rfl, rfl, rfl, rfl, rfl, trivial⟩, ⟨hx3, hbR3, sz3, _, _, _, _, hps, hlx.bl hlt (.inr (by omega)), by simp only [List.length_cons]; omega, hcl, hlt⟩, by show s.size - (i + 1) < s.size - i; omega⟩
    have hnb : ¬ (s[i].toNat = 32 ∨ s[i].toNat = 10) := by omega
    refine Cm.s (fun h40 => ?_) (fun h40 => ?_)
    · have h40 : s[i].toNat = 40 := by omega
      refine Go1.bs tL [.slice none 0 0] (size := 1) (bytes := 24) Tryz.underlying71 tiLs (by decide) (by decide) (by kernel_rfl) ?_
      intro w4 hx4 hbN
      have sz4 := hx4.size
      have hps4 := hps.ext hx4
      refine Go1.app (size := 1) (bytes := 24) Tryz.underlying71 tiLs (by rfl) (by decide) hps4.out (m := 1) (news := [.slice none 0 0]) (Blk.lc0 (post := []) hbN) (by simp) (by simp [Value.oneCell']) (by simp only [List.length_cons]; omega) (by decide) ?_
      intro ov5 w5 Oo5 hc5 hg5 hO5
      have sz5 := hc5.size
      have hps5 := hps4.push hc5 hg5 hO5 (by omega)
      have hlx5 := hlx.push hlt h40
      have hx5 : Ext w w5 := (hx3.trans hx4).chg hc5 (fun x hx => by simp at hx; omega)
      have hbR5 := (hbR3.ext hx4).chg hc5 (by simp; omega)
      obtain ⟨g5, cap5, rest5, rfl, rfl, _⟩ := hps5.form
      refine Wr.n (i + 1) (by simp) (by omega) ?_
      refine Wr.n (c + 1) (by simp) (by omega) ?_
      refine Cm.s (fun hd => ?_) (fun hd => ?_)
      · try simp only [List.length_cons] at hd
        refine Go1.bd [.string em, .slice none 0 0] ?_
        refine Go0.st (off := 0) (vs := [.string em, .slice none 0 0]) (hbR5) rfl rfl (by simp) (by simp [Value.oneCell']) ?_
        intro wz hcz hbz _
        have hbz : Blk wz w.heap.size tS [.string em, .slice none 0 0] := hbz
        refine Ld.agg (vs := [.string em, .slice none 0 0]) (Blk.lc0 (post := []) hbz) ?_
        exact noK _ (hx5) (Lx.deep hlx5 (by simp only [List.length_cons]; omega)) wz hcz
      · try simp only [List.length_cons] at hd
        refine Cm.s (fun h18 => ?_) (fun h18 => ?_)
        · have hx18 : True := trivial
          refine Go1.bd [.string em, .slice none 0 0] ?_
          refine Go0.st (off := 0) (vs := [.string em, .slice none 0 0]) (hbR5) rfl rfl (by simp) (by simp [Value.oneCell']) ?_
          intro wz hcz hbz _
          have hbz : Blk wz w.heap.size tS [.string em, .slice none 0 0] := hbz
          refine Ld.agg (vs := [.string em, .slice none 0 0]) (Blk.lc0 (post := []) hbz) ?_
          exact noK _ (hx5) (Lx.long hlx5 (by omega)) wz hcz
        · exact ⟨(_, c + 1, _), ⟨rfl, rfl, rfl, rfl, rfl, rfl, trivial⟩, ⟨hx5, hbR5, by omega, _, _, _, _, hps5, hlx5, by simp only [List.length_cons]; omega, by show c + 1 ≤ 1800; omega, by assumption⟩, by show s.size - _ < s.size - i; omega⟩
    refine Cm.s (fun h41 => ?_) (fun h41 => ?_)
    · have h41 : s[i].toNat = 41 := by omega
      refine Cm.s (fun h0 => ?_) (fun h0 => ?_)
      · have hv0 : vs.length = 0 := by omega
        have hr0 : r = [] := List.eq_nil_of_length_eq_zero (by omega)
        subst hr0
        refine Go1.bd [.string em, .slice none 0 0] ?_
        refine Go0.st (off := 0) (vs := [.string em, .slice none 0 0]) (hbR3) rfl rfl (by simp) (by simp [Value.oneCell']) ?_
        intro wz hcz hbz _
        have hbz : Blk wz w.heap.size tS [.string em, .slice none 0 0] := hbz
        refine Ld.agg (vs := [.string em, .slice none 0 0]) (Blk.lc0 (post := []) hbz) ?_
        exact noK _ (hx3) (hlx.rp hlt h41) wz hcz
      have hv0 : 0 < vs.length := by omega
      obtain ⟨pv, vs, rfl⟩ : ∃ pv vs', vs = pv :: vs' := by
        cases vs with
        | nil => simp at hv0
        | cons pv vs => exact ⟨pv, vs, rfl⟩
      obtain ⟨us, r, rfl⟩ : ∃ us r', r = us :: r' := by
        cases r with
        | nil => simp at hlen
        | cons us r => exact ⟨us, r, rfl⟩
      simp only [List.length_cons] at hlen htl
      have husc := (hlx.len (List.mem_cons_of_mem _ List.mem_cons_self)).1
      refine Dr.cut (β := Bool) (fun t => [(0, .string s), (2, .pointer (some ⟨w.heap.size, 0, none⟩)), (3, .bool false), (4, .slice (some ⟨g, 0, none⟩) (vs.length + 1 + 1) cap), (5, .int .i64 (c : Nat)), (6, .int .i64 (i : Nat)), (7, .int .i64 (vs.length + 1 : Nat)), (46, .bool t)]) (fun _ w' => Ext w3 w') ?_ ?_
      · refine Dr.g [0, 1, 2, 3] [(1, 2)] [] ttOkP ?_
        refine ⟨fun u hu => ?_⟩
        refine Go1.al tiBool ?_
        intro u1 hu1 hb1
        have szu := hu.size
        have szu1 := hu1.size
        have lt1 := hb1.lt
        refine Af.nw ?_
        have go : ∀ (a b : Bool) u2, Ext u1 u2 → ∀ u3, Chg (fun k => k = u.heap.size) u2 u3 → ∀ u4, Ext u3 u4 → ∀ u5, Chg (fun k => k = u.heap.size) u4 u5 → ∀ u6, Ext u5 u6 → Ext w3 u6 := fun a b u2 h2 u3 h3 u4 h4 u5 h5 u6 h6 =>
          ((((((hu.trans hu1).trans h2).chg h3 (fun x hx => by omega)).trans h4).chg h5 (fun x hx => by omega)).trans h6)
        refine ⟨⟨fun u2 hu2 => ?_⟩, ⟨fun u2 hu2 => ?_⟩⟩
        · refine Go0.st (off := 0) (vs := [.bool true]) (hb1.ext hu2) rfl rfl (by simp [Value.cells]) (by simp [Value.oneCell']) ?_
          intro u3 hc3' hb3 _
          have hb3 : Blk u3 u.heap.size 4 [.bool true] := hb3
          refine Af.nw ?_
          refine ⟨fun u4 hu4 => ?_⟩
          refine Go0.st (off := 0) (vs := [.bool false]) (hb3.ext hu4) rfl rfl (by simp) (by simp [Value.oneCell']) ?_
          intro u5 hc5' hb5 _
          have hb5 : Blk u5 u.heap.size 4 [.bool false] := hb5
          refine Af.nw ?_
          refine LdS.x1 (v := .bool false) (hb5.at_ 0 rfl) ?_
          intro u6 hu6
          exact ⟨false, ⟨rfl, rfl, rfl, rfl, rfl, rfl, rfl, rfl, trivial⟩, go true true u2 hu2 u3 hc3' u4 hu4 u5 hc5' u6 hu6⟩
        · refine Go0.st (off := 0) (vs := [.bool false]) (hb1.ext hu2) rfl rfl (by simp [Value.cells]) (by simp [Value.oneCell']) ?_
          intro u3 hc3' hb3 _
          have hb3 : Blk u3 u.heap.size 4 [.bool false] := hb3
          refine Af.nw ?_
          refine ⟨fun u4 hu4 => ?_⟩
          refine Go0.st (off := 0) (vs := [.bool true]) (hb3.ext hu4) rfl rfl (by simp) (by simp [Value.oneCell']) ?_
          intro u5 hc5' hb5 _
          have hb5 : Blk u5 u.heap.size 4 [.bool true] := hb5
          refine Af.nw ?_
          refine LdS.x1 (v := .bool true) (hb5.at_ 0 rfl) ?_
          intro u6 hu6
          exact ⟨true, ⟨rfl, rfl, rfl, rfl, rfl, rfl, rfl, rfl, trivial⟩, go true true u2 hu2 u3 hc3' u4 hu4 u5 hc5' u6 hu6⟩
      intro t w4 hx4
      have sz4 := hx4.size
      have hps4 := hps.ext hx4
      obtain ⟨g0, cap0, rest0, bs2, ds, ev, hbo, hd1, hd2, hd3, hkd, hF, hpp⟩ := hps4.pop (by omega)
      simp only [Value.slice.injEq, Option.some.injEq, Addr.mk.injEq, and_true] at ev
      obtain ⟨rfl, _, rfl⟩ := ev
      obtain ⟨O1, xs1, hgp, hO1, _, hput⟩ := PS.put (t := .mk em ts) hpp hkd hF (by omega) (by omega) hd2 hd3
      obtain ⟨us', r', aop, capp, e1, rfl⟩ := hpp.stk.slice
      simp only [List.cons.injEq] at e1
      obtain ⟨rfl, rfl⟩ := e1
      have hxl : (fl encS us xs1).length = us.length * 2 := hgp.1
      have hgO : ¬ g ∈ O1 := fun h => (hO1 g h).1 rfl
      have hv1 : (vs.reverse ++ [.slice aop us.length capp] ++ ([.slice aov ts.length capv] ++ rest0))[vs.length]? = some (.slice aop us.length capp) := at_mid (by simp)
      have hv2 : (vs.reverse ++ [.slice aop us.length capp] ++ ([.slice aov ts.length capv] ++ rest0))[vs.length + 1]? = some (.slice aov ts.length capv) := by
        rw [← List.append_assoc]; exact at_mid (by simp)
      have hx04 : Ext w w4 := hx3.trans hx4
      have hbR4 := hbR3.ext hx4
      have hlx5 := hlx.pop hlt h41
      have hM1 : ∀ x, (x ∈ O1 ∨ x = g) → w1.heap.size ≤ x := fun x hx => hx.elim (fun h => (hO1 x h).2) fun h => by omega
      have fin : ∀ w5 pv' O1', Chg (fun k => k ∈ O1 ∨ k = g) w4 w5 → Grow w5 tS 2 pv' (us.length + 1) (fl encS us xs1 ++ [.string em, .slice aov ts.length capv]) O1' → (∀ b ∈ O1', b ∈ O1 ∨ w4.heap.size ≤ b) → Blk w5 g tL (vs.reverse ++ [pv'] ++ ([.slice aov ts.length capv] ++ rest0)) →
          Ext w w5 ∧ Blk w5 w.heap.size tS [.string em, .slice none 0 0] ∧ w1.heap.size ≤ w5.heap.size ∧ ∃ bs', PS w1.heap.size w5 (.slice (some ⟨g, 0, none⟩) (vs.length + 1) cap) (pv' :: vs) ((us ++ [.mk em ts]) :: r) [g] bs' := fun w5 pv' O1' hc hg hO hb =>
        ⟨hx04.chg hc fun x hx => by have := hM1 x hx; omega, hbR4.chg hc fun hx => by have := hM1 _ hx; omega, by have := hc.size; omega, hput w5 pv' O1' hc hg hO hb⟩
      cases t with
      | true =>
        refine Dr.cut (β := Nat × Nat) (fun q => [(0, .string s), (2, .pointer (some ⟨w.heap.size, 0, none⟩)), (3, .bool false), (4, .slice (some ⟨g, 0, none⟩) (vs.length + 1 + 1) cap), (5, .int .i64 (c : Nat)), (6, .int .i64 (i : Nat)), (7, .int .i64 (vs.length + 1 : Nat)), (59, .agg #[.string em, .slice aov ts.length capv]), (60, .int .i64 (us.length : Nat)), (62, .slice (some ⟨q.1, 0, none⟩) (us.length + 1) q.2)])
          (fun q w' => Chg (fun k => k ∈ O1 ∨ k = g) w4 w' ∧ (q.1 ∈ O1 ∨ w4.heap.size ≤ q.1) ∧ Blk w' g tL (vs.reverse ++ [.slice (some ⟨q.1, 0, none⟩) (us.length + 1) q.2] ++ ([.slice aov ts.length capv] ++ rest0)) ∧ ∃ rst : List Value, Blk w' q.1 tS (fl encS us xs1 ++ [.string em, .slice none 0 0] ++ rst) ∧ us.length + 1 ≤ q.2 ∧ q.2 ≤ maxLen ∧ (fl encS us xs1 ++ [Value.string em, Value.slice none 0 0] ++ rst).length = q.2 * 2) ?_ ?_
        · refine Dr.g [0, 1, 2, 3, 4, 5, 6, 8, 9, 10, 7, 11, 12, 13, 14, 15, 16, 17] [] [11, 12, 13, 14] ttOkP ?_
          refine Wr.n vs.length (by simp) (by omega) ?_
          refine Wr.n vs.length (by simp) (by omega) ?_
          refine GoS.ix 1 (j := vs.length) (by omega) ?_
          refine GoS.ix 1 (j := vs.length + 1) (by omega) ?_
          refine LdS.x1 (Blk.elt hbo hv1) ?_
          refine LdS.x1 (Blk.elt hbo hv2) ?_
          refine GoS.bd [.string em, .slice aov ts.length capv] ?_
          refine ⟨fun ua0 hu0 => ?_⟩
          have sza0 := hu0.size
          refine Go1.bs tS [.string em, .slice none 0 0] (size := 2) (bytes := 40) Tryz.underlying31 tiSx (by decide) (by decide) (by kernel_rfl) ?_
          intro ub0 hx0 hbN
          have szb0 := hx0.size
          have hc0 : Chg (fun k => k ∈ O1 ∨ k = g) w4 ub0 := ((Chg.refl (fun k => k ∈ O1 ∨ k = g) w4).ext hu0).ext hx0
          have hbo0 := ((hbo).ext hu0).ext hx0
          have hgp0 := (hgp.ext hu0).ext hx0
          refine Af.ext (hu0.trans hx0) ?_
          refine ⟨fun ua1 hu1 => ?_⟩
          have sza1 := hu1.size
          refine Go1.app (size := 2) (bytes := 40) Tryz.underlying31 tiSx (by rfl) (by decide) (hgp0.ext hu1) (m := 1) (news := [.string em, .slice none 0 0]) (Blk.lc0 (post := []) (hbN.ext hu1)) (by simp) (by simp [Value.oneCell']) (by omega) (by decide) ?_
          intro pvF ub1 Of hcf hgf hOf
          have szb1 := hcf.size
          have hc1 : Chg (fun k => k ∈ O1 ∨ k = g) w4 ub1 := (Chg.trans (hc0.ext hu1) hcf).mono fun x _ h => h.elim id .inl
          have hbo1 := ((hbo0).ext hu1).chg hcf hgO
          have hOf : ∀ b ∈ Of, b ∈ O1 ∨ w4.heap.size ≤ b := fun b hb => (hOf b hb).imp id fun h => by omega
          have hOg : ∀ b ∈ Of, ¬ b = g := fun b hb e => (hOf b hb).elim (fun h => (hO1 b h).1 e) fun h => by have := hbo.lt; omega
          obtain ⟨gv, capv2, rstv, rfl, hOfe, hbF, hF1, hF2, hF3⟩ := Grow.own hgf (by omega)
          refine Af.nw ?_
          refine GoS.ix 1 (j := vs.length) (by omega) ?_
          refine ⟨fun ua2 hu2 => ?_⟩
          have sza2 := hu2.size
          refine Go0.st (off := vs.length) (vs := [.slice (some ⟨gv, 0, none⟩) (us.length + 1) capv2]) (hbo1.ext hu2) (by rw [Addr.add_lit, Nat.mul_one, Nat.zero_add]) (by simp [Value.cells]) (by simp) (by simp [Value.oneCell']) ?_
          intro ub2 hcs hbs _
          rw [spl_mid _ _ _ _ (by simp) (by rfl)] at hbs
          have szb2 := hcs.size
          have hc2 : Chg (fun k => k ∈ O1 ∨ k = g) w4 ub2 := (Chg.trans (hc1.ext hu2) hcs).mono fun x _ h => h.elim id .inr
          have hgf2 := (hbF.ext hu2).chg hcs (hOg gv (by simp [hOfe]))
          have hv2' : (vs.reverse ++ [.slice (some ⟨gv, 0, none⟩) (us.length + 1) capv2] ++ ([.slice aov ts.length capv] ++ rest0))[vs.length + 1]? = some (.slice aov ts.length capv) := by
            rw [← List.append_assoc]; exact at_mid (by simp)
          refine Af.nw ?_
          intro uz huz
          exact ⟨(gv, capv2), ⟨rfl, rfl, rfl, rfl, rfl, rfl, rfl, rfl, rfl, rfl, trivial⟩, hc2.ext huz, hOf gv (by simp [hOfe]), hbs.ext huz, rstv, hgf2.ext huz, hF1, hF2, hF3⟩
        rintro ⟨gF, capF⟩ w5 ⟨hc5, hgF, hbo5, rst, hbF, hF1, hF2, hF3⟩
        dsimp only at hgF hbo5 hbF hF1 hF2 hF3 ⊢
        refine Go1.ix 2 (j := us.length) (by omega) ?_
        refine Go0.st (off := us.length * 2) (vs := [.string em, .slice aov ts.length capv]) hbF (by rw [Addr.add_lit, Nat.zero_add]) rfl (by simp; omega) (by simp [Value.oneCell']) ?_
        intro w6 hc6 hb6 _
        rw [spl_mid _ _ _ _ hxl.symm (by rfl)] at hb6
        have hgFg : gF ≠ g := fun e => hgF.elim (fun h => (hO1 _ h).1 e) fun h => by have := hbo.lt; omega
        have hc46 : Chg (fun k => k ∈ O1 ∨ k = g) w4 w6 := (Chg.trans hc5 hc6).mono fun x hx h => h.elim id fun h => hgF.elim (fun h2 => .inl (h ▸ h2)) fun h2 => by omega
        obtain ⟨hx5, hbR5, sz5, bs5, hps5⟩ := fin w6 _ [gF] hc46 (Grow.mk' (by simp; omega) hb6 hF1 hF2 (by simpa using hF3)) (by simpa using hgF) (hbo5.chg hc6 (Ne.symm hgFg))
        refine Go1.go (run_sliceTo (k := vs.length + 1) Tryz.underlying71 tiLs (by omega) _) ?_
        refine Wr.n (i + 1) (by simp) (by omega) ?_
        refine Wr.n (c + 1) (by simp) (by omega) ?_
        refine Cm.s (fun hd => ?_) (fun hd => ?_)
        · try simp only [List.length_cons] at hd
          refine Go1.bd [.string em, .slice none 0 0] ?_
          refine Go0.st (off := 0) (vs := [.string em, .slice none 0 0]) (hbR5) rfl rfl (by simp) (by simp [Value.oneCell']) ?_
          intro wz hcz hbz _
          have hbz : Blk wz w.heap.size tS [.string em, .slice none 0 0] := hbz
          refine Ld.agg (vs := [.string em, .slice none 0 0]) (Blk.lc0 (post := []) hbz) ?_
          exact noK _ (hx5) (Lx.deep hlx5 (by simp only [List.length_cons]; omega)) wz hcz
        · try simp only [List.length_cons] at hd
          refine Cm.s (fun h18 => ?_) (fun h18 => ?_)
          · have hx18 : True := trivial
            refine Go1.bd [.string em, .slice none 0 0] ?_
            refine Go0.st (off := 0) (vs := [.string em, .slice none 0 0]) (hbR5) rfl rfl (by simp) (by simp [Value.oneCell']) ?_
            intro wz hcz hbz _
            have hbz : Blk wz w.heap.size tS [.string em, .slice none 0 0] := hbz
            refine Ld.agg (vs := [.string em, .slice none 0 0]) (Blk.lc0 (post := []) hbz) ?_
            exact noK _ (hx5) (Lx.long hlx5 (by omega)) wz hcz
          · exact ⟨(_, c + 1, _), ⟨rfl, rfl, rfl, rfl, rfl, rfl, trivial⟩, ⟨hx5, hbR5, sz5, _, _, _, _, hps5, hlx5, by simp only [List.length_cons]; omega, by show c + 1 ≤ 1800; omega, by assumption⟩, by show s.size - _ < s.size - i; omega⟩
      | false =>
        refine Dr.g [0, 1, 2, 3, 4, 5, 6, 8, 9, 10, 7, 11, 12, 13, 14, 15, 16] [] [11, 12, 13] ttOkP ?_
        refine Wr.n vs.length (by simp) (by omega) ?_
        refine Wr.n vs.length (by simp) (by omega) ?_
        refine GoS.ix 1 (j := vs.length) (by omega) ?_
        refine GoS.ix 1 (j := vs.length + 1) (by omega) ?_
        refine LdS.x1 (Blk.elt hbo hv1) ?_
        refine LdS.x1 (Blk.elt hbo hv2) ?_
        refine GoS.bd [.string em, .slice aov ts.length capv] ?_
        refine ⟨fun ua hua => ?_⟩
        have sza := hua.size
        refine Go1.bs tS [.string em, .slice aov ts.length capv] (size := 2) (bytes := 40) Tryz.underlying31 tiSx (by decide) (by decide) (by kernel_rfl) ?_
        intro ub hxb hbN
        have szb := hxb.size
        refine Af.ext (hua.trans hxb) ?_
        refine ⟨fun uc huc => ?_⟩
        have szc := huc.size
        have hxc := (hua.trans hxb).trans huc
        refine Go1.app (size := 2) (bytes := 40) Tryz.underlying31 tiSx (by rfl) (by decide) (hgp.ext hxc) (m := 1) (news := [.string em, .slice aov ts.length capv]) (Blk.lc0 (post := []) (hbN.ext huc)) (by simp) (by simp [Value.oneCell']) (by omega) (by decide) ?_
        intro pvF ud Of hcf hgf hOf
        have szd := hcf.size
        have hOf : ∀ b ∈ Of, b ∈ O1 ∨ w4.heap.size ≤ b := fun b hb => (hOf b hb).imp id fun h => by omega
        have hOg : ∀ b ∈ Of, ¬ b = g := fun b hb e => (hOf b hb).elim (fun h => (hO1 b h).1 e) fun h => by have := hbo.lt; omega
        obtain ⟨gv, capv2, rstv, rfl, hOfe, _⟩ := Grow.own hgf (by omega)
        refine Af.nw ?_
        refine GoS.ix 1 (j := vs.length) (by omega) ?_
        refine ⟨fun ue hue => ?_⟩
        have sze := hue.size
        refine Go0.st (off := vs.length) (vs := [.slice (some ⟨gv, 0, none⟩) (us.length + 1) capv2]) (((hbo.ext hxc).chg hcf hgO).ext hue) (by rw [Addr.add_lit, Nat.mul_one, Nat.zero_add]) (by simp [Value.cells]) (by simp) (by simp [Value.oneCell']) ?_
        intro uf hcs hbs _
        rw [spl_mid _ _ _ _ (by simp) (by rfl)] at hbs
        refine Af.nw ?_
        intro w6 hx6
        have hc46 : Chg (fun k => k ∈ O1 ∨ k = g) w4 w6 := ((Chg.trans ((hxc.chgM hcf).ext hue) hcs).mono fun x _ h => h).ext hx6
        obtain ⟨hx5, hbR5, sz5, bs5, hps5⟩ := fin w6 _ Of hc46 (((hgf.ext hue).chg hcs hOg).ext hx6) hOf (hbs.ext hx6)
        refine Go1.go (run_sliceTo (k := vs.length + 1) Tryz.underlying71 tiLs (by omega) _) ?_
        refine Wr.n (i + 1) (by simp) (by omega) ?_
        refine Wr.n (c + 1) (by simp) (by omega) ?_
        refine Cm.s (fun hd => ?_) (fun hd => ?_)
        · try simp only [List.length_cons] at hd
          refine Go1.bd [.string em, .slice none 0 0] ?_
          refine Go0.st (off := 0) (vs := [.string em, .slice none 0 0]) (hbR5) rfl rfl (by simp) (by simp [Value.oneCell']) ?_
          intro wz hcz hbz _
          have hbz : Blk wz w.heap.size tS [.string em, .slice none 0 0] := hbz
          refine Ld.agg (vs := [.string em, .slice none 0 0]) (Blk.lc0 (post := []) hbz) ?_
          exact noK _ (hx5) (Lx.deep hlx5 (by simp only [List.length_cons]; omega)) wz hcz
        · try simp only [List.length_cons] at hd
          refine Cm.s (fun h18 => ?_) (fun h18 => ?_)
          · have hx18 : True := trivial
            refine Go1.bd [.string em, .slice none 0 0] ?_
            refine Go0.st (off := 0) (vs := [.string em, .slice none 0 0]) (hbR5) rfl rfl (by simp) (by simp [Value.oneCell']) ?_
            intro wz hcz hbz _
            have hbz : Blk wz w.heap.size tS [.string em, .slice none 0 0] := hbz
            refine Ld.agg (vs := [.string em, .slice none 0 0]) (Blk.lc0 (post := []) hbz) ?_
            exact noK _ (hx5) (Lx.long hlx5 (by omega)) wz hcz
          · exact ⟨(_, c + 1, _), ⟨rfl, rfl, rfl, rfl, rfl, rfl, trivial⟩, ⟨hx5, hbR5, sz5, _, _, _, _, hps5, hlx5, by simp only [List.length_cons]; omega, by show c + 1 ≤ 1800; omega, by assumption⟩, by show s.size - _ < s.size - i; omega⟩
    refine (c_isAtomByte _).mono ?_
    rintro _ w4 ⟨rfl, hw4⟩
    obtain rfl : w3 = w4 := hw4.symm
    by_cases hat : AtomP s[i].toNat
    rotate_left
    · rw [decide_eq_false hat]
      refine Go1.bd [.string em, .slice none 0 0] ?_
      refine Go0.st (off := 0) (vs := [.string em, .slice none 0 0]) (hbR3) rfl rfl (by simp) (by simp [Value.oneCell']) ?_
      intro wz hcz hbz _
      have hbz : Blk wz w.heap.size tS [.string em, .slice none 0 0] := hbz
      refine Ld.agg (vs := [.string em, .slice none 0 0]) (Blk.lc0 (post := []) hbz) ?_
      exact noK _ (hx3) (hlx.bad hlt hat hnb (by omega) (by omega)) wz hcz
    rw [decide_eq_true hat]
    refine Lp.go ttOkP (by kernel_rfl) (fun j : Nat => [(0, .string s), (2, .pointer (some ⟨w.heap.size, 0, none⟩)), (3, .bool false), (4, .slice (some ⟨g, 0, none⟩) (vs.length + 1) cap), (5, .int .i64 (c : Nat)), (6, .int .i64 (i : Nat)), (7, .int .i64 (vs.length : Nat)), (9, .int .i64 (j : Nat))])
      (fun j w' => w' = w3 ∧ (i ≤ j ∧ j ≤ s.size) ∧ ∀ b ∈ (drp s i).take (j - i), atB b = true) (fun j => s.size - j) i
      ⟨rfl, rfl, rfl, rfl, rfl, rfl, rfl, rfl, trivial⟩ ⟨rfl, ⟨Nat.le_refl _, hil⟩, by simp⟩ ?_
    rintro j w5 ⟨hw5, ⟨hij, hj⟩, hatb⟩
    obtain rfl : w3 = w5 := hw5.symm
    refine Cm.s (fun hjlt => ?_) (fun hjge => ?_)
    · have hjlt : j < s.size := by omega
      refine Go1.ixS hjlt ?_
      refine (c_isAtomByte _).mono ?_
      rintro _ w6 ⟨rfl, hw6⟩
      obtain rfl : w3 = w6 := hw6.symm
      by_cases hja : AtomP s[j].toNat
      · rw [decide_eq_true hja]
        refine Wr.n (j + 1) (by simp) (by omega) ?_
        refine ⟨j + 1, ⟨rfl, rfl, rfl, rfl, rfl, rfl, rfl, rfl, trivial⟩, ⟨rfl, ⟨by omega, hjlt⟩, ?_⟩, by omega⟩
        have hjk' : j - i < (drp s i).length := by simp; omega
        have e : j + 1 - i = (j - i) + 1 := by omega
        rw [e, List.take_succ_eq_append_getElem hjk']
        intro b hb
        rcases List.mem_append.1 hb with hb | hb
        · exact hatb b hb
        · have hbk : b = s[j] := by
            have h1 : b = (drp s i)[j - i] := by simpa using hb
            rw [h1, List.getElem_drop]
            have : i + (j - i) = j := by omega
            simp only [this]
            rfl
          rw [hbk]
          simpa [atB] using hja
      · rw [decide_eq_false hja]
        have hij' : i < j := by
          rcases Nat.lt_or_ge i j with h | h
          · exact h
          · have : i = j := by omega
            subst this
            exact absurd hat hja
        have hends : Ends (drp s j) := by
          rw [drp_cons hjlt]
          simp only [Ends]
          cases h : atB s[j] with
          | false => rfl
          | true => exact absurd (by simpa [atB] using h) hja
        have hlx5 := hlx.atom hij' hj hatb hends
        obtain ⟨O1, xs1, hgp, hO1, _, hput⟩ := PS.put (t := .mk (s.extract i j) []) (ds := []) hps Kids.nil (by simpa using hps.fr) (by omega) hc1 hc2 hc3
        have hxl : (fl encS ts xs1).length = ts.length * 2 := hgp.1
        have hgO : ¬ g ∈ O1 := fun h => (hO1 g h).1 rfl
        have hM1 : ∀ x, (x ∈ O1 ∨ x = g) → w1.heap.size ≤ x := fun x hx => hx.elim (fun h => (hO1 x h).2) fun h => by omega
        have hv1 : (vs.reverse ++ [.slice aov ts.length capv] ++ rest)[vs.length]? = some (.slice aov ts.length capv) := at_mid (by simp)
        refine Dr.cut (β := Unit) (fun _ => [(0, .string s), (2, .pointer (some ⟨w.heap.size, 0, none⟩)), (3, .bool false), (4, .slice (some ⟨g, 0, none⟩) (vs.length + 1) cap), (5, .int .i64 (c : Nat)), (6, .int .i64 (i : Nat)), (9, .int .i64 (j : Nat))])
          (fun _ w' => Ext w w' ∧ Blk w' w.heap.size tS [.string em, .slice none 0 0] ∧ w1.heap.size ≤ w'.heap.size ∧ ∃ pv' bs', PS w1.heap.size w' (.slice (some ⟨g, 0, none⟩) (vs.length + 1) cap) (pv' :: vs) ((ts ++ [.mk (s.extract i j) []]) :: r) [g] bs') ?_ ?_
        · refine Dr.g [0, 1, 2, 4, 5, 6, 7, 8, 3, 9, 10, 11, 12, 14, 13, 15] [(13, 15)] [10] ttOkP ?_
          refine GoS.ix 1 (j := vs.length) (by omega) ?_
          refine GoS.of1 (run_sub Tryz.underlying9 hij hj) ?_
          refine GoS.bd [.string (s.extract i j), .slice none 0 0] ?_
          refine LdS.x1 (Blk.elt hbg hv1) ?_
          refine ⟨fun ua hua => ?_⟩
          have sza := hua.size
          refine Go1.bs tS [.string em, .slice none 0 0] (size := 2) (bytes := 40) Tryz.underlying31 tiSx (by decide) (by decide) (by kernel_rfl) ?_
          intro ub hxb hbN
          have szb := hxb.size
          refine Af.ext (hua.trans hxb) ?_
          refine ⟨fun uc huc => ?_⟩
          have szc := huc.size
          have hxc := (hua.trans hxb).trans huc
          refine Go1.app (size := 2) (bytes := 40) Tryz.underlying31 tiSx (by rfl) (by decide) (hgp.ext hxc) (m := 1) (news := [.string em, .slice none 0 0]) (Blk.lc0 (post := []) (hbN.ext huc)) (by simp) (by simp [Value.oneCell']) (by omega) (by decide) ?_
          intro pvF ud Of hcf hgf hOf
          have szd := hcf.size
          have hOf : ∀ b ∈ Of, b ∈ O1 ∨ w3.heap.size ≤ b := fun b hb => (hOf b hb).imp id fun h => by omega
          obtain ⟨gv, capv2, rstv, rfl, rfl, hbF, hF1, hF2, hF3⟩ := Grow.own hgf (by omega)
          have hgv := hOf gv (by simp)
          have hgvg : gv ≠ g := fun e => hgv.elim (fun h => (hO1 _ h).1 e) fun h => by have := hbg.lt; omega
          have hbgd := (hbg.ext hxc).chg hcf hgO
          have hcd : Chg (fun k => k ∈ O1 ∨ k = g) w3 ud := (hxc.chgM hcf).mono fun x _ h => .inl h
          refine Af.nw ?_
          refine GoS.ix 2 (j := ts.length) (by omega) ?_
          refine GoS.ix 1 (j := vs.length) (by omega) ?_
          have fin : ∀ u, Chg (fun k => k ∈ O1 ∨ k = g) w3 u → ∀ rst, Blk u gv tS (fl encS ts xs1 ++ [.string (s.extract i j), .slice none 0 0] ++ rst) → (fl encS ts xs1 ++ [Value.string (s.extract i j), Value.slice none 0 0] ++ rst).length = capv2 * 2 → Blk u g tL (vs.reverse ++ [.slice (some ⟨gv, 0, none⟩) (ts.length + 1) capv2] ++ rest) →
              Ext w u ∧ Blk u w.heap.size tS [.string em, .slice none 0 0] ∧ w1.heap.size ≤ u.heap.size ∧ ∃ pv' bs', PS w1.heap.size u (.slice (some ⟨g, 0, none⟩) (vs.length + 1) cap) (pv' :: vs) ((ts ++ [.mk (s.extract i j) []]) :: r) [g] bs' := fun u hc rst hb hl hbo => by
            obtain ⟨bs', h⟩ := hput u _ [gv] hc (Grow.mk' (by simp; omega) hb hF1 hF2 hl) (by simpa using hgv) hbo
            exact ⟨hx3.chg hc fun x hx => by have := hM1 x hx; omega, hbR3.chg hc fun hx => by have := hM1 _ hx; omega, by have := hc.size; omega, _, bs', h⟩
          refine ⟨⟨fun ue hue => ?_⟩, ⟨fun ue hue => ?_⟩⟩
          · refine Go0.st (off := ts.length * 2) (vs := [.string (s.extract i j), .slice none 0 0]) (hbF.ext hue) (by rw [Addr.add_lit, Nat.zero_add]) rfl (by simp; omega) (by simp [Value.oneCell']) ?_
            intro uf hc1' hb1' _
            rw [spl_mid _ _ _ _ hxl.symm (by rfl)] at hb1'
            refine Af.nw ?_
            refine ⟨fun ug hug => ?_⟩
            refine Go0.st (off := vs.length) (vs := [.slice (some ⟨gv, 0, none⟩) (ts.length + 1) capv2]) (((hbgd.ext hue).chg hc1' (Ne.symm hgvg)).ext hug) (by rw [Addr.add_lit, Nat.mul_one, Nat.zero_add]) (by simp [Value.cells]) (by simp) (by simp [Value.oneCell']) ?_
            intro uh hc2' hb2' _
            rw [spl_mid _ _ _ _ (by simp) (by rfl)] at hb2'
            refine Af.nw ?_
            intro w6 hx6
            refine ⟨(), ⟨rfl, rfl, rfl, rfl, rfl, rfl, rfl, trivial⟩, fin w6 ?_ rstv (((hb1'.ext hug).chg hc2' hgvg).ext hx6) (by simpa using hF3) (hb2'.ext hx6)⟩
            exact ((Chg.trans ((Chg.trans (hcd.ext hue) hc1').ext hug) hc2').ext hx6).mono fun x hx h => by
              rcases h with (h | h) | h
              · exact h
              · exact hgv.elim (fun h2 => .inl (h ▸ h2)) fun h2 => by omega
              · exact .inr h
          · refine Go0.st (off := vs.length) (vs := [.slice (some ⟨gv, 0, none⟩) (ts.length + 1) capv2]) (hbgd.ext hue) (by rw [Addr.add_lit, Nat.mul_one, Nat.zero_add]) (by simp [Value.cells]) (by simp) (by simp [Value.oneCell']) ?_
            intro uf hc1' hb1' _
            rw [spl_mid _ _ _ _ (by simp) (by rfl)] at hb1'
            refine Af.nw ?_
            refine ⟨fun ug hug => ?_⟩
            refine Go0.st (off := ts.length * 2) (vs := [.string (s.extract i j), .slice none 0 0]) (((hbF.ext hue).chg hc1' hgvg).ext hug) (by rw [Addr.add_lit, Nat.zero_add]) rfl (by simp; omega) (by simp [Value.oneCell']) ?_
            intro uh hc2' hb2' _
            rw [spl_mid _ _ _ _ hxl.symm (by rfl)] at hb2'
            refine Af.nw ?_
            intro w6 hx6
            refine ⟨(), ⟨rfl, rfl, rfl, rfl, rfl, rfl, rfl, trivial⟩, fin w6 ?_ rstv (hb2'.ext hx6) (by simpa using hF3) (((hb1'.ext hug).chg hc2' (Ne.symm hgvg)).ext hx6)⟩
            exact ((Chg.trans ((Chg.trans (hcd.ext hue) hc1').ext hug) hc2').ext hx6).mono fun x hx h => by
              rcases h with (h | h) | h
              · exact h
              · exact .inr h
              · exact hgv.elim (fun h2 => .inl (h ▸ h2)) fun h2 => by omega
        rintro _ w6 ⟨hx5, hbR5, sz5, pv5, bs5, hps5⟩
        refine Wr.n (c + 1) (by simp) (by omega) ?_
        refine Cm.s (fun hd => ?_) (fun hd => ?_)
        · try simp only [List.length_cons] at hd
          refine Go1.bd [.string em, .slice none 0 0] ?_
          refine Go0.st (off := 0) (vs := [.string em, .slice none 0 0]) (hbR5) rfl rfl (by simp) (by simp [Value.oneCell']) ?_
          intro wz hcz hbz _
          have hbz : Blk wz w.heap.size tS [.string em, .slice none 0 0] := hbz
          refine Ld.agg (vs := [.string em, .slice none 0 0]) (Blk.lc0 (post := []) hbz) ?_
          exact noK _ (hx5) (Lx.deep hlx5 (by simp only [List.length_cons]; omega)) wz hcz
        · try simp only [List.length_cons] at hd
          refine Cm.s (fun h18 => ?_) (fun h18 => ?_)
          · have hx18 : True := trivial
            refine Go1.bd [.string em, .slice none 0 0] ?_
            refine Go0.st (off := 0) (vs := [.string em, .slice none 0 0]) (hbR5) rfl rfl (by simp) (by simp [Value.oneCell']) ?_
            intro wz hcz hbz _
            have hbz : Blk wz w.heap.size tS [.string em, .slice none 0 0] := hbz
            refine Ld.agg (vs := [.string em, .slice none 0 0]) (Blk.lc0 (post := []) hbz) ?_
            exact noK _ (hx5) (Lx.long hlx5 (by omega)) wz hcz
          · exact ⟨(_, c + 1, _), ⟨rfl, rfl, rfl, rfl, rfl, rfl, trivial⟩, ⟨hx5, hbR5, sz5, _, _, _, _, hps5, hlx5, by simp only [List.length_cons]; omega, by show c + 1 ≤ 1800; omega, by assumption⟩, by show s.size - _ < s.size - i; omega⟩
    · have hjs : j = s.size := by omega
      have hij' : i < j := by omega
      have hends : Ends (drp s j) := by rw [drp_end (by omega)]; trivial
      have hlx5 := hlx.atom hij' hj hatb hends
      obtain ⟨O1, xs1, hgp, hO1, _, hput⟩ := PS.put (t := .mk (s.extract i j) []) (ds := []) hps Kids.nil (by simpa using hps.fr) (by omega) hc1 hc2 hc3
      have hxl : (fl encS ts xs1).length = ts.length * 2 := hgp.1
      have hgO : ¬ g ∈ O1 := fun h => (hO1 g h).1 rfl
      have hM1 : ∀ x, (x ∈ O1 ∨ x = g) → w1.heap.size ≤ x := fun x hx => hx.elim (fun h => (hO1 x h).2) fun h => by omega
      have hv1 : (vs.reverse ++ [.slice aov ts.length capv] ++ rest)[vs.length]? = some (.slice aov ts.length capv) := at_mid (by simp)
      refine Dr.cut (β := Unit) (fun _ => [(0, .string s), (2, .pointer (some ⟨w.heap.size, 0, none⟩)), (3, .bool false), (4, .slice (some ⟨g, 0, none⟩) (vs.length + 1) cap), (5, .int .i64 (c : Nat)), (6, .int .i64 (i : Nat)), (9, .int .i64 (j : Nat))])
        (fun _ w' => Ext w w' ∧ Blk w' w.heap.size tS [.string em, .slice none 0 0] ∧ w1.heap.size ≤ w'.heap.size ∧ ∃ pv' bs', PS w1.heap.size w' (.slice (some ⟨g, 0, none⟩) (vs.length + 1) cap) (pv' :: vs) ((ts ++ [.mk (s.extract i j) []]) :: r) [g] bs') ?_ ?_
      · refine Dr.g [0, 1, 2, 4, 5, 6, 7, 8, 3, 9, 10, 11, 12, 14, 13, 15] [(13, 15)] [10] ttOkP ?_
        refine GoS.ix 1 (j := vs.length) (by omega) ?_
        refine GoS.of1 (run_sub Tryz.underlying9 hij hj) ?_
        refine GoS.bd [.string (s.extract i j), .slice none 0 0] ?_
        refine LdS.x1 (Blk.elt hbg hv1) ?_
        refine ⟨fun ua hua => ?_⟩
        have sza := hua.size
        refine Go1.bs tS [.string em, .slice none 0 0] (size := 2) (bytes := 40) Tryz.underlying31 tiSx (by decide) (by decide) (by kernel_rfl) ?_
        intro ub hxb hbN
        have szb := hxb.size
        refine Af.ext (hua.trans hxb) ?_
        refine ⟨fun uc huc => ?_⟩
        have szc := huc.size
        have hxc := (hua.trans hxb).trans huc
        refine Go1.app (size := 2) (bytes := 40) Tryz.underlying31 tiSx (by rfl) (by decide) (hgp.ext hxc) (m := 1) (news := [.string em, .slice none 0 0]) (Blk.lc0 (post := []) (hbN.ext huc)) (by simp) (by simp [Value.oneCell']) (by omega) (by decide) ?_
        intro pvF ud Of hcf hgf hOf
        have szd := hcf.size
        have hOf : ∀ b ∈ Of, b ∈ O1 ∨ w3.heap.size ≤ b := fun b hb => (hOf b hb).imp id fun h => by omega
        obtain ⟨gv, capv2, rstv, rfl, rfl, hbF, hF1, hF2, hF3⟩ := Grow.own hgf (by omega)
        have hgv := hOf gv (by simp)
        have hgvg : gv ≠ g := fun e => hgv.elim (fun h => (hO1 _ h).1 e) fun h => by have := hbg.lt; omega
        have hbgd := (hbg.ext hxc).chg hcf hgO
        have hcd : Chg (fun k => k ∈ O1 ∨ k = g) w3 ud := (hxc.chgM hcf).mono fun x _ h => .inl h
        refine Af.nw ?_
        refine GoS.ix 2 (j := ts.length) (by omega) ?_
        refine GoS.ix 1 (j := vs.length) (by omega) ?_
        have fin : ∀ u, Chg (fun k => k ∈ O1 ∨ k = g) w3 u → ∀ rst, Blk u gv tS (fl encS ts xs1 ++ [.string (s.extract i j), .slice none 0 0] ++ rst) → (fl encS ts xs1 ++ [Value.string (s.extract i j), Value.slice none 0 0] ++ rst).length = capv2 * 2 → Blk u g tL (vs.reverse ++ [.slice (some ⟨gv, 0, none⟩) (ts.length + 1) capv2] ++ rest) →
            Ext w u ∧ Blk u w.heap.size tS [.string em, .slice none 0 0] ∧ w1.heap.size ≤ u.heap.size ∧ ∃ pv' bs', PS w1.heap.size u (.slice (some ⟨g, 0, none⟩) (vs.length + 1) cap) (pv' :: vs) ((ts ++ [.mk (s.extract i j) []]) :: r) [g] bs' := fun u hc rst hb hl hbo => by
          obtain ⟨bs', h⟩ := hput u _ [gv] hc (Grow.mk' (by simp; omega) hb hF1 hF2 hl) (by simpa using hgv) hbo
          exact ⟨hx3.chg hc fun x hx => by have := hM1 x hx; omega, hbR3.chg hc fun hx => by have := hM1 _ hx; omega, by have := hc.size; omega, _, bs', h⟩
        refine ⟨⟨fun ue hue => ?_⟩, ⟨fun ue hue => ?_⟩⟩
        · refine Go0.st (off := ts.length * 2) (vs := [.string (s.extract i j), .slice none 0 0]) (hbF.ext hue) (by rw [Addr.add_lit, Nat.zero_add]) rfl (by simp; omega) (by simp [Value.oneCell']) ?_
          intro uf hc1' hb1' _
          rw [spl_mid _ _ _ _ hxl.symm (by rfl)] at hb1'
          refine Af.nw ?_
          refine ⟨fun ug hug => ?_⟩
          refine Go0.st (off := vs.length) (vs := [.slice (some ⟨gv, 0, none⟩) (ts.length + 1) capv2]) (((hbgd.ext hue).chg hc1' (Ne.symm hgvg)).ext hug) (by rw [Addr.add_lit, Nat.mul_one, Nat.zero_add]) (by simp [Value.cells]) (by simp) (by simp [Value.oneCell']) ?_
          intro uh hc2' hb2' _
          rw [spl_mid _ _ _ _ (by simp) (by rfl)] at hb2'
          refine Af.nw ?_
          intro w6 hx6
          refine ⟨(), ⟨rfl, rfl, rfl, rfl, rfl, rfl, rfl, trivial⟩, fin w6 ?_ rstv (((hb1'.ext hug).chg hc2' hgvg).ext hx6) (by simpa using hF3) (hb2'.ext hx6)⟩
          exact ((Chg.trans ((Chg.trans (hcd.ext hue) hc1').ext hug) hc2').ext hx6).mono fun x hx h => by
            rcases h with (h | h) | h
            · exact h
            · exact hgv.elim (fun h2 => .inl (h ▸ h2)) fun h2 => by omega
            · exact .inr h
        · refine Go0.st (off := vs.length) (vs := [.slice (some ⟨gv, 0, none⟩) (ts.length + 1) capv2]) (hbgd.ext hue) (by rw [Addr.add_lit, Nat.mul_one, Nat.zero_add]) (by simp [Value.cells]) (by simp) (by simp [Value.oneCell']) ?_
          intro uf hc1' hb1' _
          rw [spl_mid _ _ _ _ (by simp) (by rfl)] at hb1'
          refine Af.nw ?_
          refine ⟨fun ug hug => ?_⟩
          refine Go0.st (off := ts.length * 2) (vs := [.string (s.extract i j), .slice none 0 0]) (((hbF.ext hue).chg hc1' hgvg).ext hug) (by rw [Addr.add_lit, Nat.zero_add]) rfl (by simp; omega) (by simp [Value.oneCell']) ?_
          intro uh hc2' hb2' _
          rw [spl_mid _ _ _ _ hxl.symm (by rfl)] at hb2'
          refine Af.nw ?_
          intro w6 hx6
          refine ⟨(), ⟨rfl, rfl, rfl, rfl, rfl, rfl, rfl, trivial⟩, fin w6 ?_ rstv (hb2'.ext hx6) (by simpa using hF3) (((hb1'.ext hug).chg hc2' (Ne.symm hgvg)).ext hx6)⟩
          exact ((Chg.trans ((Chg.trans (hcd.ext hue) hc1').ext hug) hc2').ext hx6).mono fun x hx h => by
            rcases h with (h | h) | h
            · exact h
            · exact .inr h
            · exact hgv.elim (fun h2 => .inl (h ▸ h2)) fun h2 => by omega
      rintro _ w6 ⟨hx5, hbR5, sz5, pv5, bs5, hps5⟩
      refine Wr.n (c + 1) (by simp) (by omega) ?_
      refine Cm.s (fun hd => ?_) (fun hd => ?_)
      · try simp only [List.length_cons] at hd
        refine Go1.bd [.string em, .slice none 0 0] ?_
        refine Go0.st (off := 0) (vs := [.string em, .slice none 0 0]) (hbR5) rfl rfl (by simp) (by simp [Value.oneCell']) ?_
        intro wz hcz hbz _
        have hbz : Blk wz w.heap.size tS [.string em, .slice none 0 0] := hbz
        refine Ld.agg (vs := [.string em, .slice none 0 0]) (Blk.lc0 (post := []) hbz) ?_
        exact noK _ (hx5) (Lx.deep hlx5 (by simp only [List.length_cons]; omega)) wz hcz
      · try simp only [List.length_cons] at hd
        refine Cm.s (fun h18 => ?_) (fun h18 => ?_)
        · have hx18 : True := trivial
          refine Go1.bd [.string em, .slice none 0 0] ?_
          refine Go0.st (off := 0) (vs := [.string em, .slice none 0 0]) (hbR5) rfl rfl (by simp) (by simp [Value.oneCell']) ?_
          intro wz hcz hbz _
          have hbz : Blk wz w.heap.size tS [.string em, .slice none 0 0] := hbz
          refine Ld.agg (vs := [.string em, .slice none 0 0]) (Blk.lc0 (post := []) hbz) ?_
          exact noK _ (hx5) (Lx.long hlx5 (by omega)) wz hcz
        · exact ⟨(_, c + 1, _), ⟨rfl, rfl, rfl, rfl, rfl, rfl, trivial⟩, ⟨hx5, hbR5, sz5, _, _, _, _, hps5, hlx5, by simp only [List.length_cons]; omega, by show c + 1 ≤ 1800; omega, by assumption⟩, by show s.size - _ < s.size - i; omega⟩
  · have hge : s.size ≤ i := by omega
    refine Cm.ns (fun hne => ?_) (fun he => ?_)
    · have hbr : True := trivial
      refine Go1.bd [.string em, .slice none 0 0] ?_
      refine Go0.st (off := 0) (vs := [.string em, .slice none 0 0]) (hbR3) rfl rfl (by simp) (by simp [Value.oneCell']) ?_
      intro wz hcz hbz _
      have hbz : Blk wz w.heap.size tS [.string em, .slice none 0 0] := hbz
      refine Ld.agg (vs := [.string em, .slice none 0 0]) (Blk.lc0 (post := []) hbz) ?_
      exact noK _ (hx3) (fun y hy => by have := hlx.fin hge hy; simp only [List.cons.injEq] at this; obtain ⟨_, rfl⟩ := this; simp only [List.length_nil] at hlen; omega) wz hcz
    have hv0 : vs = [] := List.eq_nil_of_length_eq_zero (by omega)
    subst hv0
    have hr0 : r = [] := List.eq_nil_of_length_eq_zero (by simpa using hlen.symm)
    subst hr0
    have hve : ([] ++ [.slice aov ts.length capv] ++ rest : List Value)[0]? = some (.slice aov ts.length capv) := rfl
    have hbg : Blk w3 g tL ([] ++ [.slice aov ts.length capv] ++ rest) := hbg
    refine Go1.ix 1 (j := 0) (by simp) (Ld.one (Blk.elt hbg hve) ?_)
    refine Cm.ns (fun hne => ?_) (fun he1 => ?_)
    · have hbr : True := trivial
      refine Go1.bd [.string em, .slice none 0 0] ?_
      refine Go0.st (off := 0) (vs := [.string em, .slice none 0 0]) (hbR3) rfl rfl (by simp) (by simp [Value.oneCell']) ?_
      intro wz hcz hbz _
      have hbz : Blk wz w.heap.size tS [.string em, .slice none 0 0] := hbz
      refine Ld.agg (vs := [.string em, .slice none 0 0]) (Blk.lc0 (post := []) hbz) ?_
      exact noK _ (hx3) (fun y hy => by have := hlx.fin hge hy; simp only [List.cons.injEq, and_true] at this; subst this; simp at hne) wz hcz
    obtain ⟨x, rfl⟩ : ∃ x, ts = [x] := List.length_eq_one_iff.1 (by omega)
    obtain ⟨O, cs, xs, b2, rfl, hgv, hkl, _⟩ := hps.stk
    obtain ⟨g1, cap1, rest1, e1, rfl, hb1, _⟩ := Grow.own hgv (by simp)
    simp only [Value.slice.injEq] at e1
    obtain ⟨rfl, _, rfl⟩ := e1
    obtain ⟨xv, rfl⟩ : ∃ xv, xs = [xv] := List.length_eq_one_iff.1 (by simpa using hkl.length)
    obtain ⟨bk, bk2, rfl, hkx, _⟩ := hkl
    obtain ⟨ao2, cap2, rfl, _, _⟩ := hkx.form
    have hb1 : Blk w3 g1 tS ([.string x.lab, .slice ao2 x.kids.length cap2] ++ rest1) := hb1
    have hlc : Lc w3 ((⟨g1, 0, none⟩ : Addr).add (0 * 2)) [.string x.lab, .slice ao2 x.kids.length cap2] := Blk.lc0 hb1
    have hcx : Rose.cnt x.kids ≤ 1800 := by
      have h1 := (hlx.len (ts := [x]) (by simp)).2
      have h2 : Rose.cnt [x] = 1 + Rose.cnt x.kids + 0 := by show Rose.wtL _ _ = 1 + Rose.wtL _ _ + 0; rw [Rose.wtL_cons, Rose.wtL_nil]
      omega
    have hsx : x.lab.size ≤ s.size ∧ Rose.AlL (fun l : ByteArray => l.size ≤ s.size) x.kids := Rose.AlL_mem (hlx.sz [x] (by simp)) (List.mem_singleton.2 rfl)
    refine Go1.ix 1 (j := 0) (by simp) (Ld.one (Blk.elt hbg hve) ?_)
    refine Go1.ix 2 (j := 0) (by simp) (Ld.agg hlc ?_)
    refine (c_iIsValidSExpr (Nat.le_trans hsx.1 (by omega)) (Rose.AlL_imp (fun _ h => Nat.le_trans h (by omega)) _ hsx.2) (by omega) hkx).mono ?_
    rw [x.eta]
    rintro _ w4 ⟨⟨b, rfl, hb⟩, hx4⟩
    have hbR4 := hbR3.ext hx4
    cases b with
    | false =>
      refine Go1.bd [.string em, .slice none 0 0] ?_
      refine Go0.st (off := 0) (vs := [.string em, .slice none 0 0]) (hbR4) rfl rfl (by simp) (by simp [Value.oneCell']) ?_
      intro wz hcz hbz _
      have hbz : Blk wz w.heap.size tS [.string em, .slice none 0 0] := hbz
      refine Ld.agg (vs := [.string em, .slice none 0 0]) (Blk.lc0 (post := []) hbz) ?_
      exact noK _ (hx3.trans hx4) (fun y hy => by have := hlx.fin hge hy; simp only [List.cons.injEq, and_true] at this; subst this; simpa using hb.2 hy.2) wz hcz
    | true =>
      refine Go1.ix 1 (j := 0) (by simp) (Ld.one (Blk.elt (hbg.ext hx4) hve) ?_)
      refine Go1.ix 2 (j := 0) (by simp) (Ld.agg (hlc.chg hx4 (.inr id)) ?_)
      refine Go0.st (off := 0) (vs := [.string x.lab, .slice ao2 x.kids.length cap2]) hbR4 rfl rfl (by simp) (by simp [Value.oneCell']) ?_
      intro w8 hc8 hb8 _
      have hb8 : Blk w8 w.heap.size tS [.string x.lab, .slice ao2 x.kids.length cap2] := hb8
      refine Ld.agg (vs := [.string x.lab, .slice ao2 x.kids.length cap2]) (Blk.lc0 (post := []) hb8) ?_
      rw [prO_some (hlx.yes hge (hb.1 rfl))]
      have hfb : Fresh w1.heap.size w3 bk := hps.fr.sub (((List.sublist_append_left bk bk2).trans ((List.sublist_append_right [g1] _).trans (List.sublist_append_left _ b2))).trans (List.sublist_append_right [g] _))
      have hn2 : ∀ b ∈ bk, ¬ b = w.heap.size := fun b hb => by have := hfb.lo b hb; omega
      exact ⟨(hx3.trans hx4).chg hc8 (by omega), _, bk, rfl, (hkx.ext hx4).chg hc8 hn2, ((hfb.ext hx4).chg hc8 hn2).mono (by omega)⟩
end Go.Proofs.YtliigpmpeldebaaGreat
