/- The program's ParseSExpr: a stack of lists. Conditions: none. -/
import Derived.Test.YtliigpmpeldebaaGreatSxI
namespace Go.Proofs.YtliigpmpeldebaaGreat
open Go.RowKit

/-- The words that a stack stands for; the top stands first. -/
def rnK : List (List Sx) → List Wd
  | [] => []
  | [ts] => rnL ts
  | ts :: r => rnK r ++ .lp :: rnL ts
theorem rnK_cons {ts us : List Sx} {r : List (List Sx)} : rnK (ts :: us :: r) = rnK (us :: r) ++ .lp :: rnL ts := by rw [rnK]; simp
theorem rnK_one (ts : List Sx) : rnK [ts] = rnL ts := by rw [rnK]
theorem rnK_app {ts us : List Sx} {r : List (List Sx)} : rnK ((ts ++ us) :: r) = rnK (ts :: r) ++ rnL us := by
  cases r with
  | nil => rw [rnK_one, rnK_one, rnL_append]
  | cons a r => rw [rnK_cons, rnK_cons, rnL_append]; simp
theorem rnK_push (r : List (List Sx)) (h : r ≠ []) : rnK ([] :: r) = rnK r ++ [.lp] := by
  cases r with
  | nil => exact absurd rfl h
  | cons a r => rw [rnK_cons, rnL_nil]
theorem rnK_pop {ts us : List Sx} {r : List (List Sx)} : rnK ((us ++ [.mk em ts]) :: r) = rnK (ts :: us :: r) ++ [.rp] := by
  rw [rnK_app, rnK_cons, rnL_one, rnS_list rfl]
  simp
theorem bal_rnK : ∀ (r : List (List Sx)), r ≠ [] → bal (rnK r) = r.length - 1
  | [], h => absurd rfl h
  | [ts], _ => by rw [rnK_one, bal_rnL]; simp
  | ts :: us :: r, _ => by
    rw [rnK_cons, bal_append, bal_rnK (us :: r) (by simp)]
    simp only [bal, bal_rnL, List.length_cons]
    omega
theorem rnK_len_mem {ts : List Sx} : ∀ {r : List (List Sx)}, ts ∈ r → (rnL ts).length ≤ (rnK r).length
  | [], h => by cases h
  | [us], h => by
    obtain rfl : ts = us := by simpa using h
    rw [rnK_one]; exact Nat.le_refl _
  | us :: vs :: r, h => by
    rw [rnK_cons, List.length_append, List.length_cons]
    rcases List.mem_cons.1 h with rfl | h
    · omega
    · have := rnK_len_mem h; omega

/-- What is known of the text at i. -/
structure Lx (s : ByteArray) (i c : Nat) (r : List (List Sx)) : Prop where
  ne : r ≠ []
  lex : lexA [] s.data.toList = (lexA [] (drp s i)).map (rnK r ++ ·)
  cnt : (rnK r).length = c
  ws : ∀ ts ∈ r, wsL ts
  sz : ∀ ts ∈ r, Rose.AlL (fun l : ByteArray => l.size ≤ s.size) ts
section
variable {s : ByteArray} {i c : Nat} {r : List (List Sx)}
theorem Lx.prs (h : Lx s i c r) {x : Sx} (hx : Prs s.data.toList x) : ∃ T, lexA [] (drp s i) = some T ∧ rnK r ++ T = rnS x := by
  have := h.lex
  rw [hx.1] at this
  cases hT : lexA [] (drp s i) with
  | none => rw [hT] at this; simp at this
  | some T =>
    rw [hT] at this
    simp only [Option.map_some, Option.some.injEq] at this
    exact ⟨T, rfl, this.symm⟩
theorem Lx.bl (h : Lx s i c r) (hi : i < s.size) (hb : s[i].toNat = 32 ∨ s[i].toNat = 10) : Lx s (i + 1) c r := ⟨h.ne, by rw [h.lex, drp_cons hi, lexA_bl0 (blB_t hb)], h.cnt, h.ws, h.sz⟩
theorem Lx.push (h : Lx s i c r) (hi : i < s.size) (hb : s[i].toNat = 40) : Lx s (i + 1) (c + 1) ([] :: r) :=
  ⟨by simp, by
    rw [h.lex, drp_cons hi, lexA_lp hb, rnK_push r h.ne]
    cases lexA [] (drp s (i + 1)) <;> simp [flu], by rw [rnK_push r h.ne, List.length_append, h.cnt]; rfl, fun ts ht => by
    rcases List.mem_cons.1 ht with rfl | ht
    · simp [wsL]
    · exact h.ws ts ht, fun ts ht => by
    rcases List.mem_cons.1 ht with rfl | ht
    · exact Rose.AlL_of (by simp)
    · exact h.sz ts ht⟩
theorem Lx.pop {ts us : List Sx} (h : Lx s i c (ts :: us :: r)) (hi : i < s.size) (hb : s[i].toNat = 41) : Lx s (i + 1) (c + 1) ((us ++ [.mk em ts]) :: r) :=
  ⟨by simp, by
    rw [h.lex, drp_cons hi, lexA_rp hb, rnK_pop]
    cases lexA [] (drp s (i + 1)) <;> simp [flu], by rw [rnK_pop, List.length_append, h.cnt]; rfl, fun xs ht => by
    rcases List.mem_cons.1 ht with rfl | ht
    · refine (wsL_iff _).2 fun y hy => ?_
      rcases List.mem_append.1 hy with hy | hy
      · exact (wsL_iff _).1 (h.ws us (by simp)) y hy
      · obtain rfl : y = .mk em ts := by simpa using hy
        exact (wsS_list rfl).2 (h.ws ts (by simp))
    · exact h.ws xs (by simp [ht]), fun xs ht => by
    rcases List.mem_cons.1 ht with rfl | ht
    · refine Rose.AlL_of fun y hy => ?_
      rcases List.mem_append.1 hy with hy | hy
      · exact Rose.AlL_mem (h.sz us (by simp)) hy
      · obtain rfl : y = .mk em ts := by simpa using hy
        exact ⟨Nat.zero_le _, h.sz ts (by simp)⟩
    · exact h.sz xs (by simp [ht])⟩
theorem Lx.atom {ts : List Sx} {j : Nat} (h : Lx s i c (ts :: r)) (hij : i < j) (hj : j ≤ s.size) (hat : ∀ b ∈ (drp s i).take (j - i), atB b = true) (he : Ends (drp s j)) : Lx s j (c + 1) ((ts ++ [.mk (s.extract i j) []]) :: r) := by
  have hsz : (s.extract i j).size = j - i := by rw [ByteArray.size_extract]; omega
  have hne : s.extract i j ≠ em := fun e => by
    rw [e] at hsz
    have : em.size = 0 := rfl
    omega
  refine ⟨by simp, ?_, by rw [rnK_app, rnL_one, rnS_atom hne, List.length_append, h.cnt]; rfl, fun xs ht => ?_, fun xs ht => ?_⟩
  · have e : drp s i = (drp s i).take (j - i) ++ drp s j := by
      conv => lhs; rw [← List.take_append_drop (j - i) (drp s i)]
      rw [List.drop_drop]
      congr 2
      omega
    have e2 : lexA [] (drp s i) = (lexA [] (drp s j)).map (Wd.at ((drp s i).take (j - i)) :: ·) := by
      conv => lhs; rw [e]
      refine lexA_at hat (fun h => ?_) he
      have h1 := congrArg List.length h
      simp at h1
      omega
    rw [h.lex, e2, rnK_app, rnL_one, rnS_atom hne, sub_list]
    cases lexA [] (drp s j) <;> simp
  · rcases List.mem_cons.1 ht with rfl | ht
    · refine (wsL_iff _).2 fun y hy => ?_
      rcases List.mem_append.1 hy with hy | hy
      · exact (wsL_iff _).1 (h.ws ts (by simp)) y hy
      · obtain rfl : y = .mk (s.extract i j) [] := by simpa using hy
        exact (wsS_atom hne).2 rfl
    · exact h.ws xs (by simp [ht])
  · rcases List.mem_cons.1 ht with rfl | ht
    · refine Rose.AlL_of fun y hy => ?_
      rcases List.mem_append.1 hy with hy | hy
      · exact Rose.AlL_mem (h.sz ts (by simp)) hy
      · obtain rfl : y = .mk (s.extract i j) [] := by simpa using hy
        exact ⟨by show (s.extract i j).size ≤ _; omega, Rose.AlL_of (by simp [Rose.kids])⟩
    · exact h.sz xs (by simp [ht])
theorem Lx.deep (h : Lx s i c r) (hr : 15 < r.length) (x : Sx) : ¬ Prs s.data.toList x := fun hx => by
  obtain ⟨T, _, e⟩ := h.prs hx
  have h1 := (pre_rn e).2
  rw [bal_rnK r h.ne] at h1
  have := hx.2.2.2
  omega
theorem Lx.long (h : Lx s i c r) (hc : 1800 < c) (x : Sx) : ¬ Prs s.data.toList x := fun hx => by
  obtain ⟨T, _, e⟩ := h.prs hx
  have h1 := congrArg List.length e
  rw [List.length_append, h.cnt] at h1
  have h2 := rnS_len x
  have := hx.2.1
  omega
theorem Lx.rp {ts : List Sx} (h : Lx s i c [ts]) (hi : i < s.size) (hb : s[i].toNat = 41) (x : Sx) : ¬ Prs s.data.toList x := fun hx => by
  obtain ⟨T, hT, e⟩ := h.prs hx
  rw [drp_cons hi, lexA_rp hb] at hT
  obtain ⟨U, _, hU⟩ := Option.map_eq_some_iff.1 hT
  rw [← hU] at e
  have h1 := (pre_rn (p := rnK [ts] ++ [.rp]) (q := U) (k := x) (by rw [← e]; simp [flu])).1
  rw [bal_append, rnK_one, bal_rnL] at h1
  simp [bal] at h1
theorem Lx.bad (h : Lx s i c r) (hi : i < s.size) (h1 : ¬ AtomP s[i].toNat) (h2 : ¬ (s[i].toNat = 32 ∨ s[i].toNat = 10)) (h3 : s[i].toNat ≠ 40) (h4 : s[i].toNat ≠ 41) (x : Sx) : ¬ Prs s.data.toList x := fun hx => by
  obtain ⟨T, hT, _⟩ := h.prs hx
  rw [drp_cons hi, lexA_bad h1 h2 h3 h4] at hT
  cases hT
theorem Lx.fin (h : Lx s i c r) (hi : s.size ≤ i) {x : Sx} (hx : Prs s.data.toList x) : r = [[x]] := by
  obtain ⟨T, hT, e⟩ := h.prs hx
  rw [drp_end hi, lexA_nil] at hT
  simp only [Option.some.injEq] at hT
  rw [← hT, List.append_nil] at e
  have h1 := bal_rnK r h.ne
  rw [e, bal_rnS] at h1
  obtain ⟨ts, rfl⟩ : ∃ ts, r = [ts] := List.length_eq_one_iff.1 (by omega)
  rw [rnK_one, ← rnL_one] at e
  rw [cnlL (h.ws ts (by simp)) (by simpa [wsL] using wsS_of_fm hx.2.2.1) e]
theorem Lx.yes {x : Sx} (h : Lx s i c [[x]]) (hi : s.size ≤ i) (hx : okS x) : Prs s.data.toList x := by
  refine ⟨?_, hx⟩
  rw [h.lex, drp_end hi, lexA_nil, rnK_one, rnL_one]
  simp
theorem Lx.len {ts : List Sx} (h : Lx s i c r) (ht : ts ∈ r) : ts.length ≤ c ∧ Rose.cnt ts ≤ c := by
  have h1 := cnt_le_rnL ts (h.ws ts ht)
  have h2 := rnK_len_mem ht
  rw [h.cnt] at h2
  have h3 : ts.length ≤ Rose.cnt ts := Rose.wtL_length _ _
  omega
end

abbrev tS : TypeId := 33
abbrev tL : TypeId := 31
theorem tiLs : TyI Tryz.prog tL (.slice none 0 0) 1 24 := TyI.of (by kernel_rfl)
/-- Lists of the call's own, in the slices vs. -/
def Stk (w : World) : List Value → List (List Sx) → List Nat → Prop
  | [], [], bs => bs = []
  | v :: vs, ts :: tss, bs => ∃ O cs xs b2, bs = O ++ cs ++ b2 ∧ Grow w tS 2 v ts.length (fl encS ts xs) O ∧ KidsL encS w xs ts cs ∧ Stk w vs tss b2
  | _, _, _ => False
theorem Stk.length {w : World} : ∀ {vs : List Value} {tss : List (List Sx)} {bs : List Nat}, Stk w vs tss bs → vs.length = tss.length
  | [], [], _, _ => rfl
  | _ :: _, _ :: _, _, ⟨_, _, _, _, _, _, _, h⟩ => by simp [Stk.length h]
  | [], _ :: _, _, h => h.elim
  | _ :: _, [], _, h => h.elim
theorem Stk.chg {M : Nat → Prop} {w w' : World} (hc : Chg M w w') : ∀ {vs : List Value} {tss : List (List Sx)} {bs : List Nat}, (∀ b ∈ bs, ¬ M b) → Stk w vs tss bs → Stk w' vs tss bs
  | [], [], _, _, h => h
  | _ :: _, _ :: _, _, hn, ⟨O, cs, xs, b2, e, h1, h2, h3⟩ => by
    subst e
    exact ⟨O, cs, xs, b2, rfl, h1.chg hc fun b hb => hn b (by simp [hb]), h2.chg hc fun b hb => hn b (by simp [hb]), Stk.chg hc (fun b hb => hn b (by simp [hb])) h3⟩
  | [], _ :: _, _, _, h => h.elim
  | _ :: _, [], _, _, h => h.elim
/-- The stack: the slice ov holds the slices vs, the top at its end. -/
structure PS (n0 : Nat) (w : World) (ov : Value) (vs : List Value) (tss : List (List Sx)) (Oo bs : List Nat) : Prop where
  out : Grow w tL 1 ov vs.length vs.reverse Oo
  stk : Stk w vs tss bs
  fr : Fresh n0 w (Oo ++ bs)
theorem PS.ext {n0 : Nat} {w w' : World} {ov : Value} {vs : List Value} {tss : List (List Sx)} {Oo bs : List Nat} (h : PS n0 w ov vs tss Oo bs) (hx : Ext w w') : PS n0 w' ov vs tss Oo bs :=
  ⟨h.out.ext hx, h.stk.chg hx fun _ _ => id, h.fr.ext hx⟩
theorem PS.push {n0 : Nat} {w w' : World} {ov ov' : Value} {vs : List Value} {tss : List (List Sx)} {Oo Oo' bs : List Nat} (h : PS n0 w ov vs tss Oo bs) (hc : Chg (· ∈ Oo) w w')
    (hg : Grow w' tL 1 ov' (vs.length + 1) (vs.reverse ++ [.slice none 0 0]) Oo') (hO : ∀ b ∈ Oo', b ∈ Oo ∨ w.heap.size ≤ b) (hn : n0 ≤ w.heap.size) : PS n0 w' ov' (.slice none 0 0 :: vs) ([] :: tss) Oo' bs := by
  have hnd := h.fr.nodup
  have hlt := h.fr.lt
  have hlo := h.fr.lo
  have hdis : ∀ b ∈ bs, b ∉ Oo := fun b hb hb' => (List.nodup_append.1 hnd).2.2 b hb' b hb rfl
  have hOl : ∀ b ∈ Oo', n0 ≤ b := fun b hb => (hO b hb).elim (fun h => hlo b (by simp [h])) fun h => by omega
  have hfO := hg.fresh hOl
  have hfb := (h.fr.sub (List.sublist_append_right _ _)).chg hc hdis
  refine ⟨by simpa using hg, ⟨[], [], [], bs, by simp, by simpa [fl] using Grow.nil, rfl, h.stk.chg hc hdis⟩, ⟨?_, fun b hb => (List.mem_append.1 hb).elim (hOl b) (hfb.lo b), fun b hb => (List.mem_append.1 hb).elim (hfO.blk b) (hfb.blk b)⟩⟩
  have h1 := hfO.nodup
  simp only [List.nodup_append, List.mem_append] at *
  grind
theorem PS.add {n0 : Nat} {w w' : World} {ov' pv' v : Value} {vs xs1 : List Value} {tss : List (List Sx)} {us : List Sx} {t : Sx} {O1 c1 ds b2 Oo O1' : List Nat}
    (hk : KidsL encS w xs1 us c1) (hs : Stk w vs tss b2) (hkd : Kids encS w v t.kids ds) (hF : Fresh n0 w (Oo ++ (O1 ++ c1 ++ b2 ++ ds))) (hc : Chg (fun k => k ∈ O1 ∨ k ∈ Oo) w w')
    (hg : Grow w' tS 2 pv' (us.length + 1) (fl encS us xs1 ++ (encS t.lab ++ [v])) O1') (hO : ∀ b ∈ O1', b ∈ O1 ∨ w.heap.size ≤ b) (hout : Grow w' tL 1 ov' (vs.length + 1) (vs.reverse ++ [pv']) Oo) (hn : n0 ≤ w.heap.size) :
    PS n0 w' ov' (pv' :: vs) ((us ++ [t]) :: tss) Oo (O1' ++ (c1 ++ ds) ++ b2) := by
  have hnd := hF.nodup
  have hlt := hF.lt
  have hlo := hF.lo
  have hblk := hF.blk
  have hOl : ∀ b ∈ O1', n0 ≤ b := fun b hb => (hO b hb).elim (fun h => hlo b (by simp [h])) fun h => by omega
  have hfO := hg.fresh hOl
  have hfo := hout.fresh (n0 := n0) fun b hb => hlo b (by simp [hb])
  have hd : ∀ b ∈ c1 ++ ds ++ b2, ¬ (b ∈ O1 ∨ b ∈ Oo) := by
    clear hblk hg hout hs hk hkd hfO hfo hF
    simp only [List.nodup_append, List.mem_append] at *
    grind
  have hkeep : ∀ b ∈ c1 ++ ds ++ b2, ∃ c e, Blk w' b e c := fun b hb => by
    obtain ⟨c, e, hb'⟩ := hblk b (by simp only [List.mem_append] at hb ⊢; grind)
    exact ⟨c, e, hb'.chg hc (hd b hb)⟩
  refine ⟨by simpa using hout, ⟨O1', c1 ++ ds, xs1 ++ [v], b2, rfl, ?_, KidsL.snoc (hkd.chg hc fun b hb => hd b (by simp [hb])) (hk.chg hc fun b hb => hd b (by simp [hb])), hs.chg hc fun b hb => hd b (by simp [hb])⟩, ⟨?_, fun b hb => ?_, fun b hb => ?_⟩⟩
  · rw [List.length_append, fl_snoc hk.length]
    exact hg
  · have h1 := hfO.nodup
    clear hblk hg hout hs hk hkd hfO hfo hF hkeep
    simp only [List.nodup_append, List.mem_append] at *
    grind
  · clear hblk hg hout hs hk hkd hfO hfo hF hkeep
    simp only [List.mem_append] at *
    grind
  · simp only [List.mem_append] at hb
    rcases hb with hb | (hb | hb) | hb
    · exact hfo.blk b hb
    · exact hfO.blk b hb
    · exact hkeep b (by simp only [List.mem_append]; exact .inl hb)
    · exact hkeep b (by simp [hb])
theorem Blk.elt {w : World} {g : Nat} {e : TypeId} {cs : List Value} (h : Blk w g e cs) {j : Nat} {v : Value} (hv : cs[j]? = some v) : w.cell? ((⟨g, 0, none⟩ : Addr).add (j * 1)) = some v := by
  rw [Addr.add_lit, h.cell, Nat.mul_one, Nat.zero_add]; exact hv
theorem Grow.own {w : World} {e : TypeId} {size : Nat} {v : Value} {n : Nat} {xs : List Value} {O : List Nat} (hg : Grow w e size v n xs O) (hn : 0 < n) :
    ∃ g cap rest, v = .slice (some ⟨g, 0, none⟩) n cap ∧ O = [g] ∧ Blk w g e (xs ++ rest) ∧ n ≤ cap ∧ cap ≤ maxLen ∧ (xs ++ rest).length = cap * size := by
  rcases hg.2 with ⟨_, h, _⟩ | h
  · omega
  · exact h
theorem Grow.mk' {w : World} {e : TypeId} {size n cap g : Nat} {xs rest : List Value} (hl : xs.length = n * size) (hb : Blk w g e (xs ++ rest)) (h1 : n ≤ cap) (h2 : cap ≤ maxLen) (h3 : (xs ++ rest).length = cap * size) :
    Grow w e size (.slice (some ⟨g, 0, none⟩) n cap) n xs [g] := ⟨hl, .inr ⟨g, cap, rest, rfl, rfl, hb, h1, h2, h3⟩⟩
theorem Stk.slice {w : World} {v : Value} {vs : List Value} {tss : List (List Sx)} {bs : List Nat} (h : Stk w (v :: vs) tss bs) : ∃ ts r ao cap, tss = ts :: r ∧ v = .slice ao ts.length cap := by
  match tss, h with
  | ts :: r, ⟨O, cs, xs, b2, _, h1, _⟩ =>
    rcases h1.2 with ⟨rfl, h, _⟩ | ⟨g, cap, rest, rfl, _⟩
    · exact ⟨ts, r, none, 0, rfl, by rw [h]⟩
    · exact ⟨ts, r, _, cap, rfl, rfl⟩
end Go.Proofs.YtliigpmpeldebaaGreat
