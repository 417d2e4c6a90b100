/- Contracts: FormatType; Draws: an SExpr for a Type, one element of it put in anew. Conditions: none. -/
import Derived.Test.YtliigpmpeldebaaGreatTyJ
import Derived.Test.YtliigpmpeldebaaGreatSxL
import Derived.Test.YtliigpmpeldebaaGreatTyQ
namespace Go.Proofs.YtliigpmpeldebaaGreat
open Go.RowKit

theorem head_size {l : TLab} {n : Nat} (h : headP l n) : l.2.size ≤ 8 := by
  have hb : baseN l.2 = true → l.2.size ≤ 8 := fun h => by
    unfold baseN at h
    simp only [Bool.or_eq_true, decide_eq_true_eq] at h
    rcases h with h | h <;> (rw [h]; decide)
  rcases h with h | h | ⟨_, h | h⟩
  · exact h.2.1.2.2.1
  · exact h.2.1.2.2.1
  · exact h.1.2.2.1
  · exact hb h.1
theorem wt_at (s : ByteArray) (us : List Sx) : Rose.wtL ByteArray.size (at_ s :: us) = 1 + s.size + Rose.wtL ByteArray.size us := by
  rw [Rose.wtL_cons]
  simp [Rose.kids, Rose.lab, Rose.wtL_nil]
theorem enS_wt (ks : List Tp) : (∀ t ∈ ks, fmT t) → Rose.wtL ByteArray.size (enL ks) ≤ 16 * Rose.cnt ks := by
  refine Rose.forest (p := fun ks => (∀ t ∈ ks, fmT t) → Rose.wtL ByteArray.size (enL ks) ≤ 16 * Rose.cnt ks) (fun ks ih => ?_) ks
  intro hf
  induction ks with
  | nil => rw [enL_nil, Rose.wtL_nil]; omega
  | cons t ts iht =>
    have h1 := ih t List.mem_cons_self
    have h2 := iht (fun u hu => ih u (List.mem_cons_of_mem _ hu)) fun u hu => hf u (List.mem_cons_of_mem _ hu)
    rw [enL_cons, Rose.wtL_cons]
    have e2 : Rose.cnt (t :: ts) = 1 + Rose.cnt t.kids + Rose.cnt ts := by
      show Rose.wtL _ _ = 1 + Rose.wtL _ _ + Rose.wtL _ _
      rw [Rose.wtL_cons]
    have h3 : 1 + (enS t).lab.size + Rose.wtL ByteArray.size (enS t).kids ≤ 16 * (1 + Rose.cnt t.kids) := by
      have hft := hf t List.mem_cons_self
      cases t with
      | mk l ls =>
        rw [fmT_iff] at hft
        have h1 : Rose.wtL ByteArray.size (enL ls) ≤ 16 * Rose.cnt ls := h1 hft.2
        have hz := head_size hft.1
        show _ ≤ 16 * (1 + Rose.cnt ls)
        have z1 : sDyn.size = 3 := rfl
        have z2 : sAssoc.size = 5 := rfl
        have z3 : em.size = 0 := rfl
        rw [enS_eq]
        split
        · have : (ByteArray.mk #[39] ++ l.2).size = 1 + l.2.size := size_app _ _
          simp only [Rose.kids, Rose.lab, Rose.wtL_nil]
          omega
        · split
          · simp only [Rose.kids, Rose.lab, wt_at, Rose.wtL_nil]; omega
          · split
            · simp only [Rose.kids, Rose.lab, wt_at]; omega
            · split
              · simp only [Rose.kids, Rose.lab, Rose.wtL_nil]; omega
              · simp only [Rose.kids, Rose.lab, wt_at]; omega
    omega
theorem enS_wt1 {t : Tp} (h : okT t) : 1 + (enS t).lab.size + Rose.wtL ByteArray.size (enS t).kids ≤ 960 := by
  have h1 := enS_wt [t] (by simpa using h.2.1)
  rw [enL_cons, enL_nil, Rose.wtL_cons, Rose.wtL_nil] at h1
  have e2 : Rose.cnt [t] = 1 + Rose.cnt t.kids := by
    show Rose.wtL _ _ = 1 + Rose.wtL _ _
    rw [Rose.wtL_cons, Rose.wtL_nil]
    simp
  have := h.1
  omega

open Classical in
/-- What FormatType answers. -/
noncomputable def fmtT (t : Tp) : ByteArray := if okT t then fmtS (enS t) else ⟨#[]⟩

/-- spec.FormatType -/
theorem c_sFormatType {l : TLab} {ks : List Tp} (hl : l.2.size ≤ maxLen) (ha : Rose.AlL (fun s => s.2.size ≤ maxLen) ks) (hs : Rose.cnt ks ≤ 4294967296) {w : World} {v : Value} {bs : List Nat} (hk : Kids encT w v ks bs) :
    Ret Tryz.prog 11 [.agg #[.int .i64 l.1, .string l.2, v]] w fun r w' => r = .string (fmtT (.mk l ks)) ∧ Ext w w' := by
  obtain ⟨ao, cap, rfl, hm, hcap⟩ := hk.form
  have hM : maxLen = 9223372036854775807 := rfl
  refine ret_of_vc ttOk Tryz.func11 rfl (by kernel_rfl) (by kernel_rfl) ?_
  refine Go1.bx ?_
  intro w1 hx1 hb1
  refine Ld.agg (vs := [.int .i64 l.1, .string l.2, .slice ao ks.length cap]) (Blk.lc0 (post := []) hb1) ?_
  refine (c_sIsValidType hl ha (hk.ext hx1)).mono ?_
  rintro r w2 ⟨⟨b, rfl, hb⟩, hx2⟩
  unfold fmtT
  cases b
  · rw [if_neg fun h => by simpa using hb.2 h]
    exact ⟨rfl, hx1.trans hx2⟩
  · have hok := hb.1 rfl
    have hw := enS_wt1 hok
    rw [if_pos hok]
    refine Ld.agg (vs := [.int .i64 l.1, .string l.2, .slice ao ks.length cap]) (Blk.lc0 (post := []) (hb1.ext hx2)) ?_
    refine (c_l5Sx ks l w2 _ bs hok.2.1 hs (hk.ext (hx1.trans hx2))).mono ?_
    generalize enS (.mk l ks) = T at hw ⊢
    rintro _ w3 ⟨hx3, v3, c3, rfl, hk3, hf3⟩
    refine (c_sFormatSExpr (by omega) (Rose.AlL_imp (fun l hl => Nat.le_trans hl (by omega)) _ (Rose.AlL_wt (B := 960) _ (by omega))) (by omega) hk3).mono ?_
    rw [T.eta]
    rintro r w4 ⟨rfl, hx4⟩
    exact ⟨rfl, ((hx1.trans hx2).trans hx3).trans hx4⟩
/-- impl.FormatType -/
theorem c_iFormatType {l : TLab} {ks : List Tp} (hl : l.2.size ≤ maxLen) (ha : Rose.AlL (fun s => s.2.size ≤ maxLen) ks) (hs : Rose.cnt ks ≤ 4294967296) {w : World} {v : Value} {bs : List Nat} (hk : Kids encT w v ks bs) :
    Ret Tryz.prog 6 [.agg #[.int .i64 l.1, .string l.2, v]] w fun r w' => r = .string (fmtT (.mk l ks)) ∧ Ext w w' := by
  obtain ⟨ao, cap, rfl, hm, hcap⟩ := hk.form
  have hM : maxLen = 9223372036854775807 := rfl
  refine ret_of_vc ttOk Tryz.func6 rfl (by kernel_rfl) (by kernel_rfl) ?_
  refine Go1.bx ?_
  intro w1 hx1 hb1
  refine Ld.agg (vs := [.int .i64 l.1, .string l.2, .slice ao ks.length cap]) (Blk.lc0 (post := []) hb1) ?_
  refine (c_iIsValidType hl ha hs (hk.ext hx1)).mono ?_
  rintro r w2 ⟨⟨b, rfl, hb⟩, hx2⟩
  unfold fmtT
  cases b
  · rw [if_neg fun h => by simpa using hb.2 h]
    exact ⟨rfl, hx1.trans hx2⟩
  · have hok := hb.1 rfl
    have hw := enS_wt1 hok
    have hkc := enS_kids l ks
    rw [if_pos hok]
    refine Ld.agg (vs := [.int .i64 l.1, .string l.2, .slice ao ks.length cap]) (Blk.lc0 (post := []) (hb1.ext hx2)) ?_
    refine (c_encodeType ks l w2 _ bs hok.2.1 hs (hk.ext (hx1.trans hx2))).mono ?_
    generalize enS (.mk l ks) = T at hw hkc ⊢
    rintro _ w3 ⟨hx3, v3, c3, rfl, hk3, hf3⟩
    have hcl := Rose.cnt_le ByteArray.size T.kids
    refine (c_iFormatSExpr (by omega) (Rose.AlL_imp (fun l hl => Nat.le_trans hl (by omega)) _ (Rose.AlL_wt (B := 960) _ (by omega))) (by omega) (by omega) hk3).mono ?_
    rw [T.eta]
    rintro r w4 ⟨rfl, hx4⟩
    exact ⟨rfl, ((hx1.trans hx2).trans hx3).trans hx4⟩
end Go.Proofs.YtliigpmpeldebaaGreat

namespace Go.Proofs.YtliigpmpeldebaaGreat
open Go.RowKit

theorem blockA (a : Addr) (i : Nat) : (a.add i).block = a.block := by unfold Addr.add; split <;> rfl
theorem litA {w : World} {n0 : Nat} {bs : List Nat} (hf : Fresh n0 w bs) {a : Addr} {v : Value} (hb : a.block ∈ bs) (hc : w.cell? (a.add 0) = some v) : a = ⟨a.block, a.off, none⟩ := by
  obtain ⟨c0, e0, hbl⟩ := hf.blk a.block hb
  have h := (hbl.addr (a := a.add 0) (blockA a 0) hc).1
  cases a with
  | mk b o s =>
    cases s with
    | none => rfl
    | some x => simp [Addr.add] at h
theorem spl_lo {cs vs : List Value} {off j : Nat} (hl : off ≤ cs.length) (h : j < off) : (spl cs off vs)[j]? = cs[j]? := by
  unfold spl
  rw [List.append_assoc, List.getElem?_append_left (by rw [List.length_take]; omega), List.getElem?_take, if_pos h]
theorem spl_hi {cs vs : List Value} {off j : Nat} (hl : off + vs.length ≤ cs.length) (h : off + vs.length ≤ j) : (spl cs off vs)[j]? = cs[j]? := by
  unfold spl
  rw [List.getElem?_append_right (by simp; omega), List.getElem?_drop]
  congr 1
  simp
  omega
theorem spl_at {cs vs : List Value} {off j : Nat} (hl : off ≤ cs.length) (h : j < vs.length) : (spl cs off vs)[off + j]? = vs[j]? := by
  unfold spl
  rw [List.append_assoc, List.getElem?_append_right (by rw [List.length_take]; omega), List.getElem?_append_left (by rw [List.length_take]; omega)]
  congr 1
  rw [List.length_take]
  omega
theorem NL.of_eachP {α : Type} {e1 : α → List Value} {w : World} {p : Nat → Prop} {sz : Nat} (hsz : ∀ l, (e1 l).length + 1 = sz) : ∀ {ks : List (Rose α)} {a : Addr}, (∀ i t, ks[i]? = some t → ∃ bs, Nd e1 w t (a.add (i * sz)) bs ∧ ∀ b ∈ bs, p b) → ∃ bs, NL e1 w ks a bs ∧ ∀ b ∈ bs, p b
  | [], _, _ => ⟨[], by simp only [NL], by simp⟩
  | k :: ks, a, h => by
    obtain ⟨b1, h1, p1⟩ := h 0 k rfl
    obtain ⟨b2, h2, p2⟩ := NL.of_eachP hsz (ks := ks) (a := a.add sz) fun i t ht => by
      obtain ⟨bs, hb, hp⟩ := h (i + 1) t (by simpa using ht)
      refine ⟨bs, ?_, hp⟩
      rw [Go.Deep.add_add, show sz + i * sz = (i + 1) * sz by rw [Nat.add_mul]; omega]
      exact hb
    refine ⟨b1 ++ b2, ?_, fun b hb => (List.mem_append.1 hb).elim (p1 b) (p2 b)⟩
    simp only [NL]
    refine ⟨b1, b2, rfl, ?_, ?_⟩
    · simpa [Addr.add] using h1
    · rw [hsz]; exact h2
/-- One element of a slice of SExprs, written anew. -/
theorem Kids.put {w : World} {n0 n cap k : Nat} {ao : Option Addr} {ks : List Sx} {bs : List Nat} (hk : Kids encS w (.slice ao n cap) ks bs) (hf : Fresh n0 w bs) (hi : k < n) :
    ∃ a g off e cs, ao = some a ∧ a.add (k * 2) = ⟨g, off, none⟩ ∧ g ∈ bs ∧ Blk w g e cs ∧ off + 2 ≤ cs.length ∧ ∀ (w1 w' : World) (t' : Sx) (v' : Value) (b' : List Nat), Ext w w1 → Kids encS w1 v' t'.kids b' → g ∉ b' → Chg (fun x => x = g) w1 w' → Blk w' g e (spl cs off [.string t'.lab, v']) → ∃ ds, Kids encS w' (.slice ao n cap) (ks.set k t') ds ∧ ∀ b ∈ ds, b ∈ bs ∨ b ∈ b' := by
  obtain ⟨ao', cap', h1, hm, h2⟩ := hk
  simp only [Value.slice.injEq] at h1
  obtain ⟨rfl, rfl, rfl⟩ := h1
  rcases h2 with ⟨rfl, rfl⟩ | ⟨a, bs', h3, rfl, rfl, h6⟩
  · simp at hi
  obtain ⟨t0, ht0⟩ : ∃ t, ks[0]? = some t := ⟨ks[0], List.getElem?_eq_getElem (by omega)⟩
  obtain ⟨_, n0', _⟩ := h6.get encS_sz ht0
  obtain ⟨_, l0, _⟩ := n0'.cells
  have hc0 : w.cell? (a.add 0) = some (.string t0.lab) := by
    have := l0 0 (.string t0.lab) rfl
    rw [Nat.zero_mul, Go.Deep.add_add] at this
    exact this
  have ha := litA hf (a := a) List.mem_cons_self hc0
  generalize a.block = g at ha hf
  generalize a.off = o at ha
  subst ha
  obtain ⟨cs, e, hb⟩ := hf.blk g List.mem_cons_self
  obtain ⟨tk, htk⟩ : ∃ t, ks[k]? = some t := ⟨ks[k], List.getElem?_eq_getElem hi⟩
  obtain ⟨_, nk, _⟩ := h6.get encS_sz htk
  obtain ⟨vk, lk, _⟩ := nk.cells
  have hlen : o + k * 2 + 2 ≤ cs.length := by
    have := lk 1 vk rfl
    rw [Addr.add_lit, Addr.add_lit, hb.cell] at this
    have := (List.getElem?_eq_some_iff.1 this).1
    omega
  refine ⟨_, g, o + k * 2, e, cs, rfl, by rw [Addr.add_lit], List.mem_cons_self, hb, hlen, ?_⟩
  intro w1 w' t' v' b' hx hk' hg' hc hb'
  have hnd := List.nodup_cons.1 hf.nodup
  obtain ⟨ds, hds, hpp⟩ := NL.of_eachP (e1 := encS) (p := fun b => b ∈ g :: bs' ∨ b ∈ b') encS_sz (w := w') (ks := ks.set k t') (a := ⟨g, o, none⟩) fun i t ht => by
    by_cases hik : i = k
    · subst hik
      obtain rfl : t' = t := by
        rw [List.getElem?_set_self hi] at ht
        exact Option.some.inj ht
      refine ⟨b', ?_, fun b hb => .inr hb⟩
      rw [← t'.eta]
      refine Nd.mk' (v := v') (fun j u hu => ?_) ?_ (hk'.chg hc fun b hb h => hg' (h ▸ hb))
      · have hj := (List.getElem?_eq_some_iff.1 hu).1
        have hj : j < 1 := hj
        obtain rfl : j = 0 := by omega
        rw [Addr.add_lit, Addr.add_lit, hb'.cell, spl_at (by omega) (by simp)]
        simpa [encS] using hu
      · rw [Addr.add_lit, Addr.add_lit, hb'.cell]
        show (spl cs (o + i * 2) _)[o + i * 2 + 1]? = _
        rw [spl_at (by omega) (by simp)]
        rfl
    · rw [List.getElem?_set_ne (by omega)] at ht
      obtain ⟨bi, ni, hin⟩ := h6.get encS_sz ht
      obtain ⟨vi, li, hki⟩ := ni.cells
      have cell : ∀ j u, j < 2 → (encS t.lab ++ [vi])[j]? = some u → w'.cell? ((Addr.mk g o none).add (i * 2) |>.add j) = some u := fun j u hj hu => by
        have := li j u hu
        rw [Addr.add_lit, Addr.add_lit, hb.cell] at this
        rw [Addr.add_lit, Addr.add_lit, hb'.cell, ← this]
        rcases Nat.lt_or_gt_of_ne hik with h | h
        · exact spl_lo (by omega) (by omega)
        · exact spl_hi (by simp; omega) (by simp; omega)
      refine ⟨bi, ?_, fun b hb => .inl (List.mem_cons_of_mem _ (hin b hb))⟩
      rw [← t.eta]
      refine Nd.mk' (v := vi) (fun j u hu => ?_) ?_ ((hki.ext hx).chg hc fun b hb h => hnd.1 (h ▸ hin b hb))
      · have hj : j < 1 := (List.getElem?_eq_some_iff.1 hu).1
        exact cell j u (by omega) (by rw [List.getElem?_append_left hj]; exact hu)
      · exact cell 1 vi (by omega) rfl
  have h0 : ks.set k t' ≠ [] := fun h => by
    have := congrArg List.length h
    rw [List.length_set] at this
    simp at this
    exact h3 this
  exact ⟨g :: ds, ⟨some ⟨g, o, none⟩, cap, by rw [List.length_set], by rw [List.length_set]; exact hm, .inr ⟨_, ds, h0, rfl, rfl, hds⟩⟩, fun b hb => (List.mem_cons.1 hb).elim (fun e => .inl (e ▸ List.mem_cons_self)) (hpp b)⟩
theorem wtL_set {α : Type} (f : α → Nat) (t : Rose α) : ∀ (ks : List (Rose α)) (k : Nat), Rose.wtL f (ks.set k t) ≤ Rose.wtL f ks + (1 + f t.lab + Rose.wtL f t.kids)
  | [], k => by rw [List.set_nil, Rose.wtL_nil]; omega
  | x :: ks, 0 => by rw [List.set_cons_zero, Rose.wtL_cons, Rose.wtL_cons]; omega
  | x :: ks, k + 1 => by
    rw [List.set_cons_succ, Rose.wtL_cons, Rose.wtL_cons]
    have := wtL_set f t ks k
    omega
theorem AlL_set {p : ByteArray → Prop} {ks : List Sx} (h : Rose.AlL p ks) {t : Sx} (h1 : p t.lab) (h2 : Rose.AlL p t.kids) (k : Nat) : Rose.AlL p (ks.set k t) := Rose.AlL_of fun u hu => by
  rcases List.mem_or_eq_of_mem_set hu with hu | rfl
  · exact Rose.AlL_mem h hu
  · exact ⟨h1, h2⟩
/-- An SExpr of a bounded size. -/
def Sz (t : Sx) : Prop := 1 + Rose.cnt t.kids ≤ 1000 ∧ t.lab.size ≤ 1000 ∧ Rose.AlL (fun s : ByteArray => s.size ≤ 1000) t.kids
theorem Sz.of_Sm {t : Sx} (h : Sm t) (hc : 1 + Rose.cnt t.kids ≤ 1000) : Sz t := ⟨hc, Nat.le_trans h.1 (by decide), Rose.AlL_imp (fun _ h => Nat.le_trans h (by decide)) _ h.2⟩
theorem Sz.tt {t : Tp} (h : 1 + Rose.cnt t.kids ≤ 66) : Sz (ttS t) ∧ Rose.cnt (ttS t).kids ≤ 200 := by
  have h1 := ttS_kids t.lab t.kids
  rw [t.eta] at h1
  refine ⟨⟨by omega, ?_⟩, by omega⟩
  unfold ttS
  split
  · rename_i hok
    have h2 := enS_wt1 hok
    refine ⟨by omega, Rose.AlL_imp (p := fun s : ByteArray => s.size ≤ 960) (fun _ h => by omega) _ (Rose.AlL_wt _ (by omega))⟩
  · exact ⟨by decide, Rose.AlL_of (by simp [Rose.kids])⟩

/-- spec.DrawSExprToType -/
theorem c_DrawSExprToType {w : World} {v : Value} (hv : OCode w v) : Ret Tryz.prog 8 [v] w fun r w' => Ext w w' ∧ ∃ (t : Sx) (u : Value) (bs : List Nat), r = .agg #[.string t.lab, u] ∧ Kids encS w' u t.kids bs ∧ Sz t := by
  have hM : maxLen = 9223372036854775807 := rfl
  have h43 : 4 ^ 3 + 2 = 66 := by decide
  obtain ⟨zs0, bs0, hr0⟩ := hv
  refine ret_of_vc ttOkD Tryz.func8 rfl (by kernel_rfl) (by kernel_rfl) ?_
  refine Go1.al tiSx ?_
  intro w1 hx1 hb1
  have lt1 := hb1.lt
  have sz1 := hx1.size
  refine (c_l1New ⟨zs0, bs0, hr0.ext hx1⟩).mono ?_
  rintro _ w2 ⟨hx2, g, rfl, hg, hc2⟩
  have hg2 := hc2.lt
  have sz2 := hx2.size
  refine (c_l1Once hc2 3 (by decide) (by decide)).mono ?_
  rintro _ w3 ⟨⟨b, rfl⟩, hd3⟩
  have sz3 := hd3.size
  have hb3 := hd3.blk (hb1.ext hx2) (by omega)
  have hx03 : Ext w w3 := (hx1.trans hx2).chg hd3.1 (fun x hx => by omega)
  obtain rfl | rfl : b = true ∨ b = false := by cases b <;> simp
  · refine (c_l2Bent hd3.2).mono ?_
    rintro _ w4 ⟨t, u, O, cs, rfl, hgt, hcn, hd⟩
    obtain ⟨bs, hk, hf⟩ := hgt.kids (by have : t.kids.length ≤ Rose.cnt t.kids := Rose.wtL_length _ _; omega)
    obtain ⟨ao, cap, rfl, _, _⟩ := hk.form
    have hx4 : Ext w w4 := hx03.chg hd.1 (fun x hx => by omega)
    refine Go0.st (off := 0) (vs := [.string t.lab, .slice ao t.kids.length cap]) (hd.blk hb3 (by omega)) rfl rfl (by simp [Value.cells]) (by simp [Value.oneCell']) ?_
    intro w5 hc5 hb5 _
    have hb5 : Blk w5 w.heap.size 33 [.string t.lab, .slice ao t.kids.length cap] := hb5
    refine Ld.agg (vs := [.string t.lab, .slice ao t.kids.length cap]) (Blk.lc0 (post := []) hb5) ?_
    exact ⟨hx4.chg hc5 (by omega), t, _, bs, rfl, hk.chg hc5 (fun b hb => by have := hf.lo b hb; omega), Sz.of_Sm hcn.2 (by omega)⟩
  · refine (c_l4Free 3 (by decide) hd3.2).mono ?_
    rintro _ w4 ⟨⟨T, u, O, cs, rfl, hgt, hq⟩, hd34⟩
    obtain ⟨ao, cap, bs, rfl, hk, hf, _⟩ := kidsN hgt hq.1 (by decide)
    obtain ⟨hl, ha⟩ : T.lab.2.size ≤ maxLen ∧ Rose.AlL (fun s : TLab => s.2.size ≤ maxLen) T.kids := ⟨Nat.le_trans hq.2.1.1 (by decide), Rose.AlL_imp (fun _ h => Nat.le_trans h (by decide)) _ hq.2.1.2⟩
    have hq1 := hq.1
    have sz4 := hd34.size
    refine (c_sTypeToSExpr hl ha (by omega) hk).mono ?_
    obtain ⟨hX, hXc⟩ := Sz.tt (t := T) (by omega)
    rw [T.eta]
    generalize ttS T = X at hX hXc ⊢
    rintro _ w5 ⟨hx5, u5, b5, rfl, hk5, hf5⟩
    obtain ⟨ao5, cap5, rfl, _, _⟩ := hk5.form
    have sz5 := hx5.size
    have hd5 : Dw g w3 w5 := hd34.ext hx5
    refine Go1.al tiSx ?_
    intro w6 hx6 hb6
    have lt6 := hb6.lt
    have sz6 := hx6.size
    refine Go0.st (off := 0) (vs := [.string X.lab, .slice ao5 X.kids.length cap5]) hb6 rfl rfl (by simp [Value.cells]) (by simp [Value.oneCell']) ?_
    intro w7 hc7 hb7 sz7
    have hb7 : Blk w7 w5.heap.size 33 [.string X.lab, .slice ao5 X.kids.length cap5] := hb7
    have hx57 : Ext w5 w7 := hx6.chg hc7 (by omega)
    have hd7 := hd5.ext hx57
    have hbr7 := hd7.blk hb3 (by omega)
    have hk7 := hk5.ext hx57
    have hf7 := hf5.ext hx57
    have hlo5 := hf5.lo
    have hx07 : Ext w w7 := hx03.chg hd7.1 (fun x hx => by omega)
    have hlX : X.kids.length ≤ Rose.cnt X.kids := Rose.wtL_length _ _
    refine Go1.fl 1 (Ld.one hb7.at1 ?_)
    refine Cm.s (fun hpos => ?_) (fun hz => ?_)
    · have hpos : 0 < X.kids.length := by have : (0 : Int) < X.kids.length := hpos; omega
      refine (c_l1Once hd7.2 4 (by decide) (by decide)).mono ?_
      rintro _ w8 ⟨⟨b, rfl⟩, hd78⟩
      have sz8 := hd78.size
      have hb8 := hd78.blk hb7 (by omega)
      have hbr8 := hd78.blk hbr7 (by omega)
      have hk8 := hk7.chg hd78.1 (fun b hb h => by have := hlo5 b hb; omega)
      have hf8 := hf7.chg hd78.1 (fun b hb h => by have := hlo5 b hb; omega)
      have hx08 : Ext w w8 := hx07.chg hd78.1 (fun x hx => by omega)
      obtain rfl | rfl : b = true ∨ b = false := by cases b <;> simp
      · refine Dr.d hd78.2 [0, 1, 2, 3, 4, 5, 7, 6, 8, 9, 10] ttOkD ?_
        refine GoS.fl 1 (LdS.one (fun u hu => (Dw.blk hu hb8 (by omega)).at1) ?_)
        refine GoS.fl 1 (LdS.one (fun u hu => (Dw.blk hu hb8 (by omega)).at1) ?_)
        refine ⟨fun wa hda => ?_⟩
        refine (c_l1Below hda.2 X.kids.length (by omega) (by omega)).mono ?_
        rintro _ wb ⟨⟨k, rfl, hki⟩, hdb⟩
        refine Af.dw (hda.trans hdb) ?_
        have hd8b := hda.trans hdb
        refine ⟨fun wc hdc => ?_⟩
        refine (c_l2Sx 1 (by decide) hdc.2).mono ?_
        rintro _ wd ⟨t', v', O', c', rfl, hgt', ⟨hcn', hsm'⟩, hdd⟩
        obtain ⟨d', hk', hf'⟩ := hgt'.kids (by have : t'.kids.length ≤ Rose.cnt t'.kids := Rose.wtL_length _ _; omega)
        obtain ⟨ao', cap', rfl, _, _⟩ := hk'.form
        have hd8d := hd8b.trans (hdc.trans hdd)
        have szb := hd8b.size
        have szc := hdc.size
        refine Af.dw (hdc.trans hdd) ?_
        have hnb : ∀ b ∈ b5, ¬ b = g := fun b hb h => by have := hlo5 b hb; omega
        obtain ⟨aa, _, _, _, _, rfl, _⟩ := (hk8.chg hd8d.1 hnb).put (hf8.chg hd8d.1 hnb) hki
        refine GoS.ix 2 hki ?_
        refine ⟨fun we hde => ?_⟩
        have hd8e := hd8d.trans hde
        have sze := hd8e.size
        have hnd : ∀ b ∈ d', ¬ b = g := fun b hb h => by have := hf'.lo b hb; omega
        obtain ⟨a2, gx, off, e2, cs2, ha2, hoff, hgx, hbx, hlen2, hput⟩ := (hk8.chg hd8e.1 hnb).put (hf8.chg hd8e.1 hnb) hki
        obtain rfl : aa = a2 := by simpa using ha2
        have hgx5 := hlo5 gx hgx
        have hgx7 := hf7.lt gx hgx
        have hb5n : ¬ w5.heap.size = gx := fun h => by have := hf5.lt gx hgx; omega
        refine Go0.st (off := off) (vs := [.string t'.lab, .slice ao' t'.kids.length cap']) hbx hoff rfl (by simpa using hlen2) (by simp [Value.oneCell']) ?_
        intro wf hcf hbf _
        obtain ⟨ds, hkf, hds⟩ := hput we wf t' _ d' (Chg.refl _ _) (hk'.chg hde.1 hnd) (fun h => by have := hf'.lo gx h; omega) hcf hbf
        refine Af.nw ?_
        intro wh hxh
        have hbxh := ((hd8e.blk hb8 (by omega)).chg hcf hb5n).ext hxh
        have hbrh := ((hd8e.blk hbr8 (by omega)).chg hcf (by omega)).ext hxh
        have hx0h : Ext w wh := ((hx08.chg hd8e.1 (fun x hx => by omega)).chg hcf (fun x hx => by omega)).ext hxh
        have hkh := hkf.ext hxh
        refine Ld.agg (vs := [.string X.lab, .slice (some aa) X.kids.length cap5]) (Blk.lc0 (post := []) hbxh) ?_
        refine Go0.st (off := 0) (vs := [.string X.lab, .slice (some aa) X.kids.length cap5]) hbrh rfl rfl (by simp [Value.cells]) (by simp [Value.oneCell']) ?_
        intro wz hcz hbz _
        have hbz : Blk wz w.heap.size 33 [.string X.lab, .slice (some aa) X.kids.length cap5] := hbz
        refine Ld.agg (vs := [.string X.lab, .slice (some aa) X.kids.length cap5]) (Blk.lc0 (post := []) hbz) ?_
        have hnz : ∀ b ∈ ds, ¬ b = w.heap.size := fun b hb h => by
          rcases hds b hb with h' | h'
          · have := hlo5 b h'; omega
          · have := hf'.lo b h'; omega
        have hcs : Rose.cnt (X.kids.set k t') ≤ Rose.cnt X.kids + (1 + 0 + Rose.cnt t'.kids) := wtL_set (fun _ : ByteArray => 0) t' X.kids k
        have h41 : 4 ^ 1 = 4 := by decide
        exact ⟨hx0h.chg hcz (by omega), .mk X.lab (X.kids.set k t'), _, ds, rfl, hkh.chg hcz (fun b hb h => hnz b hb h), ⟨by show 1 + Rose.cnt (X.kids.set k t') ≤ _; omega, hX.2.1, AlL_set hX.2.2 (Nat.le_trans hsm'.1 (by decide)) (Rose.AlL_imp (fun _ h => Nat.le_trans h (by decide)) _ hsm'.2) k⟩⟩
      · refine Ld.agg (vs := [.string X.lab, .slice ao5 X.kids.length cap5]) (Blk.lc0 (post := []) hb8) ?_
        refine Go0.st (off := 0) (vs := [.string X.lab, .slice ao5 X.kids.length cap5]) hbr8 rfl rfl (by simp [Value.cells]) (by simp [Value.oneCell']) ?_
        intro wz hcz hbz _
        have hbz : Blk wz w.heap.size 33 [.string X.lab, .slice ao5 X.kids.length cap5] := hbz
        refine Ld.agg (vs := [.string X.lab, .slice ao5 X.kids.length cap5]) (Blk.lc0 (post := []) hbz) ?_
        exact ⟨hx08.chg hcz (by omega), X, _, b5, rfl, hk8.chg hcz (fun b hb => by have := hlo5 b hb; omega), hX⟩
    · refine Ld.agg (vs := [.string X.lab, .slice ao5 X.kids.length cap5]) (Blk.lc0 (post := []) hb7) ?_
      refine Go0.st (off := 0) (vs := [.string X.lab, .slice ao5 X.kids.length cap5]) hbr7 rfl rfl (by simp [Value.cells]) (by simp [Value.oneCell']) ?_
      intro wz hcz hbz _
      have hbz : Blk wz w.heap.size 33 [.string X.lab, .slice ao5 X.kids.length cap5] := hbz
      refine Ld.agg (vs := [.string X.lab, .slice ao5 X.kids.length cap5]) (Blk.lc0 (post := []) hbz) ?_
      exact ⟨hx07.chg hcz (by omega), X, _, b5, rfl, hk7.chg hcz (fun b hb => by have := hlo5 b hb; omega), hX⟩
end Go.Proofs.YtliigpmpeldebaaGreat
