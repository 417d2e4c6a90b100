/- Contracts: FormatType. Conditions: none. -/
import Derived.Test.YtdoanmhiedemaaaTyJ
namespace Go.Proofs.Ytdoanmhiedemaaa
open Go.RowKit

theorem head_size {l : TLab} {n : Nat} (h : headP l n) : l.2.size ≤ 8 := by
  have hb : baseN l.2 = true → l.2.size ≤ 8 := fun h => by
    unfold baseN at h
    simp only [Bool.or_eq_true, decide_eq_true_eq] at h
    rcases h with h | h <;> (rw [h]; decide)
  rcases h with h | h | ⟨_, h | h⟩
  · exact h.2.1.2.2.1
  · exact h.2.1.2.2.1
  · exact h.1.2.2.1
  · exact hb h.1
theorem wt_at (s : ByteArray) (us : List Sx) : Rose.wtL ByteArray.size (at_ s :: us) = 1 + s.size + Rose.wtL ByteArray.size us := by
  rw [Rose.wtL_cons]
  simp [Rose.kids, Rose.lab, Rose.wtL_nil]
theorem enS_wt (ks : List Tp) : (∀ t ∈ ks, fmT t) → Rose.wtL ByteArray.size (enL ks) ≤ 16 * Rose.cnt ks := by
  refine Rose.forest (p := fun ks => (∀ t ∈ ks, fmT t) → Rose.wtL ByteArray.size (enL ks) ≤ 16 * Rose.cnt ks) (fun ks ih => ?_) ks
  intro hf
  induction ks with
  | nil => rw [enL_nil, Rose.wtL_nil]; omega
  | cons t ts iht =>
    have h1 := ih t List.mem_cons_self
    have h2 := iht (fun u hu => ih u (List.mem_cons_of_mem _ hu)) fun u hu => hf u (List.mem_cons_of_mem _ hu)
    rw [enL_cons, Rose.wtL_cons]
    have e2 : Rose.cnt (t :: ts) = 1 + Rose.cnt t.kids + Rose.cnt ts := by
      show Rose.wtL _ _ = 1 + Rose.wtL _ _ + Rose.wtL _ _
      rw [Rose.wtL_cons]
    have h3 : 1 + (enS t).lab.size + Rose.wtL ByteArray.size (enS t).kids ≤ 16 * (1 + Rose.cnt t.kids) := by
      have hft := hf t List.mem_cons_self
      cases t with
      | mk l ls =>
        rw [fmT_iff] at hft
        have h1 : Rose.wtL ByteArray.size (enL ls) ≤ 16 * Rose.cnt ls := h1 hft.2
        have hz := head_size hft.1
        show _ ≤ 16 * (1 + Rose.cnt ls)
        have z1 : sDyn.size = 3 := rfl
        have z2 : sAssoc.size = 5 := rfl
        have z3 : em.size = 0 := rfl
        rw [enS_eq]
        split
        · have : (ByteArray.mk #[39] ++ l.2).size = 1 + l.2.size := size_app _ _
          simp only [Rose.kids, Rose.lab, Rose.wtL_nil]
          omega
        · split
          · simp only [Rose.kids, Rose.lab, wt_at, Rose.wtL_nil]; omega
          · split
            · simp only [Rose.kids, Rose.lab, wt_at]; omega
            · split
              · simp only [Rose.kids, Rose.lab, Rose.wtL_nil]; omega
              · simp only [Rose.kids, Rose.lab, wt_at]; omega
    omega
theorem enS_wt1 {t : Tp} (h : okT t) : 1 + (enS t).lab.size + Rose.wtL ByteArray.size (enS t).kids ≤ 960 := by
  have h1 := enS_wt [t] (by simpa using h.2.1)
  rw [enL_cons, enL_nil, Rose.wtL_cons, Rose.wtL_nil] at h1
  have e2 : Rose.cnt [t] = 1 + Rose.cnt t.kids := by
    show Rose.wtL _ _ = 1 + Rose.wtL _ _
    rw [Rose.wtL_cons, Rose.wtL_nil]
    simp
  have := h.1
  omega

open Classical in
/-- What FormatType answers. -/
noncomputable def fmtT (t : Tp) : ByteArray := if okT t then fmtS (enS t) else ⟨#[]⟩

/-- spec.FormatType -/
theorem c_sFormatType {l : TLab} {ks : List Tp} (hl : l.2.size ≤ maxLen) (ha : Rose.AlL (fun s => s.2.size ≤ maxLen) ks) (hs : Rose.cnt ks ≤ 4294967296) {w : World} {v : Value} {bs : List Nat} (hk : Kids encT w v ks bs) :
    Ret Try.prog 54 [.agg #[.int .i64 l.1, .string l.2, v]] w fun r w' => r = .string (fmtT (.mk l ks)) ∧ Ext w w' := by
  obtain ⟨ao, cap, rfl, hm, hcap⟩ := hk.form
  have hM : maxLen = 9223372036854775807 := rfl
  refine ret_of_vc ttOk Try.func54 rfl (by kernel_rfl) (by kernel_rfl) ?_
  refine Go1.bx ?_
  intro w1 hx1 hb1
  refine Ld.agg (vs := [.int .i64 l.1, .string l.2, .slice ao ks.length cap]) (Blk.lc0 (post := []) hb1) ?_
  refine (c_sIsValidType hl ha (hk.ext hx1)).mono ?_
  rintro r w2 ⟨⟨b, rfl, hb⟩, hx2⟩
  unfold fmtT
  cases b
  · rw [if_neg fun h => by simpa using hb.2 h]
    exact ⟨rfl, hx1.trans hx2⟩
  · have hok := hb.1 rfl
    have hw := enS_wt1 hok
    rw [if_pos hok]
    refine Ld.agg (vs := [.int .i64 l.1, .string l.2, .slice ao ks.length cap]) (Blk.lc0 (post := []) (hb1.ext hx2)) ?_
    refine (c_l5Sx ks l w2 _ bs hok.2.1 hs (hk.ext (hx1.trans hx2))).mono ?_
    generalize enS (.mk l ks) = T at hw ⊢
    rintro _ w3 ⟨hx3, v3, c3, rfl, hk3, hf3⟩
    refine (c_sFormatSExpr (by omega) (Rose.AlL_imp (fun l hl => Nat.le_trans hl (by omega)) _ (Rose.AlL_wt (B := 960) _ (by omega))) (by omega) hk3).mono ?_
    rw [T.eta]
    rintro r w4 ⟨rfl, hx4⟩
    exact ⟨rfl, ((hx1.trans hx2).trans hx3).trans hx4⟩
/-- impl.FormatType -/
theorem c_iFormatType {l : TLab} {ks : List Tp} (hl : l.2.size ≤ maxLen) (ha : Rose.AlL (fun s => s.2.size ≤ maxLen) ks) (hs : Rose.cnt ks ≤ 4294967296) {w : World} {v : Value} {bs : List Nat} (hk : Kids encT w v ks bs) :
    Ret Try.prog 55 [.agg #[.int .i64 l.1, .string l.2, v]] w fun r w' => r = .string (fmtT (.mk l ks)) ∧ Ext w w' := by
  obtain ⟨ao, cap, rfl, hm, hcap⟩ := hk.form
  have hM : maxLen = 9223372036854775807 := rfl
  refine ret_of_vc ttOk Try.func55 rfl (by kernel_rfl) (by kernel_rfl) ?_
  refine Go1.bx ?_
  intro w1 hx1 hb1
  refine Ld.agg (vs := [.int .i64 l.1, .string l.2, .slice ao ks.length cap]) (Blk.lc0 (post := []) hb1) ?_
  refine (c_iIsValidType hl ha hs (hk.ext hx1)).mono ?_
  rintro r w2 ⟨⟨b, rfl, hb⟩, hx2⟩
  unfold fmtT
  cases b
  · rw [if_neg fun h => by simpa using hb.2 h]
    exact ⟨rfl, hx1.trans hx2⟩
  · have hok := hb.1 rfl
    have hw := enS_wt1 hok
    have hkc := enS_kids l ks
    rw [if_pos hok]
    refine Ld.agg (vs := [.int .i64 l.1, .string l.2, .slice ao ks.length cap]) (Blk.lc0 (post := []) (hb1.ext hx2)) ?_
    refine (c_encodeType ks l w2 _ bs hok.2.1 hs (hk.ext (hx1.trans hx2))).mono ?_
    generalize enS (.mk l ks) = T at hw hkc ⊢
    rintro _ w3 ⟨hx3, v3, c3, rfl, hk3, hf3⟩
    have hcl := Rose.cnt_le ByteArray.size T.kids
    refine (c_iFormatSExpr (by omega) (Rose.AlL_imp (fun l hl => Nat.le_trans hl (by omega)) _ (Rose.AlL_wt (B := 960) _ (by omega))) (by omega) (by omega) hk3).mono ?_
    rw [T.eta]
    rintro r w4 ⟨rfl, hx4⟩
    exact ⟨rfl, ((hx1.trans hx2).trans hx3).trans hx4⟩
end Go.Proofs.Ytdoanmhiedemaaa
