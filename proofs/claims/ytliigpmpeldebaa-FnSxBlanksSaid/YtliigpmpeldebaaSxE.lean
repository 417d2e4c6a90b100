/- Contracts: an SExpr's text. Conditions: none. -/
import Derived.Test.YtliigpmpeldebaaSxD
import Derived.Test.YtliigpmpeldebaaShB
namespace Go.Proofs.Ytliigpmpeldebaa
open Go.RowKit

mutual
/-- An SExpr's text. -/
def txS : Sx → List UInt8
  | .mk l ks => if l = em then [40] ++ Lib.join (txL ks) [32] ++ [41] else l.data.toList
def txL : List Sx → List (List UInt8)
  | [] => []
  | k :: ks => txS k :: txL ks
end
theorem txS_eq (l : ByteArray) (ks : List Sx) : txS (.mk l ks) = if l = em then [40] ++ Lib.join (txL ks) [32] ++ [41] else l.data.toList := by rw [txS]
theorem txL_cons (k : Sx) (ks : List Sx) : txL (k :: ks) = txS k :: txL ks := by rw [txL]
theorem txL_append (ks ls : List Sx) : txL (ks ++ ls) = txL ks ++ txL ls := by
  induction ks with
  | nil => simp [txL]
  | cons k ks ih => simp only [List.cons_append, txL_cons, ih]
theorem txL_length (ks : List Sx) : (txL ks).length = ks.length := by
  induction ks with
  | nil => simp [txL]
  | cons k ks ih => simp only [txL_cons, List.length_cons, ih]
theorem txL_take {ks : List Sx} {k : Nat} {t : Sx} (h : ks[k]? = some t) : txL (ks.take (k + 1)) = txL (ks.take k) ++ [txS t] := by
  rw [take_succ_get h, txL_append, txL_cons]
  simp [txL]
/-- Bytes as a string. -/
def tb (l : List UInt8) : ByteArray := ⟨l.toArray⟩
theorem tb_data (s : ByteArray) : tb s.data.toList = s := by cases s; simp [tb]
theorem tb_size (l : List UInt8) : (tb l).size = l.length := rfl
theorem tb_app (a b : List UInt8) : tb a ++ tb b = tb (a ++ b) := by
  apply ByteArray.ext
  simp [tb]

theorem join_len (xs : List (List UInt8)) : (Lib.join xs [32]).length ≤ (xs.map fun x => x.length + 1).sum := by
  cases xs with
  | nil => simp [Lib.join_nil]
  | cons x r =>
    rw [Lib.join_cons, List.length_append, List.map_cons, List.sum_cons]
    have : ∀ r : List (List UInt8), (Lib.joinTail [32] r).length = (r.map fun x => x.length + 1).sum := by
      intro r
      induction r with
      | nil => rfl
      | cons y r ih =>
        simp only [Lib.joinTail, List.map_cons, List.flatten_cons, List.length_append, List.sum_cons] at ih ⊢
        rw [ih]
        simp
        omega
    rw [this]
    omega
theorem txL_sum (ks : List Sx) : ((txL ks).map fun x => x.length + 1).sum ≤ 3 * Rose.wtL ByteArray.size ks := by
  refine Rose.forest (p := fun ks => ((txL ks).map fun x => x.length + 1).sum ≤ 3 * Rose.wtL ByteArray.size ks) (fun ks ih => ?_) ks
  induction ks with
  | nil => simp [txL]
  | cons k ks ihk =>
    have h1 := ih k List.mem_cons_self
    have h2 := ihk fun t ht => ih t (List.mem_cons_of_mem _ ht)
    rw [txL_cons, List.map_cons, List.sum_cons, Rose.wtL_cons]
    have h3 : (txS k).length + 1 ≤ 3 * (1 + k.lab.size + Rose.wtL ByteArray.size k.kids) := by
      cases k with
      | mk l ls =>
        rw [txS_eq]
        show _ ≤ 3 * (1 + l.size + Rose.wtL ByteArray.size ls)
        have h1 : ((txL ls).map fun x => x.length + 1).sum ≤ 3 * Rose.wtL ByteArray.size ls := h1
        split
        · have := join_len (txL ls)
          simp only [List.length_append, List.length_cons, List.length_nil]
          omega
        · have : l.data.toList.length = l.size := rfl
          omega
    omega
theorem txS_len (l : ByteArray) (ks : List Sx) : (txS (.mk l ks)).length + 1 ≤ 3 * (1 + l.size + Rose.wtL ByteArray.size ks) := by
  rw [txS_eq]
  have h1 := txL_sum ks
  split
  · have := join_len (txL ks)
    simp only [List.length_append, List.length_cons, List.length_nil]
    omega
  · have : l.data.toList.length = l.size := rfl
    omega

def TextSaid (ks : List Sx) : Prop := ∀ (l : ByteArray) (w : World) (v : Value) (bs : List Nat), 1 + l.size + Rose.wtL ByteArray.size ks ≤ 16777216 → Kids encS w v ks bs →
    Ret Try.prog 33 [.agg #[.string l, v]] w fun r w' => r = .string (tb (txS (.mk l ks))) ∧ Ext w w'

/-- spec.l2Text -/
theorem c_l2Text (ks : List Sx) : TextSaid ks := by
  refine Rose.forest (fun ks ih => ?_) ks
  intro l w v bs hW hk
  obtain ⟨ao, cap, rfl, hm, hcap⟩ := hk.form
  have hM : maxLen = 9223372036854775807 := rfl
  have hlen := Rose.wtL_length ByteArray.size ks
  have htl := txS_len l ks
  rw [txS_eq] at htl ⊢
  refine ret_of_vc ttOk Try.func33 rfl (by kernel_rfl) (by kernel_rfl) ?_
  refine Go1.bx ?_
  intro w1 hx1 hb1
  refine Go1.fl 0 (Ld.one hb1.at0 ?_)
  refine Cm.ns (fun hne => ?_) (fun he => ?_)
  · refine Go1.fl 0 (Ld.one hb1.at0 ?_)
    rw [if_neg hne, tb_data]
    exact ⟨rfl, hx1⟩
  · rw [if_pos he] at htl ⊢
    refine Go1.b0 9 (size := 1) (bytes := 16) Try.underlying45 tiStr ?_
    intro w0 u0 hx0 hg0 hu
    subst hu
    refine Lp.go ttOk (by kernel_rfl) (fun b : Nat × Value => [(1, .pointer (some ⟨w.heap.size, 0, none⟩)), (3, b.2), (4, .int .i64 b.1)])
      (fun b w' => Ext w1 w' ∧ b.1 ≤ ks.length ∧ ∃ O, Grow w' 9 1 b.2 b.1 (((txL (ks.take b.1)).map tb).map .string) O ∧ ∀ b ∈ O, w1.heap.size ≤ b) (fun b => ks.length - b.1) (0, .slice (some ⟨w1.heap.size, 0, none⟩) 0 0)
      ⟨rfl, rfl, rfl, trivial⟩ ⟨hx0, Nat.zero_le _, [w1.heap.size], by simpa [txL] using hg0, by simp⟩ ?_
    rintro ⟨k, r⟩ w2 ⟨hx2, hk1, O, hg, hO⟩
    simp only at hk1 hg
    refine Go1.fl 1 (Ld.one (hb1.ext hx2).at1 ?_)
    refine Cm.s (fun hlt => ?_) (fun hge => ?_)
    · have hlt : k < ks.length := by have : (k : Int) < ks.length := hlt; omega
      obtain ⟨a, t, v1, b1, rfl, ht, hc, hkt, _⟩ := (hk.ext (hx1.trans hx2)).get encS_sz hlt
      have htm := List.mem_of_getElem? ht
      have hwm := Rose.wtL_mem ByteArray.size htm
      refine Go1.fl 1 (Ld.one (hb1.ext hx2).at1 ?_)
      refine Go1.ix 2 hlt (Ld.agg hc ?_)
      refine (ih t htm t.lab w2 v1 b1 (by omega) hkt).mono ?_
      rw [Rose.eta]
      rintro r3 w3 ⟨rfl, hx3⟩
      refine Go1.bs 9 [.string (tb (txS t))] (size := 1) (bytes := 16) Try.underlying45 tiStr (by decide) (by decide) (by kernel_rfl) ?_
      intro wb hxb hbb
      refine Go1.app (size := 1) (bytes := 16) Try.underlying45 tiStr (by rfl) (by decide) ((hg.ext hx3).ext hxb) (m := 1) (news := [.string (tb (txS t))]) (Blk.lc0 (post := []) hbb) (by simp) (by simp [Value.oneCell']) (by omega) (by decide) ?_
      intro u2 w4 O2 hcb hgb hOb
      refine Wr.n (k + 1) (by simp) (by omega) ?_
      have sz := ((hx2.trans hx3).trans hxb).size
      refine ⟨(k + 1, u2), ⟨rfl, rfl, rfl, trivial⟩, ⟨Chg.big ((hx2.trans hx3).trans hxb) hcb hO, hlt, O2, ?_, fun b hb => ?_⟩, by simp; omega⟩
      · simp only
        rw [txL_take ht]
        simpa using hgb
      · rcases hOb b hb with h | h
        · exact hO b h
        · omega
    · have : k = ks.length := by have : ¬ (k : Int) < ks.length := hge; omega
      subst this
      rw [List.take_length] at hg
      obtain ⟨bs', hst, _⟩ := hg.strs (by omega)
      have hj : jn ((txL ks).map tb) ⟨#[32]⟩ = Lib.join (txL ks) [32] := by
        unfold jn
        rw [List.map_map]
        congr 1
        rw [List.map_congr_left (g := id) (fun x _ => by simp [tb])]
        simp
      have hjl : (jn ((txL ks).map tb) ⟨#[32]⟩).length ≤ 70368744177664 := by
        rw [hj]
        simp only [List.length_append, List.length_cons, List.length_nil] at htl
        omega
      refine (c_sJoin hjl (by decide) hst).mono ?_
      rintro r3 w3 ⟨rfl, hx3⟩
      rw [hj] at *
      have hsz : ByteArray.size ⟨(Lib.join (txL ks) [32]).toArray⟩ = (Lib.join (txL ks) [32]).length := rfl
      simp only [List.length_append, List.length_cons, List.length_nil] at htl
      refine Go1.cat (by rw [hsz]; show 1 + _ ≤ _; omega) ?_
      refine Go1.cat (by rw [size_app, hsz]; show 1 + _ + 1 ≤ _; omega) ?_
      refine ⟨?_, (hx1.trans hx2).trans hx3⟩
      rw [← tb_app, ← tb_app]
      rfl


open Classical in
/-- What FormatSExpr answers. -/
noncomputable def fmtS (t : Sx) : ByteArray := if okS t then tb (txS t) else ⟨#[]⟩

/-- spec.FormatSExpr -/
theorem c_sFormatSExpr {l : ByteArray} {ks : List Sx} (hl : l.size ≤ maxLen) (ha : Rose.AlL (fun s => s.size ≤ maxLen) ks) (hW : 1 + l.size + Rose.wtL ByteArray.size ks ≤ 16777216) {w : World} {v : Value} {bs : List Nat} (hk : Kids encS w v ks bs) :
    Ret Try.prog 19 [.agg #[.string l, v]] w fun r w' => r = .string (fmtS (.mk l ks)) ∧ Ext w w' := by
  obtain ⟨ao, cap, rfl, hm, hcap⟩ := hk.form
  refine ret_of_vc ttOk Try.func19 rfl (by kernel_rfl) (by kernel_rfl) ?_
  refine Go1.bx ?_
  intro w1 hx1 hb1
  refine Ld.agg (vs := [.string l, .slice ao ks.length cap]) (Blk.lc0 (post := []) hb1) ?_
  refine (c_sIsValidSExpr hl ha (hk.ext hx1)).mono ?_
  rintro r w2 ⟨⟨b, rfl, hb⟩, hx2⟩
  unfold fmtS
  cases b
  · rw [if_neg fun h => by simpa using hb.2 h]
    exact ⟨rfl, hx1.trans hx2⟩
  · rw [if_pos (hb.1 rfl)]
    refine Ld.agg (vs := [.string l, .slice ao ks.length cap]) (Blk.lc0 (post := []) (hb1.ext hx2)) ?_
    refine (c_l2Text ks l w2 _ bs hW (hk.ext (hx1.trans hx2))).mono ?_
    rintro r w3 ⟨rfl, hx3⟩
    exact ⟨rfl, (hx1.trans hx2).trans hx3⟩
end Go.Proofs.Ytliigpmpeldebaa
