/- Contracts: size and depth of an SExpr. Conditions: none. -/
import Derived.Test.YtliigpmpeldebaaGreatSxB
namespace Go.Proofs.YtliigpmpeldebaaGreat
open Go.RowKit

abbrev em : ByteArray := ⟨#[]⟩

mutual
/-- The depth of an SExpr. -/
def dpS : Sx → Nat
  | .mk l ks => if l = em then dpSL ks + 1 else 0
def dpSL : List Sx → Nat
  | [] => 0
  | k :: ks => max (dpS k) (dpSL ks)
end
theorem dpS_eq (t : Sx) : dpS t = if t.lab = em then dpSL t.kids + 1 else 0 := by cases t; simp only [dpS, Rose.lab, Rose.kids] <;> rfl
theorem dpS_atom {l : ByteArray} {ks : List Sx} (h : ¬ l = em) : dpS (.mk l ks) = 0 := by rw [dpS_eq]; exact if_neg h
theorem dpS_list {l : ByteArray} {ks : List Sx} (h : l = em) : dpS (.mk l ks) = dpSL ks + 1 := by rw [dpS_eq]; exact if_pos h
theorem dpSL_nil : dpSL [] = 0 := by simp only [dpSL]
theorem dpSL_cons (k : Sx) (ks : List Sx) : dpSL (k :: ks) = max (dpS k) (dpSL ks) := by simp only [dpSL]
theorem dpSL_append (xs ys : List Sx) : dpSL (xs ++ ys) = max (dpSL xs) (dpSL ys) := by
  induction xs with
  | nil => simp [dpSL_nil]
  | cons x xs ih => simp only [List.cons_append, dpSL_cons, ih]; omega
theorem dpSL_take {ks : List Sx} {i : Nat} {t : Sx} (h : ks[i]? = some t) : dpSL (ks.take (i + 1)) = max (dpSL (ks.take i)) (dpS t) := by
  rw [take_succ_get h, dpSL_append, dpSL_cons, dpSL_nil]; omega
theorem dpSL_mem {ks : List Sx} {t : Sx} (h : t ∈ ks) : dpS t ≤ dpSL ks := by
  induction ks with
  | nil => cases h
  | cons k ks ih =>
    rw [dpSL_cons]
    rcases List.mem_cons.1 h with rfl | h
    · omega
    · have := ih h; omega
theorem dpSL_le (ks : List Sx) : dpSL ks ≤ Rose.cnt ks := by
  refine Rose.forest (p := fun ks => dpSL ks ≤ Rose.cnt ks) (fun ks ih => ?_) ks
  induction ks with
  | nil => simp [dpSL_nil]
  | cons k ks ihk =>
    have h1 := ih k List.mem_cons_self
    have h2 := ihk fun t ht => ih t (List.mem_cons_of_mem _ ht)
    rw [dpSL_cons, dpS_eq]
    show _ ≤ Rose.wtL _ _
    rw [Rose.wtL_cons]
    have h1 : dpSL k.kids ≤ Rose.wtL (fun _ => 0) k.kids := h1
    have h2 : dpSL ks ≤ Rose.wtL (fun _ => 0) ks := h2
    split <;> omega

theorem cnt_nil {α : Type} : Rose.cnt ([] : List (Rose α)) = 0 := Rose.wtL_nil _
theorem cnt_take {ks : List Sx} {i : Nat} {t : Sx} (h : ks[i]? = some t) : Rose.cnt (ks.take (i + 1)) = Rose.cnt (ks.take i) + (1 + Rose.cnt t.kids) := by
  have := Rose.wtL_take_succ (fun _ => 0) h
  show Rose.wtL _ _ = Rose.wtL _ _ + (1 + Rose.wtL _ _)
  omega
theorem cnt_take_le {ks : List Sx} {i : Nat} {t : Sx} (h : ks[i]? = some t) : Rose.cnt (ks.take i) + (1 + Rose.cnt t.kids) ≤ Rose.cnt ks := by
  rw [← cnt_take h]
  have := Rose.wtL_append (fun _ => 0) (ks.take (i + 1)) (ks.drop (i + 1))
  rw [List.take_append_drop] at this
  show Rose.wtL _ _ ≤ Rose.wtL _ _
  omega


def SizeISaid (ks : List Sx) : Prop := Rose.cnt ks ≤ 4294967296 → ∀ (l : ByteArray) (w : World) (v : Value) (bs : List Nat), Kids encS w v ks bs →
    Ret Tryz.prog 75 [.agg #[.string l, v]] w fun r w' => r = .int .i64 (1 + Rose.cnt ks : Nat) ∧ Ext w w'

/-- impl.SExprSize -/
theorem c_iSExprSize (ks : List Sx) : SizeISaid ks := by
  refine Rose.forest (fun ks ih => ?_) ks
  intro hs l w v bs hk
  obtain ⟨ao, cap, rfl, hm, hcap⟩ := hk.form
  have hM : maxLen = 9223372036854775807 := rfl
  refine ret_of_vc ttOk Tryz.func75 rfl (by kernel_rfl) (by kernel_rfl) ?_
  refine Go1.bx ?_
  intro w1 hx1 hb1
  refine Go1.fl 1 (Ld.one hb1.at1 ?_)
  refine Lp.go ttOk (by kernel_rfl) (fun k : Nat => [(1, .pointer (some ⟨w.heap.size, 0, none⟩)), (3, .int .i64 (1 + Rose.cnt (ks.take k) : Nat)), (7, .slice ao ks.length cap), (8, .int .i64 ks.length), (9, .int .i64 k)]) (fun k w' => Ext w1 w' ∧ k ≤ ks.length) (fun k => ks.length - k) 0
    ⟨rfl, by rw [List.take_zero, cnt_nil]; rfl, rfl, rfl, rfl, trivial⟩ ⟨Chg.refl _ _, Nat.zero_le _⟩ ?_
  rintro k w3 ⟨hx, hk1⟩
  refine Cm.s (fun hlt => ?_) (fun hge => ?_)
  · have hlt : k < ks.length := by omega
    obtain ⟨a, t, v1, b1, rfl, ht, hc, hkt, _⟩ := hk.get encS_sz hlt
    have htm := List.mem_of_getElem? ht
    have hcm := Rose.cnt_mem htm
    have hct := cnt_take_le ht
    obtain ⟨ao3, cap3, rfl, _, _⟩ := hkt.form
    refine Go1.ix 2 hlt (Ld.agg (hc.chg (hx1.trans hx) (.inr id)) ?_)
    refine Go1.al tiSx ?_
    intro w4 hx4 hb4
    have lt4 := hb4.lt
    refine Go0.st (off := 0) (vs := [.string t.lab, .slice ao3 t.kids.length cap3]) hb4 rfl rfl (by simp [Value.cells]) (by simp [Value.oneCell']) ?_
    intro w5 hx5 hb5 _
    have hb5 : Blk w5 w3.heap.size 33 [.string t.lab, .slice ao3 t.kids.length cap3] := hb5
    have hx35 : Ext w3 w5 := hx4.chg hx5 (by omega)
    refine Ld.agg (vs := [.string t.lab, .slice ao3 t.kids.length cap3]) (Blk.lc0 (post := []) hb5) ?_
    refine (ih t htm (by omega) _ _ _ _ (hkt.ext ((hx1.trans hx).trans hx35))).mono ?_
    rintro r w6 ⟨rfl, hx6⟩
    refine Wr.n (1 + Rose.cnt (ks.take (k + 1))) (by rw [cnt_take ht]; omega) (by rw [cnt_take ht]; omega) ?_
    refine Wr.n (k + 1) (by omega) (by omega) ?_
    exact ⟨k + 1, ⟨rfl, rfl, rfl, rfl, rfl, trivial⟩, ⟨(hx.trans hx35).trans hx6, hlt⟩, by omega⟩
  · have : k = ks.length := by omega
    subst this
    exact ⟨by rw [List.take_length], hx1.trans hx⟩

/-- The builtin max of two ints. -/
theorem Go1.max2 {P : Program} {w : World} {ats : Array TypeId} {ty : TypeId} {x y : Int} {K : Value → World → Prop} (k : K (.int .i64 (max x y)) w) : Go1 P (Builtin.max_ ats ty #[.int .i64 x, .int .i64 y]) w K := by
  refine Go1.go (v := .int .i64 (max x y)) ?_ k
  simp [Builtin.max_, Builtin.max2]
  split
  · rw [Int.max_eq_right (by omega)]
  · rw [Int.max_eq_left (by omega)]

/-- spec.l1Max -/
theorem c_l1Max (x y : Int) {w : World} : Ret Tryz.prog 66 [.int .i64 x, .int .i64 y] w fun r w' => r = .int .i64 (max x y) ∧ w' = w := by
  refine ret_of_vc ttOk Tryz.func66 rfl (by kernel_rfl) (by kernel_rfl) ?_
  refine Cm.s (fun h => ?_) (fun h => ?_)
  · exact ⟨by rw [Int.max_eq_left (by omega)], rfl⟩
  · exact ⟨by rw [Int.max_eq_right (by omega)], rfl⟩

def DepSaid (ks : List Sx) : Prop := Rose.cnt ks ≤ 4294967296 → ∀ (l : ByteArray) (w : World) (v : Value) (bs : List Nat), Kids encS w v ks bs →
    Ret Tryz.prog 85 [.agg #[.string l, v]] w fun r w' => r = .int .i64 (dpS (.mk l ks) : Nat) ∧ Ext w w'

/-- spec.SExprDepth -/
theorem c_sSExprDepth (ks : List Sx) : DepSaid ks := by
  refine Rose.forest (fun ks ih => ?_) ks
  intro hs l w v bs hk
  obtain ⟨ao, cap, rfl, hm, hcap⟩ := hk.form
  have hM : maxLen = 9223372036854775807 := rfl
  have hdl := dpSL_le ks
  refine ret_of_vc ttOk Tryz.func85 rfl (by kernel_rfl) (by kernel_rfl) ?_
  refine Go1.bx ?_
  intro w1 hx1 hb1
  refine Go1.fl 0 (Ld.one hb1.at0 ?_)
  refine Cm.ns (fun hne => ?_) (fun he => ?_)
  · exact ⟨by rw [dpS_atom hne]; rfl, hx1⟩
  refine Lp.go ttOk (by kernel_rfl) (fun k : Nat => [(1, .pointer (some ⟨w.heap.size, 0, none⟩)), (3, .int .i64 (dpSL (ks.take k) : Nat)), (4, .int .i64 k)]) (fun k w' => Ext w1 w' ∧ k ≤ ks.length ∧ dpSL (ks.take k) ≤ dpSL ks) (fun k => ks.length - k) 0
    ⟨rfl, by rw [List.take_zero, dpSL_nil]; rfl, rfl, trivial⟩ ⟨Chg.refl _ _, Nat.zero_le _, by rw [List.take_zero, dpSL_nil]; omega⟩ ?_
  rintro k w3 ⟨hx, hk1, hdk⟩
  refine Go1.fl 1 (Ld.one (hb1.ext hx).at1 ?_)
  refine Cm.s (fun hlt => ?_) (fun hge => ?_)
  · have hlt : k < ks.length := by omega
    obtain ⟨a, t, v1, b1, rfl, ht, hc, hkt, _⟩ := hk.get encS_sz hlt
    have htm := List.mem_of_getElem? ht
    have hcm := Rose.cnt_mem htm
    have hdm := dpSL_mem htm
    refine Go1.fl 1 (Ld.one (hb1.ext hx).at1 ?_)
    refine Go1.ix 2 hlt (Ld.agg (hc.chg (hx1.trans hx) (.inr id)) ?_)
    refine (ih t htm (by omega) _ _ _ _ (hkt.ext (hx1.trans hx))).mono ?_
    rintro r w5 ⟨rfl, hx5⟩
    refine (c_l1Max _ _).mono ?_
    rintro r w6 ⟨rfl, rfl⟩
    rw [show max ((dpSL (ks.take k) : Nat) : Int) ((dpS (.mk t.lab t.kids) : Nat) : Int) = ((dpSL (ks.take (k + 1)) : Nat) : Int) by rw [dpSL_take ht, t.eta]; omega]
    refine Wr.n (k + 1) (by omega) (by omega) ?_
    exact ⟨k + 1, ⟨rfl, rfl, rfl, trivial⟩, ⟨hx.trans hx5, hlt, by rw [dpSL_take ht]; omega⟩, by omega⟩
  · have : k = ks.length := by omega
    subst this
    rw [List.take_length] at hdk ⊢
    refine Wr.n (dpSL ks + 1) (by omega) (by omega) ?_
    exact ⟨by rw [dpS_list he], hx1.trans hx⟩

def DepISaid (ks : List Sx) : Prop := Rose.cnt ks ≤ 4294967296 → ∀ (l : ByteArray) (w : World) (v : Value) (bs : List Nat), Kids encS w v ks bs →
    Ret Tryz.prog 74 [.agg #[.string l, v]] w fun r w' => r = .int .i64 (dpS (.mk l ks) : Nat) ∧ Ext w w'

/-- impl.SExprDepth -/
theorem c_iSExprDepth (ks : List Sx) : DepISaid ks := by
  refine Rose.forest (fun ks ih => ?_) ks
  intro hs l w v bs hk
  obtain ⟨ao, cap, rfl, hm, hcap⟩ := hk.form
  have hM : maxLen = 9223372036854775807 := rfl
  have hdl := dpSL_le ks
  refine ret_of_vc ttOk Tryz.func74 rfl (by kernel_rfl) (by kernel_rfl) ?_
  refine Go1.bx ?_
  intro w1 hx1 hb1
  refine Go1.fl 0 (Ld.one hb1.at0 ?_)
  refine Cm.ns (fun hne => ?_) (fun he => ?_)
  · exact ⟨by rw [dpS_atom hne]; rfl, hx1⟩
  refine Go1.fl 1 (Ld.one hb1.at1 ?_)
  refine Lp.go ttOk (by kernel_rfl) (fun k : Nat => [(3, .int .i64 (dpSL (ks.take k) : Nat)), (10, .slice ao ks.length cap), (11, .int .i64 ks.length), (12, .int .i64 k)]) (fun k w' => Ext w1 w' ∧ k ≤ ks.length ∧ dpSL (ks.take k) ≤ dpSL ks) (fun k => ks.length - k) 0
    ⟨by rw [List.take_zero, dpSL_nil]; rfl, rfl, rfl, rfl, trivial⟩ ⟨Chg.refl _ _, Nat.zero_le _, by rw [List.take_zero, dpSL_nil]; omega⟩ ?_
  rintro k w3 ⟨hx, hk1, hdk⟩
  refine Cm.s (fun hlt => ?_) (fun hge => ?_)
  · have hlt : k < ks.length := by omega
    obtain ⟨a, t, v1, b1, rfl, ht, hc, hkt, _⟩ := hk.get encS_sz hlt
    have htm := List.mem_of_getElem? ht
    have hcm := Rose.cnt_mem htm
    have hdm := dpSL_mem htm
    obtain ⟨ao3, cap3, rfl, _, _⟩ := hkt.form
    refine Go1.ix 2 hlt (Ld.agg (hc.chg (hx1.trans hx) (.inr id)) ?_)
    refine Go1.al tiSx ?_
    intro w4 hxw4 hbw4
    have ltw4 := hbw4.lt
    refine Go0.st (off := 0) (vs := [.string t.lab, .slice ao3 t.kids.length cap3]) hbw4 rfl rfl (by simp [Value.cells]) (by simp [Value.oneCell']) ?_
    intro w5 hx0w5 hb0w5 _
    have hbw5 : Blk w5 w3.heap.size 33 [.string t.lab, .slice ao3 t.kids.length cap3] := hb0w5
    have hxw5 : Ext w3 w5 := hxw4.chg hx0w5 (by omega)
    refine Ld.agg (vs := [.string t.lab, .slice ao3 t.kids.length cap3]) (Blk.lc0 (post := []) hbw5) ?_
    refine (ih t htm (by omega) _ _ _ _ (hkt.ext ((hx1.trans hx).trans hxw5))).mono ?_
    rintro r w6 ⟨rfl, hx6⟩
    refine Go1.max2 ?_
    rw [show max ((dpSL (ks.take k) : Nat) : Int) ((dpS (.mk t.lab t.kids) : Nat) : Int) = ((dpSL (ks.take (k + 1)) : Nat) : Int) by rw [dpSL_take ht, t.eta]; omega]
    refine Wr.n (k + 1) (by omega) (by omega) ?_
    exact ⟨k + 1, ⟨rfl, rfl, rfl, rfl, trivial⟩, ⟨(hx.trans hxw5).trans hx6, hlt, by rw [dpSL_take ht]; omega⟩, by omega⟩
  · have : k = ks.length := by omega
    subst this
    rw [List.take_length] at hdk ⊢
    refine Wr.n (dpSL ks + 1) (by omega) (by omega) ?_
    exact ⟨by rw [dpS_list he], hx1.trans hx⟩
end Go.Proofs.YtliigpmpeldebaaGreat
