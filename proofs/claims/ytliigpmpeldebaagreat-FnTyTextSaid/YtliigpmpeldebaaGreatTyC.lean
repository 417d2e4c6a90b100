/- Contracts: size and depth of a Type. Conditions: none. -/
import Derived.Test.YtliigpmpeldebaaGreatTyA
import Derived.Test.YtliigpmpeldebaaGreatSxC
namespace Go.Proofs.YtliigpmpeldebaaGreat
open Go.RowKit

theorem Rose.cnt_nil {α : Type} : Rose.cnt ([] : List (Rose α)) = 0 := Rose.wtL_nil _
theorem Rose.cnt_take {α : Type} {ks : List (Rose α)} {i : Nat} {t : Rose α} (h : ks[i]? = some t) : Rose.cnt (ks.take (i + 1)) = Rose.cnt (ks.take i) + (1 + Rose.cnt t.kids) := by
  have := Rose.wtL_take_succ (fun _ => 0) h
  show Rose.wtL _ _ = Rose.wtL _ _ + (1 + Rose.wtL _ _)
  omega
theorem Rose.cnt_take_le {α : Type} {ks : List (Rose α)} {i : Nat} {t : Rose α} (h : ks[i]? = some t) : Rose.cnt (ks.take i) + (1 + Rose.cnt t.kids) ≤ Rose.cnt ks := by
  rw [← Rose.cnt_take h]
  have := Rose.wtL_append (fun _ => 0) (ks.take (i + 1)) (ks.drop (i + 1))
  rw [List.take_append_drop] at this
  show Rose.wtL _ _ ≤ Rose.wtL _ _
  omega

mutual
/-- The depth of a Type. -/
def dpT : Tp → Nat
  | .mk _ ks => dpTL ks
def dpTL : List Tp → Nat
  | [] => 0
  | k :: ks => max (dpT k + 1) (dpTL ks)
end
theorem dpT_eq (t : Tp) : dpT t = dpTL t.kids := by cases t; simp only [dpT, Rose.kids]
theorem dpTL_nil : dpTL [] = 0 := by simp only [dpTL]
theorem dpTL_cons (k : Tp) (ks : List Tp) : dpTL (k :: ks) = max (dpTL k.kids + 1) (dpTL ks) := by simp only [dpTL, dpT_eq]
theorem dpTL_append (xs ys : List Tp) : dpTL (xs ++ ys) = max (dpTL xs) (dpTL ys) := by
  induction xs with
  | nil => simp [dpTL_nil]
  | cons x xs ih => simp only [List.cons_append, dpTL_cons, ih]; omega
theorem dpTL_take {ks : List Tp} {i : Nat} {t : Tp} (h : ks[i]? = some t) : dpTL (ks.take (i + 1)) = max (dpTL (ks.take i)) (dpTL t.kids + 1) := by
  rw [take_succ_get h, dpTL_append, dpTL_cons, dpTL_nil]; omega
theorem dpTL_mem {ks : List Tp} {t : Tp} (h : t ∈ ks) : dpTL t.kids + 1 ≤ dpTL ks := by
  induction ks with
  | nil => cases h
  | cons k ks ih =>
    rw [dpTL_cons]
    rcases List.mem_cons.1 h with rfl | h
    · omega
    · have := ih h; omega
theorem dpTL_le (ks : List Tp) : dpTL ks ≤ Rose.cnt ks := by
  refine Rose.forest (p := fun ks => dpTL ks ≤ Rose.cnt ks) (fun ks ih => ?_) ks
  induction ks with
  | nil => simp [dpTL_nil]
  | cons k ks ihk =>
    have h1 := ih k List.mem_cons_self
    have h2 := ihk fun t ht => ih t (List.mem_cons_of_mem _ ht)
    rw [dpTL_cons]
    show _ ≤ Rose.wtL _ _
    rw [Rose.wtL_cons]
    have h1 : dpTL k.kids ≤ Rose.wtL (fun _ => 0) k.kids := h1
    have h2 : dpTL ks ≤ Rose.wtL (fun _ => 0) ks := h2
    omega


def TSizeISaid (ks : List Tp) : Prop := Rose.cnt ks ≤ 4294967296 → ∀ (l : TLab) (w : World) (v : Value) (bs : List Nat), Kids encT w v ks bs →
    Ret Tryz.prog 45 [.agg #[.int .i64 l.1, .string l.2, v]] w fun r w' => r = .int .i64 (1 + Rose.cnt ks : Nat) ∧ Ext w w'

/-- impl.TypeSize -/
theorem c_iTypeSize (ks : List Tp) : TSizeISaid ks := by
  refine Rose.forest (fun ks ih => ?_) ks
  intro hs l w v bs hk
  obtain ⟨ao, cap, rfl, hm, hcap⟩ := hk.form
  have hM : maxLen = 9223372036854775807 := rfl
  refine ret_of_vc ttOk Tryz.func45 rfl (by kernel_rfl) (by kernel_rfl) ?_
  refine Go1.bx ?_
  intro w1 hx1 hb1
  refine Go1.fl 2 (Ld.one hb1.at2 ?_)
  refine Lp.go ttOk (by kernel_rfl) (fun k : Nat => [(1, .pointer (some ⟨w.heap.size, 0, none⟩)), (3, .int .i64 (1 + Rose.cnt (ks.take k) : Nat)), (7, .slice ao ks.length cap), (8, .int .i64 ks.length), (9, .int .i64 k)]) (fun k w' => Ext w1 w' ∧ k ≤ ks.length) (fun k => ks.length - k) 0
    ⟨rfl, by rw [List.take_zero, Rose.cnt_nil]; rfl, rfl, rfl, rfl, trivial⟩ ⟨Chg.refl _ _, Nat.zero_le _⟩ ?_
  rintro k w3 ⟨hx, hk1⟩
  refine Cm.s (fun hlt => ?_) (fun hge => ?_)
  · have hlt : k < ks.length := by omega
    obtain ⟨a, t, v1, b1, rfl, ht, hc, hkt, _⟩ := hk.get encT_sz hlt
    have htm := List.mem_of_getElem? ht
    have hcm := Rose.cnt_mem htm
    have hct := Rose.cnt_take_le ht
    obtain ⟨ao3, cap3, rfl, _, _⟩ := hkt.form
    refine Go1.ix 3 hlt (Ld.agg (hc.chg (hx1.trans hx) (.inr id)) ?_)
    refine Go1.al tiTy ?_
    intro w4 hx4 hb4
    have lt4 := hb4.lt
    refine Go0.st (off := 0) (vs := [.int .i64 t.lab.1, .string t.lab.2, .slice ao3 t.kids.length cap3]) hb4 rfl rfl (by simp [Value.cells]) (by simp [Value.oneCell']) ?_
    intro w5 hx5 hb5 _
    have hb5 : Blk w5 w3.heap.size 26 [.int .i64 t.lab.1, .string t.lab.2, .slice ao3 t.kids.length cap3] := hb5
    have hx35 : Ext w3 w5 := hx4.chg hx5 (by omega)
    refine Ld.agg (vs := [.int .i64 t.lab.1, .string t.lab.2, .slice ao3 t.kids.length cap3]) (Blk.lc0 (post := []) hb5) ?_
    refine (ih t htm (by omega) _ _ _ _ (hkt.ext ((hx1.trans hx).trans hx35))).mono ?_
    rintro r w6 ⟨rfl, hx6⟩
    refine Wr.n (1 + Rose.cnt (ks.take (k + 1))) (by rw [Rose.cnt_take ht]; omega) (by rw [Rose.cnt_take ht]; omega) ?_
    refine Wr.n (k + 1) (by omega) (by omega) ?_
    exact ⟨k + 1, ⟨rfl, rfl, rfl, rfl, rfl, trivial⟩, ⟨(hx.trans hx35).trans hx6, hlt⟩, by omega⟩
  · have : k = ks.length := by omega
    subst this
    exact ⟨by rw [List.take_length], hx1.trans hx⟩


def TDepSaid (ks : List Tp) : Prop := Rose.cnt ks ≤ 4294967296 → ∀ (l : TLab) (w : World) (v : Value) (bs : List Nat), Kids encT w v ks bs →
    Ret Tryz.prog 35 [.agg #[.int .i64 l.1, .string l.2, v]] w fun r w' => r = .int .i64 (dpTL ks : Nat) ∧ Ext w w'

/-- spec.TypeDepth -/
theorem c_sTypeDepth (ks : List Tp) : TDepSaid ks := by
  refine Rose.forest (fun ks ih => ?_) ks
  intro hs l w v bs hk
  obtain ⟨ao, cap, rfl, hm, hcap⟩ := hk.form
  have hM : maxLen = 9223372036854775807 := rfl
  have hdl := dpTL_le ks
  refine ret_of_vc ttOk Tryz.func35 rfl (by kernel_rfl) (by kernel_rfl) ?_
  refine Go1.bx ?_
  intro w1 hx1 hb1
  refine Lp.go ttOk (by kernel_rfl) (fun k : Nat => [(1, .pointer (some ⟨w.heap.size, 0, none⟩)), (3, .int .i64 (dpTL (ks.take k) : Nat)), (4, .int .i64 k)]) (fun k w' => Ext w1 w' ∧ k ≤ ks.length ∧ dpTL (ks.take k) ≤ dpTL ks) (fun k => ks.length - k) 0
    ⟨rfl, by rw [List.take_zero, dpTL_nil]; rfl, rfl, trivial⟩ ⟨Chg.refl _ _, Nat.zero_le _, by rw [List.take_zero, dpTL_nil]; omega⟩ ?_
  rintro k w3 ⟨hx, hk1, hdk⟩
  refine Go1.fl 2 (Ld.one (hb1.ext hx).at2 ?_)
  refine Cm.s (fun hlt => ?_) (fun hge => ?_)
  · have hlt : k < ks.length := by omega
    obtain ⟨a, t, v1, b1, rfl, ht, hc, hkt, _⟩ := hk.get encT_sz hlt
    have htm := List.mem_of_getElem? ht
    have hcm := Rose.cnt_mem htm
    have hdm := dpTL_mem htm
    refine Go1.fl 2 (Ld.one (hb1.ext hx).at2 ?_)
    refine Go1.ix 3 hlt (Ld.agg (hc.chg (hx1.trans hx) (.inr id)) ?_)
    refine (ih t htm (by omega) _ _ _ _ (hkt.ext (hx1.trans hx))).mono ?_
    rintro r w5 ⟨rfl, hx5⟩
    refine Wr.n (dpTL t.kids + 1) (by omega) (by omega) ?_
    refine (c_l1Max _ _).mono ?_
    rintro r w6 ⟨rfl, rfl⟩
    rw [show max ((dpTL (ks.take k) : Nat) : Int) ((dpTL t.kids + 1 : Nat) : Int) = ((dpTL (ks.take (k + 1)) : Nat) : Int) by rw [dpTL_take ht]; omega]
    refine Wr.n (k + 1) (by omega) (by omega) ?_
    exact ⟨k + 1, ⟨rfl, rfl, rfl, trivial⟩, ⟨hx.trans hx5, hlt, by rw [dpTL_take ht]; omega⟩, by omega⟩
  · have : k = ks.length := by omega
    subst this
    rw [List.take_length]
    exact ⟨rfl, hx1.trans hx⟩

def TDepISaid (ks : List Tp) : Prop := Rose.cnt ks ≤ 4294967296 → ∀ (l : TLab) (w : World) (v : Value) (bs : List Nat), Kids encT w v ks bs →
    Ret Tryz.prog 44 [.agg #[.int .i64 l.1, .string l.2, v]] w fun r w' => r = .int .i64 (dpTL ks : Nat) ∧ Ext w w'

/-- impl.TypeDepth -/
theorem c_iTypeDepth (ks : List Tp) : TDepISaid ks := by
  refine Rose.forest (fun ks ih => ?_) ks
  intro hs l w v bs hk
  obtain ⟨ao, cap, rfl, hm, hcap⟩ := hk.form
  have hM : maxLen = 9223372036854775807 := rfl
  have hdl := dpTL_le ks
  refine ret_of_vc ttOk Tryz.func44 rfl (by kernel_rfl) (by kernel_rfl) ?_
  refine Go1.bx ?_
  intro w1 hx1 hb1
  refine Go1.fl 2 (Ld.one hb1.at2 ?_)
  refine Lp.go ttOk (by kernel_rfl) (fun k : Nat => [(3, .int .i64 (dpTL (ks.take k) : Nat)), (7, .slice ao ks.length cap), (8, .int .i64 ks.length), (9, .int .i64 k)]) (fun k w' => Ext w1 w' ∧ k ≤ ks.length ∧ dpTL (ks.take k) ≤ dpTL ks) (fun k => ks.length - k) 0
    ⟨by rw [List.take_zero, dpTL_nil]; rfl, rfl, rfl, rfl, trivial⟩ ⟨Chg.refl _ _, Nat.zero_le _, by rw [List.take_zero, dpTL_nil]; omega⟩ ?_
  rintro k w3 ⟨hx, hk1, hdk⟩
  refine Cm.s (fun hlt => ?_) (fun hge => ?_)
  · have hlt : k < ks.length := by omega
    obtain ⟨a, t, v1, b1, rfl, ht, hc, hkt, _⟩ := hk.get encT_sz hlt
    have htm := List.mem_of_getElem? ht
    have hcm := Rose.cnt_mem htm
    have hdm := dpTL_mem htm
    obtain ⟨ao3, cap3, rfl, _, _⟩ := hkt.form
    refine Go1.ix 3 hlt (Ld.agg (hc.chg (hx1.trans hx) (.inr id)) ?_)
    refine Go1.al tiTy ?_
    intro w4 hxw4 hbw4
    have ltw4 := hbw4.lt
    refine Go0.st (off := 0) (vs := [.int .i64 t.lab.1, .string t.lab.2, .slice ao3 t.kids.length cap3]) hbw4 rfl rfl (by simp [Value.cells]) (by simp [Value.oneCell']) ?_
    intro w5 hx0w5 hb0w5 _
    have hbw5 : Blk w5 w3.heap.size 26 [.int .i64 t.lab.1, .string t.lab.2, .slice ao3 t.kids.length cap3] := hb0w5
    have hxw5 : Ext w3 w5 := hxw4.chg hx0w5 (by omega)
    refine Ld.agg (vs := [.int .i64 t.lab.1, .string t.lab.2, .slice ao3 t.kids.length cap3]) (Blk.lc0 (post := []) hbw5) ?_
    refine (ih t htm (by omega) _ _ _ _ (hkt.ext ((hx1.trans hx).trans hxw5))).mono ?_
    rintro r w6 ⟨rfl, hx6⟩
    refine Wr.n (dpTL t.kids + 1) (by omega) (by omega) ?_
    refine Go1.max2 ?_
    rw [show max ((dpTL (ks.take k) : Nat) : Int) ((dpTL t.kids + 1 : Nat) : Int) = ((dpTL (ks.take (k + 1)) : Nat) : Int) by rw [dpTL_take ht]; omega]
    refine Wr.n (k + 1) (by omega) (by omega) ?_
    exact ⟨k + 1, ⟨rfl, rfl, rfl, rfl, trivial⟩, ⟨(hx.trans hxw5).trans hx6, hlt, by rw [dpTL_take ht]; omega⟩, by omega⟩
  · have : k = ks.length := by omega
    subst this
    rw [List.take_length]
    exact ⟨rfl, hx1.trans hx⟩
end Go.Proofs.YtliigpmpeldebaaGreat
