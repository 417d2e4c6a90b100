/- DrawApply; what a substitution keeps. Conditions: none. -/
import Derived.Test.YtkpdkemkfgcamaaBdM
import Derived.Test.YtkpdkemkfgcamaaBdP
import Derived.Test.YtkpdkemkfgcamaaBdR
import Derived.Test.YtkpdkemkfgcamaaBdJ
namespace Go.Proofs.Ytkpdkemkfgcamaa
open Go.RowKit

theorem apT_at (xs : List Bi) (t : Tp) : apT xs t = if t.lab.1 = 1 then (lookO t.lab.2 xs).getD (.mk t.lab (apL xs t.kids)) else .mk t.lab (apL xs t.kids) := by
  have : apT xs t = apT xs (.mk t.lab t.kids) := by rw [t.eta]
  rw [this, apT_eq]
theorem apL_congr {xs ys : List Bi} (ks : List Tp) : (∀ x ∈ Rose.preL ks, x.1 = 1 → lookO x.2 xs = lookO x.2 ys) → apL xs ks = apL ys ks := by
  refine Rose.forest (p := fun ks => (∀ x ∈ Rose.preL ks, x.1 = 1 → lookO x.2 xs = lookO x.2 ys) → apL xs ks = apL ys ks) (fun ks ih => ?_) ks
  induction ks with
  | nil => intro _; rw [apL, apL]
  | cons k ks ihk =>
    intro h
    rw [Rose.preL_cons] at h
    have h1 := ih k List.mem_cons_self fun x hx => h x (by simp [hx])
    have h2 := ihk (fun t ht => ih t (List.mem_cons_of_mem _ ht)) fun x hx => h x (by simp [hx])
    rw [apL_cons, apL_cons, h2, apT_at, apT_at, h1]
    by_cases e : k.lab.1 = 1
    · rw [if_pos e, if_pos e, h k.lab (by simp) e]
    · rw [if_neg e, if_neg e]
theorem apT_congr {xs ys : List Bi} {t : Tp} (h : ∀ x ∈ t.lab :: Rose.preL t.kids, x.1 = 1 → lookO x.2 xs = lookO x.2 ys) : apT xs t = apT ys t := by
  rw [apT_at, apT_at, apL_congr t.kids fun x hx => h x (by simp [hx])]
  by_cases e : t.lab.1 = 1
  · rw [if_pos e, if_pos e, h t.lab (by simp) e]
  · rw [if_neg e, if_neg e]
theorem apL_none (ks : List Tp) : apL [] ks = ks := by
  refine Rose.forest (p := fun ks => apL [] ks = ks) (fun ks ih => ?_) ks
  induction ks with
  | nil => rw [apL]
  | cons k ks ihk =>
    rw [apL_cons, ihk (fun t ht => ih t (List.mem_cons_of_mem _ ht)), apT_at, ih k List.mem_cons_self]
    simp only [lookO, Option.getD_none, ite_self]
    rw [k.eta]
theorem apT_none (t : Tp) : apT [] t = t := by
  rw [apT_at, apL_none]
  simp only [lookO, Option.getD_none, ite_self]
  exact t.eta
theorem lookO_filter {p : Bi → Bool} {s : ByteArray} (hp : ∀ x : Bi, x.1 = s → p x = true) : ∀ xs : List Bi, lookO s (xs.filter p) = lookO s xs
  | [] => rfl
  | x :: xs => by
    have ih := lookO_filter hp xs
    by_cases e : x.1 = s
    · rw [List.filter_cons_of_pos (hp x e)]
      simp only [lookO, if_pos e]
    · simp only [lookO, if_neg e]
      by_cases e2 : p x = true
      · rw [List.filter_cons_of_pos e2]
        simp only [lookO, if_neg e, ih]
      · rw [List.filter_cons_of_neg e2, ih]
theorem coll_mem (q : TLab → Bool) : ∀ (xs : List TLab) (out : List ByteArray) (s : ByteArray), (s ∈ out ∨ ∃ x ∈ xs, q x = true ∧ x.2 = s) → s ∈ coll q xs out
  | [], out, s, h => h.elim id fun ⟨x, hx, _⟩ => by cases hx
  | x :: xs, out, s, h => by
    rw [coll_cons]
    refine coll_mem q xs _ s ?_
    rcases h with h | ⟨y, hy, h1, h2⟩
    · left
      by_cases hc : q x = true ∧ has out x.2 = false
      · rw [coll_t hc.1 hc.2]; exact List.mem_append_left _ h
      · rw [coll_f hc]; exact h
    · rcases List.mem_cons.1 hy with rfl | hy
      · left
        by_cases hc : has out y.2 = false
        · rw [coll_t h1 hc, ← h2]; simp
        · rw [coll_f fun hh => hc hh.2, ← h2]
          exact Classical.byContradiction fun hn => hc (has_f hn)
      · exact .inr ⟨y, hy, h1, h2⟩
theorem coll_from (q : TLab → Bool) : ∀ (xs : List TLab) (out : List ByteArray) (s : ByteArray), s ∈ coll q xs out → s ∈ out ∨ ∃ x ∈ xs, q x = true ∧ x.2 = s
  | [], out, s, h => .inl h
  | x :: xs, out, s, h => by
    rw [coll_cons] at h
    rcases coll_from q xs _ s h with h | ⟨y, hy, h1, h2⟩
    · by_cases hc : q x = true ∧ has out x.2 = false
      · rw [coll_t hc.1 hc.2] at h
        rcases List.mem_append.1 h with h | h
        · exact .inl h
        · obtain rfl : s = x.2 := by simpa using h
          exact .inr ⟨x, List.mem_cons_self, hc.1, rfl⟩
      · rw [coll_f hc] at h; exact .inl h
    · exact .inr ⟨y, List.mem_cons_of_mem _ hy, h1, h2⟩
/-- Only the variables of a Type count. -/
theorem apT_restrict (xs : List Bi) (t : Tp) : apT (xs.filter fun x => has (coll isV (t.lab :: Rose.preL t.kids) []) x.1) t = apT xs t := by
  refine apT_congr fun x hx h1 => lookO_filter (fun y hy => ?_) xs
  rw [hy]
  exact has_t (coll_mem isV _ [] _ (.inr ⟨x, hx, by simp [isV, h1], rfl⟩))
theorem lookO_abc {xs : List Bi} (h : ∀ x ∈ xs, abc x.1 = true) {s : ByteArray} {u : Tp} : lookO s xs = some u → abc s = true := by
  induction xs with
  | nil => intro h; cases h
  | cons x xs ih =>
    intro e
    simp only [lookO] at e
    by_cases e1 : x.1 = s
    · rw [← e1]; exact h x List.mem_cons_self
    · rw [if_neg e1] at e
      exact ih (fun y hy => h y (List.mem_cons_of_mem _ hy)) e
theorem preL_mem {ks : List Tp} {x : TLab} : x ∈ Rose.preL ks ↔ ∃ t ∈ ks, x ∈ t.lab :: Rose.preL t.kids := by
  induction ks with
  | nil => simp [Rose.preL_nil]
  | cons k ks ih =>
    rw [Rose.preL_cons, List.mem_append, ih]
    simp
theorem apL_mem {xs : List Bi} {ks : List Tp} {t : Tp} (h : t ∈ ks) : apT xs t ∈ apL xs ks := by
  induction ks with
  | nil => cases h
  | cons k ks ih =>
    rw [apL_cons]
    rcases List.mem_cons.1 h with rfl | h
    · exact List.mem_cons_self
    · exact List.mem_cons_of_mem _ (ih h)
def Keeps (xs : List Bi) (ks : List Tp) : Prop := bnL ks → ∀ x ∈ Rose.preL ks, x.1 = 1 → lookO x.2 xs = none → x ∈ Rose.preL (apL xs ks)
theorem keepsT {xs : List Bi} (hx : ∀ x ∈ xs, abc x.1 = true) {t : Tp} (ih : Keeps xs t.kids) (hb : bnT t) {x : TLab} (hm : x ∈ t.lab :: Rose.preL t.kids) (h1 : x.1 = 1) (hl : lookO x.2 xs = none) : x ∈ (apT xs t).lab :: Rose.preL (apT xs t).kids := by
  have hb' : bnT (.mk t.lab t.kids) := by rw [t.eta]; exact hb
  rw [bnT_eq] at hb'
  rw [apT_at]
  have hkeep : x ∈ t.lab :: Rose.preL (apL xs t.kids) := by
    rcases List.mem_cons.1 hm with rfl | hm
    · exact List.mem_cons_self
    · exact List.mem_cons_of_mem _ (ih hb'.2 x hm h1 hl)
  by_cases e : t.lab.1 = 1
  · rw [if_pos e]
    cases hlk : lookO t.lab.2 xs with
    | none => exact hkeep
    | some u =>
      rcases List.mem_cons.1 hm with rfl | hm
      · rw [hl] at hlk; cases hlk
      · exact absurd h1 (hb'.1 e (lookO_abc hx hlk) x hm)
  · rw [if_neg e]; exact hkeep
theorem keepsL {xs : List Bi} (hx : ∀ x ∈ xs, abc x.1 = true) (ks : List Tp) : Keeps xs ks := by
  refine Rose.forest (p := Keeps xs) (fun ks ih hb x hm h1 hl => ?_) ks
  obtain ⟨t, ht, hxt⟩ := preL_mem.1 hm
  exact preL_mem.2 ⟨apT xs t, apL_mem ht, keepsT hx (ih t ht) ((bnL_iff ks).1 hb t ht) hxt h1 hl⟩
/-- A variable that is not bound stays. -/
theorem apT_keeps {xs : List Bi} (hx : ∀ x ∈ xs, abc x.1 = true) {t : Tp} (hb : bnT t) {s : ByteArray} (hs : s ∈ coll isV (t.lab :: Rose.preL t.kids) []) (hl : lookO s xs = none) : s ∈ coll isV ((apT xs t).lab :: Rose.preL (apT xs t).kids) [] := by
  rcases coll_from isV _ [] s hs with h | ⟨x, hm, h1, rfl⟩
  · cases h
  · have e1 : x.1 = 1 := by simpa [isV] using h1
    exact coll_mem isV _ [] _ (.inr ⟨x, keepsT hx (keepsL hx t.kids) hb hm e1 hl, h1, rfl⟩)
theorem cntB_filter (p : Bi → Bool) : ∀ xs : List Bi, cntB (xs.filter p) ≤ cntB xs
  | [] => by simp
  | x :: xs => by
    have ih := cntB_filter p xs
    cases h : p x
    · simp only [List.filter_cons_of_neg (by simp [h] : ¬ p x = true), cntB]; omega
    · simp only [List.filter_cons_of_pos h, cntB]; omega
theorem abc_size {s : ByteArray} (h : abc s = true) : s.size ≤ maxLen := by
  simp only [abc, Bool.or_eq_true, decide_eq_true_eq] at h
  rcases h with (rfl | rfl) | rfl <;> decide
theorem Qx.al {xs : List Bi} (h : Qx xs) : AlB xs := fun x hx => ⟨abc_size (h.2 x hx).1, Nat.le_trans (h.2 x hx).2.1 (by decide), Rose.AlL_imp (q := fun s : TLab => s.2.size ≤ maxLen) (fun _ h => Nat.le_trans h (by decide)) _ (h.2 x hx).2.2⟩

/-- spec.DrawApply -/
theorem c_DrawApply {w : World} {v : Value} (hv : OCode w v) : Ret Try.prog 46 [v] w fun r w' => Ext w w' ∧ ∃ (xs : List Bi) (t : Tp) (vx vt : Value) (bx bt : List Nat), r = .tuple #[vx, .agg #[.int .i64 t.lab.1, .string t.lab.2, vt]] ∧ Bds w' vx xs bx ∧ Kids encT w' vt t.kids bt ∧ Qx xs ∧ Qb 128 t := by
  have hM : maxLen = 9223372036854775807 := rfl
  obtain ⟨zs0, bs0, hr0⟩ := hv
  refine ret_of_vc ttOkD Try.func46 rfl (by kernel_rfl) (by kernel_rfl) ?_
  refine Go1.al tiTy ?_
  intro w1 hx1 hb1
  have lt1 := hb1.lt
  refine (c_l1New ⟨zs0, bs0, hr0.ext hx1⟩).mono ?_
  rintro _ w2 ⟨hx2, g, rfl, hg, hc2⟩
  have hg2 := hc2.lt
  have sz2 := hx2.size
  refine (c_l6Binds hc2).mono ?_
  rintro vx w3 ⟨⟨xs, bx, hbx, hfx, hqx⟩, hd3⟩
  have sz3 := hd3.size
  refine (c_l4Bent hd3.2).mono ?_
  rintro _ w4 ⟨⟨t, u, O, cs, rfl, hgt, hq⟩, hd4⟩
  obtain ⟨ao, cap, bs, rfl, hk, hf, _⟩ := kidsN hgt hq.1 (by decide)
  have hd := hd3.trans hd4
  have hx4 : Ext w w4 := (hx1.trans hx2).chg hd.1 (fun x hx => by omega)
  refine Go0.st (off := 0) (vs := [.int .i64 t.lab.1, .string t.lab.2, .slice ao t.kids.length cap]) (hd.blk (hb1.ext hx2) (by omega)) rfl rfl (by simp [Value.cells]) (by simp [Value.oneCell']) ?_
  intro w5 hc5 hb5 _
  have hb5 : Blk w5 w.heap.size 40 [.int .i64 t.lab.1, .string t.lab.2, .slice ao t.kids.length cap] := hb5
  refine Ld.agg (vs := [.int .i64 t.lab.1, .string t.lab.2, .slice ao t.kids.length cap]) (Blk.lc0 (post := []) hb5) ?_
  exact ⟨hx4.chg hc5 (by omega), xs, t, _, _, bx, bs, rfl, (hbx.chg hd4.1 (fun b hb h => by have := hfx.lo b hb; omega)).chg hc5 (fun b hb => by have := hfx.lo b hb; omega), hk.chg hc5 (fun b hb => by have := hf.lo b hb; omega), hqx, hq⟩
end Go.Proofs.Ytkpdkemkfgcamaa
