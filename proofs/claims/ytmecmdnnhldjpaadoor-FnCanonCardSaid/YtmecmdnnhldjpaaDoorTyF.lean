/- Contracts: names put together out of a Type: variables, names; IsGround. Conditions: none. -/
import Derived.Test.YtmecmdnnhldjpaaDoorJGrow
namespace Go.Proofs.YtmecmdnnhldjpaaDoor
open Go.RowKit

/-- What q picks, each name once, behind what is there. -/
def coll (q : TLab → Bool) (xs : List TLab) (out : List ByteArray) : List ByteArray := xs.foldl (fun o x => if q x && !(has o x.2) then o ++ [x.2] else o) out
theorem coll_nil (q : TLab → Bool) (out : List ByteArray) : coll q [] out = out := rfl
theorem coll_append (q : TLab → Bool) (xs ys : List TLab) (out : List ByteArray) : coll q (xs ++ ys) out = coll q ys (coll q xs out) := List.foldl_append
theorem coll_cons (q : TLab → Bool) (x : TLab) (xs : List TLab) (out : List ByteArray) : coll q (x :: xs) out = coll q xs (coll q [x] out) := rfl
theorem coll_t {q : TLab → Bool} {x : TLab} {out : List ByteArray} (h1 : q x = true) (h2 : has out x.2 = false) : coll q [x] out = out ++ [x.2] := by simp [coll, h1, h2]
theorem coll_f {q : TLab → Bool} {x : TLab} {out : List ByteArray} (h : ¬ (q x = true ∧ has out x.2 = false)) : coll q [x] out = out := by
  simp only [coll, List.foldl_cons, List.foldl_nil]
  rw [if_neg]
  simpa using h
theorem coll_le (q : TLab → Bool) : ∀ (xs : List TLab) (out : List ByteArray), (coll q xs out).length ≤ out.length + xs.length
  | [], out => by simp [coll]
  | x :: xs, out => by
    rw [coll_cons]
    have := coll_le q xs (coll q [x] out)
    have h1 : (coll q [x] out).length ≤ out.length + 1 := by
      by_cases h : q x = true ∧ has out x.2 = false
      · rw [coll_t h.1 h.2]; simp
      · rw [coll_f h]; omega
    simp only [List.length_cons]
    omega

def isV (x : TLab) : Bool := decide (x.1 = 1)
/-- int or bool. -/
def baseN (s : ByteArray) : Bool := decide (s = ⟨#[105, 110, 116]⟩) || decide (s = ⟨#[98, 111, 111, 108]⟩)
def isN (x : TLab) : Bool := decide (x.1 = 2) && !(baseN x.2) || decide (x.1 = 4)

/-- The strings of a slice that the call appends to. -/
theorem Grow.strs {w : World} {e : TypeId} {v : Value} {ss : List ByteArray} {n : Nat} {O : List Nat} (h : Grow w e 1 v n (ss.map .string) O) (hm : n ≤ maxLen) : ∃ bs, Strs w v ss bs ∧ bs.Sublist O := by
  obtain ⟨h0, h1⟩ := h
  have hn : n = ss.length := by simpa using h0.symm
  rcases h1 with ⟨rfl, rfl, rfl⟩ | ⟨g, cap, rest, rfl, rfl, hb, hc, _, _⟩
  · obtain rfl : ss = [] := List.eq_nil_of_length_eq_zero hn.symm
    exact ⟨[], ⟨none, 0, rfl, ⟨Nat.zero_le _, Nat.zero_le _⟩, .inl ⟨rfl, rfl⟩⟩, List.Sublist.refl _⟩
  · subst hn
    by_cases h0 : ss = []
    · subst h0
      exact ⟨[], ⟨_, cap, rfl, ⟨Nat.zero_le _, Nat.zero_le _⟩, .inl ⟨rfl, rfl⟩⟩, by simp⟩
    · exact ⟨[g], ⟨_, cap, by simp, ⟨by simpa using hm, by simpa using hc⟩, .inr ⟨⟨g, 0, none⟩, by simpa using h0, rfl, rfl, Blk.lc0 hb⟩⟩, List.Sublist.refl _⟩

theorem Grow.fresh {w : World} {e : TypeId} {size : Nat} {v : Value} {n n0 : Nat} {xs : List Value} {O : List Nat} (h : Grow w e size v n xs O) (hO : ∀ b ∈ O, n0 ≤ b) : Fresh n0 w O := by
  rcases h.2 with ⟨rfl, rfl, rfl⟩ | ⟨g, cap, rest, rfl, rfl, hb, _⟩
  · exact Fresh.nil _ _
  · exact Fresh.one hb (hO g (by simp))

/-- A list of strings, handed on and appended to. -/
def Collects (q : TLab → Bool) (xs : List TLab) (out : List ByteArray) (O : List Nat) (w : World) (r : Value) (w' : World) : Prop :=
  ∃ O', Chg (· ∈ O) w w' ∧ Grow w' 9 1 r (coll q xs out).length ((coll q xs out).map .string) O' ∧ ∀ b ∈ O', b ∈ O ∨ w.heap.size ≤ b


def VarsSaid (ks : List Tp) : Prop := ∀ (l : TLab) (w : World) (v u : Value) (bs O : List Nat) (ss : List ByteArray), Kids encT w v ks bs → Grow w 9 1 u ss.length (ss.map .string) O → (∀ b ∈ bs, b ∉ O) → ss.length + 1 + Rose.cnt ks ≤ 4294967296 →
    Ret Tryd.prog 33 [.agg #[.int .i64 l.1, .string l.2, v], u] w (Collects isV (l :: Rose.preL ks) ss O w)

/-- spec.l4Vars -/
theorem c_l4Vars (ks : List Tp) : VarsSaid ks := by
  refine Rose.forest (fun ks ih => ?_) ks
  intro l w v u bs O ss hk hg hd hs
  obtain ⟨ao, cap, rfl, hm, hcap⟩ := hk.form
  have hM : maxLen = 9223372036854775807 := rfl
  have hOlt := hg.lt
  have hbl := Kids.lt encT_ne ks hk
  obtain ⟨us, hus, _⟩ := hg.strs (by omega)
  refine ret_of_vc ttOk Tryd.func33 rfl (by kernel_rfl) (by kernel_rfl) ?_
  refine Go1.bx ?_
  intro w1 hx1 hb1
  have lt1 := hb1.lt
  have sz1 := hx1.size
  refine Go1.fl 0 (Ld.one hb1.at0 ?_)
  refine Cm.s (fun h1 => ?_) (fun h1 => ?_)
  · refine Go1.fl 1 (Ld.one hb1.at1 ?_)
    refine (c_l1Has (hus.ext hx1) l.2).mono ?_
    rintro r w' ⟨rfl, hw'⟩
    obtain rfl : w1 = w' := hw'.symm
    cases hh : has ss l.2
    · refine Go1.fl 1 (Ld.one hb1.at1 ?_)
      refine Go1.bs 9 [.string l.2] (size := 1) (bytes := 16) Tryd.underlying49 tiStr (by decide) (by decide) (by kernel_rfl) ?_
      intro wb hxb hbb
      have szb := hxb.size
      refine Go1.app (size := 1) (bytes := 16) Tryd.underlying49 tiStr (by rfl) (by decide) ((hg.ext hx1).ext hxb) (m := 1) (news := [.string l.2]) (Blk.lc0 (post := []) hbb) (by simp) (by simp [Value.oneCell']) (by omega) (by decide) ?_
      intro u2 w2 O2 hcb hgb hOb
      have hc2 : Chg (· ∈ O) w1 w2 := hxb.chgM hcb
      have hg2 : Grow w2 9 1 u2 (coll isV [l] ss).length ((coll isV [l] ss).map .string) O2 := by
        rw [coll_t (by simp [isV, h1]) hh]
        simpa using hgb
      have hO2 : ∀ b ∈ O2, b ∈ O ∨ w1.heap.size ≤ b := fun b hb => (hOb b hb).imp id fun h => by omega
      have e0 := coll_le isV [l] ss
      have sz2 := hc2.size
      have hb2 := hb1.chg hc2 (fun hb => by have := hOlt _ hb; omega)
      refine Lp.go ttOk (by kernel_rfl) (fun b : Nat × Value => [(1, b.2), (2, .pointer (some ⟨w.heap.size, 0, none⟩)), (5, .int .i64 b.1)])
        (fun b w' => Chg (· ∈ O) w1 w' ∧ b.1 ≤ ks.length ∧ ∃ O', Grow w' 9 1 b.2 (coll isV (l :: Rose.preL (ks.take b.1)) ss).length ((coll isV (l :: Rose.preL (ks.take b.1)) ss).map .string) O' ∧ ∀ b ∈ O', b ∈ O ∨ w1.heap.size ≤ b)
        (fun b => ks.length - b.1) (0, u2)
        ⟨rfl, rfl, rfl, trivial⟩ ⟨hc2, Nat.zero_le _, O2, by rw [List.take_zero, Rose.preL_nil]; exact hg2, hO2⟩ ?_
      rintro ⟨k, r⟩ w3 ⟨hc3, hk1, O3, hg3, hO3⟩
      simp only at hk1 hg3
      have sz3 := hc3.size
      have hb3 := hb1.chg hc3 (fun hb => by have := hOlt _ hb; omega)
      refine Go1.fl 2 (Ld.one hb3.at2 ?_)
      refine Cm.s (fun hlt => ?_) (fun hge => ?_)
      · have hlt : k < ks.length := by have : (k : Int) < ks.length := hlt; omega
        have hk3 := (hk.ext hx1).chg hc3 hd
        obtain ⟨a, t, v1, b1, rfl, ht, hc, hkt, hsub⟩ := hk3.get encT_sz hlt
        have htm := List.mem_of_getElem? ht
        have hct := Rose.cnt_take_le ht
        have e1 := coll_le isV (l :: Rose.preL (ks.take k)) ss
        have e2 := preL_length (ks.take k)
        simp only [List.length_cons] at e1
        refine Go1.fl 2 (Ld.one hb3.at2 ?_)
        refine Go1.ix 3 hlt (Ld.agg hc ?_)
        refine (ih t htm t.lab w3 v1 r b1 O3 _ hkt hg3 (fun b hb hbO => ?_) (by omega)).mono ?_
        · rcases hO3 b hbO with h | h
          · exact hd b (hsub b hb) h
          · have := hbl b (hsub b hb)
            omega
        · rintro r4 w4 ⟨O4, hc4, hg4, hO4⟩
          refine Wr.n (k + 1) (by simp) (by omega) ?_
          refine ⟨(k + 1, r4), ⟨rfl, rfl, rfl, trivial⟩, ⟨hc3.comp hc4 hO3, hlt, O4, ?_, fun b hb => ?_⟩, by simp; omega⟩
          · rw [Rose.preL_take ht, ← List.cons_append, coll_append]
            exact hg4
          · rcases hO4 b hb with h | h
            · exact hO3 b h
            · right; omega
      · have : k = ks.length := by have : ¬ (k : Int) < ks.length := hge; omega
        subst this
        rw [List.take_length] at hg3
        exact ⟨O3, hx1.chgM hc3, hg3, fun b hb => (hO3 b hb).imp id fun h => by omega⟩
    · have hc2 : Chg (· ∈ O) w1 w1 := Chg.refl _ _
      have hg2 : Grow w1 9 1 u (coll isV [l] ss).length ((coll isV [l] ss).map .string) O := by
        rw [coll_f fun h => absurd h.2 (by simp [hh])]
        exact hg.ext hx1
      have hO2 : ∀ b ∈ O, b ∈ O ∨ w1.heap.size ≤ b := fun b hb => .inl hb
      have e0 := coll_le isV [l] ss
      have sz2 := hc2.size
      have hb2 := hb1.chg hc2 (fun hb => by have := hOlt _ hb; omega)
      refine Lp.go ttOk (by kernel_rfl) (fun b : Nat × Value => [(1, b.2), (2, .pointer (some ⟨w.heap.size, 0, none⟩)), (5, .int .i64 b.1)])
        (fun b w' => Chg (· ∈ O) w1 w' ∧ b.1 ≤ ks.length ∧ ∃ O', Grow w' 9 1 b.2 (coll isV (l :: Rose.preL (ks.take b.1)) ss).length ((coll isV (l :: Rose.preL (ks.take b.1)) ss).map .string) O' ∧ ∀ b ∈ O', b ∈ O ∨ w1.heap.size ≤ b)
        (fun b => ks.length - b.1) (0, u)
        ⟨rfl, rfl, rfl, trivial⟩ ⟨hc2, Nat.zero_le _, O, by rw [List.take_zero, Rose.preL_nil]; exact hg2, hO2⟩ ?_
      rintro ⟨k, r⟩ w3 ⟨hc3, hk1, O3, hg3, hO3⟩
      simp only at hk1 hg3
      have sz3 := hc3.size
      have hb3 := hb1.chg hc3 (fun hb => by have := hOlt _ hb; omega)
      refine Go1.fl 2 (Ld.one hb3.at2 ?_)
      refine Cm.s (fun hlt => ?_) (fun hge => ?_)
      · have hlt : k < ks.length := by have : (k : Int) < ks.length := hlt; omega
        have hk3 := (hk.ext hx1).chg hc3 hd
        obtain ⟨a, t, v1, b1, rfl, ht, hc, hkt, hsub⟩ := hk3.get encT_sz hlt
        have htm := List.mem_of_getElem? ht
        have hct := Rose.cnt_take_le ht
        have e1 := coll_le isV (l :: Rose.preL (ks.take k)) ss
        have e2 := preL_length (ks.take k)
        simp only [List.length_cons] at e1
        refine Go1.fl 2 (Ld.one hb3.at2 ?_)
        refine Go1.ix 3 hlt (Ld.agg hc ?_)
        refine (ih t htm t.lab w3 v1 r b1 O3 _ hkt hg3 (fun b hb hbO => ?_) (by omega)).mono ?_
        · rcases hO3 b hbO with h | h
          · exact hd b (hsub b hb) h
          · have := hbl b (hsub b hb)
            omega
        · rintro r4 w4 ⟨O4, hc4, hg4, hO4⟩
          refine Wr.n (k + 1) (by simp) (by omega) ?_
          refine ⟨(k + 1, r4), ⟨rfl, rfl, rfl, trivial⟩, ⟨hc3.comp hc4 hO3, hlt, O4, ?_, fun b hb => ?_⟩, by simp; omega⟩
          · rw [Rose.preL_take ht, ← List.cons_append, coll_append]
            exact hg4
          · rcases hO4 b hb with h | h
            · exact hO3 b h
            · right; omega
      · have : k = ks.length := by have : ¬ (k : Int) < ks.length := hge; omega
        subst this
        rw [List.take_length] at hg3
        exact ⟨O3, hx1.chgM hc3, hg3, fun b hb => (hO3 b hb).imp id fun h => by omega⟩
  · have hc2 : Chg (· ∈ O) w1 w1 := Chg.refl _ _
    have hg2 : Grow w1 9 1 u (coll isV [l] ss).length ((coll isV [l] ss).map .string) O := by
      rw [coll_f fun h => absurd h.1 (by simp [isV, h1])]
      exact hg.ext hx1
    have hO2 : ∀ b ∈ O, b ∈ O ∨ w1.heap.size ≤ b := fun b hb => .inl hb
    have e0 := coll_le isV [l] ss
    have sz2 := hc2.size
    have hb2 := hb1.chg hc2 (fun hb => by have := hOlt _ hb; omega)
    refine Lp.go ttOk (by kernel_rfl) (fun b : Nat × Value => [(1, b.2), (2, .pointer (some ⟨w.heap.size, 0, none⟩)), (5, .int .i64 b.1)])
      (fun b w' => Chg (· ∈ O) w1 w' ∧ b.1 ≤ ks.length ∧ ∃ O', Grow w' 9 1 b.2 (coll isV (l :: Rose.preL (ks.take b.1)) ss).length ((coll isV (l :: Rose.preL (ks.take b.1)) ss).map .string) O' ∧ ∀ b ∈ O', b ∈ O ∨ w1.heap.size ≤ b)
      (fun b => ks.length - b.1) (0, u)
      ⟨rfl, rfl, rfl, trivial⟩ ⟨hc2, Nat.zero_le _, O, by rw [List.take_zero, Rose.preL_nil]; exact hg2, hO2⟩ ?_
    rintro ⟨k, r⟩ w3 ⟨hc3, hk1, O3, hg3, hO3⟩
    simp only at hk1 hg3
    have sz3 := hc3.size
    have hb3 := hb1.chg hc3 (fun hb => by have := hOlt _ hb; omega)
    refine Go1.fl 2 (Ld.one hb3.at2 ?_)
    refine Cm.s (fun hlt => ?_) (fun hge => ?_)
    · have hlt : k < ks.length := by have : (k : Int) < ks.length := hlt; omega
      have hk3 := (hk.ext hx1).chg hc3 hd
      obtain ⟨a, t, v1, b1, rfl, ht, hc, hkt, hsub⟩ := hk3.get encT_sz hlt
      have htm := List.mem_of_getElem? ht
      have hct := Rose.cnt_take_le ht
      have e1 := coll_le isV (l :: Rose.preL (ks.take k)) ss
      have e2 := preL_length (ks.take k)
      simp only [List.length_cons] at e1
      refine Go1.fl 2 (Ld.one hb3.at2 ?_)
      refine Go1.ix 3 hlt (Ld.agg hc ?_)
      refine (ih t htm t.lab w3 v1 r b1 O3 _ hkt hg3 (fun b hb hbO => ?_) (by omega)).mono ?_
      · rcases hO3 b hbO with h | h
        · exact hd b (hsub b hb) h
        · have := hbl b (hsub b hb)
          omega
      · rintro r4 w4 ⟨O4, hc4, hg4, hO4⟩
        refine Wr.n (k + 1) (by simp) (by omega) ?_
        refine ⟨(k + 1, r4), ⟨rfl, rfl, rfl, trivial⟩, ⟨hc3.comp hc4 hO3, hlt, O4, ?_, fun b hb => ?_⟩, by simp; omega⟩
        · rw [Rose.preL_take ht, ← List.cons_append, coll_append]
          exact hg4
        · rcases hO4 b hb with h | h
          · exact hO3 b h
          · right; omega
    · have : k = ks.length := by have : ¬ (k : Int) < ks.length := hge; omega
      subst this
      rw [List.take_length] at hg3
      exact ⟨O3, hx1.chgM hc3, hg3, fun b hb => (hO3 b hb).imp id fun h => by omega⟩
end Go.Proofs.YtmecmdnnhldjpaaDoor
