/- Contracts: the laws' marks on bindings; Contracts: the laws' looks at marks on bindings; Matching: what it answers. Lists of bindings that a call appends to. Conditions: none. -/
import Derived.Test.YtmecmdnnhldjpaaDoorBdC
import Derived.Test.YtmecmdnnhldjpaaDoorJMarkT
namespace Go.Proofs.YtmecmdnnhldjpaaDoor
open Go.RowKit

theorem drop_get' {α : Type} {ks : List α} {i : Nat} {t : α} (h : ks[i]? = some t) : ks.drop i = t :: ks.drop (i + 1) := by
  obtain ⟨hi, rfl⟩ := List.getElem?_eq_some_iff.1 h
  exact (List.drop_eq_getElem_cons hi)

theorem BL.frame {M : Nat → Prop} {w w' : World} (hc : Chg M w w') : ∀ {xs : List Bi} {a : Addr} {bs : List Nat}, (∀ i v, i < xs.length * 4 → w.cell? (a.add i) = some v → w'.cell? (a.add i) = some v) → (∀ b ∈ bs, ¬ M b) →
    BL w xs a bs → BL w' xs a bs
  | [], _, _, _, _, h => h
  | x :: xs, a, bs, hf, hn, h => by
    obtain ⟨b1, b2, rfl, ⟨v, h1, h2⟩, h3⟩ := h
    simp only [List.length_cons] at hf
    refine ⟨b1, b2, rfl, ⟨v, fun i u hu => hf i u ?_ (h1 i u hu), h2.chg hc fun b hb => hn b (List.mem_append_left _ hb)⟩, BL.frame hc (fun i v hi hv => ?_) (fun b hb => hn b (List.mem_append_right _ hb)) h3⟩
    · have := (List.getElem?_eq_some_iff.1 hu).1
      simp at this
      omega
    · rw [Go.Deep.add_add] at hv ⊢
      exact hf _ v (by omega) hv

/-- A slice of bindings that the call owns, at its i-th element: its cells; how a store into its label tells; how its children do. -/
theorem Bds.at {w : World} {n0 : Nat} {ao : Option Addr} {n cap : Nat} {xs : List Bi} {t : Bi} {ys : List Bi} {bs : List Nat} (h : Bds w (.slice ao n cap) (xs ++ t :: ys) bs) (hf : Fresh n0 w bs) :
    ∃ a b2 vt, ao = some a ∧ a.block ∈ bs ∧ a.block ∉ b2 ∧ (∀ b ∈ b2, b ∈ bs) ∧ Fresh n0 w b2 ∧ Lc w (a.add (xs.length * 4)) (encB t ++ [vt]) ∧ Kids encT w vt t.2.kids b2 ∧
      (∀ (w' : World) (y : ByteArray) (l : TLab) (j : Nat) (u : Value), j < 3 → (∀ i, i ≠ j → (encB (y, .mk l t.2.kids))[i]? = (encB t)[i]?) → (encB (y, .mk l t.2.kids))[j]? = some u → Chg (fun k => k = a.block) w w' → (∃ e cs', Blk w' a.block e cs') →
        w'.cell? ((a.add (xs.length * 4)).add j) = some u → (∀ a' u, a' ≠ (a.add (xs.length * 4)).add j → w.cell? a' = some u → w'.cell? a' = some u) →
        Bds w' (.slice ao n cap) (xs ++ (y, .mk l t.2.kids) :: ys) bs ∧ Fresh n0 w' bs) ∧
      (∀ (w' : World) (ks' : List Tp), ks'.length = t.2.kids.length → Chg (· ∈ b2) w w' → Kids encT w' vt ks' b2 → Fresh n0 w' b2 → Bds w' (.slice ao n cap) (xs ++ (t.1, .mk t.2.lab ks') :: ys) bs ∧ Fresh n0 w' bs) := by
  obtain ⟨ao', cap', h1, hm, h2⟩ := h
  simp only [Value.slice.injEq] at h1
  obtain ⟨rfl, rfl, rfl⟩ := h1
  rcases h2 with ⟨h2, _⟩ | ⟨a, bs', _, rfl, rfl, hnl⟩
  · simp at h2
  · obtain ⟨b1, b2, b3, rfl, g1, g2, g3⟩ := BL.split.1 hnl
    obtain ⟨vt, hL, hK⟩ := g2
    have hnd := hf.nodup
    rw [List.nodup_cons] at hnd
    have hnd2 := List.nodup_append.1 hnd.2
    have hnd3 := List.nodup_append.1 hnd2.2.1
    have hsub : b2.Sublist (a.block :: (b1 ++ (b2 ++ b3))) := .cons _ ((List.sublist_append_left b2 b3).trans (List.sublist_append_right _ _))
    have hab : a.block ∉ b2 := fun hb => hnd.1 (by simp [hb])
    have hspot : a.spot = none := by
      obtain ⟨c0, e0, hbl⟩ := hf.blk a.block (by simp)
      cases hxs : xs with
      | nil =>
        have hx := hL 0 _ rfl
        rw [hxs] at hx
        have := (hbl.addr (a := a) rfl (by simpa [Addr.add] using hx)).1
        rw [this]
      | cons x xs' =>
        rw [hxs] at g1
        obtain ⟨c1, c2, _, ⟨vx, hLx, _⟩, _⟩ := g1
        have := (hbl.addr (a := a) rfl (by simpa [Addr.add] using hLx 0 _ rfl)).1
        rw [this]
    have hlen : ∀ (y : Bi), (xs ++ y :: ys).length = (xs ++ t :: ys).length := by intro y; simp
    refine ⟨a, b2, vt, rfl, by simp, hab, fun b hb => hsub.subset hb, hf.sub hsub, hL, hK, ?_, ?_⟩
    · intro w' y l j u hj hsame hu hc ⟨e', cs', hb'⟩ hcell hoth
      have hnb : ∀ b ∈ b1 ++ (b2 ++ b3), ¬ b = a.block := fun b hb he => hnd.1 (he ▸ hb)
      refine ⟨⟨some a, cap, by rw [hlen (y, .mk l t.2.kids)], by rw [hlen (y, .mk l t.2.kids)]; exact hm, .inr ⟨a, _, by simp, rfl, rfl, BL.split.2 ⟨b1, b2, b3, rfl, ?_, ⟨vt, fun i v hv => ?_, hK.chg hc fun b hb => hnb b (by simp [hb])⟩, ?_⟩⟩⟩, ⟨hf.nodup, hf.lo, fun b hb => ?_⟩⟩
      · refine g1.frame hc (fun i v hi hv => hoth _ _ ?_ hv) (fun b hb => hnb b (by simp [hb]))
        rw [Go.Deep.add_add]
        exact add_ne hspot (by omega)
      · have e3 : ∀ y : Bi, (encB y).length = 3 := fun _ => rfl
        by_cases hij : i = j
        · subst hij
          rw [List.getElem?_append_left (by rw [e3]; exact hj), hu] at hv
          obtain rfl : u = v := by simpa using hv
          exact hcell
        · refine hoth _ _ ?_ (hL i v ?_)
          · rw [Go.Deep.add_add, Go.Deep.add_add]
            exact add_ne hspot (by omega)
          · by_cases h3 : i < 3
            · rw [List.getElem?_append_left (by rw [e3]; exact h3), hsame i hij] at hv
              rw [List.getElem?_append_left (by rw [e3]; exact h3)]
              exact hv
            · rw [List.getElem?_append_right (by rw [e3]; omega), e3] at hv
              rw [List.getElem?_append_right (by rw [e3]; omega), e3]
              exact hv
      · refine g3.frame hc (fun i v hi hv => hoth _ _ ?_ hv) (fun b hb => hnb b (by simp [hb]))
        rw [Go.Deep.add_add, Go.Deep.add_add]
        exact add_ne hspot (by omega)
      · rcases List.mem_cons.1 hb with rfl | hb
        · exact ⟨cs', e', hb'⟩
        · obtain ⟨c, e, hh⟩ := hf.blk b (List.mem_cons_of_mem _ hb)
          exact ⟨c, e, hh.chg hc (hnb b hb)⟩
    · intro w' ks' hl hc hk' hf'
      have hd1 : ∀ b ∈ b1, b ∉ b2 := fun b hb hb2 => hnd2.2.2 b hb b (by simp [hb2]) rfl
      have hd3 : ∀ b ∈ b3, b ∉ b2 := fun b hb hb2 => hnd3.2.2 b hb2 b hb rfl
      refine ⟨⟨some a, cap, by rw [hlen (t.1, .mk t.2.lab ks')], by rw [hlen (t.1, .mk t.2.lab ks')]; exact hm, .inr ⟨a, _, by simp, rfl, rfl, BL.split.2 ⟨b1, b2, b3, rfl, g1.chg hc hab hd1, ⟨vt, ?_, hk'⟩, g3.chg hc (by rw [add_block]; exact hab) hd3⟩⟩⟩, ⟨hf.nodup, hf.lo, fun b hb => ?_⟩⟩
      · exact hL.chg hc (.inr (by rw [add_block]; exact hab))
      · by_cases hb2 : b ∈ b2
        · exact hf'.blk b hb2
        · obtain ⟨c, e, hh⟩ := hf.blk b hb
          exact ⟨c, e, hh.chg hc hb2⟩

/-- How far a mark counts. -/
def markB : List Bi → Nat
  | [] => 0
  | x :: xs => 3 + 2 * Rose.cnt x.2.kids + markB xs
theorem markB_append (xs ys : List Bi) : markB (xs ++ ys) = markB xs + markB ys := by
  induction xs with
  | nil => simp [markB]
  | cons x xs ih => simp only [List.cons_append, markB, ih]; omega
theorem markB_take {xs : List Bi} {i : Nat} {x : Bi} (h : xs[i]? = some x) : markB (xs.take (i + 1)) = markB (xs.take i) + (3 + 2 * Rose.cnt x.2.kids) := by
  rw [take_succ_get h, markB_append]; simp [markB]
theorem markB_take_le {xs : List Bi} {i : Nat} {x : Bi} (h : xs[i]? = some x) : markB (xs.take i) + (3 + 2 * Rose.cnt x.2.kids) ≤ markB xs := by
  rw [← markB_take h]
  have := markB_append (xs.take (i + 1)) (xs.drop (i + 1))
  rw [List.take_append_drop] at this
  omega
theorem markB_le (xs : List Bi) : markB xs ≤ 3 * cntB xs := by
  induction xs with
  | nil => simp [markB]
  | cons x xs ih => simp only [markB, cntB]; omega
/-- Marked bindings. -/
def mkBL : Nat → List Bi → List Bi
  | _, [] => []
  | k, x :: xs => (mt k, .mk ((k + 1 : Nat), mt (k + 2)) (mkRL gT 2 (k + 3) x.2.kids)) :: mkBL (k + (3 + 2 * Rose.cnt x.2.kids)) xs
theorem mkBL_append (xs ys : List Bi) : ∀ k, mkBL k (xs ++ ys) = mkBL k xs ++ mkBL (k + markB xs) ys := by
  induction xs with
  | nil => intro k; simp [mkBL, markB]
  | cons x xs ih =>
    intro k
    simp only [List.cons_append, mkBL, ih, markB]
    rw [Nat.add_assoc]
theorem mkBL_length (xs : List Bi) : ∀ k, (mkBL k xs).length = xs.length := by
  induction xs with
  | nil => intro k; rfl
  | cons x xs ih => intro k; simp [mkBL, ih]
theorem mkBL_take {xs : List Bi} {i : Nat} {x : Bi} (h : xs[i]? = some x) (k : Nat) : mkBL k (xs.take (i + 1)) = mkBL k (xs.take i) ++ [(mt (k + markB (xs.take i)), .mk ((k + markB (xs.take i) + 1 : Nat), mt (k + markB (xs.take i) + 2)) (mkRL gT 2 (k + markB (xs.take i) + 3) x.2.kids))] := by
  rw [take_succ_get h, mkBL_append]; rfl
theorem mkBL_get {xs : List Bi} {i : Nat} {x : Bi} (h : xs[i]? = some x) (k : Nat) : (mkBL k xs)[i]? = some (mt (k + markB (xs.take i)), .mk ((k + markB (xs.take i) + 1 : Nat), mt (k + markB (xs.take i) + 2)) (mkRL gT 2 (k + markB (xs.take i) + 3) x.2.kids)) := by
  have hi := (List.getElem?_eq_some_iff.1 h).1
  have h1 := mkBL_take h k
  have h2 : mkBL k xs = mkBL k (xs.take (i + 1)) ++ mkBL (k + markB (xs.take (i + 1))) (xs.drop (i + 1)) := by rw [← mkBL_append, List.take_append_drop]
  rw [h2, h1, List.append_assoc, List.getElem?_append_right (by rw [mkBL_length]; simp; omega)]
  rw [mkBL_length, List.length_take, Nat.min_eq_left (by omega), Nat.sub_self]
  rfl

/-- laws.markBindingS -/
theorem c_markBindingS {xs : List Bi} {w : World} {v : Value} {bs : List Nat} {n0 k : Nat} (hk : Bds w v xs bs) (hf : Fresh n0 w bs) (hs : k + markB xs ≤ 1152921504606846975) :
    Ret Tryd.prog 15 [v, .int .i64 k] w fun r w' => r = .int .i64 (k + markB xs : Nat) ∧ Chg (· ∈ bs) w w' ∧ Bds w' v (mkBL k xs) bs ∧ Fresh n0 w' bs := by
  obtain ⟨ao, cap, rfl, hm, hcap⟩ := hk.form
  have hM : maxLen = 9223372036854775807 := rfl
  refine ret_of_vc ttOkB Tryd.func15 rfl (by kernel_rfl) (by kernel_rfl) ?_
  refine Lp.go ttOkB (by kernel_rfl) (fun i : Nat => [(0, .slice ao xs.length cap), (1, .int .i64 (k + markB (xs.take i) : Nat)), (5, .int .i64 i)])
    (fun i w' => Chg (· ∈ bs) w w' ∧ i ≤ xs.length ∧ Bds w' (.slice ao xs.length cap) (mkBL k (xs.take i) ++ xs.drop i) bs ∧ Fresh n0 w' bs) (fun i => xs.length - i) 0
    ⟨rfl, rfl, rfl, trivial⟩ ⟨Chg.refl _ _, Nat.zero_le _, by simpa [mkBL] using hk, hf⟩ ?_
  rintro i w1 ⟨hc1, hi, hk1, hf1⟩
  refine Cm.s (fun hlt => ?_) (fun hge => ?_)
  · have hlt : i < xs.length := by omega
    obtain ⟨t, ht⟩ : ∃ t, xs[i]? = some t := ⟨xs[i], List.getElem?_eq_getElem hlt⟩
    have hct := markB_take_le ht
    rw [drop_get' ht] at hk1
    have hX : (mkBL k (xs.take i)).length = i := by rw [mkBL_length]; simp; omega
    have htk := mkBL_take ht k
    have hck := markB_take ht
    generalize hXe : mkBL k (xs.take i) = X at hk1 hX htk
    generalize hKe : k + markB (xs.take i) = kk at htk
    -- the variable
    refine (c_markText kk (by omega)).mono ?_
    rintro r w2 ⟨rfl, hx2⟩
    have hk2 := hk1.ext hx2
    have hf2 := hf1.ext hx2
    obtain ⟨a, b2, vt, rfl, hab, hanb, hsb, hfb, hL, hKt, hst, _⟩ := hk2.at hf2
    rw [hX] at hL hst
    obtain ⟨c0, e0, hbl⟩ := hf2.blk a.block hab
    refine Go1.ix 4 hlt (Go1.fl 0 ?_)
    refine Go0.set (v := .string (mt kk)) hbl (by simp only [add_block]) (hL 0 _ rfl) (by simp [Value.oneCell']) (by simp [Value.cells]) ?_
    intro w3 hc3 hb3 hs3 hv3 ho3
    obtain ⟨hk3, hf3⟩ := hst w3 (mt kk) t.2.lab 0 (.string (mt kk)) (by decide) (fun j hj => by
      cases j with
      | zero => exact absurd rfl hj
      | succ j => rfl) rfl hc3 ⟨_, hb3⟩ hv3 ho3
    refine Wr.n (kk + 1) (by omega) (by omega) ?_
    -- the kind
    obtain ⟨a', b2', vt', ha', hab', hanb', hsb', hfb', hL', hKt', hst', _⟩ := hk3.at hf3
    cases ha'
    rw [hX] at hL' hst'
    obtain ⟨c1, e1, hbl'⟩ := hf3.blk a.block hab'
    refine Go1.ix 4 hlt (Go1.fl 1 (Go1.fl 0 ?_))
    rw [Go.Deep.add_add (a.add (i * 4)) 1 0]
    refine Go0.set (v := .int .i64 (kk + 1 : Nat)) hbl' (by simp only [add_block]) (hL' 1 _ rfl) (by simp [Value.oneCell']) (by simp [Value.cells]) ?_
    intro w4 hc4 hb4 hs4 hv4 ho4
    obtain ⟨hk4, hf4⟩ := hst' w4 (mt kk) ((kk + 1 : Nat), t.2.lab.2) 1 (.int .i64 (kk + 1 : Nat)) (by decide) (fun j hj => by
      match j with
      | 0 => rfl
      | 1 => exact absurd rfl hj
      | j + 2 => rfl) rfl hc4 ⟨_, hb4⟩ hv4 ho4
    refine Wr.n (kk + 2) (by omega) (by omega) ?_
    -- the name
    refine (c_markText (kk + 2) (by omega)).mono ?_
    rintro r w5 ⟨rfl, hx5⟩
    have hk5 := hk4.ext hx5
    have hf5 := hf4.ext hx5
    obtain ⟨a5, b5, vt5, ha5, hab5, hanb5, hsb5, hfb5, hL5, hKt5, hst5, _⟩ := hk5.at hf5
    cases ha5
    rw [hX] at hL5 hst5
    obtain ⟨c5, e5, hbl5⟩ := hf5.blk a.block hab5
    refine Go1.ix 4 hlt (Go1.fl 1 (Go1.fl 1 ?_))
    rw [Go.Deep.add_add (a.add (i * 4)) 1 1]
    refine Go0.set (v := .string (mt (kk + 2))) hbl5 (by simp only [add_block]) (hL5 2 _ rfl) (by simp [Value.oneCell']) (by simp [Value.cells]) ?_
    intro w6 hc6 hb6 hs6 hv6 ho6
    obtain ⟨hk6, hf6⟩ := hst5 w6 (mt kk) ((kk + 1 : Nat), mt (kk + 2)) 2 (.string (mt (kk + 2))) (by decide) (fun j hj => by
      match j with
      | 0 => rfl
      | 1 => rfl
      | 2 => exact absurd rfl hj
      | j + 3 => rfl) rfl hc6 ⟨_, hb6⟩ hv6 ho6
    refine Wr.n (kk + 3) (by omega) (by omega) ?_
    -- the arguments
    obtain ⟨a7, b7, vt7, ha7, hab7, hanb7, hsb7, hfb7, hL7, hKt7, _, hkd⟩ := hk6.at hf6
    cases ha7
    rw [hX] at hL7
    refine Go1.ix 4 hlt (Go1.fl 1 (Go1.fl 2 ?_))
    rw [Go.Deep.add_add (a.add (i * 4)) 1 2]
    refine Ld.one (hL7 3 _ rfl) ?_
    refine (c_markTypeS t.2.kids w6 vt7 b7 n0 (kk + 3) hKt7 hfb7 (by omega)).mono ?_
    rintro r w8 ⟨rfl, hc8, hk8, hf8⟩
    obtain ⟨hk9, hf9⟩ := hkd w8 _ (mkRL_length _ _) hc8 hk8 hf8
    refine Wr.n (i + 1) (by omega) (by omega) ?_
    have hab0 : a.block ∈ bs := hab
    refine ⟨i + 1, ⟨rfl, ?_, rfl, trivial⟩, ⟨?_, hlt, ?_, hf9⟩, by omega⟩
    · show some (Value.int .i64 _) = some (Value.int .i64 _)
      rw [show kk + 3 + 2 * Rose.cnt t.2.kids = k + markB (xs.take (i + 1)) by omega]
    · have s3 : Chg (· ∈ bs) w w3 := (hc1.ext hx2).sub hc3 fun b hb => hb ▸ hab0
      have s4 : Chg (· ∈ bs) w w4 := s3.sub hc4 fun b hb => hb ▸ hab0
      have s6 : Chg (· ∈ bs) w w6 := (s4.ext hx5).sub hc6 fun b hb => hb ▸ hab0
      exact s6.sub hc8 fun b hb => hsb7 b hb
    · rw [htk, List.append_assoc]
      exact hk9
  · have : i = xs.length := by omega
    subst this
    rw [List.take_length, List.drop_length, List.append_nil] at hk1
    refine ⟨?_, hc1, hk1, hf1⟩
    rw [List.take_length]
end Go.Proofs.YtmecmdnnhldjpaaDoor

namespace Go.Proofs.YtmecmdnnhldjpaaDoor
open Go.RowKit

/-- laws.heldBindingS -/
theorem c_heldBindingS {xs : List Bi} {w : World} {v : Value} {bs : List Nat} {k : Nat} (hk : Bds w v (mkBL k xs) bs) (hs : k + markB xs ≤ 1152921504606846975) :
    Ret Tryd.prog 16 [v, .int .i64 k] w fun r w' => r = .int .i64 (k + markB xs : Nat) ∧ Ext w w' := by
  obtain ⟨ao, cap, rfl, hm, hcap⟩ := hk.form
  rw [mkBL_length] at hm hcap hk
  have hM : maxLen = 9223372036854775807 := rfl
  rw [mkBL_length]
  refine ret_of_vc ttOkB Tryd.func16 rfl (by kernel_rfl) (by kernel_rfl) ?_
  refine Lp.go ttOkB (by kernel_rfl) (fun i : Nat => [(0, .slice ao xs.length cap), (1, .int .i64 (k + markB (xs.take i) : Nat)), (5, .int .i64 i)])
    (fun i w' => Ext w w' ∧ i ≤ xs.length) (fun i => xs.length - i) 0
    ⟨rfl, rfl, rfl, trivial⟩ ⟨Chg.refl _ _, Nat.zero_le _⟩ ?_
  rintro i w1 ⟨hx1, hi⟩
  refine Cm.s (fun hlt => ?_) (fun hge => ?_)
  · have hlt : i < xs.length := by omega
    obtain ⟨t, ht⟩ : ∃ t, xs[i]? = some t := ⟨xs[i], List.getElem?_eq_getElem hlt⟩
    have hct := markB_take_le ht
    have hck := markB_take ht
    obtain ⟨a, t', v1, b1, rfl, ht', hc, hkt, _⟩ := (hk.ext hx1).get hlt
    rw [mkBL_get ht] at ht'
    obtain rfl := Option.some.inj ht'
    simp only [encB, Rose.lab, Rose.kids] at hc hkt
    generalize hKe : k + markB (xs.take i) = kk at hc hkt
    -- the variable
    refine Dr.x [0, 1, 2, 3, 4, 5, 6, 7] ttOkB ?_
    refine GoS.ix 4 hlt (GoS.fl 0 (LdS.x1 (hc 0 _ rfl) ?_))
    refine ⟨fun w2 hx2 => ?_⟩
    refine (c_markText kk (by omega)).mono ?_
    rintro r w3 ⟨rfl, hx3⟩
    refine Af.ext (hx2.trans hx3) ?_
    refine Cm.v (c := false) (by simp) ?_
    intro w4 hx4
    have hx14 := (hx2.trans hx3).trans hx4
    refine Wr.n (kk + 1) (by omega) (by omega) ?_
    -- the kind
    have hc4 : Lc w4 (a.add (i * 4)) _ := hc.chg hx14 (.inr id)
    have h1 : w4.cell? (((a.add (i * 4)).add 1).add 0) = some (.int .i64 (kk + 1 : Nat)) := by rw [Go.Deep.add_add (a.add (i * 4)) 1 0]; exact hc4 1 _ rfl
    have h2 : w4.cell? (((a.add (i * 4)).add 1).add 1) = some (.string (mt (kk + 2))) := by rw [Go.Deep.add_add (a.add (i * 4)) 1 1]; exact hc4 2 _ rfl
    have h3 : w4.cell? (((a.add (i * 4)).add 1).add 2) = some v1 := by rw [Go.Deep.add_add (a.add (i * 4)) 1 2]; exact hc4 3 _ rfl
    refine Go1.ix 4 hlt (Go1.fl 1 (Go1.fl 0 (Ld.one h1 ?_)))
    refine Cm.v (c := false) (by simp) ?_
    refine Wr.n (kk + 2) (by omega) (by omega) ?_
    -- the name
    refine Dr.x [0, 1, 2, 3, 4, 5, 6, 7, 8] ttOkB ?_
    refine GoS.ix 4 hlt (GoS.fl 1 (GoS.fl 1 (LdS.x1 h2 ?_)))
    refine ⟨fun w5 hx5 => ?_⟩
    refine (c_markText (kk + 2) (by omega)).mono ?_
    rintro r w6 ⟨rfl, hx6⟩
    refine Af.ext (hx5.trans hx6) ?_
    refine Cm.v (c := false) (by simp) ?_
    intro w7 hx7
    have hx47 := (hx5.trans hx6).trans hx7
    refine Wr.n (kk + 3) (by omega) (by omega) ?_
    refine Go1.ix 4 hlt (Go1.fl 1 (Go1.fl 2 (Ld.one (hx47.cell h3) ?_)))
    refine (c_heldTypeS t.2.kids w7 v1 b1 (kk + 3) (hkt.ext (hx14.trans hx47)) (by omega)).mono ?_
    rintro r w8 ⟨rfl, hx8⟩
    refine Cm.f (by omega) ?_
    refine Wr.n (i + 1) (by omega) (by omega) ?_
    refine ⟨i + 1, ⟨rfl, ?_, rfl, trivial⟩, ⟨((hx1.trans hx14).trans hx47).trans hx8, hlt⟩, by omega⟩
    show some (Value.int .i64 _) = some (Value.int .i64 _)
    rw [show kk + 3 + 2 * Rose.cnt t.2.kids = k + markB (xs.take (i + 1)) by omega]
  · have : i = xs.length := by omega
    subst this
    refine ⟨?_, hx1⟩
    rw [List.take_length]
end Go.Proofs.YtmecmdnnhldjpaaDoor

namespace Go.Proofs.YtmecmdnnhldjpaaDoor
open Go.RowKit

/-- Bindings in a slice that the call appends to. -/
def GrowB (n0 : Nat) (w : World) (r : Value) (xs : List Bi) (O cs : List Nat) : Prop :=
  ∃ vs, Grow w 54 4 r xs.length (flB xs vs) O ∧ BdL w vs xs cs ∧ Fresh n0 w (O ++ cs)

theorem GrowB.chg {M : Nat → Prop} {n0 : Nat} {w w' : World} {r : Value} {xs : List Bi} {O cs : List Nat} (h : Chg M w w') (hn : ∀ b ∈ O ++ cs, ¬ M b) (hg : GrowB n0 w r xs O cs) : GrowB n0 w' r xs O cs := by
  obtain ⟨vs, h1, h2, h3⟩ := hg
  exact ⟨vs, h1.chg h fun b hb => hn b (List.mem_append_left _ hb), h2.chg h fun b hb => hn b (List.mem_append_right _ hb), h3.chg h hn⟩
theorem GrowB.ext {n0 : Nat} {w w' : World} {r : Value} {xs : List Bi} {O cs : List Nat} (h : Ext w w') (hg : GrowB n0 w r xs O cs) : GrowB n0 w' r xs O cs := hg.chg h fun _ _ => id
theorem GrowB.lt {n0 : Nat} {w : World} {r : Value} {xs : List Bi} {O cs : List Nat} (hg : GrowB n0 w r xs O cs) : ∀ b ∈ O ++ cs, b < w.heap.size := by
  obtain ⟨vs, _, _, h3⟩ := hg
  exact h3.lt

/-- They read as bindings. -/
theorem GrowB.bds {n0 : Nat} {w : World} {r : Value} {xs : List Bi} {O cs : List Nat} (hg : GrowB n0 w r xs O cs) (hm : xs.length ≤ maxLen) : ∃ bs, Bds w r xs bs ∧ bs.Sublist (O ++ cs) := by
  obtain ⟨vs, ⟨_, ⟨rfl, h0, rfl⟩ | ⟨g, cap, rest, rfl, rfl, hb, hc, _⟩⟩, h2, _⟩ := hg
  · obtain rfl : xs = [] := List.eq_nil_of_length_eq_zero h0
    exact ⟨[], Bds.nil, by simp⟩
  · exact Bds.of_blk hb h2 rfl ⟨hm, hc⟩

/-- One more binding. -/
theorem GrowB.snoc {n0 : Nat} {w w1 w' : World} {r r' : Value} {xs : List Bi} {x : Bi} {v : Value} {O O' cs c1 : List Nat} {vs : List Value} (hx : Ext w w1)
    (hk : BdL w vs xs cs) (hf : Fresh n0 w (O ++ cs)) (hk1 : Kids encT w1 v x.2.kids c1) (hf1 : Fresh w.heap.size w1 c1)
    (hc : Chg (· ∈ O) w1 w') (hg : Grow w' 54 4 r' (xs.length + 1) (flB xs vs ++ (encB x ++ [v])) O') (hO : ∀ b ∈ O', b ∈ O ∨ w1.heap.size ≤ b) (hn : n0 ≤ w.heap.size) :
    GrowB n0 w' r' (xs ++ [x]) O' (cs ++ c1) := by
  have hnd := List.nodup_append.1 hf.nodup
  have sz := hx.size
  have hOcs : ∀ b ∈ cs, b ∉ O := fun b hb hb' => hnd.2.2 b hb' b hb rfl
  have hO1 : ∀ b ∈ c1, b ∉ O := fun b hb hb' => by
    have h1 := hf1.lo b hb
    have h2 := hf.lt b (List.mem_append_left _ hb')
    omega
  have hOlo : ∀ b ∈ O, n0 ≤ b := fun b hb => hf.lo b (List.mem_append_left _ hb)
  have hcs' : Fresh n0 w' cs := ((hf.ext hx).sub (List.sublist_append_right _ _)).chg hc hOcs
  have hc1' : Fresh n0 w' c1 := (hf1.chg hc hO1).mono hn
  have hO'f : Fresh n0 w' O' := hg.fresh fun b hb => by
    rcases hO b hb with h | h
    · exact hOlo b h
    · omega
  refine ⟨vs ++ [v], ?_, BdL.snoc (hk1.chg hc hO1) ((hk.chg hx fun _ _ => id).chg hc hOcs), ⟨List.nodup_append.2 ⟨hO'f.nodup, List.nodup_append.2 ⟨hcs'.nodup, hc1'.nodup, fun a ha b hb e => ?_⟩, fun a ha b hb e => ?_⟩, fun b hb => ?_, fun b hb => ?_⟩⟩
  · rw [List.length_append, flB_snoc hk.length]
    exact hg
  · have h1 := hf.lt a (List.mem_append_right _ ha)
    have h2 := hf1.lo b hb
    omega
  · subst e
    rcases hO a ha with h | h
    · rcases List.mem_append.1 hb with hb | hb
      · exact hOcs a hb h
      · exact hO1 a hb h
    · rcases List.mem_append.1 hb with hb | hb
      · have := hf.lt a (List.mem_append_right _ hb)
        omega
      · have := hf1.lt a hb
        omega
  · rcases List.mem_append.1 hb with hb | hb
    · exact hO'f.lo b hb
    · rcases List.mem_append.1 hb with hb | hb
      · exact hcs'.lo b hb
      · exact hc1'.lo b hb
  · rcases List.mem_append.1 hb with hb | hb
    · exact hO'f.blk b hb
    · rcases List.mem_append.1 hb with hb | hb
      · exact hcs'.blk b hb
      · exact hc1'.blk b hb
end Go.Proofs.YtmecmdnnhldjpaaDoor
