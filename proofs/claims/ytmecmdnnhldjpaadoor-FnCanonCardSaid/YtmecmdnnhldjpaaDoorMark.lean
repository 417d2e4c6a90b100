/- Marks: stores into trees that a call has made; mark texts. Conditions: none. -/
import Derived.Test.YtmecmdnnhldjpaaDoorJGrow
import Derived.Test.YtmecmdnnhldjpaaDoorJTree
namespace Go.Proofs.YtmecmdnnhldjpaaDoor
open Go.RowKit

section
variable {α : Type} {enc : α → List Value}

/-- A forest lies as it lay, where its cells and its children's blocks have kept. -/
theorem NL.frame {M : Nat → Prop} {w w' : World} {sz : Nat} (hsz : ∀ l, (enc l).length + 1 = sz) (hc : Chg M w w') : ∀ {ks : List (Rose α)} {a : Addr} {bs : List Nat}, (∀ i v, i < ks.length * sz → w.cell? (a.add i) = some v → w'.cell? (a.add i) = some v) → (∀ b ∈ bs, ¬ M b) →
    NL enc w ks a bs → NL enc w' ks a bs
  | [], _, _, _, _, h => by simpa only [NL] using h
  | k :: ks, a, bs, hf, hn, h => by
    simp only [NL] at h ⊢
    obtain ⟨b1, b2, rfl, h1, h2⟩ := h
    have hk := hsz k.lab
    simp only [List.length_cons, Nat.add_mul, Nat.one_mul] at hf
    refine ⟨b1, b2, rfl, ?_, NL.frame hsz hc (fun i v hi hv => ?_) (fun b hb => hn b (List.mem_append_right _ hb)) h2⟩
    · obtain ⟨hl, v, hv, hkk⟩ := h1.dest
      rw [← k.eta]
      refine Nd.mk' (v := v) (fun i u hu => hf i u ?_ (hl i u hu)) (hf _ v (by omega) hv) (hkk.chg hc fun b hb => hn b (List.mem_append_left _ hb))
      have := (List.getElem?_eq_some_iff.1 hu).1
      omega
    · rw [Go.Deep.add_add] at hv ⊢
      exact hf _ v (by omega) hv

theorem NL.split {w : World} {sz : Nat} (hsz : ∀ l, (enc l).length + 1 = sz) {t : Rose α} {ys : List (Rose α)} : ∀ {xs : List (Rose α)} {a : Addr} {bs : List Nat}, NL enc w (xs ++ t :: ys) a bs ↔
    ∃ b1 b2 b3, bs = b1 ++ (b2 ++ b3) ∧ NL enc w xs a b1 ∧ Nd enc w t (a.add (xs.length * sz)) b2 ∧ NL enc w ys (a.add ((xs.length + 1) * sz)) b3
  | [], a, bs => by
    simp only [List.nil_append, NL, List.length_nil, Nat.zero_mul, Nat.zero_add, Nat.one_mul, hsz]
    constructor
    · rintro ⟨b1, b2, rfl, h1, h2⟩
      exact ⟨[], b1, b2, rfl, rfl, by simpa [Addr.add] using h1, h2⟩
    · rintro ⟨b1, b2, b3, rfl, rfl, h1, h2⟩
      exact ⟨b2, b3, rfl, by simpa [Addr.add] using h1, h2⟩
  | x :: xs, a, bs => by
    simp only [List.cons_append, NL, hsz]
    constructor
    · rintro ⟨c1, c2, rfl, h1, h2⟩
      obtain ⟨b1, b2, b3, rfl, g1, g2, g3⟩ := (NL.split hsz).1 h2
      refine ⟨c1 ++ b1, b2, b3, by simp, ⟨c1, b1, rfl, h1, g1⟩, ?_, ?_⟩
      · rw [Go.Deep.add_add] at g2
        rw [List.length_cons, show (xs.length + 1) * sz = sz + xs.length * sz by rw [Nat.add_mul]; omega]
        exact g2
      · rw [Go.Deep.add_add] at g3
        rw [List.length_cons, show (xs.length + 1 + 1) * sz = sz + (xs.length + 1) * sz by simp only [Nat.add_mul]; omega]
        exact g3
    · rintro ⟨b1, b2, b3, rfl, ⟨c1, c2, rfl, h1, g1⟩, g2, g3⟩
      refine ⟨c1, c2 ++ (b2 ++ b3), by simp, h1, (NL.split hsz).2 ⟨c2, b2, b3, rfl, g1, ?_, ?_⟩⟩
      · rw [Go.Deep.add_add]
        rw [List.length_cons, show (xs.length + 1) * sz = sz + xs.length * sz by rw [Nat.add_mul]; omega] at g2
        exact g2
      · rw [Go.Deep.add_add]
        rw [List.length_cons, show (xs.length + 1 + 1) * sz = sz + (xs.length + 1) * sz by simp only [Nat.add_mul]; omega] at g3
        exact g3

/-- The cells of a block, by address. -/
theorem Blk.addr {w : World} {b : Nat} {e : TypeId} {cs : List Value} (h : Blk w b e cs) {a : Addr} {v : Value} (ha : a.block = b) (hc : w.cell? a = some v) : a = ⟨b, a.off, none⟩ ∧ cs[a.off]? = some v := by
  subst ha
  unfold World.cell? at hc
  rw [h] at hc
  simp only at hc
  split at hc
  · cases hc
  · rename_i hs
    obtain ⟨b, o, s⟩ := a
    simp only at hc hs ⊢
    have : s = none := by cases s <;> simp_all
    subst this
    exact ⟨rfl, by simpa using hc⟩

/-- A store into one cell of the call's own. -/
theorem Go0.set {P : Program} {t : TypeId} {w : World} {a : Addr} {b : Nat} {e : TypeId} {cs : List Value} {old v : Value} {K : World → Prop} (h : Blk w b e cs) (ha : a.block = b) (hc : w.cell? a = some old) (h1 : v.oneCell' = true) (hv : v.cells = #[v])
    (k : ∀ w', Chg (fun k => k = b) w w' → (∃ cs', Blk w' b e cs') → w'.heap.size = w.heap.size → w'.cell? a = some v → (∀ a' u, a' ≠ a → w.cell? a' = some u → w'.cell? a' = some u) → K w') (ht : sizB P t 1 = true := by kernel_rfl) : Go0 P (storeVar t a v) w K := by
  obtain ⟨e1, e2⟩ := h.addr ha hc
  have hlt := (List.getElem?_eq_some_iff.1 e2).1
  refine Go0.st (off := a.off) (vs := [v]) h e1 hv (by simp only [List.length_singleton]; omega) (by simpa using h1) ?_ ht
  intro w' hc' hb' hs'
  have hl : ∀ i, w'.cell? ⟨b, i, none⟩ = (spl cs a.off [v])[i]? := fun i => hb'.cell i
  refine k w' hc' ⟨_, hb'⟩ hs' ?_ fun a' u hne hu => ?_
  · rw [e1, hl]
    simp only [spl, List.append_assoc]
    rw [List.getElem?_append_right (by simp; omega)]
    simp only [List.length_take, Nat.min_eq_left (Nat.le_of_lt hlt), Nat.sub_self]
    rfl
  · by_cases hb : a'.block = b
    · obtain ⟨f1, f2⟩ := h.addr hb hu
      rw [f1, hl]
      have hno : a'.off ≠ a.off := fun he => hne (by rw [f1, e1, he])
      simp only [spl, List.append_assoc]
      by_cases hlo : a'.off < a.off
      · rw [List.getElem?_append_left (by simp; omega), List.getElem?_take_of_lt hlo]
        exact f2
      · rw [List.getElem?_append_right (by simp; omega)]
        simp only [List.length_take, Nat.min_eq_left (Nat.le_of_lt hlt), List.length_singleton]
        obtain ⟨d, hd⟩ : ∃ d, a'.off - a.off = d + 1 := ⟨a'.off - a.off - 1, by omega⟩
        rw [hd, List.cons_append, List.getElem?_cons_succ, List.nil_append, List.getElem?_drop]
        rw [← f2]
        congr 1
        omega
    · exact hc'.cell hb hu

theorem add_ne {a : Addr} {i j : Nat} (hs : a.spot = none) (h : i ≠ j) : a.add i ≠ a.add j := by
  intro he
  obtain ⟨b, o, s⟩ := a
  simp only at hs
  subst hs
  rw [Addr.add_lit, Addr.add_lit] at he
  simp only [Addr.mk.injEq] at he
  omega

/-- A slice of trees that the call owns, at its i-th element: its cells; how a store into its label tells; how its children do. -/
theorem Kids.at {w : World} {n0 sz : Nat} (hsz : ∀ l, (enc l).length + 1 = sz) {ao : Option Addr} {n cap : Nat} {xs : List (Rose α)} {t : Rose α} {ys : List (Rose α)} {bs : List Nat} (h : Kids enc w (.slice ao n cap) (xs ++ t :: ys) bs) (hf : Fresh n0 w bs) :
    ∃ a b2 vt, ao = some a ∧ a.block ∈ bs ∧ a.block ∉ b2 ∧ (∀ b ∈ b2, b ∈ bs) ∧ Fresh n0 w b2 ∧ Lc w (a.add (xs.length * sz)) (enc t.lab ++ [vt]) ∧ Kids enc w vt t.kids b2 ∧
      (∀ (w' : World) (l : α) (j : Nat) (u : Value), j < (enc l).length → (∀ i, i ≠ j → (enc l)[i]? = (enc t.lab)[i]?) → (enc l)[j]? = some u → Chg (fun k => k = a.block) w w' → (∃ e cs', Blk w' a.block e cs') →
        w'.cell? ((a.add (xs.length * sz)).add j) = some u → (∀ a' u, a' ≠ (a.add (xs.length * sz)).add j → w.cell? a' = some u → w'.cell? a' = some u) →
        Kids enc w' (.slice ao n cap) (xs ++ .mk l t.kids :: ys) bs ∧ Fresh n0 w' bs) ∧
      (∀ (w' : World) (ks' : List (Rose α)), ks'.length = t.kids.length → Chg (· ∈ b2) w w' → Kids enc w' vt ks' b2 → Fresh n0 w' b2 → Kids enc w' (.slice ao n cap) (xs ++ .mk t.lab ks' :: ys) bs ∧ Fresh n0 w' bs) := by
  obtain ⟨ao', cap', h1, hm, h2⟩ := h
  simp only [Value.slice.injEq] at h1
  obtain ⟨rfl, rfl, rfl⟩ := h1
  rcases h2 with ⟨h2, _⟩ | ⟨a, bs', _, rfl, rfl, hnl⟩
  · simp at h2
  · obtain ⟨b1, b2, b3, rfl, g1, g2, g3⟩ := (NL.split hsz).1 hnl
    obtain ⟨vt, hL, hK⟩ := g2.cells
    have hnd := hf.nodup
    rw [List.nodup_cons] at hnd
    have hnd2 := List.nodup_append.1 hnd.2
    have hnd3 := List.nodup_append.1 hnd2.2.1
    have hsub : b2.Sublist (a.block :: (b1 ++ (b2 ++ b3))) := .cons _ ((List.sublist_append_left b2 b3).trans (List.sublist_append_right _ _))
    have hab : a.block ∉ b2 := fun hb => hnd.1 (by simp [hb])
    have hspot : a.spot = none := by
      obtain ⟨x, hx⟩ : ∃ x, w.cell? (a.add (xs.length * sz)) = some x := by
        cases he : enc t.lab ++ [vt] with
        | nil => simp at he
        | cons y l => exact ⟨y, by have := hL 0 y (by rw [he]; rfl); simpa [Addr.add] using this⟩
      obtain ⟨c0, e0, hbl⟩ := hf.blk a.block (by simp)
      by_cases h0 : xs.length * sz = 0
      · rw [h0] at hx
        have := (hbl.addr (a := a) rfl (by simpa [Addr.add] using hx)).1
        rw [this]
      · -- the first element's cells
        cases xs with
        | nil => simp at h0
        | cons x xs =>
          simp only [NL] at g1
          obtain ⟨c1, c2, rfl, g, _⟩ := g1
          obtain ⟨vx, hLx, _⟩ := g.cells
          cases he : enc x.lab ++ [vx] with
          | nil => simp at he
          | cons y l =>
            have := hLx 0 y (by rw [he]; rfl)
            have := (hbl.addr (a := a) rfl (by simpa [Addr.add] using this)).1
            rw [this]
    have hlen : ∀ (l : α) (ks' : List (Rose α)), (xs ++ Rose.mk l ks' :: ys).length = (xs ++ t :: ys).length := by intro l ks'; simp
    refine ⟨a, b2, vt, rfl, by simp, hab, fun b hb => hsub.subset hb, hf.sub hsub, hL, hK, ?_, ?_⟩
    · intro w' l j u hj hsame hu hc ⟨e', cs', hb'⟩ hcell hoth
      have hkl := hsz l
      have hkt := hsz t.lab
      have hnb : ∀ b ∈ b1 ++ (b2 ++ b3), ¬ b = a.block := fun b hb he => hnd.1 (he ▸ hb)
      refine ⟨⟨some a, cap, by rw [hlen], by rw [hlen]; exact hm, .inr ⟨a, _, by simp, rfl, rfl, (NL.split hsz).2 ⟨b1, b2, b3, rfl, ?_, ?_, ?_⟩⟩⟩, ⟨hf.nodup, hf.lo, fun b hb => ?_⟩⟩
      · refine g1.frame hsz hc (fun i v hi hv => hoth _ _ ?_ hv) (fun b hb => hnb b (by simp [hb]))
        rw [Go.Deep.add_add]
        exact add_ne hspot (by omega)
      · refine Nd.mk' (v := vt) (fun i v hv => ?_) ?_ (hK.chg hc fun b hb => hnb b (by simp [hb]))
        · by_cases hij : i = j
          · subst hij
            rw [hu] at hv
            obtain rfl : u = v := by simpa using hv
            exact hcell
          · rw [hsame i hij] at hv
            refine hoth _ _ ?_ (hL i v ?_)
            · rw [Go.Deep.add_add, Go.Deep.add_add]
              exact add_ne hspot (by omega)
            · rw [List.getElem?_append_left (List.getElem?_eq_some_iff.1 hv).1]
              exact hv
        · refine hoth _ _ ?_ (hL _ vt ?_)
          · rw [Go.Deep.add_add, Go.Deep.add_add]
            exact add_ne hspot (by omega)
          · rw [List.getElem?_append_right (by omega)]
            rw [show (enc l).length - (enc t.lab).length = 0 by omega]
            rfl
      · refine g3.frame hsz hc (fun i v hi hv => hoth _ _ ?_ hv) (fun b hb => hnb b (by simp [hb]))
        rw [Go.Deep.add_add, Go.Deep.add_add]
        refine add_ne hspot ?_
        have : (xs.length + 1) * sz = xs.length * sz + sz := by rw [Nat.add_mul]; omega
        omega
      · rcases List.mem_cons.1 hb with rfl | hb
        · exact ⟨cs', e', hb'⟩
        · obtain ⟨c, e, hh⟩ := hf.blk b (List.mem_cons_of_mem _ hb)
          exact ⟨c, e, hh.chg hc (hnb b hb)⟩
    · intro w' ks' hl hc hk' hf'
      have hd1 : ∀ b ∈ b1, b ∉ b2 := fun b hb hb2 => hnd2.2.2 b hb b (by simp [hb2]) rfl
      have hd3 : ∀ b ∈ b3, b ∉ b2 := fun b hb hb2 => hnd3.2.2 b hb2 b hb rfl
      refine ⟨⟨some a, cap, by rw [hlen], by rw [hlen]; exact hm, .inr ⟨a, _, by simp, rfl, rfl, (NL.split hsz).2 ⟨b1, b2, b3, rfl, ?_, ?_, ?_⟩⟩⟩, ⟨hf.nodup, hf.lo, fun b hb => ?_⟩⟩
      · exact g1.chg (enc := enc) hc _ _ _ hab hd1
      · refine Nd.mk' (v := vt) (fun i v hv => ?_) ?_ hk'
        · refine hc.cell (by unfold Addr.add; split <;> (try split) <;> exact hab) (hL i v ?_)
          rw [List.getElem?_append_left (List.getElem?_eq_some_iff.1 hv).1]
          exact hv
        · refine hc.cell (by unfold Addr.add; split <;> (try split) <;> exact hab) (hL _ vt ?_)
          rw [List.getElem?_append_right (Nat.le_refl _)]
          simp
      · exact NL.chg (enc := enc) hc _ _ _ (by unfold Addr.add; split <;> exact hab) hd3 g3
      · by_cases hb2 : b ∈ b2
        · exact hf'.blk b hb2
        · obtain ⟨c, e, hh⟩ := hf.blk b hb
          exact ⟨c, e, hh.chg hc hb2⟩
end
end Go.Proofs.YtmecmdnnhldjpaaDoor
