/- A Type out of an SExpr, in plain Lean. Conditions: none. -/
import Derived.Test.YtliigpmpeldebaaGreatJTyK
namespace Go.Proofs.YtliigpmpeldebaaGreat
open Go.RowKit

/-- What lies behind the first byte. -/
def tl (s : ByteArray) : ByteArray := tb (s.data.toList.drop 1)
/-- Does it begin with a quote? -/
def quo (s : ByteArray) : Bool := match s.data.toList with
  | b :: _ => decide (b = 39)
  | [] => false
def labAt (ks : List Sx) (i : Nat) : ByteArray := match ks[i]? with
  | some t => t.lab
  | none => em
mutual
/-- As the reference reads it. -/
def deS : Sx → Tp
  | .mk l ks => if l ≠ em then (if quo l then .mk (1, tl l) [] else .mk (2, l) []) else if ks.length < 2 then .mk (0, em) [] else
      if labAt ks 0 = sAssoc ∧ ((deSL ks).drop 1).length = 2 ∧ labAt ks 1 ≠ em then .mk (3, labAt ks 1) (((deSL ks).drop 1).drop 1)
      else if labAt ks 0 = sDyn ∧ ((deSL ks).drop 1).length = 1 ∧ labAt ks 1 ≠ em then .mk (4, labAt ks 1) [] else .mk (2, labAt ks 0) ((deSL ks).drop 1)
def deSL : List Sx → List Tp
  | [] => []
  | k :: ks => deS k :: deSL ks
end
mutual
/-- As the program reads it. -/
def deI : Sx → Tp
  | .mk l ks => if l ≠ em then (if quo l then .mk (1, tl l) [] else .mk (2, l) []) else if ks.length < 2 then .mk (0, em) [] else
      if labAt ks 0 = sDyn then .mk (4, labAt ks 1) [] else if labAt ks 0 = sAssoc then .mk (3, labAt ks 1) ((deIL ks).drop 2) else .mk (2, labAt ks 0) ((deIL ks).drop 1)
def deIL : List Sx → List Tp
  | [] => []
  | k :: ks => deI k :: deIL ks
end
theorem deS_eq (l : ByteArray) (ks : List Sx) : deS (.mk l ks) = if l ≠ em then (if quo l then .mk (1, tl l) [] else .mk (2, l) []) else if ks.length < 2 then .mk (0, em) [] else
      if labAt ks 0 = sAssoc ∧ ((deSL ks).drop 1).length = 2 ∧ labAt ks 1 ≠ em then .mk (3, labAt ks 1) (((deSL ks).drop 1).drop 1)
      else if labAt ks 0 = sDyn ∧ ((deSL ks).drop 1).length = 1 ∧ labAt ks 1 ≠ em then .mk (4, labAt ks 1) [] else .mk (2, labAt ks 0) ((deSL ks).drop 1) := by rw [deS]
theorem deI_eq (l : ByteArray) (ks : List Sx) : deI (.mk l ks) = if l ≠ em then (if quo l then .mk (1, tl l) [] else .mk (2, l) []) else if ks.length < 2 then .mk (0, em) [] else
      if labAt ks 0 = sDyn then .mk (4, labAt ks 1) [] else if labAt ks 0 = sAssoc then .mk (3, labAt ks 1) ((deIL ks).drop 2) else .mk (2, labAt ks 0) ((deIL ks).drop 1) := by rw [deI]
theorem deSL_map (ks : List Sx) : deSL ks = ks.map deS := by
  induction ks with
  | nil => rw [deSL]; rfl
  | cons k ks ih => rw [deSL, ih]; rfl
theorem deIL_map (ks : List Sx) : deIL ks = ks.map deI := by
  induction ks with
  | nil => rw [deIL]; rfl
  | cons k ks ih => rw [deIL, ih]; rfl
theorem enL_map (ks : List Tp) : enL ks = ks.map enS := by
  induction ks with
  | nil => rw [enL]; rfl
  | cons k ks ih => rw [enL, ih]; rfl

theorem name_ne {s : ByteArray} {n : Nat} {l : TLab} (hl : l.2 = s) (h : headP l n) : s ≠ em ∧ s ≠ sDyn ∧ s ≠ sAssoc ∧ quo s = false := by
  subst hl
  have key : NameOk l.2 → l.2 ≠ em ∧ l.2 ≠ sDyn ∧ l.2 ≠ sAssoc ∧ quo l.2 = false := by
    rintro ⟨h1, h2, h3, h4⟩
    refine ⟨fun e => ?_, fun e => ?_, fun e => ?_, ?_⟩
    · rw [e] at h2; exact absurd h2 (by decide)
    · rw [e] at h4; exact absurd h4 (by decide +kernel)
    · rw [e] at h4; exact absurd h4 (by decide +kernel)
    · unfold quo
      cases hd : l.2.data.toList with
      | nil => rfl
      | cons b r =>
        have hs : 0 < l.2.size := by omega
        have h5 := h1 0 hs
        have hb : l.2[0] = b := by
          have h6 : l.2.data.toList[0]? = some b := by rw [hd]; rfl
          have h7 : l.2.data[0]? = some b := by rw [← h6]; simp
          obtain ⟨_, h8⟩ := Array.getElem?_eq_some_iff.1 h7
          exact h8
        unfold NameChP at h5
        rw [hb] at h5
        rcases h5 with h5 | ⟨h5, _⟩
        · simp only [decide_eq_false_iff_not]
          rintro rfl
          exact absurd h5.1 (by decide)
        · exact absurd rfl h5
  rcases h with h | h | ⟨_, h | h⟩
  · exact key h.2.1
  · exact key h.2.1
  · exact key h.1
  · have := h.1
    unfold baseN at this
    simp only [Bool.or_eq_true, decide_eq_true_eq] at this
    rcases this with h | h <;> (rw [h]; decide +kernel)

theorem tl_q (s : ByteArray) : tl (⟨#[39]⟩ ++ s) = s := by
  have : (ByteArray.mk #[39] ++ s).data.toList = 39 :: s.data.toList := by
    rw [ByteArray.data_append]
    simp
  unfold tl
  rw [this]
  exact tb_data s
theorem quo_q (s : ByteArray) : quo (⟨#[39]⟩ ++ s) = true := by
  have : (ByteArray.mk #[39] ++ s).data.toList = 39 :: s.data.toList := by
    rw [ByteArray.data_append]
    simp
  unfold quo
  rw [this]
  rfl
theorem q_ne (s : ByteArray) : (ByteArray.mk #[39] ++ s) ≠ em := fun e => by
  have h := congrArg ByteArray.size e
  rw [size_app] at h
  have h1 : (ByteArray.mk #[39]).size = 1 := rfl
  have h2 : em.size = 0 := rfl
  omega

theorem de_en (ks : List Tp) : (∀ t ∈ ks, fmT t) → (∀ t ∈ ks, deS (enS t) = t ∧ deI (enS t) = t) := by
  refine Rose.forest (p := fun ks => (∀ t ∈ ks, fmT t) → (∀ t ∈ ks, deS (enS t) = t ∧ deI (enS t) = t)) (fun ks ih => ?_) ks
  intro hf t ht
  have hft := hf t ht
  have iht := ih t ht
  cases t with
  | mk l ls =>
    rw [fmT_iff] at hft
    have iht : ∀ u ∈ ls, deS (enS u) = u ∧ deI (enS u) = u := iht hft.2
    obtain ⟨hn1, hn2, hn3, hn4⟩ := name_ne rfl hft.1
    have hSL : deSL (enL ls) = ls := by
      rw [deSL_map, enL_map, List.map_map]
      exact (List.map_congr_left (g := id) fun u hu => (iht u hu).1).trans (List.map_id _)
    have hIL : deIL (enL ls) = ls := by
      rw [deIL_map, enL_map, List.map_map]
      exact (List.map_congr_left (g := id) fun u hu => (iht u hu).2).trans (List.map_id _)
    have hel : (enL ls).length = ls.length := enL_length ls
    have eS : ∀ (a : Sx) (r : List Sx), deSL (a :: r) = deS a :: deSL r := fun a r => by rw [deSL]
    have eI : ∀ (a : Sx) (r : List Sx), deIL (a :: r) = deI a :: deIL r := fun a r => by rw [deIL]
    have nS : deSL [] = [] := by rw [deSL]
    have nI : deIL [] = [] := by rw [deIL]
    have hAD : sAssoc ≠ sDyn := by decide
    have hDA : sDyn ≠ sAssoc := by decide
    have l1 : ∀ (a : Sx) (r : List Sx), labAt (a :: r) 0 = a.lab := fun _ _ => rfl
    have l2 : ∀ (a b : Sx) (r : List Sx), labAt (a :: b :: r) 1 = b.lab := fun _ _ _ => rfl
    have hlab : ∀ s : ByteArray, (at_ s).lab = s := fun _ => rfl
    have hnn : ∀ {a b : TLab} {x : List Tp}, a = b → Rose.mk a x = Rose.mk b x := fun h => by rw [h]
    have h0 : ∀ (k : Int), l.1 = k → (k, l.2) = l := fun k h => by rw [← h]
    rw [enS_eq]
    rcases hft.1 with ⟨h1 | h4, hnm, hn⟩ | ⟨h3, hnm, hn⟩ | ⟨h2, hk⟩
    · have hls : ls = [] := List.eq_nil_of_length_eq_zero hn
      subst hls
      rw [if_pos h1, deS_eq, deI_eq, if_pos (q_ne _), if_pos (q_ne _), quo_q, tl_q]
      exact ⟨hnn (h0 1 h1), hnn (h0 1 h1)⟩
    · have hls : ls = [] := List.eq_nil_of_length_eq_zero hn
      subst hls
      rw [if_neg (by omega), if_pos h4, deS_eq, deI_eq]
      simp only [ne_eq, not_true_eq_false, if_false, List.length_cons, List.length_nil, l1, l2, hlab, eS, eI, nS, nI, hDA, hAD, false_and, hn1, List.drop_succ_cons, List.drop_zero, and_self, if_true, not_false_eq_true, true_and]
      exact hnn (h0 4 h4)
    · rw [if_neg (by omega), if_neg (by omega), if_pos h3, deS_eq, deI_eq]
      simp only [ne_eq, not_true_eq_false, if_false, List.length_cons, l1, l2, hlab, eS, eI, hDA, hAD, hn1, hSL, hIL, List.drop_succ_cons, List.drop_zero, and_self, if_true, not_false_eq_true, true_and, hel, hn]
      exact hnn (h0 3 h3)
    · rw [if_neg (by omega), if_neg (by omega), if_neg (by omega)]
      by_cases h0' : ls.length = 0
      · have hls : ls = [] := List.eq_nil_of_length_eq_zero h0'
        subst hls
        rw [if_pos (show ([] : List Tp).length = 0 from rfl), deS_eq, deI_eq, if_pos hn1, if_pos hn1, hn4]
        exact ⟨hnn (h0 2 h2), hnn (h0 2 h2)⟩
      · rw [if_neg h0', deS_eq, deI_eq]
        have hlt : ¬ ((at_ l.2 :: enL ls).length < 2) := by simp only [List.length_cons, hel]; omega
        simp only [ne_eq, not_true_eq_false, if_false, hlt, l1, hlab, hn2, hn3, false_and, eS, eI, hSL, hIL, List.drop_succ_cons, List.drop_zero]
        first
          | exact ⟨hnn (h0 2 h2), hnn (h0 2 h2)⟩
          | exact hnn (h0 2 h2)

/-- The two readings answer alike where a reading is right. -/
theorem de_same (x : Sx) : (okT (deS x) ∧ enS (deS x) = x) ↔ (okT (deI x) ∧ enS (deI x) = x) := by
  constructor
  · rintro ⟨h1, h2⟩
    have := (de_en [deS x] (by simpa using h1.2.1) _ List.mem_cons_self).2
    rw [h2] at this
    rw [this]
    exact ⟨h1, h2⟩
  · rintro ⟨h1, h2⟩
    have := (de_en [deI x] (by simpa using h1.2.1) _ List.mem_cons_self).1
    rw [h2] at this
    rw [this]
    exact ⟨h1, h2⟩
theorem de_eq {x : Sx} (h : okT (deI x) ∧ enS (deI x) = x) : deS x = deI x := by
  have := (de_en [deI x] (by simpa using h.1.2.1) _ List.mem_cons_self).1
  rw [h.2] at this
  exact this
open Classical in
/-- What SExprToType answers. -/
noncomputable def stO (x : Sx) : Option Tp := if okT (deI x) ∧ enS (deI x) = x then some (deI x) else none
noncomputable def stT (x : Sx) : Tp := (stO x).getD (.mk (0, em) [])
end Go.Proofs.YtliigpmpeldebaaGreat
