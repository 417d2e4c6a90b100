/- Words of a text, and the trees that they stand for: plain, no program in sight. Conditions: none. -/
import Derived.Test.YtliigpmpeldebaaGreatJSxD
namespace Go.Proofs.YtliigpmpeldebaaGreat
open Go.RowKit

/-- A word. -/
inductive Wd where
  | lp
  | rp
  | at (a : List UInt8)

def atB (b : UInt8) : Bool := decide (AtomP b.toNat)
def blB (b : UInt8) : Bool := decide (b.toNat = 32 ∨ b.toNat = 10)
def flu (cur : List UInt8) (ts : List Wd) : List Wd := match cur with
  | [] => ts
  | c :: cs => .at (c :: cs) :: ts

/-- The words of a text; none where a byte is none's. -/
def lexA : List UInt8 → List UInt8 → Option (List Wd)
  | cur, [] => some (flu cur [])
  | cur, b :: bs => if atB b then lexA (cur ++ [b]) bs
    else if blB b then (lexA [] bs).map (flu cur)
    else if b.toNat = 40 then (lexA [] bs).map fun ts => flu cur (.lp :: ts)
    else if b.toNat = 41 then (lexA [] bs).map fun ts => flu cur (.rp :: ts)
    else none

theorem atB_f {b : UInt8} (h : ¬ AtomP b.toNat) : ¬ atB b = true := by simpa [atB] using h
theorem blB_f {b : UInt8} (h : ¬ (b.toNat = 32 ∨ b.toNat = 10)) : ¬ blB b = true := by simpa [blB] using h
theorem blB_t {b : UInt8} (h : b.toNat = 32 ∨ b.toNat = 10) : blB b = true := by simpa [blB] using h
theorem lexA_nil : lexA [] [] = some [] := by simp [lexA, flu]
theorem lexA_bl {b : UInt8} {bs cur : List UInt8} (h : blB b = true) : lexA cur (b :: bs) = (lexA [] bs).map (flu cur) := by
  have h' : b.toNat = 32 ∨ b.toNat = 10 := by simpa [blB] using h
  have h1 : ¬ atB b = true := atB_f (by unfold AtomP LowP DigP; omega)
  rw [lexA, if_neg h1, if_pos h]
theorem map_flu0 (o : Option (List Wd)) : o.map (flu []) = o := by cases o <;> rfl
theorem lexA_bl0 {b : UInt8} {bs : List UInt8} (h : blB b = true) : lexA [] (b :: bs) = lexA [] bs := by rw [lexA_bl h, map_flu0]
theorem lexA_lp {b : UInt8} {bs cur : List UInt8} (h : b.toNat = 40) : lexA cur (b :: bs) = (lexA [] bs).map fun ts => flu cur (.lp :: ts) := by
  have h1 : ¬ atB b = true := atB_f (by unfold AtomP LowP DigP; omega)
  have h2 : ¬ blB b = true := blB_f (by omega)
  rw [lexA, if_neg h1, if_neg h2, if_pos h]
theorem lexA_rp {b : UInt8} {bs cur : List UInt8} (h : b.toNat = 41) : lexA cur (b :: bs) = (lexA [] bs).map fun ts => flu cur (.rp :: ts) := by
  have h1 : ¬ atB b = true := atB_f (by unfold AtomP LowP DigP; omega)
  have h2 : ¬ blB b = true := blB_f (by omega)
  rw [lexA, if_neg h1, if_neg h2, if_neg (by omega), if_pos h]
theorem lexA_bad {b : UInt8} {bs cur : List UInt8} (h1 : ¬ AtomP b.toNat) (h2 : ¬ (b.toNat = 32 ∨ b.toNat = 10)) (h3 : b.toNat ≠ 40) (h4 : b.toNat ≠ 41) : lexA cur (b :: bs) = none := by
  rw [lexA, if_neg (atB_f h1), if_neg (blB_f h2), if_neg h3, if_neg h4]
/-- No byte of an atom stands first. -/
def Ends (r : List UInt8) : Prop := match r with
  | [] => True
  | b :: _ => atB b = false
theorem lexA_end {cur r : List UInt8} (h : Ends r) : lexA cur r = (lexA [] r).map (flu cur) := by
  cases r with
  | nil => simp [lexA, flu]
  | cons b bs =>
    have h1 : ¬ atB b = true := by simp only [Ends] at h; simp [h]
    rw [lexA, lexA, if_neg h1, if_neg h1]
    split
    · rw [map_flu0]
    · split
      · cases lexA [] bs <;> simp [flu]
      · split
        · cases lexA [] bs <;> simp [flu]
        · rfl
theorem lexA_run : ∀ {a cur r : List UInt8}, (∀ b ∈ a, atB b = true) → lexA cur (a ++ r) = lexA (cur ++ a) r
  | [], cur, r, _ => by simp
  | b :: a, cur, r, h => by
    rw [List.cons_append, lexA, if_pos (h b List.mem_cons_self), lexA_run fun x hx => h x (List.mem_cons_of_mem _ hx)]
    simp
/-- An atom, then what stands behind it. -/
theorem lexA_at {a r : List UInt8} (h : ∀ b ∈ a, atB b = true) (h0 : a ≠ []) (he : Ends r) : lexA [] (a ++ r) = (lexA [] r).map (Wd.at a :: ·) := by
  rw [lexA_run h, List.nil_append, lexA_end he]
  cases a with
  | nil => exact absurd rfl h0
  | cons b a => rfl

mutual
/-- The words of a tree. -/
def rnS : Sx → List Wd
  | .mk l ks => if l = em then .lp :: (rnL ks ++ [.rp]) else [.at l.data.toList]
def rnL : List Sx → List Wd
  | [] => []
  | k :: ks => rnS k ++ rnL ks
end
theorem rnS_list {l : ByteArray} {ks : List Sx} (h : l = em) : rnS (.mk l ks) = .lp :: (rnL ks ++ [.rp]) := by rw [rnS, if_pos h]
theorem rnS_atom {l : ByteArray} {ks : List Sx} (h : l ≠ em) : rnS (.mk l ks) = [.at l.data.toList] := by rw [rnS, if_neg h]
theorem rnL_nil : rnL [] = [] := by rw [rnL]
theorem rnL_cons (k : Sx) (ks : List Sx) : rnL (k :: ks) = rnS k ++ rnL ks := by rw [rnL]
theorem rnL_append (xs ys : List Sx) : rnL (xs ++ ys) = rnL xs ++ rnL ys := by
  induction xs with
  | nil => simp [rnL_nil]
  | cons x xs ih => simp only [List.cons_append, rnL_cons, ih, List.append_assoc]
theorem rnL_one (k : Sx) : rnL [k] = rnS k := by rw [rnL_cons, rnL_nil, List.append_nil]
mutual
/-- Atoms have no list. -/
def wsS : Sx → Prop
  | .mk l ks => if l = em then wsL ks else ks = []
def wsL : List Sx → Prop
  | [] => True
  | k :: ks => wsS k ∧ wsL ks
end
theorem wsL_iff (ks : List Sx) : wsL ks ↔ ∀ t ∈ ks, wsS t := by
  induction ks with
  | nil => simp [wsL]
  | cons k ks ih => simp [wsL, ih]
theorem wsS_list {l : ByteArray} {ks : List Sx} (h : l = em) : wsS (.mk l ks) ↔ wsL ks := by rw [wsS, if_pos h]
theorem wsS_atom {l : ByteArray} {ks : List Sx} (h : l ≠ em) : wsS (.mk l ks) ↔ ks = [] := by rw [wsS, if_neg h]
theorem ws_of_fm (ks : List Sx) : (∀ t ∈ ks, fmS t) → wsL ks := by
  refine Rose.forest (p := fun ks => (∀ t ∈ ks, fmS t) → wsL ks) (fun ks ih h => (wsL_iff ks).2 fun t ht => ?_) ks
  have h1 := h t ht
  have h2 := ih t ht
  cases t with
  | mk l ls =>
    by_cases e : l = em
    · exact (wsS_list e).2 (h2 ((fmS_list e).1 h1))
    · exact (wsS_atom e).2 ((fmS_atom e).1 h1).2
theorem wsS_of_fm {t : Sx} (h : fmS t) : wsS t := (wsL_iff [t]).1 (ws_of_fm [t] (by simpa using h)) t (by simp)
theorem rnS_ne_rp {t : Sx} {T U : List Wd} : rnS t ++ T ≠ .rp :: U := by
  cases t with
  | mk l ks =>
    by_cases e : l = em
    · rw [rnS_list e]; simp
    · rw [rnS_atom e]; simp
theorem rnS_ne_nil {t : Sx} : rnS t ≠ [] := by
  cases t with
  | mk l ks =>
    by_cases e : l = em
    · rw [rnS_list e]; simp
    · rw [rnS_atom e]; simp
def Cnl (xs : List Sx) : Prop := wsL xs → ∀ (ys : List Sx) (T U : List Wd), wsL ys → rnL xs ++ T = rnL ys ++ .rp :: U → ∃ zs, ys = xs ++ zs ∧ T = rnL zs ++ .rp :: U
theorem cnl1 {x y : Sx} {T U : List Wd} (ih : Cnl x.kids) (hx : wsS x) (hy : wsS y) (h : rnS x ++ T = rnS y ++ U) : x = y ∧ T = U := by
  cases x with
  | mk l ks =>
    cases y with
    | mk m ls =>
      by_cases e1 : l = em
      · by_cases e2 : m = em
        · rw [rnS_list e1, rnS_list e2] at h
          simp only [List.cons_append, List.append_assoc, List.nil_append, List.cons.injEq, true_and] at h
          obtain ⟨zs, h1, h2⟩ := ih ((wsS_list e1).1 hx) ls _ _ ((wsS_list e2).1 hy) h
          cases zs with
          | nil =>
            rw [rnL_nil, List.nil_append] at h2
            simp only [List.cons.injEq, true_and] at h2
            simp only [Rose.kids, List.append_nil] at h1
            exact ⟨by rw [e1, e2, h1], h2⟩
          | cons z zs =>
            rw [rnL_cons, List.append_assoc] at h2
            exact absurd h2.symm rnS_ne_rp
        · rw [rnS_list e1, rnS_atom e2] at h; simp at h
      · by_cases e2 : m = em
        · rw [rnS_atom e1, rnS_list e2] at h; simp at h
        · rw [rnS_atom e1, rnS_atom e2] at h
          simp only [List.cons_append, List.nil_append, List.cons.injEq, Wd.at.injEq] at h
          have : l = m := by
            have := h.1
            cases l; cases m
            simp only at this
            rw [Array.toList_inj.1 this]
          rw [(wsS_atom e1).1 hx, (wsS_atom e2).1 hy, this]
          exact ⟨rfl, h.2⟩
theorem cnl (xs : List Sx) : Cnl xs := by
  refine Rose.forest (p := Cnl) (fun xs ih => ?_) xs
  induction xs with
  | nil => intro _ ys T U _ h; exact ⟨ys, rfl, by simpa [rnL_nil] using h⟩
  | cons x xs ihx =>
    intro hx ys T U hy h
    rw [rnL_cons, List.append_assoc] at h
    cases ys with
    | nil => rw [rnL_nil, List.nil_append] at h; exact absurd h rnS_ne_rp
    | cons y ys =>
      rw [rnL_cons, List.append_assoc] at h
      simp only [wsL] at hx hy
      obtain ⟨rfl, h2⟩ := cnl1 (ih x List.mem_cons_self) hx.1 hy.1 h
      obtain ⟨zs, h3, h4⟩ := ihx (fun t ht => ih t (List.mem_cons_of_mem _ ht)) hx.2 ys T U hy.2 h2
      exact ⟨zs, by rw [h3]; rfl, h4⟩
theorem cnlS {x y : Sx} {T U : List Wd} (hx : wsS x) (hy : wsS y) (h : rnS x ++ T = rnS y ++ U) : x = y ∧ T = U := cnl1 (cnl _) hx hy h
theorem cnlL {xs ys : List Sx} (hx : wsL xs) (hy : wsL ys) (h : rnL xs = rnL ys) : xs = ys := by
  obtain ⟨zs, h1, h2⟩ := cnl xs hx ys [.rp] [] hy (by rw [h])
  cases zs with
  | nil => simpa using h1.symm
  | cons z zs => rw [rnL_cons, List.append_assoc] at h2; exact absurd h2.symm rnS_ne_rp

/-- The words of a text are the words of x, and x is valid. -/
def Prs (s : List UInt8) (x : Sx) : Prop := lexA [] s = some (rnS x) ∧ okS x
theorem Prs.uniq {s : List UInt8} {x y : Sx} (h : Prs s x) (k : Prs s y) : x = y := by
  have e := h.1.symm.trans k.1
  simp only [Option.some.injEq] at e
  exact (cnlS (T := []) (U := []) (wsS_of_fm h.2.2.1) (wsS_of_fm k.2.2.1) (by rw [e])).1

/-- How deep the words stand. -/
def bal : List Wd → Int
  | [] => 0
  | .lp :: r => bal r + 1
  | .rp :: r => bal r - 1
  | .at _ :: r => bal r
theorem bal_append (a b : List Wd) : bal (a ++ b) = bal a + bal b := by
  induction a with
  | nil => simp [bal]
  | cons x a ih => cases x <;> simp only [List.cons_append, bal, ih] <;> omega
theorem bal_rnL (ks : List Sx) : bal (rnL ks) = 0 := by
  refine Rose.forest (p := fun ks => bal (rnL ks) = 0) (fun ks ih => ?_) ks
  induction ks with
  | nil => rw [rnL_nil, bal]
  | cons k ks ihk =>
    have h1 := ih k List.mem_cons_self
    have h2 := ihk fun t ht => ih t (List.mem_cons_of_mem _ ht)
    rw [rnL_cons, bal_append, h2]
    cases k with
    | mk l ls =>
      by_cases e : l = em
      · rw [rnS_list e]
        have h1 : bal (rnL ls) = 0 := h1
        simp only [bal, bal_append, h1]
        omega
      · rw [rnS_atom e]; simp [bal]
theorem bal_rnS (k : Sx) : bal (rnS k) = 0 := by rw [← rnL_one]; exact bal_rnL _
def PreB (ks : List Sx) : Prop := ∀ p q, p ++ q = rnL ks → 0 ≤ bal p ∧ bal p ≤ dpSL ks
theorem preS {k : Sx} (ih : PreB k.kids) {p q : List Wd} (h : p ++ q = rnS k) : 0 ≤ bal p ∧ bal p ≤ dpS k := by
  cases k with
  | mk l ls =>
    by_cases e : l = em
    · rw [rnS_list e] at h
      rw [dpS_list e]
      cases p with
      | nil => simp only [bal]; omega
      | cons x p =>
        simp only [List.cons_append, List.cons.injEq] at h
        obtain ⟨rfl, h⟩ := h
        rcases List.append_eq_append_iff.1 h with ⟨a, h1, h2⟩ | ⟨c, h1, h2⟩
        · have := ih p a h1.symm
          simp only [bal, Rose.kids] at this ⊢
          omega
        · have hb := bal_rnL ls
          cases c with
          | nil =>
            rw [List.append_nil] at h1
            rw [h1]
            simp only [bal, hb]
            omega
          | cons y c =>
            simp only [List.cons_append, List.cons.injEq] at h2
            obtain ⟨rfl, h2⟩ := h2
            have : c = [] := by
              have := congrArg List.length h2
              simp at this
              exact List.eq_nil_of_length_eq_zero (by omega)
            subst this
            rw [h1]
            simp only [bal, bal_append, hb]
            omega
    · rw [rnS_atom e] at h
      rw [dpS_atom e]
      cases p with
      | nil => simp [bal]
      | cons x p =>
        simp only [List.cons_append, List.cons.injEq] at h
        obtain ⟨rfl, h⟩ := h
        have : p = [] := (List.append_eq_nil_iff.1 h).1
        subst this
        simp [bal]
theorem preL (ks : List Sx) : PreB ks := by
  refine Rose.forest (p := PreB) (fun ks ih => ?_) ks
  induction ks with
  | nil =>
    intro p q h
    rw [rnL_nil] at h
    have : p = [] := (List.append_eq_nil_iff.1 h).1
    subst this
    simp [bal]
  | cons k ks ihk =>
    intro p q h
    have h2 := ihk fun t ht => ih t (List.mem_cons_of_mem _ ht)
    rw [rnL_cons] at h
    rw [dpSL_cons]
    rcases List.append_eq_append_iff.1 h with ⟨a, h3, h4⟩ | ⟨c, h3, h4⟩
    · have := preS (ih k List.mem_cons_self) (p := p) (q := a) h3.symm
      omega
    · have := h2 c q h4.symm
      rw [h3, bal_append, bal_rnS]
      omega
theorem pre_rn {k : Sx} {p q : List Wd} (h : p ++ q = rnS k) : 0 ≤ bal p ∧ bal p ≤ dpS k := preS (preL _) h
theorem rnL_len (ks : List Sx) : (rnL ks).length ≤ 2 * Rose.cnt ks := by
  refine Rose.forest (p := fun ks => (rnL ks).length ≤ 2 * Rose.cnt ks) (fun ks ih => ?_) ks
  induction ks with
  | nil => simp [rnL_nil]
  | cons k ks ihk =>
    have h1 := ih k List.mem_cons_self
    have h2 := ihk fun t ht => ih t (List.mem_cons_of_mem _ ht)
    rw [rnL_cons, List.length_append]
    show _ ≤ 2 * Rose.wtL _ _
    rw [Rose.wtL_cons]
    have h2 : (rnL ks).length ≤ 2 * Rose.wtL (fun _ => 0) ks := h2
    have h3 : (rnS k).length ≤ 2 * (1 + Rose.wtL (fun _ => 0) k.kids) := by
      cases k with
      | mk l ls =>
        have h1 : (rnL ls).length ≤ 2 * Rose.wtL (fun _ => 0) ls := h1
        show _ ≤ 2 * (1 + Rose.wtL (fun _ => 0) ls)
        by_cases e : l = em
        · rw [rnS_list e]
          simp only [List.length_cons, List.length_append, List.length_nil]
          omega
        · rw [rnS_atom e]
          simp
          omega
    omega
theorem rnS_len (k : Sx) : (rnS k).length ≤ 2 * (1 + Rose.cnt k.kids) := by
  have := rnL_len [k]
  rw [rnL_one] at this
  have h : Rose.cnt [k] = 1 + Rose.cnt k.kids := by
    show Rose.wtL _ _ = _
    rw [Rose.wtL_cons, Rose.wtL_nil]
    show _ = 1 + Rose.wtL _ _
    omega
  omega
theorem cnt_le_rnL (ks : List Sx) : wsL ks → Rose.cnt ks ≤ (rnL ks).length := by
  refine Rose.forest (p := fun ks => wsL ks → Rose.cnt ks ≤ (rnL ks).length) (fun ks ih => ?_) ks
  induction ks with
  | nil => intro _; simp [cnt_nil]
  | cons k ks ihk =>
    intro hw
    simp only [wsL] at hw
    have h1 := ih k List.mem_cons_self
    have h2 := ihk (fun t ht => ih t (List.mem_cons_of_mem _ ht)) hw.2
    rw [rnL_cons, List.length_append]
    show Rose.wtL _ _ ≤ _
    rw [Rose.wtL_cons]
    have h2 : Rose.wtL (fun _ => 0) ks ≤ (rnL ks).length := h2
    have h3 : 1 + Rose.wtL (fun _ => 0) k.kids ≤ (rnS k).length := by
      cases k with
      | mk l ls =>
        show 1 + Rose.wtL (fun _ => 0) ls ≤ _
        by_cases e : l = em
        · have h1 : Rose.wtL (fun _ => 0) ls ≤ (rnL ls).length := h1 ((wsS_list e).1 hw.1)
          rw [rnS_list e]
          simp only [List.length_cons, List.length_append, List.length_nil]
          omega
        · rw [rnS_atom e, (wsS_atom e).1 hw.1, Rose.wtL_nil]
          simp
    omega

open Classical in
/-- The tree that a text stands for. -/
noncomputable def prO (s : List UInt8) : Option Sx := if h : ∃ x, Prs s x then some (Classical.choose h) else none
theorem prO_some {s : List UInt8} {x : Sx} (h : Prs s x) : prO s = some x := by
  unfold prO
  rw [dif_pos ⟨x, h⟩, (Classical.choose_spec (⟨x, h⟩ : ∃ x, Prs s x)).uniq h]
theorem prO_none {s : List UInt8} (h : ∀ x, ¬ Prs s x) : prO s = none := by
  unfold prO
  rw [dif_neg fun ⟨x, hx⟩ => h x hx]
theorem prO_eq {s t : List UInt8} (h : lexA [] s = lexA [] t) : prO s = prO t := by
  have : Prs s = Prs t := by funext x; unfold Prs; rw [h]
  unfold prO
  rw [this]
theorem prO_prs {s : List UInt8} {x : Sx} (h : prO s = some x) : Prs s x := by
  unfold prO at h
  split at h
  · rename_i hx
    simp only [Option.some.injEq] at h
    rw [← h]
    exact Classical.choose_spec hx
  · cases h
theorem lexA_tail : ∀ (s cur : List UInt8), lexA cur (s ++ [32, 10]) = lexA cur s
  | [], cur => by
    rw [List.nil_append, lexA_bl (by decide), lexA_bl0 (by decide), lexA_nil]
    simp [lexA]
  | b :: s, cur => by
    rw [List.cons_append, lexA, lexA, lexA_tail s, lexA_tail s]
end Go.Proofs.YtliigpmpeldebaaGreat
