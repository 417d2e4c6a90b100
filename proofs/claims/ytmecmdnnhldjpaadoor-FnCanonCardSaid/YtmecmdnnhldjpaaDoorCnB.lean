/- Alpha equivalence, plain: canonical forms are one if each type matches the other. Conditions: none. -/
import Derived.Test.YtmecmdnnhldjpaaDoorJNumD
import Derived.Test.YtmecmdnnhldjpaaDoorJBdO
import Derived.Test.YtmecmdnnhldjpaaDoorBdI
namespace Go.Proofs.YtmecmdnnhldjpaaDoor
open Go.RowKit

mutual
/-- A variable has no arguments. -/
def vwT : Tp → Prop
  | .mk l ks => (l.1 = 1 → ks = []) ∧ vwL ks
def vwL : List Tp → Prop
  | [] => True
  | k :: ks => vwT k ∧ vwL ks
end
theorem vwT_eq (l : TLab) (ks : List Tp) : vwT (.mk l ks) ↔ (l.1 = 1 → ks = []) ∧ vwL ks := by rw [vwT]
theorem vwL_cons (k : Tp) (ks : List Tp) : vwL (k :: ks) ↔ vwT k ∧ vwL ks := by rw [vwL]
theorem vwL_nil : vwL [] := by rw [vwL]; trivial
theorem vwL_iff (ks : List Tp) : vwL ks ↔ ∀ t ∈ ks, vwT t := by
  induction ks with
  | nil => simp [vwL_nil]
  | cons k ks ih => rw [vwL_cons, ih]; simp

abbrev Prs2 : Type := List (ByteArray × ByteArray)
mutual
/-- Are the two alike but for their variables? Which stand at the same places? -/
inductive ZT : Tp → Tp → Prs2 → Prop
  | var (x y : ByteArray) : ZT (.mk (1, x) []) (.mk (1, y) []) [(x, y)]
  | con {l : TLab} {ks ls : List Tp} {ps : Prs2} (h : l.1 ≠ 1) (hk : ZL ks ls ps) : ZT (.mk l ks) (.mk l ls) ps
inductive ZL : List Tp → List Tp → Prs2 → Prop
  | nil : ZL [] [] []
  | cons {k m : Tp} {ks ls : List Tp} {p q : Prs2} (h : ZT k m p) (hk : ZL ks ls q) : ZL (k :: ks) (m :: ls) (p ++ q)
end
/-- Each goes with one. -/
def Bif (ps : Prs2) : Prop := ∀ a ∈ ps, ∀ b ∈ ps, a.1 = b.1 ↔ a.2 = b.2

/-- A variable's image. -/
def im (xs : List Bi) (x : ByteArray) : Tp := apT xs (.mk (1, x) [])
theorem im_eq (xs : List Bi) (x : ByteArray) : im xs x = (lookO x xs).getD (.mk (1, x) []) := by
  unfold im
  rw [apT_eq, if_pos rfl, apL]
theorem lab1 {l : TLab} (h : l.1 = 1) : l = (1, l.2) := by rw [← h]
theorem apL_nil (xs : List Bi) : apL xs [] = [] := by rw [apL]

/-- Each is the other's image: they are alike. -/
def InvL (ks : List Tp) : Prop := ∀ (ls : List Tp) (σ τ : List Bi), vwL ks → vwL ls → apL σ ks = ls → apL τ ls = ks → ∃ ps, ZL ks ls ps ∧ ∀ a ∈ ps, im σ a.1 = .mk (1, a.2) [] ∧ im τ a.2 = .mk (1, a.1) []
theorem inv_one {k m : Tp} (ih : InvL k.kids) {σ τ : List Bi} (hk : vwT k) (hm : vwT m) (h1 : apT σ k = m) (h2 : apT τ m = k) : ∃ ps, ZT k m ps ∧ ∀ a ∈ ps, im σ a.1 = .mk (1, a.2) [] ∧ im τ a.2 = .mk (1, a.1) [] := by
  obtain ⟨l, ks⟩ := k
  obtain ⟨l2, ls⟩ := m
  rw [vwT_eq] at hk hm
  by_cases hl : l.1 = 1
  · obtain rfl : ks = [] := hk.1 hl
    by_cases hl2 : l2.1 = 1
    · obtain rfl : ls = [] := hm.1 hl2
      rw [lab1 hl, lab1 hl2] at h1 h2 ⊢
      exact ⟨_, ZT.var _ _, fun a ha => by
        obtain rfl := List.mem_singleton.1 ha
        exact ⟨h1, h2⟩⟩
    · rw [apT_eq, if_neg hl2] at h2
      have : l2 = l := congrArg Rose.lab h2
      exact absurd (this ▸ hl) hl2
  · rw [apT_eq, if_neg hl] at h1
    obtain rfl : l = l2 := congrArg Rose.lab h1
    have e1 : apL σ ks = ls := congrArg Rose.kids h1
    rw [apT_eq, if_neg hl] at h2
    have e2 : apL τ ls = ks := congrArg Rose.kids h2
    obtain ⟨ps, h3, h4⟩ := ih ls σ τ hk.2 hm.2 e1 e2
    exact ⟨ps, ZT.con hl h3, h4⟩
theorem inv_all (ks : List Tp) : InvL ks := by
  refine Rose.forest (p := InvL) (fun ks ih => ?_) ks
  induction ks with
  | nil =>
    intro ls σ τ _ _ h1 h2
    rw [apL_nil] at h1
    subst h1
    exact ⟨[], ZL.nil, by simp⟩
  | cons k ks ihk =>
    intro ls σ τ hk hl h1 h2
    rw [apL_cons] at h1
    subst h1
    rw [apL_cons] at h2
    rw [vwL_cons] at hk hl
    obtain ⟨e1, e2⟩ := List.cons.inj h2
    obtain ⟨p, h3, h4⟩ := inv_one (ih k List.mem_cons_self) hk.1 hl.1 rfl e1
    obtain ⟨q, h5, h6⟩ := ihk (fun t ht => ih t (List.mem_cons_of_mem _ ht)) _ σ τ hk.2 hl.2 rfl e2
    exact ⟨p ++ q, ZL.cons h3 h5, fun a ha => (List.mem_append.1 ha).elim (h4 a) (h6 a)⟩
theorem bif_of {ps : Prs2} {f g : ByteArray → Tp} (h : ∀ a ∈ ps, f a.1 = .mk (1, a.2) [] ∧ g a.2 = .mk (1, a.1) []) : Bif ps := fun a ha b hb => by
  constructor
  · intro e
    have h1 := (h a ha).1
    rw [e, (h b hb).1] at h1
    have := congrArg (fun t : Tp => t.lab.2) h1
    exact this.symm
  · intro e
    have h1 := (h a ha).2
    rw [e, (h b hb).2] at h1
    have := congrArg (fun t : Tp => t.lab.2) h1
    exact this.symm
/-- Mutual matches: alike, each variable with one. -/
theorem mutual_z {a b : Tp} (ha : vwT a) (hb : vwT b) {s t : List Bi} (h1 : mAll [a] [b] [] = some s) (h2 : mAll [b] [a] [] = some t) : ∃ ps, ZT a b ps ∧ Bif ps := by
  have e1 := mAll_ap h1
  have e2 := mAll_ap h2
  rw [apL_cons, apL_nil] at e1 e2
  obtain ⟨ps, h3, h4⟩ := inv_one (inv_all _) ha hb (List.cons.inj e1).1 (List.cons.inj e2).1
  exact ⟨ps, h3, bif_of h4⟩

/-- Alike: it matches. -/
def MatL (ks : List Tp) : Prop := ∀ (ls : List Tp) (ps PS : Prs2) (xs : List Bi), ZL ks ls ps → (∀ a ∈ ps, a ∈ PS) → (∀ a ∈ PS, ∀ b ∈ PS, a.1 = b.1 → a.2 = b.2) → (∀ x ∈ xs, ∃ y, (x.1, y) ∈ PS ∧ x.2 = .mk (1, y) []) → ∃ ys, matchL ks ls xs = some ys ∧ ∀ x ∈ ys, ∃ y, (x.1, y) ∈ PS ∧ x.2 = .mk (1, y) []
theorem lookO_mem {s : ByteArray} {u : Tp} : ∀ {xs : List Bi}, lookO s xs = some u → (s, u) ∈ xs
  | [], h => by cases h
  | y :: ys, h => by
    simp only [lookO] at h
    by_cases e : y.1 = s
    · rw [if_pos e] at h
      obtain rfl : y.2 = u := Option.some.inj h
      rw [← e]
      exact List.mem_cons_self
    · rw [if_neg e] at h
      exact List.mem_cons_of_mem _ (lookO_mem h)
theorem mat_one {k m : Tp} (ih : MatL k.kids) {ps PS : Prs2} {xs : List Bi} (hz : ZT k m ps) (hsub : ∀ a ∈ ps, a ∈ PS) (hf : ∀ a ∈ PS, ∀ b ∈ PS, a.1 = b.1 → a.2 = b.2) (hx : ∀ x ∈ xs, ∃ y, (x.1, y) ∈ PS ∧ x.2 = .mk (1, y) []) : ∃ ys, matchT k m xs = some ys ∧ ∀ x ∈ ys, ∃ y, (x.1, y) ∈ PS ∧ x.2 = .mk (1, y) [] := by
  rw [matchT_eq]
  cases hz with
  | var x y =>
    have hxy : (x, y) ∈ PS := hsub _ List.mem_cons_self
    rw [if_pos (show (Rose.mk ((1 : Int), x) ([] : List Tp)).lab.1 = 1 from rfl)]
    cases hl : lookO (Rose.mk ((1 : Int), x) ([] : List Tp)).lab.2 xs with
    | some u =>
      obtain ⟨y', h1, h2⟩ := hx _ (lookO_mem hl)
      have h2 : u = .mk (1, y') [] := h2
      have e : y' = y := hf _ h1 _ hxy rfl
      simp only
      rw [if_pos (by rw [h2, e])]
      exact ⟨xs, rfl, hx⟩
    | none =>
      refine ⟨_, rfl, fun z hz => ?_⟩
      rcases List.mem_append.1 hz with hz | hz
      · exact hx z hz
      · obtain rfl := List.mem_singleton.1 hz
        exact ⟨y, hxy, rfl⟩
  | @con l ks ls _ h hk =>
    rw [if_neg (show ¬ (Rose.mk l ks).lab.1 = 1 from h)]
    have hlen : ∀ {ks ls : List Tp} {q : Prs2}, ZL ks ls q → ks.length = ls.length := by
      intro ks
      induction ks with
      | nil => intro ls q h; cases h; rfl
      | cons k ks ih => intro ls q h; cases h with | cons h1 h2 => simp only [List.length_cons, ih h2]
    rw [if_pos ⟨rfl, hlen hk⟩]
    exact ih _ _ _ _ hk hsub hf hx
theorem mat_all (ks : List Tp) : MatL ks := by
  refine Rose.forest (p := MatL) (fun ks ih => ?_) ks
  induction ks with
  | nil =>
    intro ls ps PS xs hz _ _ hx
    cases hz
    exact ⟨xs, by simp [matchL], hx⟩
  | cons k ks ihk =>
    intro ls ps PS xs hz hsub hf hx
    cases hz with
    | @cons _ m _ ls p q h hk =>
      obtain ⟨ys, h1, h2⟩ := mat_one (ih k List.mem_cons_self) h (fun a ha => hsub a (List.mem_append_left _ ha)) hf hx
      obtain ⟨zs, h3, h4⟩ := ihk (fun t ht => ih t (List.mem_cons_of_mem _ ht)) ls q PS ys hk (fun a ha => hsub a (List.mem_append_right _ ha)) hf h2
      exact ⟨zs, by rw [matchL_cons, h1]; exact h3, h4⟩
theorem z_match {a b : Tp} {ps : Prs2} (hz : ZT a b ps) (hb : Bif ps) : (mAll [a] [b] []).isSome = true := by
  obtain ⟨ys, h1, _⟩ := mat_one (mat_all _) hz (fun _ h => h) (fun a ha b hb' e => (hb a ha b hb').1 e) (xs := []) (by simp)
  have : mAll [a] [b] [] = some ys := by
    unfold mAll
    rw [if_pos (show [a].length = [b].length from rfl), matchL_cons, h1]
    simp [matchL]
  rw [this]
  rfl

mutual
theorem ZT.symm : ∀ {a b : Tp} {ps : Prs2}, ZT a b ps → ZT b a (ps.map Prod.swap)
  | _, _, _, .var x y => ZT.var y x
  | _, _, _, .con h hk => ZT.con h hk.symm
theorem ZL.symm : ∀ {ks ls : List Tp} {ps : Prs2}, ZL ks ls ps → ZL ls ks (ps.map Prod.swap)
  | _, _, _, .nil => ZL.nil
  | _, _, _, .cons h hk => by rw [List.map_append]; exact ZL.cons h.symm hk.symm
end
theorem Bif.symm {ps : Prs2} (h : Bif ps) : Bif (ps.map Prod.swap) := fun a ha b hb => by
  obtain ⟨c, hc, rfl⟩ := List.mem_map.1 ha
  obtain ⟨d, hd, rfl⟩ := List.mem_map.1 hb
  exact (h c hc d hd).symm

/- ## Canonical forms -/
/-- Images under renamings. -/
def VarIm (xs : List Bi) : Prop := ∀ x, (im xs x).lab.1 = 1 ∧ (im xs x).kids = []
def EqL (ks : List Tp) : Prop := ∀ (ls : List Tp) (ρ ρ' : List Bi), VarIm ρ → VarIm ρ' → vwL ks → vwL ls → apL ρ ks = apL ρ' ls → ∃ ps, ZL ks ls ps ∧ ∀ a ∈ ps, im ρ a.1 = im ρ' a.2
theorem eq_one {k m : Tp} (ih : EqL k.kids) {ρ ρ' : List Bi} (hv : VarIm ρ) (hv' : VarIm ρ') (hk : vwT k) (hm : vwT m) (h : apT ρ k = apT ρ' m) : ∃ ps, ZT k m ps ∧ ∀ a ∈ ps, im ρ a.1 = im ρ' a.2 := by
  obtain ⟨l, ks⟩ := k
  obtain ⟨l2, ls⟩ := m
  rw [vwT_eq] at hk hm
  by_cases hl : l.1 = 1
  · obtain rfl : ks = [] := hk.1 hl
    have e1 := lab1 hl
    by_cases hl2 : l2.1 = 1
    · obtain rfl : ls = [] := hm.1 hl2
      have e2 := lab1 hl2
      rw [e1, e2] at h ⊢
      exact ⟨_, ZT.var _ _, fun a ha => by
        obtain rfl := List.mem_singleton.1 ha
        exact h⟩
    · exfalso
      rw [apT_eq ρ' l2, if_neg hl2, e1] at h
      have := (hv l.2).1
      unfold im at this
      rw [h] at this
      exact hl2 this
  · by_cases hl2 : l2.1 = 1
    · exfalso
      obtain rfl : ls = [] := hm.1 hl2
      rw [apT_eq ρ l, if_neg hl, lab1 hl2] at h
      have := (hv' l2.2).1
      unfold im at this
      rw [← h] at this
      exact hl this
    · rw [apT_eq, apT_eq, if_neg hl, if_neg hl2] at h
      obtain rfl : l = l2 := congrArg Rose.lab h
      have e1 : apL ρ ks = apL ρ' ls := congrArg Rose.kids h
      obtain ⟨ps, h3, h4⟩ := ih ls ρ ρ' hv hv' hk.2 hm.2 e1
      exact ⟨ps, ZT.con hl h3, h4⟩
theorem eq_all (ks : List Tp) : EqL ks := by
  refine Rose.forest (p := EqL) (fun ks ih => ?_) ks
  induction ks with
  | nil =>
    intro ls ρ ρ' _ _ _ _ h
    cases ls with
    | nil => exact ⟨[], ZL.nil, by simp⟩
    | cons m ls => rw [apL_nil, apL_cons] at h; cases h
  | cons k ks ihk =>
    intro ls ρ ρ' hv hv' hk hl h
    cases ls with
    | nil => rw [apL_nil, apL_cons] at h; cases h
    | cons m ls =>
      rw [apL_cons, apL_cons] at h
      obtain ⟨h1, h2⟩ := List.cons.inj h
      rw [vwL_cons] at hk hl
      obtain ⟨p, h3, h4⟩ := eq_one (ih k List.mem_cons_self) hv hv' hk.1 hl.1 h1
      obtain ⟨q, h5, h6⟩ := ihk (fun t ht => ih t (List.mem_cons_of_mem _ ht)) ls ρ ρ' hv hv' hk.2 hl.2 h2
      exact ⟨p ++ q, ZL.cons h3 h5, fun a ha => (List.mem_append.1 ha).elim (h4 a) (h6 a)⟩
mutual
theorem z_ap {ρ ρ' : List Bi} : ∀ {a b : Tp} {ps : Prs2}, ZT a b ps → (∀ c ∈ ps, im ρ c.1 = im ρ' c.2) → apT ρ a = apT ρ' b
  | _, _, _, .var x y, h => h (x, y) List.mem_cons_self
  | _, _, _, .con hl hk, h => by rw [apT_eq, apT_eq, if_neg hl, if_neg hl, z_apL hk h]
theorem z_apL {ρ ρ' : List Bi} : ∀ {ks ls : List Tp} {ps : Prs2}, ZL ks ls ps → (∀ c ∈ ps, im ρ c.1 = im ρ' c.2) → apL ρ ks = apL ρ' ls
  | _, _, _, .nil, _ => by rw [apL_nil, apL_nil]
  | _, _, _, .cons h1 h2, h => by
    rw [apL_cons, apL_cons, z_ap h1 (fun c hc => h c (List.mem_append_left _ hc)), z_apL h2 (fun c hc => h c (List.mem_append_right _ hc))]
end

/-- The names of the variables, in order. -/
def nms (xs : List TLab) : List ByteArray := (xs.filter isV).map (·.2)
theorem nms_append (xs ys : List TLab) : nms (xs ++ ys) = nms xs ++ nms ys := by simp [nms]
theorem isV_var (x : ByteArray) : isV (1, x) = true := by simp [isV]
theorem isV_no {l : TLab} (h : l.1 ≠ 1) : isV l = false := by simp [isV, h]
mutual
theorem z_fst : ∀ {a b : Tp} {ps : Prs2}, ZT a b ps → nms (Rose.preL [a]) = ps.map (·.1)
  | _, _, _, .var x y => by
    rw [Rose.preL_cons, Rose.preL_nil]
    simp [nms, Rose.lab, Rose.kids, Rose.preL_nil, isV_var]
  | _, _, _, @ZT.con l ks ls ps hl hk => by
    rw [Rose.preL_cons, Rose.preL_nil, List.append_nil]
    show nms (l :: Rose.preL ks) = _
    rw [← z_fstL hk]
    simp [nms, isV_no hl]
theorem z_fstL : ∀ {ks ls : List Tp} {ps : Prs2}, ZL ks ls ps → nms (Rose.preL ks) = ps.map (·.1)
  | _, _, _, .nil => by rw [Rose.preL_nil]; rfl
  | _, _, _, @ZL.cons k m ks ls p q h hk => by
    rw [show k :: ks = [k] ++ ks from rfl, Rose.preL_append, nms_append, z_fst h, z_fstL hk, List.map_append]
end
theorem z_snd {a b : Tp} {ps : Prs2} (h : ZT a b ps) : nms (Rose.preL [b]) = ps.map (·.2) := by
  rw [z_fst h.symm, List.map_map]
  rfl
theorem coll_nms : ∀ (xs : List TLab) (out : List ByteArray), coll isV xs out = (nms xs).foldl (fun o x => if has o x = true then o else o ++ [x]) out
  | [], out => rfl
  | x :: xs, out => by
    rw [coll_cons, coll_nms xs]
    by_cases hq : isV x = true
    · have e : nms (x :: xs) = x.2 :: nms xs := by simp [nms, hq]
      rw [e, List.foldl_cons]
      congr 1
      by_cases hh : has out x.2 = true
      · rw [if_pos hh, coll_f (by simp [hh])]
      · have hh' : has out x.2 = false := by simpa using hh
        rw [if_neg hh, coll_t hq hh']
    · have e : nms (x :: xs) = nms xs := by simp [nms, hq]
      rw [e, coll_f (by simp [hq])]
/-- Lists side by side, in pairs of PS. -/
inductive Al (PS : Prs2) : List ByteArray → List ByteArray → Prop
  | nil : Al PS [] []
  | cons {x y : ByteArray} {xs ys : List ByteArray} (h : (x, y) ∈ PS) (hk : Al PS xs ys) : Al PS (x :: xs) (y :: ys)
theorem Al.snoc {PS : Prs2} {x y : ByteArray} (h : (x, y) ∈ PS) : ∀ {xs ys : List ByteArray}, Al PS xs ys → Al PS (xs ++ [x]) (ys ++ [y])
  | _, _, .nil => Al.cons h Al.nil
  | _, _, .cons h1 h2 => Al.cons h1 (h2.snoc h)
theorem Al.mem {PS : Prs2} (hb : Bif PS) {x y : ByteArray} (h : (x, y) ∈ PS) : ∀ {xs ys : List ByteArray}, Al PS xs ys → (x ∈ xs ↔ y ∈ ys)
  | _, _, .nil => by simp
  | _, _, .cons h1 h2 => by
    rw [List.mem_cons, List.mem_cons, h2.mem hb h]
    have := hb _ h _ h1
    exact or_congr this Iff.rfl
theorem al_fold {PS : Prs2} (hb : Bif PS) : ∀ (ps : Prs2), (∀ a ∈ ps, a ∈ PS) → ∀ {xs ys : List ByteArray}, Al PS xs ys →
    Al PS ((ps.map (·.1)).foldl (fun o x => if has o x = true then o else o ++ [x]) xs) ((ps.map (·.2)).foldl (fun o x => if has o x = true then o else o ++ [x]) ys)
  | [], _, _, _, h => h
  | a :: ps, hs, xs, ys, h => by
    simp only [List.map_cons, List.foldl_cons]
    refine al_fold hb ps (fun b hb' => hs b (List.mem_cons_of_mem _ hb')) ?_
    have ha := hs a List.mem_cons_self
    have hm := h.mem hb (x := a.1) (y := a.2) ha
    by_cases hx : a.1 ∈ xs
    · rw [if_pos (has_iff.2 hx), if_pos (has_iff.2 (hm.1 hx))]
      exact h
    · rw [if_neg (fun e => hx (has_iff.1 e)), if_neg (fun e => hx (hm.2 (has_iff.1 e)))]
      exact h.snoc ha
theorem look_al {PS : Prs2} (hb : Bif PS) {x y : ByteArray} (h : (x, y) ∈ PS) : ∀ {xs ys : List ByteArray} (i : Nat), Al PS xs ys → lookO x (crB xs i) = lookO y (crB ys i)
  | _, _, _, .nil => rfl
  | _, _, i, @Al.cons _ u v us vs h1 h2 => by
    simp only [crB, lookO]
    have e := hb _ h1 _ h
    have e : u = x ↔ v = y := e
    by_cases hu : u = x
    · rw [if_pos hu, if_pos (e.1 hu)]
    · rw [if_neg hu, if_neg (fun hv => hu (e.2 hv))]
      exact look_al hb h (i + 1) h2
theorem look_cr {x : ByteArray} : ∀ {vs : List ByteArray} (i : Nat), x ∈ vs → ∃ j, vs[j]? = some x ∧ lookO x (crB vs i) = some (.mk (1, vN (i + j)) [])
  | [], _, h => by cases h
  | v :: vs, i, h => by
    simp only [crB, lookO]
    by_cases e : v = x
    · rw [if_pos e]
      exact ⟨0, by rw [e]; rfl, rfl⟩
    · rw [if_neg e]
      obtain ⟨j, h1, h2⟩ := look_cr (i + 1) ((List.mem_cons.1 h).resolve_left fun h => e h.symm)
      exact ⟨j + 1, h1, by rw [h2, show i + 1 + j = i + (j + 1) by omega]⟩
theorem crB_var {x : ByteArray} {u : Tp} : ∀ {vs : List ByteArray} {i : Nat}, lookO x (crB vs i) = some u → u.lab.1 = 1 ∧ u.kids = []
  | [], _, h => by cases h
  | v :: vs, i, h => by
    simp only [crB, lookO] at h
    by_cases e : v = x
    · rw [if_pos e] at h
      obtain rfl := Option.some.inj h
      exact ⟨rfl, rfl⟩
    · rw [if_neg e] at h
      exact crB_var h
theorem varIm_cr (vs : List ByteArray) : VarIm (crB vs 0) := fun x => by
  rw [im_eq]
  cases h : lookO x (crB vs 0) with
  | none => exact ⟨rfl, rfl⟩
  | some u => exact crB_var h
theorem vN_inj {i j : Nat} (h : vN i = vN j) : i = j := by
  have h1 := congrArg (fun b : ByteArray => b.data.toList) h
  have e : ∀ k : Nat, (vN k).data.toList = 118 :: (itoaB k).data.toList := fun k => by
    unfold vN
    rw [ByteArray.data_append]
    simp
  simp only [e] at h1
  have := itoa_inj (List.cons.inj h1).2
  omega
theorem im_inj {vs : List ByteArray} {x y : ByteArray} (hx : x ∈ vs) (hy : y ∈ vs) (h : im (crB vs 0) x = im (crB vs 0) y) : x = y := by
  obtain ⟨i, h1, h2⟩ := look_cr 0 hx
  obtain ⟨j, h3, h4⟩ := look_cr 0 hy
  rw [im_eq, im_eq, h2, h4] at h
  have h := congrArg (fun t : Tp => t.lab.2) h
  have h : vN (0 + i) = vN (0 + j) := h
  have := vN_inj h
  obtain rfl : i = j := by omega
  rw [h1] at h3
  exact Option.some.inj h3
theorem fold_mem : ∀ (ns out : List ByteArray) {x : ByteArray}, (x ∈ out ∨ x ∈ ns) → x ∈ ns.foldl (fun o x => if has o x = true then o else o ++ [x]) out
  | [], out, x, h => h.resolve_right (by simp)
  | n :: ns, out, x, h => by
    rw [List.foldl_cons]
    refine fold_mem ns _ ?_
    rcases h with h | h
    · left
      split
      · exact h
      · exact List.mem_append_left _ h
    · rcases List.mem_cons.1 h with rfl | h
      · left
        split
        · rename_i hh; exact has_iff.1 hh
        · simp
      · exact .inr h
/-- The variables of a. -/
def vsT (a : Tp) : List ByteArray := coll isV (Rose.preL [a]) []
theorem vsT_mem {a : Tp} {x : ByteArray} (h : x ∈ nms (Rose.preL [a])) : x ∈ vsT a := by
  unfold vsT
  rw [coll_nms]
  exact fold_mem _ _ (.inr h)
theorem cnT_eq (a : Tp) : cnT a = apT (crB (vsT a) 0) a := rfl
/-- One canonical form: alike, each variable with one. -/
theorem cn_z {a b : Tp} (ha : vwT a) (hb : vwT b) (h : cnT a = cnT b) : ∃ ps, ZT a b ps ∧ Bif ps := by
  rw [cnT_eq, cnT_eq] at h
  obtain ⟨ps, h1, h2⟩ := eq_one (eq_all _) (varIm_cr _) (varIm_cr _) ha hb h
  refine ⟨ps, h1, fun c hc d hd => ?_⟩
  have mf : ∀ c ∈ ps, c.1 ∈ vsT a := fun c hc => vsT_mem (by rw [z_fst h1]; exact List.mem_map.2 ⟨c, hc, rfl⟩)
  have ms : ∀ c ∈ ps, c.2 ∈ vsT b := fun c hc => vsT_mem (by rw [z_snd h1]; exact List.mem_map.2 ⟨c, hc, rfl⟩)
  constructor
  · intro e
    refine im_inj (ms c hc) (ms d hd) ?_
    rw [← h2 c hc, ← h2 d hd, e]
  · intro e
    refine im_inj (mf c hc) (mf d hd) ?_
    rw [h2 c hc, h2 d hd, e]
theorem z_cn {a b : Tp} {ps : Prs2} (h : ZT a b ps) (hb : Bif ps) : cnT a = cnT b := by
  rw [cnT_eq, cnT_eq]
  have hal : Al ps (vsT a) (vsT b) := by
    unfold vsT
    rw [coll_nms, coll_nms, z_fst h, z_snd h]
    exact al_fold hb ps (fun _ h => h) Al.nil
  refine z_ap h fun c hc => ?_
  have hm : c.1 ∈ vsT a := vsT_mem (by rw [z_fst h]; exact List.mem_map.2 ⟨c, hc, rfl⟩)
  rw [im_eq, im_eq, look_al hb (x := c.1) (y := c.2) hc 0 hal]
  obtain ⟨j, _, h2⟩ := look_cr 0 hm
  rw [look_al hb (x := c.1) (y := c.2) hc 0 hal] at h2
  rw [h2]
  rfl
mutual
/-- A type and its renaming are alike. -/
theorem z_self {ρ : List Bi} (hv : VarIm ρ) : ∀ (a : Tp), vwT a → ∃ ps, ZT a (apT ρ a) ps ∧ ∀ c ∈ ps, im ρ c.1 = .mk (1, c.2) []
  | .mk l ks, ha => by
    rw [vwT_eq] at ha
    by_cases hl : l.1 = 1
    · obtain rfl : ks = [] := ha.1 hl
      rw [lab1 hl]
      obtain ⟨h1, h2⟩ := hv l.2
      have e : im ρ l.2 = .mk (1, (im ρ l.2).lab.2) [] := by
        rw [← h1]
        conv => lhs; rw [← (im ρ l.2).eta, h2]
      have e' : apT ρ (.mk (1, l.2) []) = .mk (1, (im ρ l.2).lab.2) [] := e
      rw [e']
      exact ⟨_, ZT.var _ _, fun c hc => by
        obtain rfl := List.mem_singleton.1 hc
        exact e⟩
    · rw [apT_eq, if_neg hl]
      obtain ⟨ps, h1, h2⟩ := z_selfL hv ks ha.2
      exact ⟨ps, ZT.con hl h1, h2⟩
theorem z_selfL {ρ : List Bi} (hv : VarIm ρ) : ∀ (ks : List Tp), vwL ks → ∃ ps, ZL ks (apL ρ ks) ps ∧ ∀ c ∈ ps, im ρ c.1 = .mk (1, c.2) []
  | [], _ => ⟨[], by rw [apL_nil]; exact ZL.nil, by simp⟩
  | k :: ks, h => by
    rw [vwL_cons] at h
    obtain ⟨p, h1, h2⟩ := z_self hv k h.1
    obtain ⟨q, h3, h4⟩ := z_selfL hv ks h.2
    rw [apL_cons]
    exact ⟨p ++ q, ZL.cons h1 h3, fun a ha => (List.mem_append.1 ha).elim (h2 a) (h4 a)⟩
end
/-- The canonical form's canonical form. -/
theorem cn_cn {a : Tp} (ha : vwT a) : cnT (cnT a) = cnT a := by
  obtain ⟨ps, h1, h2⟩ := z_self (varIm_cr (vsT a)) a ha
  rw [← cnT_eq] at h1
  refine (z_cn h1 fun c hc d hd => ?_).symm
  have mf : ∀ c ∈ ps, c.1 ∈ vsT a := fun c hc => vsT_mem (by rw [z_fst h1]; exact List.mem_map.2 ⟨c, hc, rfl⟩)
  constructor
  · intro e
    have h3 := h2 c hc
    rw [e, h2 d hd] at h3
    exact (congrArg (fun t : Tp => t.lab.2) h3).symm
  · intro e
    refine im_inj (mf c hc) (mf d hd) ?_
    rw [h2 c hc, h2 d hd, e]
/-- One canonical form is to match both ways. -/
theorem cn_iff {a b : Tp} (ha : vwT a) (hb : vwT b) : cnT a = cnT b ↔ ((mAll [a] [b] []).isSome = true ∧ (mAll [b] [a] []).isSome = true) := by
  constructor
  · intro h
    obtain ⟨ps, h1, h2⟩ := cn_z ha hb h
    exact ⟨z_match h1 h2, z_match h1.symm h2.symm⟩
  · rintro ⟨h1, h2⟩
    obtain ⟨s, hs⟩ := Option.isSome_iff_exists.1 h1
    obtain ⟨t, ht⟩ := Option.isSome_iff_exists.1 h2
    obtain ⟨ps, h3, h4⟩ := mutual_z ha hb hs ht
    exact z_cn h3 h4
end Go.Proofs.YtmecmdnnhldjpaaDoor
