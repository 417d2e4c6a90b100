/- Trees: their measures; trees that a call builds, element by element; Contracts: the laws' helpers on SExpr: sizes, copies, equality. Conditions: none. -/
import Derived.Test.YtmecmdnnhldjpaaDoorOwn
import Derived.Test.YtmecmdnnhldjpaaDoorJTy
namespace Go.Proofs.YtmecmdnnhldjpaaDoor
open Go.RowKit

theorem Rose.eta {α : Type} (t : Rose α) : Rose.mk t.lab t.kids = t := by cases t; rfl

section
variable {α : Type}

mutual
/-- The weight of a tree: its labels' weights, and one for each node below it. -/
def Rose.wt (f : α → Nat) : Rose α → Nat
  | .mk l ks => f l + Rose.wtL f ks
def Rose.wtL (f : α → Nat) : List (Rose α) → Nat
  | [] => 0
  | k :: ks => 1 + Rose.wt f k + Rose.wtL f ks
end

theorem Rose.wt_eq (f : α → Nat) (t : Rose α) : t.wt f = f t.lab + Rose.wtL f t.kids := by cases t; simp only [Rose.wt, Rose.lab, Rose.kids]
theorem Rose.wtL_nil (f : α → Nat) : Rose.wtL f [] = 0 := by simp only [Rose.wtL]
theorem Rose.wtL_cons (f : α → Nat) (k : Rose α) (ks : List (Rose α)) : Rose.wtL f (k :: ks) = 1 + f k.lab + Rose.wtL f k.kids + Rose.wtL f ks := by
  simp only [Rose.wtL, Rose.wt_eq]; omega

theorem Rose.wtL_append (f : α → Nat) (xs ys : List (Rose α)) : Rose.wtL f (xs ++ ys) = Rose.wtL f xs + Rose.wtL f ys := by
  induction xs with
  | nil => simp [Rose.wtL_nil]
  | cons x xs ih => simp only [List.cons_append, Rose.wtL_cons, ih]; omega

theorem Rose.wtL_length (f : α → Nat) (ks : List (Rose α)) : ks.length ≤ Rose.wtL f ks := by
  induction ks with
  | nil => simp
  | cons k ks ih => simp only [List.length_cons, Rose.wtL_cons]; omega

theorem Rose.wtL_take_succ (f : α → Nat) {ks : List (Rose α)} {i : Nat} {t : Rose α} (h : ks[i]? = some t) : Rose.wtL f (ks.take (i + 1)) = Rose.wtL f (ks.take i) + (1 + f t.lab + Rose.wtL f t.kids) := by
  obtain ⟨hi, rfl⟩ := List.getElem?_eq_some_iff.1 h
  rw [List.take_succ_eq_append_getElem hi, Rose.wtL_append, Rose.wtL_cons, Rose.wtL_nil]
  omega

theorem Rose.wtL_mem (f : α → Nat) {ks : List (Rose α)} {t : Rose α} (h : t ∈ ks) : 1 + f t.lab + Rose.wtL f t.kids ≤ Rose.wtL f ks := by
  induction ks with
  | nil => cases h
  | cons k ks ih =>
    rw [Rose.wtL_cons]
    rcases List.mem_cons.1 h with rfl | h
    · omega
    · have := ih h; omega

theorem Rose.wtL_mono {f g : α → Nat} (h : ∀ l, f l ≤ g l) : ∀ (n : Nat) (ks : List (Rose α)), Rose.wtL f ks ≤ n → Rose.wtL f ks ≤ Rose.wtL g ks := by
  intro n
  induction n with
  | zero => intro ks hk; omega
  | succ n ih =>
    intro ks
    induction ks with
    | nil => intro _; simp [Rose.wtL_nil]
    | cons k ks ihk =>
      intro hk
      rw [Rose.wtL_cons] at hk ⊢
      rw [Rose.wtL_cons]
      have h1 := ih k.kids (by omega)
      have h2 := ihk (by omega)
      have := h k.lab
      omega

/-- How many nodes. -/
abbrev Rose.cnt (ks : List (Rose α)) : Nat := Rose.wtL (fun _ => 0) ks

theorem Rose.cnt_le (f : α → Nat) (ks : List (Rose α)) : Rose.cnt ks ≤ Rose.wtL f ks := Rose.wtL_mono (fun _ => Nat.zero_le _) _ ks (Nat.le_refl _)

theorem Rose.cnt_mem {ks : List (Rose α)} {t : Rose α} (h : t ∈ ks) : Rose.cnt t.kids < Rose.cnt ks := by
  have := Rose.wtL_mem (fun _ => 0) h
  show Rose.wtL _ _ < Rose.wtL _ _
  omega

/-- Induction on forests: what holds of a forest if it holds of the children of each of its trees. -/
theorem Rose.forest {p : List (Rose α) → Prop} (h : ∀ ks, (∀ t ∈ ks, p t.kids) → p ks) (ks : List (Rose α)) : p ks := by
  have : ∀ (n : Nat) (ks : List (Rose α)), Rose.cnt ks ≤ n → p ks := by
    intro n
    induction n with
    | zero =>
      intro ks hk
      refine h ks fun t ht => ?_
      have := Rose.cnt_mem ht
      omega
    | succ n ih =>
      intro ks hk
      refine h ks fun t ht => ih _ ?_
      have := Rose.cnt_mem ht
      omega
  exact this _ ks (Nat.le_refl _)

mutual
/-- Every label. -/
def Rose.Al (p : α → Prop) : Rose α → Prop
  | .mk l ks => p l ∧ Rose.AlL p ks
def Rose.AlL (p : α → Prop) : List (Rose α) → Prop
  | [] => True
  | k :: ks => Rose.Al p k ∧ Rose.AlL p ks
end

theorem Rose.Al_eq {p : α → Prop} {t : Rose α} : Rose.Al p t ↔ p t.lab ∧ Rose.AlL p t.kids := by cases t; simp only [Rose.Al, Rose.lab, Rose.kids]

theorem Rose.AlL_mem {p : α → Prop} {t : Rose α} : ∀ {ks : List (Rose α)}, Rose.AlL p ks → t ∈ ks → p t.lab ∧ Rose.AlL p t.kids
  | [], _, h => by cases h
  | k :: ks, ha, h => by
    simp only [Rose.AlL] at ha
    rcases List.mem_cons.1 h with rfl | h
    · exact Rose.Al_eq.1 ha.1
    · exact Rose.AlL_mem ha.2 h

theorem Rose.AlL_of {p : α → Prop} : ∀ {ks : List (Rose α)}, (∀ t ∈ ks, p t.lab ∧ Rose.AlL p t.kids) → Rose.AlL p ks
  | [], _ => by simp only [Rose.AlL]
  | k :: ks, h => by
    simp only [Rose.AlL]
    exact ⟨Rose.Al_eq.2 (h k List.mem_cons_self), Rose.AlL_of fun t ht => h t (List.mem_cons_of_mem _ ht)⟩

theorem Rose.AlL_wt {f : α → Nat} {B : Nat} (ks : List (Rose α)) : Rose.wtL f ks ≤ B → Rose.AlL (fun l => f l ≤ B) ks := by
  refine Rose.forest (p := fun ks => Rose.wtL f ks ≤ B → Rose.AlL (fun l => f l ≤ B) ks) (fun ks ih h => Rose.AlL_of fun t ht => ?_) ks
  have := Rose.wtL_mem f ht
  exact ⟨by omega, ih t ht (by omega)⟩

theorem Rose.AlL_imp {p q : α → Prop} (h : ∀ l, p l → q l) (ks : List (Rose α)) : Rose.AlL p ks → Rose.AlL q ks :=
  Rose.forest (p := fun ks => Rose.AlL p ks → Rose.AlL q ks) (fun _ ih ha => Rose.AlL_of fun t ht => ⟨h _ (Rose.AlL_mem ha ht).1, ih t ht (Rose.AlL_mem ha ht).2⟩) ks

variable (enc : α → List Value)

/-- The cells of the trees ts, whose slices are vs. -/
def fl : List (Rose α) → List Value → List Value
  | t :: ts, v :: vs => enc t.lab ++ [v] ++ fl ts vs
  | _, _ => []

/-- Each of vs reads as the children of each of ts. -/
def KidsL (w : World) : List Value → List (Rose α) → List Nat → Prop
  | [], [], bs => bs = []
  | v :: vs, t :: ts, bs => ∃ b1 b2, bs = b1 ++ b2 ∧ Kids enc w v t.kids b1 ∧ KidsL w vs ts b2
  | _, _, _ => False

variable {enc}

theorem KidsL.length {w : World} : ∀ {vs : List Value} {ts : List (Rose α)} {bs : List Nat}, KidsL enc w vs ts bs → vs.length = ts.length
  | [], [], _, _ => rfl
  | v :: vs, t :: ts, bs, h => by
    obtain ⟨b1, b2, _, _, h⟩ := h
    simp [KidsL.length h]
  | [], _ :: _, _, h => h.elim
  | _ :: _, [], _, h => h.elim

theorem KidsL.chg {M : Nat → Prop} {w w' : World} (hc : Chg M w w') : ∀ {vs : List Value} {ts : List (Rose α)} {bs : List Nat}, (∀ b ∈ bs, ¬ M b) → KidsL enc w vs ts bs → KidsL enc w' vs ts bs
  | [], [], _, _, h => h
  | v :: vs, t :: ts, bs, hn, h => by
    obtain ⟨b1, b2, rfl, h1, h2⟩ := h
    exact ⟨b1, b2, rfl, h1.chg hc fun b hb => hn b (List.mem_append_left _ hb), KidsL.chg hc (fun b hb => hn b (List.mem_append_right _ hb)) h2⟩
  | [], _ :: _, _, _, h => h.elim
  | _ :: _, [], _, _, h => h.elim

theorem KidsL.snoc {w : World} {v : Value} {t : Rose α} {b : List Nat} (hk : Kids enc w v t.kids b) : ∀ {vs : List Value} {ts : List (Rose α)} {bs : List Nat}, KidsL enc w vs ts bs → KidsL enc w (vs ++ [v]) (ts ++ [t]) (bs ++ b)
  | [], [], bs, h => by
    obtain rfl : bs = [] := h
    exact ⟨b, [], by simp, hk, rfl⟩
  | x :: vs, y :: ts, bs, h => by
    obtain ⟨b1, b2, rfl, h1, h2⟩ := h
    exact ⟨b1, b2 ++ b, by simp, h1, KidsL.snoc hk h2⟩
  | [], _ :: _, _, h => h.elim
  | _ :: _, [], _, h => h.elim

theorem fl_snoc {v : Value} {t : Rose α} : ∀ {ts : List (Rose α)} {vs : List Value}, vs.length = ts.length → fl enc (ts ++ [t]) (vs ++ [v]) = fl enc ts vs ++ (enc t.lab ++ [v])
  | [], [], _ => by simp [fl]
  | _ :: ts, _ :: vs, h => by
    simp only [List.cons_append, fl]
    rw [fl_snoc (by simpa using h)]
    simp
  | [], _ :: _, h => by simp at h
  | _ :: _, [], h => by simp at h

theorem length_fl {sz : Nat} (hsz : ∀ l, (enc l).length + 1 = sz) : ∀ {ts : List (Rose α)} {vs : List Value}, vs.length = ts.length → (fl enc ts vs).length = ts.length * sz
  | [], [], _ => by simp [fl]
  | t :: ts, _ :: vs, h => by
    have := hsz t.lab
    simp only [fl, List.length_append, List.length_cons, List.length_nil, length_fl hsz (ts := ts) (vs := vs) (by simpa using h)]
    rw [Nat.add_mul]
    omega
  | [], _ :: _, h => by simp at h
  | _ :: _, [], h => by simp at h

/-- Cells that lie there as a forest's do, with slices that read as the children: the forest. -/
theorem NL.of_fl {w : World} : ∀ {ts : List (Rose α)} {vs : List Value} {bs : List Nat} {a : Addr}, Lc w a (fl enc ts vs) → KidsL enc w vs ts bs → NL enc w ts a bs
  | [], [], bs, a, _, h => by
    obtain rfl : bs = [] := h
    simp only [NL]
  | t :: ts, v :: vs, bs, a, hl, h => by
    obtain ⟨b1, b2, rfl, h1, h2⟩ := h
    simp only [NL]
    refine ⟨b1, b2, rfl, ?_, NL.of_fl (vs := vs) ?_ h2⟩
    · rw [← t.eta]
      refine Nd.mk' (v := v) (fun i u hu => hl i u ?_) (hl _ v ?_) h1
      · have hi := (List.getElem?_eq_some_iff.1 hu).1
        simp only [fl, List.append_assoc]
        rw [List.getElem?_append_left hi]
        exact hu
      · simp only [fl, List.append_assoc]
        rw [List.getElem?_append_right (Nat.le_refl _)]
        simp
    · intro i u hu
      rw [Go.Deep.add_add]
      refine hl _ u ?_
      simp only [fl]
      rw [List.getElem?_append_right (by simp)]
      simpa using hu
  | [], _ :: _, _, _, _, h => h.elim
  | _ :: _, [], _, _, _, h => h.elim

/-- A block that holds a forest: the slice over it. -/
theorem Kids.of_blk {w : World} {b : Nat} {e : TypeId} {ts : List (Rose α)} {vs rest : List Value} {bs : List Nat} {n cap : Nat} (h : Blk w b e (fl enc ts vs ++ rest)) (hk : KidsL enc w vs ts bs) (hn : n = ts.length) (hm : n ≤ maxLen ∧ n ≤ cap) :
    ∃ cs, Kids enc w (.slice (some ⟨b, 0, none⟩) n cap) ts cs ∧ cs.Sublist (b :: bs) := by
  subst hn
  by_cases h0 : ts = []
  · subst h0
    exact ⟨[], Kids.nil, by simp⟩
  · exact ⟨b :: bs, ⟨_, cap, rfl, hm, .inr ⟨⟨b, 0, none⟩, bs, h0, rfl, rfl, NL.of_fl h.lc0 hk⟩⟩, List.Sublist.refl _⟩

end
end Go.Proofs.YtmecmdnnhldjpaaDoor

namespace Go.Proofs.YtmecmdnnhldjpaaDoor
open Go.RowKit

theorem take_succ_get {α : Type} {ks : List α} {k : Nat} {t : α} (h : ks[k]? = some t) : ks.take (k + 1) = ks.take k ++ [t] := by
  obtain ⟨hi, rfl⟩ := List.getElem?_eq_some_iff.1 h
  exact List.take_succ_eq_append_getElem hi

/-- An SExpr's own cells before its list. -/
def encS (s : ByteArray) : List Value := [.string s]
theorem encS_sz : ∀ l, (encS l).length + 1 = 2 := fun _ => rfl
abbrev Sx : Type := Rose ByteArray
/-- An SExpr's weight: its letters and nodes. -/
abbrev szS (ks : List Sx) : Nat := Rose.wtL ByteArray.size ks

/-- The struct in a box of its own. -/
theorem Blk.at0 {w : World} {b : Nat} {e : TypeId} {x : Value} {cs : List Value} (h : Blk w b e (x :: cs)) : w.cell? ((⟨b, 0, none⟩ : Addr).add 0) = some x := by
  rw [Addr.add_lit, h.cell]; rfl
theorem Blk.at1 {w : World} {b : Nat} {e : TypeId} {x y : Value} {cs : List Value} (h : Blk w b e (x :: y :: cs)) : w.cell? ((⟨b, 0, none⟩ : Addr).add 1) = some y := by
  rw [Addr.add_lit, h.cell]; rfl
theorem Blk.at2 {w : World} {b : Nat} {e : TypeId} {x y z : Value} {cs : List Value} (h : Blk w b e (x :: y :: z :: cs)) : w.cell? ((⟨b, 0, none⟩ : Addr).add 2) = some z := by
  rw [Addr.add_lit, h.cell]; rfl

/-- What sz.. answer: what is left, or -1. -/
def Left (left need : Nat) (r : Value) : Prop := r = .int .i64 (-1) ∨ ∃ m : Nat, r = .int .i64 m ∧ m + need = left


/-- What a function hands back that makes a forest. -/
def NewKids (w : World) (ks : List Sx) (r : Value) (w' : World) : Prop := Ext w w' ∧ ∃ bs, Kids encS w' r ks bs ∧ Fresh w.heap.size w' bs
/-- What a function hands back that makes an SExpr. -/
def NewSx (w : World) (l : ByteArray) (ks : List Sx) (r : Value) (w' : World) : Prop := Ext w w' ∧ ∃ v bs, r = .agg #[.string l, v] ∧ Kids encS w' v ks bs ∧ Fresh w.heap.size w' bs

end Go.Proofs.YtmecmdnnhldjpaaDoor
