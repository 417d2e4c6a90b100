/- Contracts: a Type's labels in pre-order; eachType; HeadName, HasProjection. Conditions: none. -/
import Derived.Test.YtmaklbdlijcopaaDoorTyC
namespace Go.Proofs.YtmaklbdlijcopaaDoor
open Go.RowKit

section
variable {α : Type}
mutual
/-- The labels, in pre-order. -/
def Rose.pre : Rose α → List α
  | .mk l ks => l :: Rose.preL ks
def Rose.preL : List (Rose α) → List α
  | [] => []
  | k :: ks => Rose.pre k ++ Rose.preL ks
end
theorem Rose.pre_eq (t : Rose α) : t.pre = t.lab :: Rose.preL t.kids := by cases t; simp only [Rose.pre, Rose.lab, Rose.kids]
theorem Rose.preL_nil : Rose.preL ([] : List (Rose α)) = [] := by simp only [Rose.preL]
theorem Rose.preL_cons (k : Rose α) (ks : List (Rose α)) : Rose.preL (k :: ks) = (k.lab :: Rose.preL k.kids) ++ Rose.preL ks := by simp only [Rose.preL, Rose.pre_eq]
theorem Rose.preL_append (xs ys : List (Rose α)) : Rose.preL (xs ++ ys) = Rose.preL xs ++ Rose.preL ys := by
  induction xs with
  | nil => simp [Rose.preL_nil]
  | cons x xs ih => simp only [List.cons_append, Rose.preL_cons, ih, List.append_assoc]
theorem Rose.preL_take {ks : List (Rose α)} {i : Nat} {t : Rose α} (h : ks[i]? = some t) : Rose.preL (ks.take (i + 1)) = Rose.preL (ks.take i) ++ (t.lab :: Rose.preL t.kids) := by
  rw [take_succ_get h, Rose.preL_append, Rose.preL_cons, Rose.preL_nil, List.append_nil]
end

section
variable {α : Type} {enc : α → List Value} {w : World}
theorem Kids.lt (hne : ∀ l, enc l ≠ []) (ks : List (Rose α)) : ∀ {v : Value} {bs : List Nat}, Kids enc w v ks bs → ∀ b ∈ bs, b < w.heap.size := by
  refine Rose.forest (p := fun ks => ∀ {v : Value} {bs : List Nat}, Kids enc w v ks bs → ∀ b ∈ bs, b < w.heap.size) (fun ks ih => ?_) ks
  intro v bs hk
  obtain ⟨ao, cap, rfl, _, ⟨rfl, rfl⟩ | ⟨a, bs', h0, rfl, rfl, hnl⟩⟩ := hk
  · simp
  · have key : ∀ (ks : List (Rose α)) (a : Addr) (bs' : List Nat), (∀ t ∈ ks, ∀ {v : Value} {bs : List Nat}, Kids enc w v t.kids bs → ∀ b ∈ bs, b < w.heap.size) → NL enc w ks a bs' → (ks ≠ [] → a.block < w.heap.size) ∧ ∀ b ∈ bs', b < w.heap.size := by
      intro ks
      induction ks with
      | nil =>
        intro a bs' _ h
        simp only [NL] at h
        subst h
        exact ⟨fun h => absurd rfl h, by simp⟩
      | cons k ks ihk =>
        intro a bs' hh h
        simp only [NL] at h
        obtain ⟨b1, b2, rfl, h1, h2⟩ := h
        obtain ⟨hl, v, hv, hkk⟩ := h1.dest
        obtain ⟨_, g2⟩ := ihk _ _ (fun t ht => hh t (List.mem_cons_of_mem _ ht)) h2
        refine ⟨fun _ => ?_, fun b hb => ?_⟩
        · obtain ⟨x, xs, hx⟩ := List.exists_cons_of_ne_nil (hne k.lab)
          have hc := hl 0 x (by rw [hx]; rfl)
          exact World.block_lt_of_cell? w a hc
        · rcases List.mem_append.1 hb with hb | hb
          · exact hh k List.mem_cons_self hkk b hb
          · exact g2 b hb
    obtain ⟨g1, g2⟩ := key ks a bs' ih hnl
    intro b hb
    rcases List.mem_cons.1 hb with rfl | hb
    · exact g1 h0
    · exact g2 b hb
end
theorem encT_ne : ∀ l, encT l ≠ [] := fun _ => by simp [encT]
theorem encS_ne : ∀ l, encS l ≠ [] := fun _ => by simp [encS]

/-- HeadName's answer. -/
def headN (l : TLab) : ByteArray := if l.1 = 2 then l.2 else if l.1 = 4 then ⟨#[100, 121, 110]⟩ else ⟨#[]⟩

/-- A walk's state: it holds of the labels seen so far; its blocks are O. -/
structure Walk (J : List Nat → List TLab → World → Prop) : Prop where
  lt : ∀ {O xs w}, J O xs w → ∀ b ∈ O, b < w.heap.size
  ext : ∀ {O xs w w'}, J O xs w → Ext w w' → J O xs w'

/-- What a walk's step does: it changes blocks of its own alone. -/
def Steps (J : List Nat → List TLab → World → Prop) (O : List Nat) (xs : List TLab) (w w' : World) : Prop := ∃ O', J O' xs w' ∧ Chg (· ∈ O) w w' ∧ ∀ b ∈ O', b ∈ O ∨ w.heap.size ≤ b

theorem Chg.comp {M N : Nat → Prop} {w w' w'' : World} (h : Chg M w w') (h' : Chg N w' w'') (hn : ∀ b, N b → M b ∨ w.heap.size ≤ b) : Chg M w w'' :=
  (Chg.trans h h').mono fun k hk hm => hm.elim id fun hm => (hn k hm).resolve_right (by omega)

/-- Is there a projection in it? -/
def projP (l : TLab) : Prop := l.1 = 3
def HasPr (l : TLab) (ks : List Tp) : Prop := ∃ x ∈ l :: Rose.preL ks, projP x

theorem preL_split {ks : List Tp} {p : TLab → Prop} : (∃ x ∈ Rose.preL ks, p x) ↔ ∃ t ∈ ks, ∃ x ∈ t.lab :: Rose.preL t.kids, p x := by
  induction ks with
  | nil => simp [Rose.preL_nil]
  | cons k ks ih =>
    rw [Rose.preL_cons]
    constructor
    · rintro ⟨x, hx, hp⟩
      rcases List.mem_append.1 hx with hx | hx
      · exact ⟨k, List.mem_cons_self, x, hx, hp⟩
      · obtain ⟨t, ht, h⟩ := ih.1 ⟨x, hx, hp⟩
        exact ⟨t, List.mem_cons_of_mem _ ht, h⟩
    · rintro ⟨t, ht, x, hx, hp⟩
      rcases List.mem_cons.1 ht with rfl | ht
      · exact ⟨x, List.mem_append_left _ hx, hp⟩
      · obtain ⟨y, hy, h⟩ := ih.2 ⟨t, ht, x, hx, hp⟩
        exact ⟨y, List.mem_append_right _ hy, h⟩


end Go.Proofs.YtmaklbdlijcopaaDoor
