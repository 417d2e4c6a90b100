/- Contracts: a Type's labels in pre-order; eachType; HeadName, HasProjection. Conditions: none. -/
import Derived.Test.YtmecmdnnhldjpaaDoorTyC
namespace Go.Proofs.YtmecmdnnhldjpaaDoor
open Go.RowKit

section
variable {α : Type}
mutual
/-- The labels, in pre-order. -/
def Rose.pre : Rose α → List α
  | .mk l ks => l :: Rose.preL ks
def Rose.preL : List (Rose α) → List α
  | [] => []
  | k :: ks => Rose.pre k ++ Rose.preL ks
end
theorem Rose.pre_eq (t : Rose α) : t.pre = t.lab :: Rose.preL t.kids := by cases t; simp only [Rose.pre, Rose.lab, Rose.kids]
theorem Rose.preL_nil : Rose.preL ([] : List (Rose α)) = [] := by simp only [Rose.preL]
theorem Rose.preL_cons (k : Rose α) (ks : List (Rose α)) : Rose.preL (k :: ks) = (k.lab :: Rose.preL k.kids) ++ Rose.preL ks := by simp only [Rose.preL, Rose.pre_eq]
theorem Rose.preL_append (xs ys : List (Rose α)) : Rose.preL (xs ++ ys) = Rose.preL xs ++ Rose.preL ys := by
  induction xs with
  | nil => simp [Rose.preL_nil]
  | cons x xs ih => simp only [List.cons_append, Rose.preL_cons, ih, List.append_assoc]
theorem Rose.preL_take {ks : List (Rose α)} {i : Nat} {t : Rose α} (h : ks[i]? = some t) : Rose.preL (ks.take (i + 1)) = Rose.preL (ks.take i) ++ (t.lab :: Rose.preL t.kids) := by
  rw [take_succ_get h, Rose.preL_append, Rose.preL_cons, Rose.preL_nil, List.append_nil]
end

section
variable {α : Type} {enc : α → List Value} {w : World}
theorem Kids.lt (hne : ∀ l, enc l ≠ []) (ks : List (Rose α)) : ∀ {v : Value} {bs : List Nat}, Kids enc w v ks bs → ∀ b ∈ bs, b < w.heap.size := by
  refine Rose.forest (p := fun ks => ∀ {v : Value} {bs : List Nat}, Kids enc w v ks bs → ∀ b ∈ bs, b < w.heap.size) (fun ks ih => ?_) ks
  intro v bs hk
  obtain ⟨ao, cap, rfl, _, ⟨rfl, rfl⟩ | ⟨a, bs', h0, rfl, rfl, hnl⟩⟩ := hk
  · simp
  · have key : ∀ (ks : List (Rose α)) (a : Addr) (bs' : List Nat), (∀ t ∈ ks, ∀ {v : Value} {bs : List Nat}, Kids enc w v t.kids bs → ∀ b ∈ bs, b < w.heap.size) → NL enc w ks a bs' → (ks ≠ [] → a.block < w.heap.size) ∧ ∀ b ∈ bs', b < w.heap.size := by
      intro ks
      induction ks with
      | nil =>
        intro a bs' _ h
        simp only [NL] at h
        subst h
        exact ⟨fun h => absurd rfl h, by simp⟩
      | cons k ks ihk =>
        intro a bs' hh h
        simp only [NL] at h
        obtain ⟨b1, b2, rfl, h1, h2⟩ := h
        obtain ⟨hl, v, hv, hkk⟩ := h1.dest
        obtain ⟨_, g2⟩ := ihk _ _ (fun t ht => hh t (List.mem_cons_of_mem _ ht)) h2
        refine ⟨fun _ => ?_, fun b hb => ?_⟩
        · obtain ⟨x, xs, hx⟩ := List.exists_cons_of_ne_nil (hne k.lab)
          have hc := hl 0 x (by rw [hx]; rfl)
          exact World.block_lt_of_cell? w a hc
        · rcases List.mem_append.1 hb with hb | hb
          · exact hh k List.mem_cons_self hkk b hb
          · exact g2 b hb
    obtain ⟨g1, g2⟩ := key ks a bs' ih hnl
    intro b hb
    rcases List.mem_cons.1 hb with rfl | hb
    · exact g1 h0
    · exact g2 b hb
end
theorem encT_ne : ∀ l, encT l ≠ [] := fun _ => by simp [encT]
theorem encS_ne : ∀ l, encS l ≠ [] := fun _ => by simp [encS]

/-- HeadName's answer. -/
def headN (l : TLab) : ByteArray := if l.1 = 2 then l.2 else if l.1 = 4 then ⟨#[100, 121, 110]⟩ else ⟨#[]⟩

/-- A walk's state: it holds of the labels seen so far; its blocks are O. -/
structure Walk (J : List Nat → List TLab → World → Prop) : Prop where
  lt : ∀ {O xs w}, J O xs w → ∀ b ∈ O, b < w.heap.size
  ext : ∀ {O xs w w'}, J O xs w → Ext w w' → J O xs w'

/-- What a walk's step does: it changes blocks of its own alone. -/
def Steps (J : List Nat → List TLab → World → Prop) (O : List Nat) (xs : List TLab) (w w' : World) : Prop := ∃ O', J O' xs w' ∧ Chg (· ∈ O) w w' ∧ ∀ b ∈ O', b ∈ O ∨ w.heap.size ≤ b

theorem Chg.comp {M N : Nat → Prop} {w w' w'' : World} (h : Chg M w w') (h' : Chg N w' w'') (hn : ∀ b, N b → M b ∨ w.heap.size ≤ b) : Chg M w w'' :=
  (Chg.trans h h').mono fun k hk hm => hm.elim id fun hm => (hn k hm).resolve_right (by omega)
def EachSaid (J : List Nat → List TLab → World → Prop) (g : FuncId) (cap : List Value) (ks : List Tp) : Prop := ∀ (l : TLab) (w : World) (v : Value) (bs : List Nat) (O : List Nat) (xs : List TLab), Kids encT w v ks bs → J O xs w → (∀ b ∈ bs, b ∉ O) →
    Ret Tryd.prog 53 [.agg #[.int .i64 l.1, .string l.2, v], .func (.func g) #[] ⟨cap⟩] w fun _ w' => Steps J O (xs ++ (l :: Rose.preL ks)) w w'

/-- impl.eachType, with whatever it visits by. -/
theorem c_eachType {J : List Nat → List TLab → World → Prop} (hJ : Walk J) {g : FuncId} {cap : List Value}
    (hg : ∀ (O : List Nat) (xs : List TLab) (l : TLab) (v : Value) (w : World), J O xs w → Ret Tryd.prog g (.agg #[.int .i64 l.1, .string l.2, v] :: cap) w fun r w' => Steps J O (xs ++ [l]) w w') (ks : List Tp) : EachSaid J g cap ks := by
  refine Rose.forest (fun ks ih => ?_) ks
  intro l w v bs O xs hk hj hd
  obtain ⟨ao, ca, rfl, hm, hcap⟩ := hk.form
  have hM : maxLen = 9223372036854775807 := rfl
  refine ret_of_vc ttOk Tryd.func53 rfl (by kernel_rfl) (by kernel_rfl) ?_
  refine Go1.bx ?_
  intro w1 hx1 hb1
  refine Ld.agg (vs := [.int .i64 l.1, .string l.2, .slice ao ks.length ca]) (Blk.lc0 (post := []) hb1) ?_
  refine (hg O xs l _ w1 (hJ.ext hj hx1)).mono ?_
  rintro _ w2 ⟨O2, hj2, hx2, hO2⟩
  have sz1 := hx1.size
  have hlt1 := hb1.lt
  have hOlt := hJ.lt hj
  have hb2 := hb1.chg hx2 (fun hb => by have := hOlt _ hb; omega)
  refine Go1.fl 2 (Ld.one hb2.at2 ?_)
  refine Lp.go ttOk (by kernel_rfl) (fun k : Nat => [(1, .func (.func g) #[] ⟨cap⟩), (10, .slice ao ks.length ca), (11, .int .i64 ks.length), (12, .int .i64 k)]) (fun k w' => (∃ O', J O' (xs ++ (l :: Rose.preL (ks.take k))) w' ∧ ∀ b ∈ O', b ∈ O ∨ w1.heap.size ≤ b) ∧ Chg (· ∈ O) w1 w' ∧ k ≤ ks.length) (fun k => ks.length - k) 0
    ⟨rfl, rfl, rfl, rfl, trivial⟩ ⟨⟨O2, by rw [List.take_zero, Rose.preL_nil]; exact hj2, hO2⟩, hx2, Nat.zero_le _⟩ ?_
  rintro k w3 ⟨⟨O3, hj3, hO3⟩, hx3, hk1⟩
  have sz3 := hx3.size
  refine Cm.s (fun hlt => ?_) (fun hge => ?_)
  · have hlt : k < ks.length := by omega
    have hbl := Kids.lt encT_ne ks hk
    have hk3 := (hk.ext hx1).chg hx3 hd
    obtain ⟨a, t, v1, b1, rfl, ht, hc, hkt, hsub⟩ := hk3.get encT_sz hlt
    have htm := List.mem_of_getElem? ht
    obtain ⟨ao3, cap3, rfl, _, _⟩ := hkt.form
    refine Go1.ix 3 hlt (Ld.agg hc ?_)
    refine Go1.al tiTy ?_
    intro w4 hxw4 hbw4
    have ltw4 := hbw4.lt
    refine Go0.st (off := 0) (vs := [.int .i64 t.lab.1, .string t.lab.2, .slice ao3 t.kids.length cap3]) hbw4 rfl rfl (by simp [Value.cells]) (by simp [Value.oneCell']) ?_
    intro w5 hx0w5 hb0w5 _
    have hbw5 : Blk w5 w3.heap.size 38 [.int .i64 t.lab.1, .string t.lab.2, .slice ao3 t.kids.length cap3] := hb0w5
    have hxw5 : Ext w3 w5 := hxw4.chg hx0w5 (by omega)
    refine Ld.agg (vs := [.int .i64 t.lab.1, .string t.lab.2, .slice ao3 t.kids.length cap3]) (Blk.lc0 (post := []) hbw5) ?_
    refine (ih t htm t.lab w5 _ b1 O3 _ (hkt.ext hxw5) (hJ.ext hj3 hxw5) (fun b hb hbO => ?_)).mono ?_
    · rcases hO3 b hbO with h | h
      · exact hd b (hsub b hb) h
      · have := hbl b (hsub b hb)
        omega
    · rintro r w6 ⟨O6, hj6, hx6, hO6⟩
      have sz5 := hxw5.size
      refine Wr.n (k + 1) (by omega) (by omega) ?_
      refine ⟨k + 1, ⟨rfl, rfl, rfl, rfl, trivial⟩, ⟨⟨O6, ?_, fun b hb => ?_⟩, ?_, hlt⟩, by omega⟩
      · rw [Rose.preL_take ht]
        simpa using hj6
      · rcases hO6 b hb with h | h
        · exact hO3 b h
        · right; omega
      · refine (hx3.ext hxw5).comp hx6 (fun b hb => hO3 b hb)
  · have : k = ks.length := by omega
    subst this
    rw [List.take_length] at hj3
    refine ⟨O3, hj3, hx1.chgM hx3, fun b hb => (hO3 b hb).imp id (fun h => by omega)⟩

/-- Is there a projection in it? -/
def projP (l : TLab) : Prop := l.1 = 3
def HasPr (l : TLab) (ks : List Tp) : Prop := ∃ x ∈ l :: Rose.preL ks, projP x

theorem preL_split {ks : List Tp} {p : TLab → Prop} : (∃ x ∈ Rose.preL ks, p x) ↔ ∃ t ∈ ks, ∃ x ∈ t.lab :: Rose.preL t.kids, p x := by
  induction ks with
  | nil => simp [Rose.preL_nil]
  | cons k ks ih =>
    rw [Rose.preL_cons]
    constructor
    · rintro ⟨x, hx, hp⟩
      rcases List.mem_append.1 hx with hx | hx
      · exact ⟨k, List.mem_cons_self, x, hx, hp⟩
      · obtain ⟨t, ht, h⟩ := ih.1 ⟨x, hx, hp⟩
        exact ⟨t, List.mem_cons_of_mem _ ht, h⟩
    · rintro ⟨t, ht, x, hx, hp⟩
      rcases List.mem_cons.1 ht with rfl | ht
      · exact ⟨x, List.mem_append_left _ hx, hp⟩
      · obtain ⟨y, hy, h⟩ := ih.2 ⟨t, ht, x, hx, hp⟩
        exact ⟨y, List.mem_append_right _ hy, h⟩


end Go.Proofs.YtmecmdnnhldjpaaDoor
