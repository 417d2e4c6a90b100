/- Memory as the proofs speak of it: what may have changed, trees and slices that lie in memory, with the blocks that they take up. Conditions: none. -/
import Derived.Test.YtmecmdnnhldjpaaDoorEngB
import Derived.WalkKit
import Derived.Deep.Slices
namespace Go.Proofs.YtmecmdnnhldjpaaDoor
open Go.RowKit

/- ## What may have changed -/
/-- From w to w' only blocks with M, and new ones, have changed. -/
structure Chg (M : Nat → Prop) (w w' : World) : Prop where
  os : w'.os = w.os
  tape : w'.tape = w.tape
  output : w'.output = w.output
  size : w.heap.size ≤ w'.heap.size
  block : ∀ k, k < w.heap.size → ¬ M k → w'.heap[k]? = w.heap[k]?

/-- From w to w' no old block has changed. -/
abbrev Ext (w w' : World) : Prop := Chg (fun _ => False) w w'

theorem Chg.refl (M : Nat → Prop) (w : World) : Chg M w w := ⟨rfl, rfl, rfl, Nat.le_refl _, fun _ _ _ => rfl⟩

theorem Chg.mono {M M' : Nat → Prop} {w w' : World} (h : Chg M w w') (hM : ∀ k, k < w.heap.size → M k → M' k) : Chg M' w w' :=
  ⟨h.os, h.tape, h.output, h.size, fun k hk hn => h.block k hk fun hm => hn (hM k hk hm)⟩

theorem Chg.trans {M M' : Nat → Prop} {a b c : World} (h : Chg M a b) (k : Chg M' b c) : Chg (fun x => M x ∨ M' x) a c :=
  ⟨k.os.trans h.os, k.tape.trans h.tape, k.output.trans h.output, Nat.le_trans h.size k.size,
    fun i hi hn => (k.block i (Nat.lt_of_lt_of_le hi h.size) fun hm => hn (.inr hm)).trans (h.block i hi fun hm => hn (.inl hm))⟩

theorem Ext.trans {a b c : World} (h : Ext a b) (k : Ext b c) : Ext a c := (Chg.trans h k).mono fun _ _ h => h.elim id id

/-- What the call itself has made may change. -/
theorem Ext.chg {M : Nat → Prop} {a b c : World} (h : Ext a b) (k : Chg M b c) (hM : ∀ x, M x → a.heap.size ≤ x) : Ext a c :=
  (Chg.trans h k).mono fun x hx hm => by
    rcases hm with hm | hm
    · exact hm
    · have := hM x hm; omega

theorem Chg.ext {M : Nat → Prop} {a b c : World} (h : Chg M a b) (k : Ext b c) : Chg M a c := (Chg.trans h k).mono fun _ _ h => h.elim id False.elim

theorem Ext.chgM {M : Nat → Prop} {a b c : World} (h : Ext a b) (k : Chg M b c) : Chg M a c := (Chg.trans h k).mono fun _ _ h => h.elim False.elim id

theorem Chg.trans' {M : Nat → Prop} {a b c : World} (h : Chg M a b) (k : Chg M b c) : Chg M a c := (Chg.trans h k).mono fun _ _ h => h.elim id id

theorem Ext.below {w w' : World} (h : Ext w w') : Below w.heap.size w w' := ⟨h.os, h.tape, h.output, h.size, fun k hk => h.block k hk id⟩

theorem Below.ext {w w' : World} (h : Below w.heap.size w w') : Ext w w' := ⟨h.os, h.tape, h.output, h.size, fun k hk _ => h.block k hk⟩

theorem chg_alloc (w : World) (o : Obj) : Ext w (w.alloc o) := ⟨rfl, rfl, rfl, by simp, fun k hk _ => Below.heap_alloc w o k hk⟩

theorem chg_push (w : World) (o : Obj) : Ext w { w with heap := w.heap.push o } := chg_alloc w o

theorem chg_drawn (w : World) (n : Nat) : Ext w { w with drawn := n } := ⟨rfl, rfl, rfl, Nat.le_refl _, fun _ _ _ => rfl⟩

theorem chg_setCell (w : World) (a : Addr) (v : Value) : Chg (fun k => k = a.block) w (w.setCell a v) :=
  ⟨rfl, rfl, rfl, by simp [World.setCell], fun k _ hn => Below.heap_setCell w a v k hn⟩

theorem chg_grown {w w' : World} {row : Option Nat} (h : w.grownBy w' row) : Chg (fun k => some k = row) w w' := ⟨h.os, h.tape, h.output, h.size, fun k hk hn => h.block k hk hn⟩

theorem Chg.cell {M : Nat → Prop} {w w' : World} (h : Chg M w w') {a : Addr} (hn : ¬ M a.block) {v : Value} (hc : w.cell? a = some v) : w'.cell? a = some v := by
  have hlt := World.block_lt_of_cell? w a hc
  rw [World.cell?_of_block (h.block a.block hlt hn)]
  exact hc

theorem Ext.cell {w w' : World} (h : Ext w w') {a : Addr} {v : Value} (hc : w.cell? a = some v) : w'.cell? a = some v := Chg.cell h id hc

theorem Chg.heap {M : Nat → Prop} {w w' : World} (h : Chg M w w') {b : Nat} (hn : ¬ M b) {o : Obj} (hc : w.heap[b]? = some o) : w'.heap[b]? = some o := by
  rw [h.block b (Array.getElem?_eq_some_iff.1 hc).1 hn]; exact hc

/- ## Trees -/
/-- A tree: SExpr with its atom, Type with its kind and name. -/
inductive Rose (α : Type) where
  | mk (l : α) (ks : List (Rose α))

def Rose.lab {α : Type} : Rose α → α | .mk l _ => l
def Rose.kids {α : Type} : Rose α → List (Rose α) | .mk _ ks => ks

section
variable {α : Type} (enc : α → List Value)

/-- The cells 'vs' lie from a on. -/
def Lc (w : World) (a : Addr) (vs : List Value) : Prop := ∀ i v, vs[i]? = some v → w.cell? (a.add i) = some v

mutual
/-- Tree t lies at a: its label's cells, then its slice; bs: the blocks of its elements. -/
def Nd (w : World) : Rose α → Addr → List Nat → Prop
  | .mk l ks, a, bs => Lc w a (enc l) ∧ ∃ ao cap, w.cell? (a.add (enc l).length) = some (.slice ao ks.length cap) ∧
      (ks.length ≤ maxLen ∧ ks.length ≤ cap) ∧ ((ks = [] ∧ bs = []) ∨ ∃ a' bs', ks ≠ [] ∧ ao = some a' ∧ bs = a'.block :: bs' ∧ NL w ks a' bs')
/-- Trees ks lie side by side from a on. -/
def NL (w : World) : List (Rose α) → Addr → List Nat → Prop
  | [], _, bs => bs = []
  | k :: ks, a, bs => ∃ b1 b2, bs = b1 ++ b2 ∧ Nd w k a b1 ∧ NL w ks (a.add ((enc k.lab).length + 1)) b2
end

/-- The slice value v reads as the trees ks; bs: the blocks that they take up. -/
def Kids (w : World) (v : Value) (ks : List (Rose α)) (bs : List Nat) : Prop :=
  ∃ ao cap, v = .slice ao ks.length cap ∧ (ks.length ≤ maxLen ∧ ks.length ≤ cap) ∧ ((ks = [] ∧ bs = []) ∨ ∃ a bs', ks ≠ [] ∧ ao = some a ∧ bs = a.block :: bs' ∧ NL enc w ks a bs')

variable {enc : α → List Value}

theorem Lc.chg {M : Nat → Prop} {w w' : World} (h : Chg M w w') {a : Addr} {vs : List Value} (hn : vs = [] ∨ ¬ M a.block) (hl : Lc w a vs) : Lc w' a vs := by
  intro i v hv
  rcases hn with rfl | hn
  · simp at hv
  · exact h.cell (by unfold Addr.add; split <;> exact hn) (hl i v hv)

mutual
theorem Nd.chg {M : Nat → Prop} {w w' : World} (h : Chg M w w') : ∀ (t : Rose α) (a : Addr) (bs : List Nat), ¬ M a.block → (∀ b ∈ bs, ¬ M b) → Nd enc w t a bs → Nd enc w' t a bs
  | .mk l ks, a, bs, ha, hb, ht => by
    simp only [Nd] at ht ⊢
    obtain ⟨h1, ao, cap, h2, hm, h3⟩ := ht
    refine ⟨h1.chg h (.inr ha), ao, cap, h.cell (by unfold Addr.add; split <;> exact ha) h2, hm, h3.imp id ?_⟩
    rintro ⟨a', bs', h4, h5, h6, h7⟩
    refine ⟨a', bs', h4, h5, h6, NL.chg h ks a' bs' (hb _ (by rw [h6]; exact List.mem_cons_self)) (fun b hbb => hb b (by rw [h6]; exact List.mem_cons_of_mem _ hbb)) h7⟩
theorem NL.chg {M : Nat → Prop} {w w' : World} (h : Chg M w w') : ∀ (ks : List (Rose α)) (a : Addr) (bs : List Nat), ¬ M a.block → (∀ b ∈ bs, ¬ M b) → NL enc w ks a bs → NL enc w' ks a bs
  | [], a, bs, _, _, ht => by simpa only [NL] using ht
  | k :: ks, a, bs, ha, hb, ht => by
    simp only [NL] at ht ⊢
    obtain ⟨b1, b2, h1, h2, h3⟩ := ht
    subst h1
    exact ⟨b1, b2, rfl, Nd.chg h k a b1 ha (fun b hbb => hb b (List.mem_append_left _ hbb)) h2,
      NL.chg h ks _ b2 (by unfold Addr.add; split <;> exact ha) (fun b hbb => hb b (List.mem_append_right _ hbb)) h3⟩
end

theorem Kids.chg {M : Nat → Prop} {w w' : World} (h : Chg M w w') {v : Value} {ks : List (Rose α)} {bs : List Nat} (hb : ∀ b ∈ bs, ¬ M b) (hk : Kids enc w v ks bs) : Kids enc w' v ks bs := by
  obtain ⟨ao, cap, h1, hm, h2⟩ := hk
  refine ⟨ao, cap, h1, hm, h2.imp id ?_⟩
  rintro ⟨a, bs', h4, h5, h6, h7⟩
  exact ⟨a, bs', h4, h5, h6, NL.chg h ks a bs' (hb _ (by rw [h6]; exact List.mem_cons_self)) (fun b hbb => hb b (by rw [h6]; exact List.mem_cons_of_mem _ hbb)) h7⟩

theorem Kids.ext {w w' : World} (h : Ext w w') {v : Value} {ks : List (Rose α)} {bs : List Nat} (hk : Kids enc w v ks bs) : Kids enc w' v ks bs := hk.chg h fun _ _ => id

/-- The i-th of trees that lie side by side. -/
theorem NL.get {w : World} {sz : Nat} (hsz : ∀ l, (enc l).length + 1 = sz) : ∀ {ks : List (Rose α)} {a : Addr} {bs : List Nat}, NL enc w ks a bs → ∀ {i : Nat} {t : Rose α}, ks[i]? = some t →
    ∃ b, Nd enc w t (a.add (i * sz)) b ∧ ∀ x ∈ b, x ∈ bs := by
  intro ks
  induction ks with
  | nil => intro a bs _ i t h; simp at h
  | cons k ks ih =>
    intro a bs h i t hi
    simp only [NL] at h
    obtain ⟨b1, b2, rfl, h2, h3⟩ := h
    cases i with
    | zero =>
      simp at hi
      subst hi
      refine ⟨b1, ?_, fun x hx => List.mem_append_left _ hx⟩
      simpa [Addr.add] using h2
    | succ i =>
      obtain ⟨b, h4, h5⟩ := ih h3 (i := i) (t := t) (by simpa using hi)
      refine ⟨b, ?_, fun x hx => List.mem_append_right _ (h5 x hx)⟩
      rw [hsz, Go.Deep.add_add] at h4
      rwa [Nat.add_mul, Nat.one_mul, Nat.add_comm]

theorem Nd.dest {w : World} {t : Rose α} {a : Addr} {bs : List Nat} (h : Nd enc w t a bs) : Lc w a (enc t.lab) ∧ ∃ v, w.cell? (a.add (enc t.lab).length) = some v ∧ Kids enc w v t.kids bs := by
  obtain ⟨l, ks⟩ := t
  simp only [Nd] at h
  obtain ⟨h1, ao, cap, h2, h3⟩ := h
  exact ⟨h1, _, h2, ao, cap, rfl, h3⟩

theorem Nd.mk' {w : World} {l : α} {ks : List (Rose α)} {a : Addr} {bs : List Nat} {v : Value} (h1 : Lc w a (enc l)) (h2 : w.cell? (a.add (enc l).length) = some v) (h3 : Kids enc w v ks bs) : Nd enc w (.mk l ks) a bs := by
  obtain ⟨ao, cap, rfl, h3⟩ := h3
  simp only [Nd]
  exact ⟨h1, ao, cap, h2, h3⟩

/-- The cells of a tree's struct, whole. -/
theorem Nd.cells {w : World} {t : Rose α} {a : Addr} {bs : List Nat} (h : Nd enc w t a bs) : ∃ v, Lc w a (enc t.lab ++ [v]) ∧ Kids enc w v t.kids bs := by
  obtain ⟨h1, v, h2, h3⟩ := h.dest
  refine ⟨v, fun i u hu => ?_, h3⟩
  by_cases hi : i < (enc t.lab).length
  · rw [List.getElem?_append_left hi] at hu
    exact h1 i u hu
  · rw [List.getElem?_append_right (by omega)] at hu
    have hi' : i - (enc t.lab).length = 0 := by
      have := (List.getElem?_eq_some_iff.1 hu).1
      simp at this
      omega
    rw [hi'] at hu
    simp at hu
    subst hu
    have : i = (enc t.lab).length := by omega
    rw [this]
    exact h2

theorem Kids.nil {w : World} {ao : Option Addr} {cap : Nat} : Kids enc w (.slice ao 0 cap) [] [] := ⟨ao, cap, rfl, ⟨Nat.zero_le _, Nat.zero_le _⟩, .inl ⟨rfl, rfl⟩⟩

/-- The i-th element of a slice that reads as trees. -/
theorem Kids.get {w : World} {sz : Nat} (hsz : ∀ l, (enc l).length + 1 = sz) {ao : Option Addr} {n cap : Nat} {ks : List (Rose α)} {bs : List Nat} (h : Kids enc w (.slice ao n cap) ks bs) {i : Nat} (hi : i < n) :
    ∃ a t v b, ao = some a ∧ ks[i]? = some t ∧ Lc w (a.add (i * sz)) (enc t.lab ++ [v]) ∧ Kids enc w v t.kids b ∧ ∀ x ∈ b, x ∈ bs := by
  obtain ⟨ao', cap', h1, hm, h2⟩ := h
  simp only [Value.slice.injEq] at h1
  obtain ⟨rfl, rfl, rfl⟩ := h1
  rcases h2 with ⟨rfl, rfl⟩ | ⟨a, bs', h3, rfl, rfl, h6⟩
  · simp at hi
  · obtain ⟨t, ht⟩ : ∃ t, ks[i]? = some t := ⟨ks[i], List.getElem?_eq_getElem hi⟩
    obtain ⟨b, h7, h8⟩ := h6.get hsz ht
    obtain ⟨v, h9, h10⟩ := h7.cells
    exact ⟨a, t, v, b, rfl, ht, h9, h10, fun x hx => List.mem_cons_of_mem _ (h8 x hx)⟩

theorem Kids.form {w : World} {v : Value} {ks : List (Rose α)} {bs : List Nat} (h : Kids enc w v ks bs) : ∃ ao cap, v = .slice ao ks.length cap ∧ ks.length ≤ maxLen ∧ ks.length ≤ cap := by
  obtain ⟨ao, cap, h1, hm, _⟩ := h
  exact ⟨ao, cap, h1, hm⟩

end

/- ## Slices of one-cell elements -/
/-- The slice value v reads as the cells xs; bs: the block that they take up. -/
def Row (w : World) (v : Value) (xs : List Value) (bs : List Nat) : Prop :=
  ∃ ao cap, v = .slice ao xs.length cap ∧ (xs.length ≤ maxLen ∧ xs.length ≤ cap) ∧ ((xs = [] ∧ bs = []) ∨ ∃ a, xs ≠ [] ∧ ao = some a ∧ bs = [a.block] ∧ Lc w a xs)

theorem Row.chg {M : Nat → Prop} {w w' : World} (h : Chg M w w') {v : Value} {xs : List Value} {bs : List Nat} (hb : ∀ b ∈ bs, ¬ M b) (hk : Row w v xs bs) : Row w' v xs bs := by
  obtain ⟨ao, cap, h1, hm, h2⟩ := hk
  refine ⟨ao, cap, h1, hm, h2.imp id ?_⟩
  rintro ⟨a, h3, h4, h5, h6⟩
  exact ⟨a, h3, h4, h5, h6.chg h (.inr (hb _ (by rw [h5]; exact List.mem_cons_self)))⟩

theorem Row.ext {w w' : World} (h : Ext w w') {v : Value} {xs : List Value} {bs : List Nat} (hk : Row w v xs bs) : Row w' v xs bs := hk.chg h fun _ _ => id

theorem Row.form {w : World} {v : Value} {xs : List Value} {bs : List Nat} (h : Row w v xs bs) : ∃ ao cap, v = .slice ao xs.length cap ∧ xs.length ≤ maxLen ∧ xs.length ≤ cap := by
  obtain ⟨ao, cap, h1, hm, _⟩ := h
  exact ⟨ao, cap, h1, hm⟩

theorem Row.get {w : World} {ao : Option Addr} {n cap : Nat} {xs : List Value} {bs : List Nat} (h : Row w (.slice ao n cap) xs bs) {i : Nat} {x : Value} (hi : xs[i]? = some x) :
    ∃ a, ao = some a ∧ w.cell? (a.add (i * 1)) = some x := by
  obtain ⟨ao', cap', h1, hm, h2⟩ := h
  simp only [Value.slice.injEq] at h1
  obtain ⟨rfl, rfl, rfl⟩ := h1
  rcases h2 with ⟨rfl, rfl⟩ | ⟨a, h3, rfl, rfl, h6⟩
  · simp at hi
  · exact ⟨a, rfl, by rw [Nat.mul_one]; exact h6 i x hi⟩

/-- A slice of strings. -/
def Strs (w : World) (v : Value) (ss : List ByteArray) (bs : List Nat) : Prop := Row w v (ss.map .string) bs

theorem Strs.form {w : World} {v : Value} {ss : List ByteArray} {bs : List Nat} (h : Strs w v ss bs) : ∃ ao cap, v = .slice ao ss.length cap ∧ ss.length ≤ maxLen ∧ ss.length ≤ cap := by
  obtain ⟨ao, cap, h1, h2⟩ := Row.form h
  exact ⟨ao, cap, by simpa using h1, by simpa using h2⟩

theorem Strs.get {w : World} {ao : Option Addr} {n cap : Nat} {ss : List ByteArray} {bs : List Nat} (h : Strs w (.slice ao n cap) ss bs) {i : Nat} (hi : i < ss.length) :
    ∃ a, ao = some a ∧ w.cell? (a.add (i * 1)) = some (.string ss[i]) := Row.get h (x := .string ss[i]) (by simp [hi])

/- ## Laws for single operations -/
theorem Wr.i {z r : Int} {K : Int → Prop} (h : z = r) (lo : -9223372036854775808 ≤ r) (hi : r ≤ 9223372036854775807) (c : K r) : Wr .i64 z K :=
  Wr.go (by rw [h]; exact IntWalk.i64_in r ⟨lo, hi⟩) c

/-- A number of int's that is a count. -/
theorem Wr.n {z : Int} (n : Nat) {K : Int → Prop} (h : z = n) (hi : n ≤ maxLen) (c : K n) : Wr .i64 z K := Wr.i h (by omega) (by simp only [maxLen] at hi; omega) c

def agg0 (P : Program) (t : TypeId) : Bool := match Program.aggB P t with | some false => true | _ => false
def aggN (P : Program) (t : TypeId) (n : Nat) : Bool := match Program.aggB P t, P.info? t with | some true, some i => i.size == n | _, _ => false
def slcB (P : Program) (t : TypeId) (sz : Nat) : Bool := match P.underlying t with
  | some (.slice e) => match P.info? e with
    | some i => i.size == sz
    | none => false
  | _ => false

theorem isAgg_false {P : Program} {t : TypeId} (h : agg0 P t = true) (w : World) : (isAgg t).run P w = .ok false w := by
  unfold agg0 Program.aggB at h
  split at h
  · rename_i h5
    simp only [isAgg]
    split at h5 <;> simp at h5
    rename_i d hd1 hd2 hu
    simp only [Sem.run_bind, run_underlying hu, Result.andThen_ok]
    cases d <;> first | rfl | (exact absurd rfl (hd1 _)) | (exact absurd rfl (hd2 _ _))
  · simp at h

theorem aggN_spec {P : Program} {t : TypeId} {n : Nat} (h : aggN P t n = true) (w : World) : (isAgg t).run P w = .ok true w ∧ (sizeOf t).run P w = .ok n w := by
  unfold aggN at h
  split at h
  · rename_i i h5 hi
    unfold Program.aggB at h5
    refine ⟨?_, ?_⟩
    · simp only [isAgg]
      split at h5 <;> simp at h5 <;> rename_i hu <;> simp [run_underlying hu]
    · simp [sizeOf, typeInfo, hi]
      simpa using h
  · simp at h

/-- A load of one cell. -/
theorem Ld.one {P : Program} {t : TypeId} {w : World} {a : Addr} {K : Value → Prop} {v : Value} (hc : w.cell? a = some v) (k : K v) (ht : agg0 P t = true := by kernel_rfl) : Ld P t w a K :=
  Ld.go (v := v) (by simp [loadVar, isAgg_false ht, hc]) k

/-- A load of a struct. -/
theorem Ld.agg {P : Program} {t : TypeId} {w : World} {a : Addr} {K : Value → Prop} {vs : List Value} (hc : Lc w a vs) (k : K (.agg ⟨vs⟩)) (ht : aggN P t vs.length = true := by kernel_rfl) : Ld P t w a K :=
  Ld.go (v := .agg ⟨vs⟩) (by
    obtain ⟨h1, h2⟩ := aggN_spec ht w
    have := run_loadCells_list (P := P) w a vs hc
    simp [loadVar, h1, h2, this]) k

/-- The address of an element. -/
theorem Go1.ix {P : Program} {t : TypeId} (sz : Nat) {w : World} {a : Addr} {len cap j : Nat} {kd : IntKind} {K : Value → World → Prop} (hj : j < len) (k : K (.pointer (some (a.add (j * sz)))) w) (ht : slcB P t sz = true := by kernel_rfl) :
    Go1 P (Instr.indexAt t (.slice (some a) len cap) (.int kd (j : Int))) w K := by
  refine Go1.go ?_ k
  unfold slcB at ht
  split at ht
  · rename_i e he
    split at ht
    · rename_i i hi
      have hs : i.size = sz := by simpa using ht
      have h1 : (0 : Int) ≤ (j : Int) ∧ (j : Int) < (len : Int) := by omega
      simp [Instr.indexAt, asIntOf, run_underlying he, sizeOf, typeInfo, hi, hs, hj]
    · simp at ht
  · simp at ht

/-- A string's byte. -/
theorem Go1.ixS {P : Program} {t : TypeId} {w : World} {s : ByteArray} {j : Nat} {kd : IntKind} {K : Value → World → Prop} (hj : j < s.size) (k : K (.int .u8 s[j].toNat) w) (ht : tkB P t .str = true := by kernel_rfl) :
    Go1 P (Instr.index t (.string s) (.int kd (j : Int))) w K := by
  refine Go1.go ?_ k
  have hs : P.underlying t = some .string := tkB_ok ht
  simp [Instr.index, asIntOf, run_underlying hs, ByteArray.getElem?_lt' s j hj]

end Go.Proofs.YtmecmdnnhldjpaaDoor
