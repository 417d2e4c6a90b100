/- Trees in a slice that the call appends to; Trees in a slice that the call appends to, one more, in one world. Conditions: none. -/
import Derived.Test.YtmecmdnnhldjpaaDoorTyG
import Derived.Test.YtmecmdnnhldjpaaDoorSxC
namespace Go.Proofs.YtmecmdnnhldjpaaDoor
open Go.RowKit

section
variable {α : Type} {enc : α → List Value} {e : TypeId} {sz : Nat}

/-- Trees in a slice of the call's own. -/
def GrowT (enc : α → List Value) (e : TypeId) (sz n0 : Nat) (w : World) (r : Value) (ts : List (Rose α)) (O cs : List Nat) : Prop :=
  ∃ vs, Grow w e sz r ts.length (fl enc ts vs) O ∧ KidsL enc w vs ts cs ∧ Fresh n0 w (O ++ cs)

theorem GrowT.chg {M : Nat → Prop} {n0 : Nat} {w w' : World} {r : Value} {ts : List (Rose α)} {O cs : List Nat} (h : Chg M w w') (hn : ∀ b ∈ O ++ cs, ¬ M b) (hg : GrowT enc e sz n0 w r ts O cs) : GrowT enc e sz n0 w' r ts O cs := by
  obtain ⟨vs, h1, h2, h3⟩ := hg
  exact ⟨vs, h1.chg h fun b hb => hn b (List.mem_append_left _ hb), h2.chg h fun b hb => hn b (List.mem_append_right _ hb), h3.chg h hn⟩
theorem GrowT.ext {n0 : Nat} {w w' : World} {r : Value} {ts : List (Rose α)} {O cs : List Nat} (h : Ext w w') (hg : GrowT enc e sz n0 w r ts O cs) : GrowT enc e sz n0 w' r ts O cs := hg.chg h fun _ _ => id
theorem GrowT.lo {n0 : Nat} {w : World} {r : Value} {ts : List (Rose α)} {O cs : List Nat} (hg : GrowT enc e sz n0 w r ts O cs) : ∀ b ∈ O ++ cs, n0 ≤ b := by
  obtain ⟨vs, _, _, h3⟩ := hg
  exact h3.lo
theorem GrowT.lt {n0 : Nat} {w : World} {r : Value} {ts : List (Rose α)} {O cs : List Nat} (hg : GrowT enc e sz n0 w r ts O cs) : ∀ b ∈ O ++ cs, b < w.heap.size := by
  obtain ⟨vs, _, _, h3⟩ := hg
  exact h3.lt
theorem GrowT.mono {n m : Nat} {w : World} {r : Value} {ts : List (Rose α)} {O cs : List Nat} (h : m ≤ n) (hg : GrowT enc e sz n w r ts O cs) : GrowT enc e sz m w r ts O cs := by
  obtain ⟨vs, h1, h2, h3⟩ := hg
  exact ⟨vs, h1, h2, h3.mono h⟩
theorem GrowT.nil {n0 : Nat} {w : World} : GrowT enc e sz n0 w (.slice none 0 0) [] [] [] := ⟨[], by simpa [fl] using Grow.nil, rfl, Fresh.nil _ _⟩
theorem GrowT.of_nil {n0 : Nat} {w : World} {r : Value} {O : List Nat} (hg : Grow w e sz r 0 [] O) (hO : ∀ b ∈ O, n0 ≤ b) : GrowT enc e sz n0 w r [] O [] := ⟨[], by simpa [fl] using hg, rfl, by simpa using hg.fresh hO⟩

theorem GrowT.kids {n0 : Nat} {w : World} {r : Value} {ts : List (Rose α)} {O cs : List Nat} (hg : GrowT enc e sz n0 w r ts O cs) (hm : ts.length ≤ maxLen) : ∃ ds, Kids enc w r ts ds ∧ Fresh n0 w ds := by
  obtain ⟨vs, ⟨_, ⟨rfl, h0, rfl⟩ | ⟨g, cap, rest, rfl, rfl, hb, hc, _⟩⟩, hk, hf⟩ := hg
  · obtain rfl : ts = [] := List.eq_nil_of_length_eq_zero h0
    exact ⟨[], Kids.nil, Fresh.nil _ _⟩
  · obtain ⟨ds, h1, h2⟩ := Kids.of_blk hb hk rfl ⟨hm, hc⟩
    exact ⟨ds, h1, hf.sub h2⟩

theorem fl_append : ∀ {ts us : List (Rose α)} {vs xs : List Value}, vs.length = ts.length → fl enc (ts ++ us) (vs ++ xs) = fl enc ts vs ++ fl enc us xs
  | [], _, [], _, _ => by simp [fl]
  | t :: ts, us, v :: vs, xs, h => by
    simp only [List.cons_append, fl]
    rw [fl_append (by simpa using h)]
    simp
  | [], _, _ :: _, _, h => by simp at h
  | _ :: _, _, [], _, h => by simp at h
theorem KidsL.append {w : World} : ∀ {vs xs : List Value} {ts us : List (Rose α)} {bs cs : List Nat}, KidsL enc w vs ts bs → KidsL enc w xs us cs → KidsL enc w (vs ++ xs) (ts ++ us) (bs ++ cs)
  | [], xs, [], us, bs, cs, h, k => by
    obtain rfl : bs = [] := h
    exact k
  | v :: vs, xs, t :: ts, us, bs, cs, h, k => by
    obtain ⟨b1, b2, rfl, h1, h2⟩ := h
    exact ⟨b1, b2 ++ cs, by simp, h1, KidsL.append h2 k⟩
  | [], _, _ :: _, _, _, _, h, _ => h.elim
  | _ :: _, _, [], _, _, _, h, _ => h.elim

/-- More trees behind those that are there. -/
theorem GrowT.app {n0 m : Nat} {w w1 w' : World} {r' : Value} {ts us : List (Rose α)} {xs : List Value} {O O' cs c1 : List Nat} {vs : List Value} (hx : Ext w w1)
    (hk : KidsL enc w vs ts cs) (hf : Fresh n0 w (O ++ cs)) (hk1 : KidsL enc w1 xs us c1) (hf1 : Fresh m w1 c1) (hm : w.heap.size ≤ m)
    (hc : Chg (· ∈ O) w1 w') (hg : Grow w' e sz r' (ts.length + us.length) (fl enc ts vs ++ fl enc us xs) O') (hO : ∀ b ∈ O', b ∈ O ∨ w1.heap.size ≤ b) (hn : n0 ≤ w.heap.size) :
    GrowT enc e sz n0 w' r' (ts ++ us) O' (cs ++ c1) := by
  have hnd := List.nodup_append.1 hf.nodup
  have sz := hx.size
  have hOcs : ∀ b ∈ cs, b ∉ O := fun b hb hb' => hnd.2.2 b hb' b hb rfl
  have hO1 : ∀ b ∈ c1, b ∉ O := fun b hb hb' => by
    have h1 := hf1.lo b hb
    have h2 := hf.lt b (List.mem_append_left _ hb')
    omega
  have hOlo : ∀ b ∈ O, n0 ≤ b := fun b hb => hf.lo b (List.mem_append_left _ hb)
  have hcs' : Fresh n0 w' cs := ((hf.ext hx).sub (List.sublist_append_right _ _)).chg hc hOcs
  have hc1' : Fresh n0 w' c1 := (hf1.chg hc hO1).mono (by omega)
  have hO'f : Fresh n0 w' O' := hg.fresh fun b hb => by
    rcases hO b hb with h | h
    · exact hOlo b h
    · omega
  refine ⟨vs ++ xs, ?_, KidsL.append ((hk.chg hx fun _ _ => id).chg hc hOcs) (hk1.chg hc hO1), ⟨List.nodup_append.2 ⟨hO'f.nodup, List.nodup_append.2 ⟨hcs'.nodup, hc1'.nodup, fun a ha b hb e => ?_⟩, fun a ha b hb e => ?_⟩, fun b hb => ?_, fun b hb => ?_⟩⟩
  · rw [List.length_append, fl_append hk.length]
    exact hg
  · have h1 := hf.lt a (List.mem_append_right _ ha)
    have h2 := hf1.lo b hb
    omega
  · subst e
    rcases hO a ha with h | h
    · rcases List.mem_append.1 hb with hb | hb
      · exact hOcs a hb h
      · exact hO1 a hb h
    · rcases List.mem_append.1 hb with hb | hb
      · have := hf.lt a (List.mem_append_right _ hb)
        omega
      · have := hf1.lt a hb
        omega
  · rcases List.mem_append.1 hb with hb | hb
    · exact hO'f.lo b hb
    · rcases List.mem_append.1 hb with hb | hb
      · exact hcs'.lo b hb
      · exact hc1'.lo b hb
  · rcases List.mem_append.1 hb with hb | hb
    · exact hO'f.blk b hb
    · rcases List.mem_append.1 hb with hb | hb
      · exact hcs'.blk b hb
      · exact hc1'.blk b hb

/-- One more tree. -/
theorem GrowT.snoc {n0 m : Nat} {w w1 w' : World} {r' : Value} {ts : List (Rose α)} {t : Rose α} {v : Value} {O O' cs c1 : List Nat} {vs : List Value} (hx : Ext w w1)
    (hk : KidsL enc w vs ts cs) (hf : Fresh n0 w (O ++ cs)) (hk1 : Kids enc w1 v t.kids c1) (hf1 : Fresh m w1 c1) (hm : w.heap.size ≤ m)
    (hc : Chg (· ∈ O) w1 w') (hg : Grow w' e sz r' (ts.length + 1) (fl enc ts vs ++ (enc t.lab ++ [v])) O') (hO : ∀ b ∈ O', b ∈ O ∨ w1.heap.size ≤ b) (hn : n0 ≤ w.heap.size) :
    GrowT enc e sz n0 w' r' (ts ++ [t]) O' (cs ++ c1) :=
  GrowT.app (us := [t]) (xs := [v]) hx hk hf ⟨c1, [], by simp, hk1, rfl⟩ hf1 hm hc (by simpa [fl] using hg) hO hn
end

theorem fl_one {α : Type} {enc : α → List Value} (he : ∀ l, ∀ u ∈ enc l, u.oneCell' = true) {w : World} : ∀ {vs : List Value} {ts : List (Rose α)} {cs : List Nat}, KidsL enc w vs ts cs → ∀ u ∈ fl enc ts vs, u.oneCell' = true
  | [], [], _, _, u, hu => by simp [fl] at hu
  | v :: vs, t :: ts, cs, h, u, hu => by
    obtain ⟨b1, b2, _, h1, h2⟩ := h
    simp only [fl] at hu
    rcases List.mem_append.1 hu with hu | hu
    · rcases List.mem_append.1 hu with hu | hu
      · exact he _ u hu
      · obtain rfl : u = v := by simpa using hu
        obtain ⟨ao, cap, rfl, _, _⟩ := h1.form
        rfl
    · exact fl_one he h2 u hu
  | [], _ :: _, _, h, _, _ => h.elim
  | _ :: _, [], _, h, _, _ => h.elim
theorem run_app_none' {P : Program} {w : World} {t ty e : TypeId} {i : TypeInfo} (ht : P.underlying t = some (.slice e)) (hi : P.info? e = some i) {v : Value} {n size c : Nat} {xs : List Value} {O : List Nat} (hg : Grow w e size v n xs O) :
    (Builtin.append_ #[t, t] ty #[v, .slice none 0 c]).run P w = .ok v w := by
  rcases hg.2 with ⟨rfl, rfl, rfl⟩ | ⟨g, cap, rest, rfl, rfl, _, hnc, _⟩
  · simp [Builtin.append_, run_underlying ht, sizeOf, typeInfo, hi, Builtin.lenOf, Builtin.firstCells]
  · simp [Builtin.append_, run_underlying ht, sizeOf, typeInfo, hi, Builtin.lenOf, Builtin.firstCells, hnc, storeCells]
theorem Go1.mono' {P : Program} {m : Sem Value} {w : World} {K K' : Value → World → Prop} (h : Go1 P m w K) (hk : ∀ v w', K v w' → K' v w') : Go1 P m w K' := by
  obtain ⟨v, w', h1, h2⟩ := h.h
  exact ⟨v, w', h1, hk v w' h2⟩
end Go.Proofs.YtmecmdnnhldjpaaDoor

namespace Go.Proofs.YtmecmdnnhldjpaaDoor
open Go.RowKit

/-- One more tree, in one world. -/
theorem GrowT.snocE {α : Type} {enc : α → List Value} {e : TypeId} {sz n0 m : Nat} {w1 w' : World} {r' : Value} {ts : List (Rose α)} {t : Rose α} {v : Value} {O O' cs c1 : List Nat} {vs : List Value}
    (hk : KidsL enc w1 vs ts cs) (hf : Fresh n0 w1 (O ++ cs)) (hk1 : Kids enc w1 v t.kids c1) (hf1 : Fresh m w1 c1) (hdis : ∀ b ∈ c1, b ∉ O ++ cs)
    (hc : Chg (· ∈ O) w1 w') (hg : Grow w' e sz r' (ts.length + 1) (fl enc ts vs ++ (enc t.lab ++ [v])) O') (hO : ∀ b ∈ O', b ∈ O ∨ w1.heap.size ≤ b) (hn : n0 ≤ w1.heap.size) (hm : n0 ≤ m) :
    GrowT enc e sz n0 w' r' (ts ++ [t]) O' (cs ++ c1) := by
  have hnd := List.nodup_append.1 hf.nodup
  have hOcs : ∀ b ∈ cs, b ∉ O := fun b hb hb' => hnd.2.2 b hb' b hb rfl
  have hO1 : ∀ b ∈ c1, b ∉ O := fun b hb hb' => hdis b hb (List.mem_append_left _ hb')
  have hOlo : ∀ b ∈ O, n0 ≤ b := fun b hb => hf.lo b (List.mem_append_left _ hb)
  have hcs' : Fresh n0 w' cs := (hf.sub (List.sublist_append_right _ _)).chg hc hOcs
  have hc1' : Fresh n0 w' c1 := (hf1.chg hc hO1).mono hm
  have hO'f : Fresh n0 w' O' := hg.fresh fun b hb => by
    rcases hO b hb with h | h
    · exact hOlo b h
    · omega
  refine ⟨vs ++ [v], by rw [List.length_append, fl_snoc hk.length]; exact hg, KidsL.snoc (hk1.chg hc hO1) (hk.chg hc hOcs), ⟨List.nodup_append.2 ⟨hO'f.nodup, List.nodup_append.2 ⟨hcs'.nodup, hc1'.nodup, fun a ha b hb e => ?_⟩, fun a ha b hb e => ?_⟩, fun b hb => ?_, fun b hb => ?_⟩⟩
  · subst e
    exact hdis a hb (List.mem_append_right _ ha)
  · subst e
    rcases hO a ha with h | h
    · rcases List.mem_append.1 hb with hb | hb
      · exact hOcs a hb h
      · exact hO1 a hb h
    · rcases List.mem_append.1 hb with hb | hb
      · have := hf.lt a (List.mem_append_right _ hb)
        omega
      · have := hf1.lt a hb
        omega
  · rcases List.mem_append.1 hb with hb | hb
    · exact hO'f.lo b hb
    · rcases List.mem_append.1 hb with hb | hb
      · exact hcs'.lo b hb
      · exact hc1'.lo b hb
  · rcases List.mem_append.1 hb with hb | hb
    · exact hO'f.blk b hb
    · rcases List.mem_append.1 hb with hb | hb
      · exact hcs'.blk b hb
      · exact hc1'.blk b hb
theorem GrowT.kids2 {α : Type} {enc : α → List Value} {e : TypeId} {sz n0 : Nat} {w : World} {r : Value} {ts : List (Rose α)} {O cs : List Nat} (hg : GrowT enc e sz n0 w r ts O cs) (hm : ts.length ≤ maxLen) : ∃ ds, Kids enc w r ts ds ∧ Fresh n0 w ds ∧ ∀ b ∈ ds, b ∈ O ++ cs := by
  obtain ⟨vs, ⟨_, ⟨rfl, h0, rfl⟩ | ⟨g, cap, rest, rfl, rfl, hb, hc, _⟩⟩, hk, hf⟩ := hg
  · obtain rfl : ts = [] := List.eq_nil_of_length_eq_zero h0
    exact ⟨[], Kids.nil, Fresh.nil _ _, by simp⟩
  · obtain ⟨ds, h1, h2⟩ := Kids.of_blk hb hk rfl ⟨hm, hc⟩
    exact ⟨ds, h1, hf.sub h2, fun b hb => h2.subset hb⟩
end Go.Proofs.YtmecmdnnhldjpaaDoor
