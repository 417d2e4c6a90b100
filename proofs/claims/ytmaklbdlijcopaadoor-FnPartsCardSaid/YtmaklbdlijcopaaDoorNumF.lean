/- A text cut at a byte, plain. Conditions: none. -/
import Derived.Lib.Split
import Derived.Lib.Join
import Derived.Test.YtmaklbdlijcopaaDoorNumC
namespace Go.Proofs.YtmaklbdlijcopaaDoor
open Go.RowKit

/-- The pieces of a text, cur ahead of the first. -/
def pcs (b : UInt8) : List UInt8 → List UInt8 → List (List UInt8)
  | cur, [] => [cur]
  | cur, c :: r => if c = b then cur :: pcs b [] r else pcs b (cur ++ [c]) r
theorem pcs_nil (b : UInt8) (cur : List UInt8) : pcs b cur [] = [cur] := by rw [pcs]
theorem pcs_hit {b c : UInt8} (cur r : List UInt8) (h : c = b) : pcs b cur (c :: r) = cur :: pcs b [] r := by rw [pcs, if_pos h]
theorem pcs_miss {b c : UInt8} (cur r : List UInt8) (h : c ≠ b) : pcs b cur (c :: r) = pcs b (cur ++ [c]) r := by rw [pcs, if_neg h]
theorem pcs_none {b : UInt8} : ∀ (s cur : List UInt8), (∀ c ∈ s, c ≠ b) → pcs b cur s = [cur ++ s]
  | [], cur, _ => by rw [pcs_nil, List.append_nil]
  | c :: r, cur, h => by
    rw [pcs_miss _ _ (h c List.mem_cons_self), pcs_none r _ fun x hx => h x (List.mem_cons_of_mem _ hx)]
    simp
theorem pcs_at {b : UInt8} : ∀ (p r cur : List UInt8), (∀ c ∈ p, c ≠ b) → pcs b cur (p ++ b :: r) = (cur ++ p) :: pcs b [] r
  | [], r, cur, _ => by rw [List.nil_append, pcs_hit _ _ rfl, List.append_nil]
  | c :: p, r, cur, h => by
    rw [List.cons_append, pcs_miss _ _ (h c List.mem_cons_self), pcs_at p r _ fun x hx => h x (List.mem_cons_of_mem _ hx)]
    simp
theorem pcs_len {b : UInt8} : ∀ (s cur : List UInt8), 1 ≤ (pcs b cur s).length ∧ (pcs b cur s).length ≤ s.length + 1
  | [], cur => by rw [pcs_nil]; simp
  | c :: r, cur => by
    by_cases h : c = b
    · rw [pcs_hit _ _ h]
      have := pcs_len (b := b) r []
      simp only [List.length_cons]
      omega
    · rw [pcs_miss _ _ h]
      have := pcs_len (b := b) r (cur ++ [c])
      simp only [List.length_cons]
      omega
theorem occ_one {s : List UInt8} {b : UInt8} {i : Nat} : Lib.occAt s [b] i = true ↔ s[i]? = some b := by
  unfold Lib.occAt
  have e : s[i]? = (s.drop i)[0]? := by rw [List.getElem?_drop, Nat.add_zero]
  rw [e]
  cases s.drop i with
  | nil => simp
  | cons c r =>
    have e1 : List.isPrefixOf [b] (c :: r) = (b == c) := by simp [List.isPrefixOf]
    rw [e1, beq_iff_eq]
    exact ⟨fun h => by rw [h]; rfl, fun h => (Option.some.inj h).symm⟩
/-- The library's cut at one byte is ours. -/
theorem split_pcs (b : UInt8) : ∀ (n : Nat) (s : List UInt8), s.length ≤ n → Lib.splitK [b] 0 (Lib.count s [b]) s = pcs b [] s ∧ (Lib.splitK [b] 0 (Lib.count s [b]) s).length = Lib.count s [b] + 1 := by
  intro n
  induction n with
  | zero =>
    intro s hs
    obtain rfl : s = [] := List.eq_nil_of_length_eq_zero (by omega)
    have h : Lib.index [] [b] = -1 := rfl
    rw [Lib.count_miss h, pcs_nil]
    exact ⟨rfl, rfl⟩
  | succ n ih =>
    intro s hs
    rcases Lib.index_spec s [b] with ⟨h1, h2⟩ | ⟨i, h1, h2, h3, h4⟩
    · rw [Lib.count_miss h1, pcs_none s [] fun c hc e => by
        obtain ⟨j, hj⟩ := List.getElem?_of_mem hc
        have hjl := (List.getElem?_eq_some_iff.1 hj).1
        have := h2 j (by omega)
        rw [occ_one.2 (by rw [hj, e])] at this
        cases this]
      exact ⟨rfl, rfl⟩
    · have hi := occ_one.1 h3
      have hil := (List.getElem?_eq_some_iff.1 hi).1
      have hne : ¬ (Lib.index s [b] == -1) = true := fun e => by have := beq_iff_eq.1 e; omega
      have hto : (Lib.index s [b]).toNat = i := by omega
      have hc := Lib.count_hit (sub := [b]) (by simp) h1
      rw [hc, Nat.add_comm 1, Lib.splitK, if_neg hne, hto]
      have hd : (s.drop (i + [b].length)).length ≤ n := by
        rw [List.length_drop]
        simp only [List.length_cons, List.length_nil]
        omega
      obtain ⟨e1, e2⟩ := ih _ hd
      have hsp : s = s.take i ++ b :: s.drop (i + 1) := by
        have : s.drop i = b :: s.drop (i + 1) := by
          rw [List.drop_eq_getElem_cons hil]
          congr 1
          rw [List.getElem?_eq_getElem hil] at hi
          exact Option.some.inj hi
        rw [← this, List.take_append_drop]
      have hp : pcs b [] s = s.take i :: pcs b [] (s.drop (i + 1)) := by
        conv => lhs; rw [hsp]
        rw [pcs_at _ _ _ fun c hc e => ?_, List.nil_append]
        obtain ⟨j, hj⟩ := List.getElem?_of_mem hc
        have hjl := (List.getElem?_eq_some_iff.1 hj).1
        rw [List.length_take] at hjl
        rw [List.getElem?_take, if_pos (by omega)] at hj
        have := h4 j (by omega)
        rw [occ_one.2 (by rw [hj, e])] at this
        cases this
      refine ⟨?_, ?_⟩
      · rw [hp, e1]
        rfl
      · rw [List.length_cons, e2]
/-- The pieces as texts. -/
def spB (b : UInt8) (s : ByteArray) : List ByteArray := (pcs b [] s.data.toList).map fun l => ⟨l.toArray⟩
theorem spB_len (b : UInt8) (s : ByteArray) : 1 ≤ (spB b s).length ∧ (spB b s).length ≤ s.size + 1 := by
  unfold spB
  rw [List.length_map]
  exact pcs_len _ _
theorem spB_lib (b : UInt8) (s : ByteArray) : Lib.splitB ⟨#[b]⟩ 0 (Lib.countB s ⟨#[b]⟩) s = spB b s ∧ (Lib.splitB ⟨#[b]⟩ 0 (Lib.countB s ⟨#[b]⟩) s).length = Lib.countB s ⟨#[b]⟩ + 1 := by
  have h := Lib.splitB_data ⟨#[b]⟩ 0 (Lib.countB s ⟨#[b]⟩) s
  have hc : Lib.countB s ⟨#[b]⟩ = Lib.count s.data.toList [b] := rfl
  obtain ⟨e1, e2⟩ := split_pcs b _ s.data.toList (Nat.le_refl _)
  generalize Lib.splitB ⟨#[b]⟩ 0 (Lib.countB s ⟨#[b]⟩) s = ss at h
  have h : ss.map (·.data.toList) = pcs b [] s.data.toList := by
    rw [h, hc]
    exact e1
  refine ⟨?_, ?_⟩
  · unfold spB
    rw [← h, List.map_map]
    refine (List.map_id ss).symm.trans (List.map_congr_left fun x _ => ?_)
    exact ba_list rfl
  · have h2 := congrArg List.length h
    rw [List.length_map] at h2
    rw [h2, ← e1, e2, hc]
theorem jt_ne {sep x : List UInt8} {r : List (List UInt8)} : Lib.joinTail sep (x :: r) = sep ++ Lib.join (x :: r) sep := by
  rw [Lib.join_cons]
  simp [Lib.joinTail]
theorem pcs_join {b : UInt8} : ∀ (s cur : List UInt8), Lib.join (pcs b cur s) [b] = cur ++ s
  | [], cur => by rw [pcs_nil, Lib.join_one, List.append_nil]
  | c :: r, cur => by
    by_cases h : c = b
    · rw [pcs_hit _ _ h, Lib.join_cons]
      have hl := (pcs_len (b := b) r []).1
      have ih := pcs_join (b := b) r []
      cases hp : pcs b [] r with
      | nil => rw [hp] at hl; simp at hl
      | cons x xs =>
        rw [hp] at ih
        rw [jt_ne, ih, h]
        simp
    · rw [pcs_miss _ _ h, pcs_join r]
      simp
theorem spB_join (b : UInt8) (s : ByteArray) : Lib.join ((spB b s).map (·.data.toList)) [b] = s.data.toList := by
  unfold spB
  rw [List.map_map]
  have e : (pcs b [] s.data.toList).map ((·.data.toList) ∘ fun l : List UInt8 => (⟨l.toArray⟩ : ByteArray)) = pcs b [] s.data.toList := (List.map_congr_left (g := id) fun x _ => rfl).trans (List.map_id _)
  rw [e, pcs_join]
  rfl
end Go.Proofs.YtmaklbdlijcopaaDoor
