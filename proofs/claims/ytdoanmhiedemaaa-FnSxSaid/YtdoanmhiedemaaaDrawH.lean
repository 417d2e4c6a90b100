/- The engine: the check of a long region's order by a table of what each operation waits for. Conditions: none. -/
import Derived.Test.YtdoanmhiedemaaaDrawE
namespace Go.Proofs.Ytdoanmhiedemaaa
open Go.RowKit

def precT (tab : List Nat) (j i : Nat) : Bool := Nat.testBit (tab.getD i 0) j
def rowT (tab : List Nat) (i : Nat) (o : Oper) : Nat := o.after.toList.foldl (fun m e => match Region.binds .any e && Nat.blt e.on i with
  | true => m ||| ((1 <<< e.on) ||| tab.getD e.on 0)
  | false => m) 0
def tabOk (ops : Array Oper) (tab : List Nat) : Bool := Nat.ble tab.length ops.size && (List.range ops.size).all fun i => match ops[i]? with
  | some o => Nat.beq (tab.getD i 0) (rowT tab i o)
  | none => false
def pairT (ops : Array Oper) (tab : List Nat) (late : Nat → Bool) (j i : Nat) : Bool :=
  match ops[j]?, ops[i]? with
  | some oj, some oi => (precT tab j i || (!(Nat.beq (kindOf oj.op) 2) && oj.apart ops oi)) &&
      (oj.after.toList.all fun e => !(Region.binds .any e && Nat.beq e.on i)) && (!(Nat.beq (kindOf oj.op) 1) || precT tab j i || late i)
  | _, _ => false
def pairsT (ops : Array Oper) (tab : List Nat) (late : Nat → Bool) : List Nat → Bool
  | [] => true
  | j :: r => r.all (pairT ops tab late j) && !r.contains j && pairsT ops tab late r
def eagerT (ops : Array Oper) (tab : List Nat) (late : Nat → Bool) (l : List Nat) : Bool :=
  tabOk ops tab && (Region.noSelect ops && pairsT ops tab late l && ((List.range ops.size).all fun i => l.contains i) && (l.all fun i => Nat.blt i ops.size) &&
    l.all fun i => match ops[i]? with
      | some o => o.after.toList.all fun e => !(Region.binds .any e) || (Nat.blt e.on ops.size && !(Nat.beq e.on i))
      | none => false)

theorem precB_succ (ops : Array Oper) : ∀ (n j i : Nat), precB ops n j i = true → precB ops (n + 1) j i = true
  | 0, j, i, h => by simp [precB] at h
  | n + 1, j, i, h => by
    unfold precB at h ⊢
    split at h
    · rename_i o ho
      simp only [List.any_eq_true] at h ⊢
      obtain ⟨e, he, h1⟩ := h
      refine ⟨e, he, ?_⟩
      simp only [Bool.and_eq_true, Bool.or_eq_true] at h1 ⊢
      exact ⟨h1.1, h1.2.imp id (precB_succ ops n j e.on)⟩
    · cases h
theorem precB_le (ops : Array Oper) {n m : Nat} (h : n ≤ m) {j i : Nat} (hp : precB ops n j i = true) : precB ops m j i = true := by
  induction h with
  | refl => exact hp
  | step _ ih => exact precB_succ ops _ j i ih
theorem foldT (tab : List Nat) (i j : Nat) : ∀ (l : List Edge) (m : Nat), Nat.testBit (l.foldl (fun m e => match Region.binds .any e && Nat.blt e.on i with
    | true => m ||| ((1 <<< e.on) ||| tab.getD e.on 0)
    | false => m) m) j = true → Nat.testBit m j = true ∨ ∃ e ∈ l, Region.binds .any e = true ∧ e.on < i ∧ (e.on = j ∨ Nat.testBit (tab.getD e.on 0) j = true)
  | [], m, h => .inl h
  | e :: l, m, h => by
    rw [List.foldl_cons] at h
    rcases foldT tab i j l _ h with h1 | ⟨e', he, h2⟩
    · cases hb : (Region.binds .any e && Nat.blt e.on i) with
      | false => rw [hb] at h1; exact .inl h1
      | true =>
        rw [hb] at h1
        simp only [Nat.testBit_or, Nat.one_shiftLeft, Nat.testBit_two_pow, Bool.or_eq_true, decide_eq_true_eq] at h1
        simp only [Bool.and_eq_true] at hb
        have h3 : e.on < i := Nat.blt_eq ▸ hb.2
        rcases h1 with h1 | h1 | h1
        · exact .inl h1
        · exact .inr ⟨e, List.mem_cons_self, hb.1, h3, .inl h1⟩
        · exact .inr ⟨e, List.mem_cons_self, hb.1, h3, .inr h1⟩
    · exact .inr ⟨e', List.mem_cons_of_mem _ he, h2⟩
theorem precT_B {ops : Array Oper} {tab : List Nat} (hok : tabOk ops tab = true) : ∀ (i j : Nat), precT tab j i = true → precB ops ops.size j i = true := by
  simp only [tabOk, Bool.and_eq_true, List.all_eq_true] at hok
  obtain ⟨hlen, hrow⟩ := hok
  have hlen : tab.length ≤ ops.size := Nat.le_of_ble_eq_true hlen
  have key : ∀ (i j : Nat), precT tab j i = true → i < ops.size ∧ precB ops (i + 1) j i = true := by
    intro i
    induction i using Nat.strongRecOn with
    | _ i ih =>
      intro j h
      have hi : i < ops.size := by
        rcases Nat.lt_or_ge i tab.length with h1 | h1
        · omega
        · unfold precT at h
          rw [List.getD_eq_getElem?_getD, List.getElem?_eq_none h1] at h
          simp at h
      refine ⟨hi, ?_⟩
      have h1 := hrow i (List.mem_range.2 hi)
      have ho : ops[i]? = some ops[i] := Array.getElem?_eq_getElem hi
      rw [ho] at h1
      have h1 := Nat.eq_of_beq_eq_true h1
      unfold precT at h
      rw [h1] at h
      unfold rowT at h
      rcases foldT tab i j _ _ h with h2 | ⟨e, he, hb, hlt, h3⟩
      · simp at h2
      · unfold precB
        simp only [ho]
        rw [List.any_eq_true]
        refine ⟨e, he, ?_⟩
        rw [hb, Bool.true_and, Bool.or_eq_true]
        rcases h3 with h3 | h3
        · left; rw [h3]; exact Nat.beq_refl j
        · right
          exact precB_le ops (by omega) (ih e.on hlt j h3).2
  intro i j h
  obtain ⟨h1, h2⟩ := key i j h
  exact precB_le ops (by omega) h2
theorem pairT_G {ops : Array Oper} {tab : List Nat} (hok : tabOk ops tab = true) {late : Nat → Bool} {j i : Nat} (h : pairT ops tab late j i = true) : pairG ops [] late j i = true := by
  unfold pairT at h
  unfold pairG
  split at h
  · rename_i oj oi hj hi
    simp only [hj, hi]
    simp only [Bool.and_eq_true, Bool.or_eq_true] at h ⊢
    obtain ⟨⟨h1, h2⟩, h3⟩ := h
    refine ⟨⟨h1.imp (precT_B hok i j) .inl, h2⟩, h3.imp (Or.imp id (precT_B hok i j)) id⟩
  · cases h
theorem pairsT_G {ops : Array Oper} {tab : List Nat} (hok : tabOk ops tab = true) {late : Nat → Bool} : ∀ {l : List Nat}, pairsT ops tab late l = true → pairsG ops [] late l = true
  | [], _ => rfl
  | j :: r, h => by
    simp only [pairsT, pairsG, Bool.and_eq_true, List.all_eq_true] at h ⊢
    exact ⟨⟨fun i hi => pairT_G hok (h.1.1 i hi), h.1.2⟩, pairsT_G hok h.2⟩
theorem eagerT_G {ops : Array Oper} {tab : List Nat} {late : Nat → Bool} {l : List Nat} (h : eagerT ops tab late l = true) : eagerG ops [] late l = true := by
  simp only [eagerT, Bool.and_eq_true] at h
  obtain ⟨hok, ⟨⟨⟨h1, h2⟩, h3⟩, h4⟩, h5⟩ := h
  simp only [eagerG, Bool.and_eq_true]
  exact ⟨⟨⟨⟨h1, pairsT_G hok h2⟩, h3⟩, h4⟩, h5⟩

/-- The rule for a long region that draws its order: 'tab' has, for each operation, the bits of those that it waits for; 'lt': behind what a load may come up that stands ahead of it in 'l'. -/
theorem Dr.t {P : Program} {n : Nat} {T : TT} {ops : Array Oper} {F : Fr} {w : World} {K : Fr → World → Prop} (l tab lt : List Nat) (hT : TOk P T) (hv : vce P T ops.toList [] (lateG lt) K l l F (fun u => Ext w u))
    (hm : P.follows .mixedOrders = true := by kernel_rfl) (hok : opsOk n ops.toList = true := by kernel_rfl) (hl : eagerT ops tab (lateG lt) l = true := by kernel_rfl) (hle : Nat.ble l.length ops.size = true := by kernel_rfl) : Dr P n T ops F w K :=
  Dr.g l [] lt hT hv hm hok (eagerT_G hl) hle
end Go.Proofs.Ytdoanmhiedemaaa
