/- The engine, third part: a region that draws its order. One order, chosen by the prover (loads as early as they can come), serves all. Conditions: none. -/
import Derived.Test.YtmecmdnnhldjpaaDoorEngB
import Derived.OrdersHeld
namespace Go.Proofs.YtmecmdnnhldjpaaDoor
open Go.RowKit

/-- 0: its value hangs on its operands alone; 1: it reads memory too; 2: it may change memory. -/
def kindOf : Op → Nat
  | .move _ | .assign _ | .nilCheck _ | .pick .. | .binOp .. | .unOp .. | .extract .. | .field .. | .fieldAddr .. | .indexAddr .. | .index .. | .slice .. | .makeFunc .. | .build .. => 0
  | .call { callee := .builtin .len, .. } => 0
  | .load .. | .lookup .. => 1
  | _ => 2

def precB (ops : Array Oper) : Nat → Nat → Nat → Bool
  | 0, _, _ => false
  | n + 1, j, i => match ops[i]? with
    | some o => o.after.toList.any fun e => Region.binds .any e && (Nat.beq e.on j || precB ops n j e.on)
    | none => false

def kindAt (ops : Array Oper) (i : Nat) : Nat := match ops[i]? with
  | some o => kindOf o.op
  | none => 2

/-- May a load that stands ahead of the effect i come up behind it? -/
def lateB (ops : Array Oper) (l : List Nat) (i : Nat) : Bool := l.any fun j => Nat.beq (kindAt ops j) 1 && !precB ops ops.size j i

def pairB (ops : Array Oper) (j i : Nat) : Bool :=
  match ops[j]?, ops[i]? with
  | some oj, some oi => (precB ops ops.size j i || (!(Nat.beq (kindOf oj.op) 2) && oj.apart ops oi)) && oj.after.toList.all fun e => !(Region.binds .any e && Nat.beq e.on i)
  | _, _ => false

def pairsB (ops : Array Oper) : List Nat → Bool
  | [] => true
  | j :: r => r.all (pairB ops j) && !r.contains j && pairsB ops r

def eagerB (ops : Array Oper) (l : List Nat) : Bool :=
  Region.noSelect ops && pairsB ops l && ((List.range ops.size).all fun i => l.contains i) && (l.all fun i => Nat.blt i ops.size) &&
    l.all fun i => match ops[i]? with
      | some o => o.after.toList.all fun e => !(Region.binds .any e) || (Nat.blt e.on ops.size && !(Nat.beq e.on i))
      | none => false

section
variable {P : Program} {ops : Array Oper} {Q : Act → World → Prop}

def QN (Q : Act → World → Prop) : Exit → Act → World → Prop := fun e a w => match e with
  | .normal => Q a w
  | _ => False

def VD (P : Program) (ops : Array Oper) (late : Nat → Bool) (Q : Act → World → Prop) : List Nat → (World → Prop) → Act → Prop
  | [], S, a => ∀ w, S w → Q a w
  | i :: r, S, a => ∃ o, ops[i]? = some o ∧
    ((kindOf o.op = 2 ∧ ∀ w, S w → wpOp P ops (QN Q) i (fun a' w' => ∃ S' : World → Prop, S' w' ∧ (late i = true → ∀ u, S' u → S u) ∧ VD P ops late Q r S' a') a w) ∨
     (kindOf o.op = 1 ∧ ∃ v, YieldsIf P ops S o v a ∧ VD P ops late Q r S (a.put o.dst v)) ∨
     (kindOf o.op = 0 ∧ ∃ v, YieldsIf P ops (fun _ => True) o v a ∧ VD P ops late Q r S (a.put o.dst v)))

theorem yieldsIf_mono {S S' : World → Prop} {o : Oper} {v : Value} {a : Act} (h : YieldsIf P ops S o v a) (hs : ∀ w, S' w → S w) : YieldsIf P ops S' o v a :=
  h.imp (fun ⟨h1, h2⟩ => ⟨h1, fun w hw => h2 w (hs w hw)⟩) id

theorem VD_swap {late : Nat → Bool} (hsel : Region.noSelect ops = true) {i j : Nat} {oi oj : Oper} (hi : ops[i]? = some oi) (hj : ops[j]? = some oj) (hap : oj.apart ops oi = true) {S Sj : World → Prop} {r : List Nat} {a : Act} {v : Value}
    (hk : (kindOf oj.op = 1 ∧ Sj = S ∧ (kindOf oi.op = 2 → late i = true)) ∨ (kindOf oj.op = 0 ∧ Sj = fun _ => True))
    (hy : YieldsIf P ops Sj oj v a) (h : VD P ops late Q (i :: r) S (a.put oj.dst v)) : VD P ops late Q (i :: j :: r) S a := by
  have hns := Region.noSelect_spec hsel
  obtain ⟨h1, h2, h3⟩ := Oper.apart_spec hap
  obtain ⟨o, ho, h⟩ := h
  rw [hi] at ho
  obtain rfl : oi = o := by simpa using ho
  refine ⟨oi, hi, ?_⟩
  have behind : ∀ {S' : World → Prop} {a' : Act}, (kindOf oj.op = 1 → ∀ u, S' u → S u) → YieldsIf P ops Sj oj v a' → VD P ops late Q r S' (a'.put oj.dst v) → VD P ops late Q (j :: r) S' a' := by
    intro S' a' hs hy' hv
    rcases hk with ⟨hk1, rfl, _⟩ | ⟨hk0, rfl⟩
    · exact ⟨oj, hj, .inr (.inl ⟨hk1, v, yieldsIf_mono hy' (hs hk1), hv⟩)⟩
    · exact ⟨oj, hj, .inr (.inr ⟨hk0, v, hy', hv⟩)⟩
  have same : ∀ {Si : World → Prop} {vi : Value}, YieldsIf P ops Si oi vi (a.put oj.dst v) → YieldsIf P ops Si oi vi a ∧ YieldsIf P ops Sj oj v (a.put oi.dst vi) := fun {Si vi} hyi =>
    ⟨hyi.of_same (execOp_put oi (fun cs b => hns i oi cs b hi) a oj.dst v h1).symm (wanted_put oi a oj.dst v h1).symm,
     hy.of_same (execOp_put oj (fun cs b => hns j oj cs b hj) a oi.dst vi h3) (wanted_put oj a oi.dst vi h3)⟩
  rcases h with ⟨hk2, h⟩ | ⟨hk1, vi, hyi, h⟩ | ⟨hk0, vi, hyi, h⟩
  · refine .inl ⟨hk2, fun w hw => ?_⟩
    refine wpOp_mono ?_ (wpOp_putIf (S := Sj) hi hap (fun cs b => hns j oj cs b hj) (fun cs b => hns i oi cs b hi) (fun _ _ _ h => h.elim) hy (h w hw))
    rintro a' w' ⟨hy', S', hS', hl, hv⟩
    refine ⟨S', hS', hl, behind (fun hk1 => ?_) hy' hv⟩
    rcases hk with ⟨_, _, hl2⟩ | ⟨hk0, _⟩
    · exact hl (hl2 hk2)
    · omega
  · obtain ⟨g1, g2⟩ := same hyi
    exact .inr (.inl ⟨hk1, vi, g1, behind (fun _ _ h => h) g2 (by rw [← Act.put_comm a v vi h2]; exact h)⟩)
  · obtain ⟨g1, g2⟩ := same hyi
    exact .inr (.inr ⟨hk0, vi, g1, behind (fun _ _ h => h) g2 (by rw [← Act.put_comm a v vi h2]; exact h)⟩)

theorem VD_hoist {late : Nat → Bool} (hsel : Region.noSelect ops = true) {i : Nat} {oi : Oper} (hi : ops[i]? = some oi) {S : World → Prop} {post : List Nat} : ∀ (pre : List Nat) (a : Act),
    (∀ j ∈ pre, ∃ oj, ops[j]? = some oj ∧ kindOf oj.op ≠ 2 ∧ oj.apart ops oi = true ∧ (kindOf oi.op = 2 → kindOf oj.op = 1 → late i = true)) →
    VD P ops late Q (pre ++ i :: post) S a → VD P ops late Q (i :: (pre ++ post)) S a := by
  intro pre
  induction pre with
  | nil => intro a _ h; exact h
  | cons j pre ih =>
    intro a hp h
    obtain ⟨oj, hj, hk2, hap, hl⟩ := hp j List.mem_cons_self
    obtain ⟨o, ho, h⟩ := h
    rw [hj] at ho
    obtain rfl : oj = o := by simpa using ho
    rcases h with ⟨hk, _⟩ | ⟨hk1, v, hy, h⟩ | ⟨hk0, v, hy, h⟩
    · exact absurd hk hk2
    · exact VD_swap hsel hi hj hap (.inl ⟨hk1, rfl, fun h2 => hl h2 hk1⟩) hy (ih _ (fun k hk => hp k (List.mem_cons_of_mem _ hk)) h)
    · exact VD_swap hsel hi hj hap (.inr ⟨hk0, rfl⟩) hy (ih _ (fun k hk => hp k (List.mem_cons_of_mem _ hk)) h)

/-- All that was to come up ahead of what has come up has come up. -/
def Down (ops : Array Oper) (listed : Array Bool) : Prop := ∀ k o, ops[k]? = some o → listed.getD k false = true → ∀ e ∈ o.after, Region.binds .any e = true → listed.getD e.on false = true

theorem precB_listed {listed : Array Bool} (hd : Down ops listed) : ∀ (n j i : Nat) (o : Oper), ops[i]? = some o → (∀ e ∈ o.after, Region.binds .any e = true → listed.getD e.on false = true) → precB ops n j i = true → listed.getD j false = true := by
  intro n
  induction n with
  | zero => intro j i o _ _ h; simp [precB] at h
  | succ n ih =>
    intro j i o ho hall h
    unfold precB at h
    rw [ho] at h
    simp only [List.any_eq_true, Bool.and_eq_true, Bool.or_eq_true] at h
    obtain ⟨e, he, hb, h⟩ := h
    have he' : e ∈ o.after := by simpa using he
    have hl := hall e he' hb
    rcases h with h | h
    · rw [← Nat.eq_of_beq_eq_true h]; exact hl
    · cases hx : ops[e.on]? with
      | none =>
        cases n with
        | zero => simp [precB] at h
        | succ n => simp [precB, hx] at h
      | some o' => exact ih j e.on o' hx (hd _ _ hx hl) h

theorem pairsB_pairwise : ∀ {l : List Nat}, pairsB ops l = true → l.Pairwise (fun j i => pairB ops j i = true ∧ j ≠ i)
  | [], _ => List.Pairwise.nil
  | j :: r, h => by
    simp only [pairsB, Bool.and_eq_true, List.all_eq_true, Bool.not_eq_true', List.contains_eq_mem, decide_eq_false_iff_not] at h
    exact List.Pairwise.cons (fun i hi => ⟨h.1.1 i hi, fun e => h.1.2 (e ▸ hi)⟩) (pairsB_pairwise h.2)

theorem VD_any (l : List Nat) (hl : eagerB ops l = true) : ∀ (fuel : Nat) (listed : Array Bool) (r : List Nat) (S : World → Prop) (a : Act) (w : World), r.Sublist l → listed.size = ops.size →
    (∀ j, j < ops.size → (listed.getD j true = false ↔ j ∈ r)) → Down ops listed → r.length ≤ fuel → VD P ops (lateB ops l) Q r S a → S w → wpAny P .any ops (QN Q) fuel listed a w := by
  simp only [eagerB, Bool.and_eq_true] at hl
  obtain ⟨⟨⟨⟨hsel, hpairs⟩, hall⟩, hlt⟩, hedge⟩ := hl
  have hpw := pairsB_pairwise hpairs
  have hltl : ∀ i ∈ l, i < ops.size := fun i hi => by
    have := List.all_eq_true.1 hlt i hi
    exact Nat.blt_eq ▸ this
  intro fuel
  induction fuel with
  | zero =>
    intro listed r S a w hsub hsz hp hd hlen hv hS
    have : r = [] := List.eq_nil_of_length_eq_zero (by omega)
    subst this
    refine ⟨?_, hv w hS⟩
    apply List.eq_nil_iff_forall_not_mem.2
    intro j hj
    obtain ⟨h1, o, ho, _⟩ := mem_ready.1 hj
    have hjs : j < ops.size := (Array.getElem?_eq_some_iff.1 ho).1
    simpa using (hp j hjs).1 h1
  | succ fuel ih =>
    intro listed r S a w hsub hsz hp hd hlen hv hS
    have hpr := hpw.sublist hsub
    refine ⟨fun hr => ?_, fun i hir => ?_⟩
    · cases r with
      | nil => exact hv w hS
      | cons h t =>
        exfalso
        have hh : h ∈ l := hsub.subset List.mem_cons_self
        have hhs := hltl h hh
        obtain ⟨o, ho⟩ : ∃ o, ops[h]? = some o := ⟨ops[h], Array.getElem?_eq_getElem hhs⟩
        have : h ∈ Region.ready .any ops listed := by
          refine mem_ready.2 ⟨(hp h hhs).2 List.mem_cons_self, o, ho, fun e he hb => ?_⟩
          have hed := List.all_eq_true.1 hedge h hh
          rw [ho] at hed
          have hee := List.all_eq_true.1 hed e (by simpa using he)
          simp only [hb, Bool.not_true, Bool.false_or, Bool.and_eq_true, Bool.not_eq_true'] at hee
          have hes : e.on < ops.size := Nat.blt_eq ▸ hee.1
          cases hx : listed.getD e.on false with
          | true => rfl
          | false =>
            have hx' : listed.getD e.on true = false := by
              have h1 : e.on < listed.size := by omega
              simp [h1] at hx ⊢
              exact hx
            have hmem := (hp e.on hes).1 hx'
            rcases List.mem_cons.1 hmem with he1 | he1
            · rw [he1] at hee
              simp at hee
            · have hpb := (List.rel_of_pairwise_cons hpr he1).1
              unfold pairB at hpb
              obtain ⟨oe, hoe⟩ : ∃ o, ops[e.on]? = some o := ⟨ops[e.on], Array.getElem?_eq_getElem hes⟩
              rw [ho, hoe] at hpb
              simp only [Bool.and_eq_true] at hpb
              have h3 := List.all_eq_true.1 hpb.2 e (by simpa using he)
              simp [hb] at h3
        rw [hr] at this
        simp at this
    · obtain ⟨h1, oi, hoi, hready⟩ := mem_ready.1 hir
      have his : i < ops.size := (Array.getElem?_eq_some_iff.1 hoi).1
      have himem := (hp i his).1 h1
      obtain ⟨pre, post, rfl⟩ := List.append_of_mem himem
      have hpre : ∀ j ∈ pre, pairB ops j i = true := fun j hj => ((List.pairwise_append.1 hpr).2.2 j hj i List.mem_cons_self).1
      have hh : VD P ops (lateB ops l) Q (i :: (pre ++ post)) S a := by
        refine VD_hoist hsel hoi pre a (fun j hj => ?_) hv
        have hjl : j ∈ l := hsub.subset (List.mem_append_left _ hj)
        have hjs := hltl j hjl
        obtain ⟨oj, hoj⟩ : ∃ o, ops[j]? = some o := ⟨ops[j], Array.getElem?_eq_getElem hjs⟩
        have hpb := hpre j hj
        unfold pairB at hpb
        rw [hoj, hoi] at hpb
        simp only [Bool.and_eq_true, Bool.or_eq_true] at hpb
        have hnp : ¬ precB ops ops.size j i = true := fun hprec => by
          have hlj := precB_listed hd ops.size j i oi hoi hready hprec
          have := (hp j hjs).2 (List.mem_append_left _ hj)
          have h1 : j < listed.size := by omega
          simp [h1] at hlj this
          rw [hlj] at this
          simp at this
        have h2 := hpb.1.resolve_left hnp
        refine ⟨oj, hoj, fun e => ?_, h2.2, fun _ hk1 => ?_⟩
        · rw [e] at h2; simp at h2
        · unfold lateB
          refine List.any_eq_true.2 ⟨j, hjl, ?_⟩
          have : kindAt ops j = 1 := by unfold kindAt; rw [hoj]; exact hk1
          rw [this]
          simp [hnp]
      have hsub' : (pre ++ post).Sublist l := List.Sublist.trans (List.Sublist.append (List.Sublist.refl pre) (List.sublist_cons_self i post)) hsub
      have hnd : (pre ++ i :: post).Nodup := hpr.imp fun h => h.2
      have hp' : ∀ j, j < ops.size → ((listed.setIfInBounds i true).getD j true = false ↔ j ∈ pre ++ post) := by
        intro j hj
        have hjl : j < listed.size := by omega
        by_cases e : i = j
        · subst e
          have : i ∉ pre ++ post := by
            have := List.nodup_append.1 hnd
            have h3 := List.nodup_cons.1 this.2.1
            intro hm
            rcases List.mem_append.1 hm with hm | hm
            · exact this.2.2 i hm i List.mem_cons_self rfl
            · exact h3.1 hm
          simp [hjl]
          simpa using this
        · have := hp j hj
          simp only [Array.getD_eq_getD_getElem?, Array.getElem?_setIfInBounds_ne e]
          rw [Array.getD_eq_getD_getElem?] at this
          rw [this]
          simp only [List.mem_append, List.mem_cons]
          constructor
          · rintro (h | h | h)
            · exact .inl h
            · exact absurd h.symm e
            · exact .inr h
          · rintro (h | h)
            · exact .inl h
            · exact .inr (.inr h)
      have hd' : Down ops (listed.setIfInBounds i true) := by
        intro k o ho hk e he hb
        by_cases ek : i = k
        · subst ek
          rw [hoi] at ho
          obtain rfl : oi = o := by simpa using ho
          exact getD_set_true (hready e he hb)
        · rw [getD_set_ne false ek] at hk
          exact getD_set_true (hd k o ho hk e he hb)
      have hlen' : (pre ++ post).length ≤ fuel := by simp at hlen ⊢; omega
      obtain ⟨o, ho, hh⟩ := hh
      rw [hoi] at ho
      obtain rfl : oi = o := by simpa using ho
      have next : ∀ {S' : World → Prop} {a' : Act} {w' : World}, S' w' → VD P ops (lateB ops l) Q (pre ++ post) S' a' → wpAny P .any ops (QN Q) fuel (listed.setIfInBounds i true) a' w' := fun hS' hv' =>
        ih _ _ _ _ _ hsub' (by simp [hsz]) hp' hd' hlen' hv' hS'
      rcases hh with ⟨_, hh⟩ | ⟨_, v, hy, hh⟩ | ⟨_, v, hy, hh⟩
      · exact wpOp_mono (fun a' w' ⟨S', hS', _, hv'⟩ => next hS' hv') (hh w hS)
      · exact hy.wpOp hoi hS (next hS hh)
      · exact hy.wpOp hoi trivial (next hS hh)
end

end Go.Proofs.YtmecmdnnhldjpaaDoor
