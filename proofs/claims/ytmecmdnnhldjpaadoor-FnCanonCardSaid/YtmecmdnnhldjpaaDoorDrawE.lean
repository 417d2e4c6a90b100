/- The engine: regions that draw their order; a load that may come up ahead of an effect or behind it, with what is known told apart. Conditions: none. -/
import Derived.Test.YtmecmdnnhldjpaaDoorDrawC
namespace Go.Proofs.YtmecmdnnhldjpaaDoor
open Go.RowKit

def lateG (lt : List Nat) (i : Nat) : Bool := lt.any fun j => Nat.beq j i
def pairG (ops : Array Oper) (fr : List (Nat × Nat)) (late : Nat → Bool) (j i : Nat) : Bool :=
  match ops[j]?, ops[i]? with
  | some oj, some oi => ((precB ops ops.size j i || ((!(Nat.beq (kindOf oj.op) 2) && oj.apart ops oi) || (Nat.beq (kindOf oj.op) 2 && fr.any fun p => Nat.beq p.1 j && Nat.beq p.2 i))) &&
      oj.after.toList.all fun e => !(Region.binds .any e && Nat.beq e.on i)) && (!(Nat.beq (kindOf oj.op) 1) || precB ops ops.size j i || late i)
  | _, _ => false
def pairsG (ops : Array Oper) (fr : List (Nat × Nat)) (late : Nat → Bool) : List Nat → Bool
  | [] => true
  | j :: r => r.all (pairG ops fr late j) && !r.contains j && pairsG ops fr late r
def eagerG (ops : Array Oper) (fr : List (Nat × Nat)) (late : Nat → Bool) (l : List Nat) : Bool :=
  Region.noSelect ops && pairsG ops fr late l && ((List.range ops.size).all fun i => l.contains i) && (l.all fun i => Nat.blt i ops.size) &&
    l.all fun i => match ops[i]? with
      | some o => o.after.toList.all fun e => !(Region.binds .any e) || (Nat.blt e.on ops.size && !(Nat.beq e.on i))
      | none => false

section
variable {P : Program} {ops : Array Oper} {Q : Act → World → Prop} {fr : List (Nat × Nat)}
theorem pairsG_pairwise {late : Nat → Bool} : ∀ {l : List Nat}, pairsG ops fr late l = true → l.Pairwise (fun j i => pairG ops fr late j i = true ∧ j ≠ i)
  | [], _ => List.Pairwise.nil
  | j :: r, h => by
    simp only [pairsG, Bool.and_eq_true, List.all_eq_true, Bool.not_eq_true', List.contains_eq_mem, decide_eq_false_iff_not] at h
    exact List.Pairwise.cons (fun i hi => ⟨h.1.1 i hi, fun e => h.1.2 (e ▸ hi)⟩) (pairsG_pairwise h.2)

theorem VE_anyG (late : Nat → Bool) (l : List Nat) (hl : eagerG ops fr late l = true) : ∀ (fuel : Nat) (listed : Array Bool) (n r : List Nat) (S : World → Prop) (a : Act) (w : World), r.Sublist l → listed.size = ops.size →
    (∀ j, j < ops.size → (listed.getD j true = false ↔ j ∈ r)) → Down ops listed → r.length ≤ fuel → r.length ≤ n.length → VE P ops fr late Q n r S a → S w → wpAny P .any ops (QN Q) fuel listed a w := by
  simp only [eagerG, Bool.and_eq_true] at hl
  obtain ⟨⟨⟨⟨hsel, hpairs⟩, hall⟩, hlt⟩, hedge⟩ := hl
  have hpw := pairsG_pairwise hpairs
  have hltl : ∀ i ∈ l, i < ops.size := fun i hi => by
    have := List.all_eq_true.1 hlt i hi
    exact Nat.blt_eq ▸ this
  have vnil : ∀ {n : List Nat} {S : World → Prop} {a : Act}, VE P ops fr late Q n [] S a → ∀ w, S w → Q a w := by
    intro n S a h
    cases n <;> exact h
  intro fuel
  induction fuel with
  | zero =>
    intro listed n r S a w hsub hsz hp hd hlen _ hv hS
    have : r = [] := List.eq_nil_of_length_eq_zero (by omega)
    subst this
    refine ⟨?_, vnil hv w hS⟩
    apply List.eq_nil_iff_forall_not_mem.2
    intro j hj
    obtain ⟨h1, o, ho, _⟩ := mem_ready.1 hj
    have hjs : j < ops.size := (Array.getElem?_eq_some_iff.1 ho).1
    simpa using (hp j hjs).1 h1
  | succ fuel ih =>
    intro listed n r S a w hsub hsz hp hd hlen hnl hv hS
    have hpr := hpw.sublist hsub
    refine ⟨fun hr => ?_, fun i hir => ?_⟩
    · cases r with
      | nil => exact vnil hv w hS
      | cons h t =>
        exfalso
        have hh : h ∈ l := hsub.subset List.mem_cons_self
        have hhs := hltl h hh
        obtain ⟨o, ho⟩ : ∃ o, ops[h]? = some o := ⟨ops[h], Array.getElem?_eq_getElem hhs⟩
        have : h ∈ Region.ready .any ops listed := by
          refine mem_ready.2 ⟨(hp h hhs).2 List.mem_cons_self, o, ho, fun e he hb => ?_⟩
          have hed := List.all_eq_true.1 hedge h hh
          rw [ho] at hed
          have hee := List.all_eq_true.1 hed e (by simpa using he)
          simp only [hb, Bool.not_true, Bool.false_or, Bool.and_eq_true, Bool.not_eq_true'] at hee
          have hes : e.on < ops.size := Nat.blt_eq ▸ hee.1
          cases hx : listed.getD e.on false with
          | true => rfl
          | false =>
            have hx' : listed.getD e.on true = false := by
              have h1 : e.on < listed.size := by omega
              simp [h1] at hx ⊢
              exact hx
            have hmem := (hp e.on hes).1 hx'
            rcases List.mem_cons.1 hmem with he1 | he1
            · rw [he1] at hee
              simp at hee
            · have hpb := (List.rel_of_pairwise_cons hpr he1).1
              unfold pairG at hpb
              obtain ⟨oe, hoe⟩ : ∃ o, ops[e.on]? = some o := ⟨ops[e.on], Array.getElem?_eq_getElem hes⟩
              rw [ho, hoe] at hpb
              simp only [Bool.and_eq_true] at hpb
              have h3 := List.all_eq_true.1 hpb.1.2 e (by simpa using he)
              simp [hb] at h3
        rw [hr] at this
        simp at this
    · obtain ⟨h1, oi, hoi, hready⟩ := mem_ready.1 hir
      have his : i < ops.size := (Array.getElem?_eq_some_iff.1 hoi).1
      have himem := (hp i his).1 h1
      obtain ⟨pre, post, rfl⟩ := List.append_of_mem himem
      have hpre : ∀ j ∈ pre, pairG ops fr late j i = true := fun j hj => ((List.pairwise_append.1 hpr).2.2 j hj i List.mem_cons_self).1
      have hnd : (pre ++ i :: post).Nodup := hpr.imp fun h => h.2
      have hip : i ∉ pre := fun hm => (List.nodup_append.1 hnd).2.2 i hm i List.mem_cons_self rfl
      obtain ⟨x, n', rfl⟩ : ∃ x n', n = x :: n' := by
        cases n with
        | nil => simp at hnl
        | cons x n' => exact ⟨x, n', rfl⟩
      have hh : stepE P ops late Q (VE P ops fr late Q n') i (pre ++ post) S a := by
        refine VE_hoist hsel hoi n' x pre a hip (fun j hj => ?_) hv
        have hjl : j ∈ l := hsub.subset (List.mem_append_left _ hj)
        have hjs := hltl j hjl
        obtain ⟨oj, hoj⟩ : ∃ o, ops[j]? = some o := ⟨ops[j], Array.getElem?_eq_getElem hjs⟩
        have hpb := hpre j hj
        unfold pairG at hpb
        rw [hoj, hoi] at hpb
        simp only [Bool.and_eq_true, Bool.or_eq_true] at hpb
        have hnp : ¬ precB ops ops.size j i = true := fun hprec => by
          have hlj := precB_listed hd ops.size j i oi hoi hready hprec
          have := (hp j hjs).2 (List.mem_append_left _ hj)
          have h1 : j < listed.size := by omega
          simp [h1] at hlj this
          rw [hlj] at this
          simp at this
        refine ⟨oj, hoj, ?_⟩
        rcases hpb.1.1.resolve_left hnp with h2 | h2
        · refine .inl ⟨fun e => ?_, h2.2, fun _ hk1 => ?_⟩
          · rw [e] at h2; simp at h2
          · rcases hpb.2 with h3 | h3
            · rcases h3 with h3 | h3
              · rw [hk1] at h3; simp at h3
              · exact absurd h3 hnp
            · exact h3
        · exact .inr ⟨Nat.eq_of_beq_eq_true h2.1, h2.2⟩
      have hsub' : (pre ++ post).Sublist l := List.Sublist.trans (List.Sublist.append (List.Sublist.refl pre) (List.sublist_cons_self i post)) hsub
      have hp' : ∀ j, j < ops.size → ((listed.setIfInBounds i true).getD j true = false ↔ j ∈ pre ++ post) := by
        intro j hj
        have hjl : j < listed.size := by omega
        by_cases e : i = j
        · subst e
          have : i ∉ pre ++ post := by
            have := List.nodup_append.1 hnd
            have h3 := List.nodup_cons.1 this.2.1
            intro hm
            rcases List.mem_append.1 hm with hm | hm
            · exact this.2.2 i hm i List.mem_cons_self rfl
            · exact h3.1 hm
          simp [hjl]
          simpa using this
        · have := hp j hj
          simp only [Array.getD_eq_getD_getElem?, Array.getElem?_setIfInBounds_ne e]
          rw [Array.getD_eq_getD_getElem?] at this
          rw [this]
          simp only [List.mem_append, List.mem_cons]
          constructor
          · rintro (h | h | h)
            · exact .inl h
            · exact absurd h.symm e
            · exact .inr h
          · rintro (h | h)
            · exact .inl h
            · exact .inr (.inr h)
      have hd' : Down ops (listed.setIfInBounds i true) := by
        intro k o ho hk e he hb
        by_cases ek : i = k
        · subst ek
          rw [hoi] at ho
          obtain rfl : oi = o := by simpa using ho
          exact getD_set_true (hready e he hb)
        · rw [getD_set_ne false ek] at hk
          exact getD_set_true (hd k o ho hk e he hb)
      have hlen' : (pre ++ post).length ≤ fuel := by simp at hlen ⊢; omega
      have hnl' : (pre ++ post).length ≤ n'.length := by simp at hnl ⊢; omega
      obtain ⟨o, ho, hh⟩ := hh
      rw [hoi] at ho
      obtain rfl : oi = o := by simpa using ho
      have next : ∀ {S' : World → Prop} {a' : Act} {w' : World}, S' w' → VE P ops fr late Q n' (pre ++ post) S' a' → wpAny P .any ops (QN Q) fuel (listed.setIfInBounds i true) a' w' := fun hS' hv' =>
        ih _ _ _ _ _ _ hsub' (by simp [hsz]) hp' hd' hlen' hnl' hv' hS'
      rcases hh with ⟨_, hh⟩ | ⟨_, v, hy, hh⟩ | ⟨_, v, hy, hh⟩
      · exact wpOp_mono (fun a' w' ⟨S', hS', _, hv'⟩ => next hS' hv') (hh w hS)
      · exact hy.wpOp hoi hS (next hS hh)
      · exact hy.wpOp hoi trivial (next hS hh)
end

/-- The rule for a region that draws its order among effects too: 'fr' names the pairs (i, j), i an effect ahead of j in 'l', of which j (an effect or a load) may come up first; 'lt': the effects behind which a load may come up that stands ahead of them in 'l'. -/
theorem Dr.g {P : Program} {n : Nat} {T : TT} {ops : Array Oper} {F : Fr} {w : World} {K : Fr → World → Prop} (l : List Nat) (fr : List (Nat × Nat)) (lt : List Nat) (hT : TOk P T) (hv : vce P T ops.toList fr (lateG lt) K l l F (fun u => Ext w u))
    (hm : P.follows .mixedOrders = true := by kernel_rfl) (hok : opsOk n ops.toList = true := by kernel_rfl) (hl : eagerG ops fr (lateG lt) l = true := by kernel_rfl) (hle : Nat.ble l.length ops.size = true := by kernel_rfl) : Dr P n T ops F w K := by
  refine ⟨fun a id Q h hq => ?_⟩
  have hl' := hl
  simp only [eagerG, Bool.and_eq_true] at hl'
  have hall := hl'.1.1.2
  have hlen : l.length ≤ ops.size := Nat.ble_eq ▸ hle
  refine Code.wp_mono (Q := QN (fun a w => Q .normal a w)) (fun e a w hx => by cases e <;> first | exact hx | exact hx.elim) (wp_region_any hm ?_)
  refine VE_anyG (Q := fun a w => Q .normal a w) _ l hl ops.size _ l l _ a _ (List.Sublist.refl l) (by simp) (fun j hj => ?_) (down_none ops) hlen (Nat.le_refl _) (vce_sound hT ops hok (fun F' a' w' h' hk => hq F' a' w' h' hk) l l F _ a h hv) (chg_drawn w _)
  have h1 := List.all_eq_true.1 hall j (List.mem_range.2 hj)
  simp [hj]
  simpa using h1

end Go.Proofs.YtmecmdnnhldjpaaDoor
