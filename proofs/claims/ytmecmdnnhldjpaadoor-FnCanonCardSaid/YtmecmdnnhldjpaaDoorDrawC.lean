/- The engine: regions that draw their order among effects too (a named pair of effects may come up either way); a cut behind a region. Conditions: none. -/
import Derived.Test.YtmecmdnnhldjpaaDoorJDrawB
namespace Go.Proofs.YtmecmdnnhldjpaaDoor
open Go.RowKit

/-- Behind an effect that no load comes up behind. -/
theorem Af.nw {late : Bool} {S : World → Prop} {w1 : World} {p : (World → Prop) → Prop} (k : p (fun u => Ext w1 u)) (hl : late = false := by kernel_rfl) : Af late S w1 p :=
  ⟨fun u => Ext w1 u, Chg.refl _ _, (fun h => absurd h (by rw [hl]; simp)), k⟩

/-- The effects that may come up ahead of i. -/
def altsF (fr : List (Nat × Nat)) (i : Nat) (r : List Nat) : List Nat := r.filter fun j => fr.any fun p => Nat.beq p.1 i && Nat.beq p.2 j

def pairF (ops : Array Oper) (fr : List (Nat × Nat)) (j i : Nat) : Bool :=
  match ops[j]?, ops[i]? with
  | some oj, some oi => (precB ops ops.size j i || ((!(Nat.beq (kindOf oj.op) 2) && oj.apart ops oi) || (Nat.beq (kindOf oj.op) 2 && (Nat.beq (kindOf oi.op) 2 && fr.any fun p => Nat.beq p.1 j && Nat.beq p.2 i)))) &&
      oj.after.toList.all fun e => !(Region.binds .any e && Nat.beq e.on i)
  | _, _ => false
def pairsF (ops : Array Oper) (fr : List (Nat × Nat)) : List Nat → Bool
  | [] => true
  | j :: r => r.all (pairF ops fr j) && !r.contains j && pairsF ops fr r
def eagerF (ops : Array Oper) (fr : List (Nat × Nat)) (l : List Nat) : Bool :=
  Region.noSelect ops && pairsF ops fr l && ((List.range ops.size).all fun i => l.contains i) && (l.all fun i => Nat.blt i ops.size) &&
    l.all fun i => match ops[i]? with
      | some o => o.after.toList.all fun e => !(Region.binds .any e) || (Nat.blt e.on ops.size && !(Nat.beq e.on i))
      | none => false

section
variable {P : Program} {ops : Array Oper} {Q : Act → World → Prop} {fr : List (Nat × Nat)}

def stepE (P : Program) (ops : Array Oper) (late : Nat → Bool) (Q : Act → World → Prop) (V : List Nat → (World → Prop) → Act → Prop) (i : Nat) (r : List Nat) (S : World → Prop) (a : Act) : Prop :=
  ∃ o, ops[i]? = some o ∧
    ((kindOf o.op = 2 ∧ ∀ w, S w → wpOp P ops (QN Q) i (fun a' w' => ∃ S' : World → Prop, S' w' ∧ (late i = true → ∀ u, S' u → S u) ∧ V r S' a') a w) ∨
     (kindOf o.op = 1 ∧ ∃ v, YieldsIf P ops S o v a ∧ V r S (a.put o.dst v)) ∨
     (kindOf o.op = 0 ∧ ∃ v, YieldsIf P ops (fun _ => True) o v a ∧ V r S (a.put o.dst v)))

def VE (P : Program) (ops : Array Oper) (fr : List (Nat × Nat)) (late : Nat → Bool) (Q : Act → World → Prop) : List Nat → List Nat → (World → Prop) → Act → Prop
  | _, [], S, a => ∀ w, S w → Q a w
  | [], _ :: _, _, _ => False
  | _ :: n, i :: r, S, a => stepE P ops late Q (VE P ops fr late Q n) i r S a ∧ ∀ j ∈ altsF fr i r, kindAt ops i = 2 → stepE P ops late Q (VE P ops fr late Q n) j ((i :: r).erase j) S a

theorem VE_swap {late : Nat → Bool} (hsel : Region.noSelect ops = true) {i j : Nat} {oi oj : Oper} (hi : ops[i]? = some oi) (hj : ops[j]? = some oj) (hap : oj.apart ops oi = true) {S Sj : World → Prop} {n r : List Nat} {a : Act} {v : Value} {x : Nat}
    (hk : (kindOf oj.op = 1 ∧ Sj = S ∧ (kindOf oi.op = 2 → late i = true)) ∨ (kindOf oj.op = 0 ∧ Sj = fun _ => True))
    (hy : YieldsIf P ops Sj oj v a) (h : stepE P ops late Q (VE P ops fr late Q n) i r S (a.put oj.dst v)) : stepE P ops late Q (VE P ops fr late Q (x :: n)) i (j :: r) S a := by
  have hns := Region.noSelect_spec hsel
  obtain ⟨h1, h2, h3⟩ := Oper.apart_spec hap
  obtain ⟨o, ho, h⟩ := h
  rw [hi] at ho
  obtain rfl : oi = o := by simpa using ho
  refine ⟨oi, hi, ?_⟩
  have hnk : kindAt ops j ≠ 2 := by
    unfold kindAt
    rw [hj]
    show kindOf oj.op ≠ 2
    rcases hk with ⟨h, _⟩ | ⟨h, _⟩ <;> omega
  have behind : ∀ {S' : World → Prop} {a' : Act}, (kindOf oj.op = 1 → ∀ u, S' u → S u) → YieldsIf P ops Sj oj v a' → VE P ops fr late Q n r S' (a'.put oj.dst v) → VE P ops fr late Q (x :: n) (j :: r) S' a' := by
    intro S' a' hs hy' hv
    refine ⟨?_, fun _ _ h => absurd h hnk⟩
    rcases hk with ⟨hk1, rfl, _⟩ | ⟨hk0, rfl⟩
    · exact ⟨oj, hj, .inr (.inl ⟨hk1, v, yieldsIf_mono hy' (hs hk1), hv⟩)⟩
    · exact ⟨oj, hj, .inr (.inr ⟨hk0, v, hy', hv⟩)⟩
  have same : ∀ {Si : World → Prop} {vi : Value}, YieldsIf P ops Si oi vi (a.put oj.dst v) → YieldsIf P ops Si oi vi a ∧ YieldsIf P ops Sj oj v (a.put oi.dst vi) := fun {Si vi} hyi =>
    ⟨hyi.of_same (execOp_put oi (fun cs b => hns i oi cs b hi) a oj.dst v h1).symm (wanted_put oi a oj.dst v h1).symm,
     hy.of_same (execOp_put oj (fun cs b => hns j oj cs b hj) a oi.dst vi h3) (wanted_put oj a oi.dst vi h3)⟩
  rcases h with ⟨hk2, h⟩ | ⟨hk1, vi, hyi, h⟩ | ⟨hk0, vi, hyi, h⟩
  · refine .inl ⟨hk2, fun w hw => ?_⟩
    refine wpOp_mono ?_ (wpOp_putIf (S := Sj) hi hap (fun cs b => hns j oj cs b hj) (fun cs b => hns i oi cs b hi) (fun _ _ _ h => h.elim) hy (h w hw))
    rintro a' w' ⟨hy', S', hS', hl, hv⟩
    refine ⟨S', hS', hl, behind (fun hk1 => ?_) hy' hv⟩
    rcases hk with ⟨_, _, hl2⟩ | ⟨hk0, _⟩
    · exact hl (hl2 hk2)
    · omega
  · obtain ⟨g1, g2⟩ := same hyi
    exact .inr (.inl ⟨hk1, vi, g1, behind (fun _ _ h => h) g2 (by rw [← Act.put_comm a v vi h2]; exact h)⟩)
  · obtain ⟨g1, g2⟩ := same hyi
    exact .inr (.inr ⟨hk0, vi, g1, behind (fun _ _ h => h) g2 (by rw [← Act.put_comm a v vi h2]; exact h)⟩)

theorem erase_mid {h k : Nat} {p q : List Nat} (hh : k ≠ h) (hk : k ∉ p) : (h :: (p ++ k :: q)).erase k = h :: (p ++ q) := by
  rw [List.erase_cons_tail (by simpa using fun e => hh e.symm), List.erase_append_right _ hk, List.erase_cons_head]

theorem VE_hoist {late : Nat → Bool} (hsel : Region.noSelect ops = true) {k : Nat} {ok : Oper} (hok : ops[k]? = some ok) {S : World → Prop} {post : List Nat} : ∀ (n : List Nat) (x : Nat) (p : List Nat) (a : Act), k ∉ p →
    (∀ j ∈ p, ∃ oj, ops[j]? = some oj ∧ ((kindOf oj.op ≠ 2 ∧ oj.apart ops ok = true ∧ (kindOf ok.op = 2 → kindOf oj.op = 1 → late k = true)) ∨ (kindOf oj.op = 2 ∧ (fr.any fun p => Nat.beq p.1 j && Nat.beq p.2 k) = true))) →
    VE P ops fr late Q (x :: n) (p ++ k :: post) S a → stepE P ops late Q (VE P ops fr late Q n) k (p ++ post) S a := by
  intro n
  induction n with
  | nil =>
    intro x p a hkp hp h
    cases p with
    | nil => exact h.1
    | cons j p =>
      obtain ⟨oj, hj, hc⟩ := hp j List.mem_cons_self
      have hkj : k ≠ j := fun e => hkp (by simp [e])
      have hkp' : k ∉ p := fun e => hkp (List.mem_cons_of_mem _ e)
      rcases hc with ⟨hk2, hap, hl⟩ | ⟨hk2, hfr⟩
      · exfalso
        obtain ⟨o, ho, h1⟩ := h.1
        rw [hj] at ho
        obtain rfl : oj = o := by simpa using ho
        have hne : ∀ S a, ¬ VE P ops fr late Q [] (p ++ k :: post) S a := by
          intro S a hv
          cases p <;> exact hv
        rcases h1 with ⟨hk, _⟩ | ⟨_, v, _, h1⟩ | ⟨_, v, _, h1⟩
        · exact hk2 hk
        · exact hne _ _ h1
        · exact hne _ _ h1
      · have := h.2 k (List.mem_filter.2 ⟨by simp, hfr⟩) (by unfold kindAt; rw [hj]; exact hk2)
        rw [show (j :: p.append (k :: post)) = (j :: (p ++ k :: post)) from rfl, erase_mid hkj hkp'] at this
        exact this
  | cons y n ih =>
    intro x p a hkp hp h
    cases p with
    | nil => exact h.1
    | cons j p =>
      obtain ⟨oj, hj, hc⟩ := hp j List.mem_cons_self
      have hkj : k ≠ j := fun e => hkp (by simp [e])
      have hkp' : k ∉ p := fun e => hkp (List.mem_cons_of_mem _ e)
      rcases hc with ⟨hk2, hap, hl⟩ | ⟨hk2, hfr⟩
      · obtain ⟨o, ho, h1⟩ := h.1
        rw [hj] at ho
        obtain rfl : oj = o := by simpa using ho
        rcases h1 with ⟨hk, _⟩ | ⟨hk1, v, hy, h1⟩ | ⟨hk0, v, hy, h1⟩
        · exact absurd hk hk2
        · exact VE_swap hsel hok hj hap (.inl ⟨hk1, rfl, fun h2 => hl h2 hk1⟩) hy (ih y p _ hkp' (fun i hi => hp i (List.mem_cons_of_mem _ hi)) h1)
        · exact VE_swap hsel hok hj hap (.inr ⟨hk0, rfl⟩) hy (ih y p _ hkp' (fun i hi => hp i (List.mem_cons_of_mem _ hi)) h1)
      · have := h.2 k (List.mem_filter.2 ⟨by simp, hfr⟩) (by unfold kindAt; rw [hj]; exact hk2)
        rw [show (j :: p.append (k :: post)) = (j :: (p ++ k :: post)) from rfl, erase_mid hkj hkp'] at this
        exact this

theorem pairsF_pairwise : ∀ {l : List Nat}, pairsF ops fr l = true → l.Pairwise (fun j i => pairF ops fr j i = true ∧ j ≠ i)
  | [], _ => List.Pairwise.nil
  | j :: r, h => by
    simp only [pairsF, Bool.and_eq_true, List.all_eq_true, Bool.not_eq_true', List.contains_eq_mem, decide_eq_false_iff_not] at h
    exact List.Pairwise.cons (fun i hi => ⟨h.1.1 i hi, fun e => h.1.2 (e ▸ hi)⟩) (pairsF_pairwise h.2)

theorem VE_any (l : List Nat) (hl : eagerF ops fr l = true) : ∀ (fuel : Nat) (listed : Array Bool) (n r : List Nat) (S : World → Prop) (a : Act) (w : World), r.Sublist l → listed.size = ops.size →
    (∀ j, j < ops.size → (listed.getD j true = false ↔ j ∈ r)) → Down ops listed → r.length ≤ fuel → r.length ≤ n.length → VE P ops fr (lateB ops l) Q n r S a → S w → wpAny P .any ops (QN Q) fuel listed a w := by
  simp only [eagerF, Bool.and_eq_true] at hl
  obtain ⟨⟨⟨⟨hsel, hpairs⟩, hall⟩, hlt⟩, hedge⟩ := hl
  have hpw := pairsF_pairwise hpairs
  have hltl : ∀ i ∈ l, i < ops.size := fun i hi => by
    have := List.all_eq_true.1 hlt i hi
    exact Nat.blt_eq ▸ this
  have vnil : ∀ {n : List Nat} {S : World → Prop} {a : Act}, VE P ops fr (lateB ops l) Q n [] S a → ∀ w, S w → Q a w := by
    intro n S a h
    cases n <;> exact h
  intro fuel
  induction fuel with
  | zero =>
    intro listed n r S a w hsub hsz hp hd hlen _ hv hS
    have : r = [] := List.eq_nil_of_length_eq_zero (by omega)
    subst this
    refine ⟨?_, vnil hv w hS⟩
    apply List.eq_nil_iff_forall_not_mem.2
    intro j hj
    obtain ⟨h1, o, ho, _⟩ := mem_ready.1 hj
    have hjs : j < ops.size := (Array.getElem?_eq_some_iff.1 ho).1
    simpa using (hp j hjs).1 h1
  | succ fuel ih =>
    intro listed n r S a w hsub hsz hp hd hlen hnl hv hS
    have hpr := hpw.sublist hsub
    refine ⟨fun hr => ?_, fun i hir => ?_⟩
    · cases r with
      | nil => exact vnil hv w hS
      | cons h t =>
        exfalso
        have hh : h ∈ l := hsub.subset List.mem_cons_self
        have hhs := hltl h hh
        obtain ⟨o, ho⟩ : ∃ o, ops[h]? = some o := ⟨ops[h], Array.getElem?_eq_getElem hhs⟩
        have : h ∈ Region.ready .any ops listed := by
          refine mem_ready.2 ⟨(hp h hhs).2 List.mem_cons_self, o, ho, fun e he hb => ?_⟩
          have hed := List.all_eq_true.1 hedge h hh
          rw [ho] at hed
          have hee := List.all_eq_true.1 hed e (by simpa using he)
          simp only [hb, Bool.not_true, Bool.false_or, Bool.and_eq_true, Bool.not_eq_true'] at hee
          have hes : e.on < ops.size := Nat.blt_eq ▸ hee.1
          cases hx : listed.getD e.on false with
          | true => rfl
          | false =>
            have hx' : listed.getD e.on true = false := by
              have h1 : e.on < listed.size := by omega
              simp [h1] at hx ⊢
              exact hx
            have hmem := (hp e.on hes).1 hx'
            rcases List.mem_cons.1 hmem with he1 | he1
            · rw [he1] at hee
              simp at hee
            · have hpb := (List.rel_of_pairwise_cons hpr he1).1
              unfold pairF at hpb
              obtain ⟨oe, hoe⟩ : ∃ o, ops[e.on]? = some o := ⟨ops[e.on], Array.getElem?_eq_getElem hes⟩
              rw [ho, hoe] at hpb
              simp only [Bool.and_eq_true] at hpb
              have h3 := List.all_eq_true.1 hpb.2 e (by simpa using he)
              simp [hb] at h3
        rw [hr] at this
        simp at this
    · obtain ⟨h1, oi, hoi, hready⟩ := mem_ready.1 hir
      have his : i < ops.size := (Array.getElem?_eq_some_iff.1 hoi).1
      have himem := (hp i his).1 h1
      obtain ⟨pre, post, rfl⟩ := List.append_of_mem himem
      have hpre : ∀ j ∈ pre, pairF ops fr j i = true := fun j hj => ((List.pairwise_append.1 hpr).2.2 j hj i List.mem_cons_self).1
      have hnd : (pre ++ i :: post).Nodup := hpr.imp fun h => h.2
      have hip : i ∉ pre := fun hm => (List.nodup_append.1 hnd).2.2 i hm i List.mem_cons_self rfl
      obtain ⟨x, n', rfl⟩ : ∃ x n', n = x :: n' := by
        cases n with
        | nil => simp at hnl
        | cons x n' => exact ⟨x, n', rfl⟩
      have hh : stepE P ops (lateB ops l) Q (VE P ops fr (lateB ops l) Q n') i (pre ++ post) S a := by
        refine VE_hoist hsel hoi n' x pre a hip (fun j hj => ?_) hv
        have hjl : j ∈ l := hsub.subset (List.mem_append_left _ hj)
        have hjs := hltl j hjl
        obtain ⟨oj, hoj⟩ : ∃ o, ops[j]? = some o := ⟨ops[j], Array.getElem?_eq_getElem hjs⟩
        have hpb := hpre j hj
        unfold pairF at hpb
        rw [hoj, hoi] at hpb
        simp only [Bool.and_eq_true, Bool.or_eq_true] at hpb
        have hnp : ¬ precB ops ops.size j i = true := fun hprec => by
          have hlj := precB_listed hd ops.size j i oi hoi hready hprec
          have := (hp j hjs).2 (List.mem_append_left _ hj)
          have h1 : j < listed.size := by omega
          simp [h1] at hlj this
          rw [hlj] at this
          simp at this
        refine ⟨oj, hoj, ?_⟩
        rcases hpb.1.resolve_left hnp with h2 | h2
        · refine .inl ⟨fun e => ?_, h2.2, fun _ hk1 => ?_⟩
          · rw [e] at h2; simp at h2
          · unfold lateB
            refine List.any_eq_true.2 ⟨j, hjl, ?_⟩
            have : kindAt ops j = 1 := by unfold kindAt; rw [hoj]; exact hk1
            rw [this]
            simp [hnp]
        · exact .inr ⟨Nat.eq_of_beq_eq_true h2.1, h2.2.2⟩
      have hsub' : (pre ++ post).Sublist l := List.Sublist.trans (List.Sublist.append (List.Sublist.refl pre) (List.sublist_cons_self i post)) hsub
      have hp' : ∀ j, j < ops.size → ((listed.setIfInBounds i true).getD j true = false ↔ j ∈ pre ++ post) := by
        intro j hj
        have hjl : j < listed.size := by omega
        by_cases e : i = j
        · subst e
          have : i ∉ pre ++ post := by
            have := List.nodup_append.1 hnd
            have h3 := List.nodup_cons.1 this.2.1
            intro hm
            rcases List.mem_append.1 hm with hm | hm
            · exact this.2.2 i hm i List.mem_cons_self rfl
            · exact h3.1 hm
          simp [hjl]
          simpa using this
        · have := hp j hj
          simp only [Array.getD_eq_getD_getElem?, Array.getElem?_setIfInBounds_ne e]
          rw [Array.getD_eq_getD_getElem?] at this
          rw [this]
          simp only [List.mem_append, List.mem_cons]
          constructor
          · rintro (h | h | h)
            · exact .inl h
            · exact absurd h.symm e
            · exact .inr h
          · rintro (h | h)
            · exact .inl h
            · exact .inr (.inr h)
      have hd' : Down ops (listed.setIfInBounds i true) := by
        intro k o ho hk e he hb
        by_cases ek : i = k
        · subst ek
          rw [hoi] at ho
          obtain rfl : oi = o := by simpa using ho
          exact getD_set_true (hready e he hb)
        · rw [getD_set_ne false ek] at hk
          exact getD_set_true (hd k o ho hk e he hb)
      have hlen' : (pre ++ post).length ≤ fuel := by simp at hlen ⊢; omega
      have hnl' : (pre ++ post).length ≤ n'.length := by simp at hnl ⊢; omega
      obtain ⟨o, ho, hh⟩ := hh
      rw [hoi] at ho
      obtain rfl : oi = o := by simpa using ho
      have next : ∀ {S' : World → Prop} {a' : Act} {w' : World}, S' w' → VE P ops fr (lateB ops l) Q n' (pre ++ post) S' a' → wpAny P .any ops (QN Q) fuel (listed.setIfInBounds i true) a' w' := fun hS' hv' =>
        ih _ _ _ _ _ _ hsub' (by simp [hsz]) hp' hd' hlen' hnl' hv' hS'
      rcases hh with ⟨_, hh⟩ | ⟨_, v, hy, hh⟩ | ⟨_, v, hy, hh⟩
      · exact wpOp_mono (fun a' w' ⟨S', hS', _, hv'⟩ => next hS' hv') (hh w hS)
      · exact hy.wpOp hoi hS (next hS hh)
      · exact hy.wpOp hoi trivial (next hS hh)
end

/-- One operation, then V. -/
def oneD (P : Program) (T : TT) (ops : List Oper) (late : Nat → Bool) (V : List Nat → Fr → (World → Prop) → Prop) (i : Nat) (r : List Nat) (F : Fr) (S : World → Prop) : Prop :=
  match ops[i]? with
  | none => False
  | some o => gd ops F o.guard
      (match kindOf o.op with
        | 0 => vcR P T o F (fun _ => True) fun v => V r (putF F o.dst v) S
        | 1 => vcR P T o F S fun v => V r (putF F o.dst v) S
        | 2 => Ef S fun w => vc1 P T o F w fun F' w' => Af (late i) S w' fun S' => V r F' S'
        | _ => False)
      (V r (putF F o.dst undef) S)
def andL (p : Prop) : List Prop → Prop
  | [] => p
  | q :: qs => p ∧ andL q qs
theorem andL_all {p : Prop} {qs : List Prop} (h : andL p qs) : p ∧ ∀ q ∈ qs, q := by
  induction qs generalizing p with
  | nil => exact ⟨h, by simp⟩
  | cons q qs ih =>
    obtain ⟨h1, h2⟩ := h
    obtain ⟨h3, h4⟩ := ih h2
    refine ⟨h1, fun x hx => ?_⟩
    rcases List.mem_cons.1 hx with rfl | hx
    · exact h3
    · exact h4 x hx
def vce (P : Program) (T : TT) (ops : List Oper) (fr : List (Nat × Nat)) (late : Nat → Bool) (K : Fr → World → Prop) : List Nat → List Nat → Fr → (World → Prop) → Prop
  | _, [], F, S => ∀ w, S w → K F w
  | [], _ :: _, _, _ => False
  | _ :: n, i :: r, F, S => andL (oneD P T ops late (vce P T ops fr late K n) i r F S) ((altsF fr i r).map fun j => oneD P T ops late (vce P T ops fr late K n) j ((i :: r).erase j) F S)

theorem oneD_sound {P : Program} {n : Nat} {T : TT} (hT : TOk P T) (ops : Array Oper) (hok : opsOk n ops.toList = true) {late : Nat → Bool} {Q : Act → World → Prop} {V : List Nat → Fr → (World → Prop) → Prop} {V' : List Nat → (World → Prop) → Act → Prop}
    {r : List Nat} (hV : ∀ (F : Fr) (S : World → Prop) (a : Act), Holds n F a → V r F S → V' r S a) (i : Nat) {F : Fr} {S : World → Prop} {a : Act} (h : Holds n F a) (hv : oneD P T ops.toList late V i r F S) : stepE P ops late Q V' i r S a := by
  unfold oneD at hv
  split at hv
  · exact hv.elim
  · rename_i o ho
    have ho' : ops[i]? = some o := by simpa using ho
    have hd : ∀ d, o.dst = some d → d < n := by
      intro d hd
      have := List.all_eq_true.1 hok o (List.mem_of_getElem? ho)
      rw [hd] at this
      exact Nat.blt_eq ▸ this
    have go : Region.wanted o (yielded ops a.tmps) = true → (match kindOf o.op with
      | 0 => vcR P T o F (fun _ => True) fun v => V r (putF F o.dst v) S
      | 1 => vcR P T o F S fun v => V r (putF F o.dst v) S
      | 2 => Ef S fun w => vc1 P T o F w fun F' w' => Af (late i) S w' fun S' => V r F' S'
      | _ => False) → stepE P ops late Q V' i r S a := by
      intro hw hv
      refine ⟨o, ho', ?_⟩
      split at hv
      · rename_i hk0
        obtain ⟨v, h1, h2⟩ := vcR_sound hT h hv
        exact .inr (.inr ⟨hk0, v, .inl ⟨hw, h1⟩, hV _ _ _ (h.put o.dst v hd) h2⟩)
      · rename_i hk1
        obtain ⟨v, h1, h2⟩ := vcR_sound hT h hv
        exact .inr (.inl ⟨hk1, v, .inl ⟨hw, h1⟩, hV _ _ _ (h.put o.dst v hd) h2⟩)
      · rename_i hk2
        refine .inl ⟨hk2, fun w hSw => ?_⟩
        unfold wpOp
        rw [ho']
        simp only [hw, if_true]
        refine .inl (vc1_sound hT h hd (fun F' a' w' h' ha => ?_) (hv.h w hSw))
        obtain ⟨S', hS', hl, hv'⟩ := ha.h
        exact ⟨S', hS', hl, hV _ _ _ h' hv'⟩
      · exact hv.elim
    have skip : Region.wanted o (yielded ops a.tmps) = false → V r (putF F o.dst undef) S → stepE P ops late Q V' i r S a := by
      intro hw hv
      refine ⟨o, ho', ?_⟩
      have hr := hV _ _ _ (h.put o.dst undef hd) hv
      by_cases h0 : kindOf o.op = 0
      · exact .inr (.inr ⟨h0, undef, .inr ⟨hw, rfl⟩, hr⟩)
      · by_cases h1 : kindOf o.op = 1
        · exact .inr (.inl ⟨h1, undef, .inr ⟨hw, rfl⟩, hr⟩)
        · have h2 : kindOf o.op = 2 := by
            unfold kindOf at h0 h1 ⊢
            split at h0 <;> simp_all
          refine .inl ⟨h2, fun w hSw => ?_⟩
          unfold wpOp
          rw [ho']
          simp only [hw, Bool.false_eq_true, if_false]
          exact ⟨S, hSw, fun _ _ h => h, hr⟩
    unfold gd at hv
    cases hg : o.guard with
    | none =>
      rw [hg] at hv
      exact go (by simp [Region.wanted, hg]) hv
    | some jw =>
      obtain ⟨j, want⟩ := jw
      rw [hg] at hv
      simp only at hv
      split at hv
      · rename_i oj hoj
        split at hv
        · rename_i d hod
          have hy : ∀ u, Fr.get F d = some u → yielded ops a.tmps j = (match u with | .bool b => some b | _ => none) := by
            intro u hu
            have h1 : ops[j]? = some oj := by simpa using hoj
            unfold yielded
            rw [h1]
            simp only [Option.bind_some, hod, h.get d u hu]
            cases u <;> rfl
          split at hv
          · rename_i b hb
            have hw : Region.wanted o (yielded ops a.tmps) = (b == want) := by
              simp only [Region.wanted, hg, hy _ hb]
              cases b <;> cases want <;> rfl
            cases want <;> cases b <;> simp only [Sw] at hv
            · exact go hw hv
            · exact skip hw hv
            · exact skip hw hv
            · exact go hw hv
          · rename_i vs hb
            have hw : Region.wanted o (yielded ops a.tmps) = false := by
              simp only [Region.wanted, hg, hy _ hb]
              rfl
            exact skip hw hv
          · exact hv.elim
        · exact hv.elim
      · exact hv.elim

theorem vce_sound {P : Program} {n : Nat} {T : TT} (hT : TOk P T) (ops : Array Oper) (hok : opsOk n ops.toList = true) {fr : List (Nat × Nat)} {late : Nat → Bool} {K : Fr → World → Prop} {Q : Act → World → Prop} (hk : ∀ F' a' w', Holds n F' a' → K F' w' → Q a' w') :
    ∀ (m l : List Nat) (F : Fr) (S : World → Prop) (a : Act), Holds n F a → vce P T ops.toList fr late K m l F S → VE P ops fr late Q m l S a := by
  intro m
  induction m with
  | nil =>
    intro l F S a h hv
    cases l with
    | nil => intro w hw; exact hk _ _ _ h (hv w hw)
    | cons i r => exact hv.elim
  | cons x m ih =>
    intro l F S a h hv
    cases l with
    | nil => intro w hw; exact hk _ _ _ h (hv w hw)
    | cons i r =>
      obtain ⟨h1, h2⟩ := andL_all hv
      refine ⟨oneD_sound hT ops hok (fun F S a => ih _ F S a) i h h1, fun j hj _ => ?_⟩
      exact oneD_sound hT ops hok (fun F S a => ih _ F S a) j h (h2 _ (List.mem_map.2 ⟨j, hj, rfl⟩))

/-- The rule for a region that draws its order among effects too: 'fr' names the pairs (i, j) of effects, i ahead of j in 'l', of which j may come up first. -/
theorem Dr.e {P : Program} {n : Nat} {T : TT} {ops : Array Oper} {F : Fr} {w : World} {K : Fr → World → Prop} (l : List Nat) (fr : List (Nat × Nat)) (hT : TOk P T) (hv : vce P T ops.toList fr (lateB ops l) K l l F (fun u => Ext w u))
    (hm : P.follows .mixedOrders = true := by kernel_rfl) (hok : opsOk n ops.toList = true := by kernel_rfl) (hl : eagerF ops fr l = true := by kernel_rfl) (hle : Nat.ble l.length ops.size = true := by kernel_rfl) : Dr P n T ops F w K := by
  refine ⟨fun a id Q h hq => ?_⟩
  have hl' := hl
  simp only [eagerF, Bool.and_eq_true] at hl'
  have hall := hl'.1.1.2
  have hlen : l.length ≤ ops.size := Nat.ble_eq ▸ hle
  refine Code.wp_mono (Q := QN (fun a w => Q .normal a w)) (fun e a w hx => by cases e <;> first | exact hx | exact hx.elim) (wp_region_any hm ?_)
  refine VE_any (Q := fun a w => Q .normal a w) l hl ops.size _ l l _ a _ (List.Sublist.refl l) (by simp) (fun j hj => ?_) (down_none ops) hlen (Nat.le_refl _) (vce_sound hT ops hok (fun F' a' w' h' hk => hq F' a' w' h' hk) l l F _ a h hv) (chg_drawn w _)
  have h1 := List.all_eq_true.1 hall j (List.mem_range.2 hj)
  simp [hj]
  simpa using h1

/-- A cut behind a region: what is known there, and no more. -/
theorem Dr.cut {P : Program} {n : Nat} {T : TT} {ops : Array Oper} {F : Fr} {w : World} {K : Fr → World → Prop} {β : Type} (Fi : β → Fr) (I : β → World → Prop)
    (h : Dr P n T ops F w fun F' w' => ∃ b, SubF (Fi b) F' ∧ I b w') (k : ∀ b w', I b w' → K (Fi b) w') : Dr P n T ops F w K :=
  ⟨fun a id Q ha hq => h.h a id Q ha fun F' a' w' ha' ⟨b, hs, hI⟩ => hq (Fi b) a' w' (ha'.sub hs) (k b w' hI)⟩
/-- All slots of E but d are new to F. -/
def newB (d : Nat) (F : Fr) (E : Fr) : Bool := E.all fun x => Nat.beq x.1 d || !(F.any fun y => Nat.beq y.1 x.1)
theorem get_none {F : Fr} {s : Nat} (h : (F.any fun y => Nat.beq y.1 s) = false) : Fr.get F s = none := by
  induction F with
  | nil => rfl
  | cons y F ih =>
    simp only [List.any_cons, Bool.or_eq_false_iff] at h
    obtain ⟨t, v⟩ := y
    show (match Nat.beq t s with | true => some v | false => Fr.get F s) = none
    rw [h.1]
    exact ih h.2
theorem get_app {E F : Fr} {s : Nat} : Fr.get (E ++ F) s = (Fr.get E s).or (Fr.get F s) := by
  induction E with
  | nil => simp [Fr.get]
  | cons y E ih =>
    obtain ⟨t, v⟩ := y
    show (match Nat.beq t s with | true => some v | false => Fr.get (E ++ F) s) = Option.or (match Nat.beq t s with | true => some v | false => Fr.get E s) _
    cases Nat.beq t s
    · exact ih
    · rfl
theorem get_mem {E : Fr} {s : Nat} {u : Value} (h : Fr.get E s = some u) : ∃ x ∈ E, x.1 = s := by
  induction E with
  | nil => cases h
  | cons y E ih =>
    obtain ⟨t, v⟩ := y
    have h' : (match Nat.beq t s with | true => some v | false => Fr.get E s) = some u := h
    cases hb : Nat.beq t s
    · rw [hb] at h'
      obtain ⟨x, hx, e⟩ := ih h'
      exact ⟨x, List.mem_cons_of_mem _ hx, e⟩
    · exact ⟨(t, v), List.mem_cons_self, Nat.eq_of_beq_eq_true hb⟩
theorem sub_new {E F : Fr} {d : Nat} {v : Value} (h1 : Fr.get E d = some v) (h2 : newB d F E = true) : ∀ s u, Fr.get (putF F (some d) v) s = some u → Fr.get (E ++ F) s = some u := by
  intro s u h
  rw [get_app]
  have h' : (match Nat.beq d s with | true => some v | false => Fr.get F s) = some u := h
  cases hb : Nat.beq d s with
  | true =>
    obtain rfl := Nat.eq_of_beq_eq_true hb
    rw [hb] at h'
    rw [h1]
    exact h'
  | false =>
    rw [hb] at h'
    cases hE : Fr.get E s with
    | none => exact h'
    | some x =>
      exfalso
      obtain ⟨y, hy, rfl⟩ := get_mem hE
      have := List.all_eq_true.1 h2 y hy
      simp only [Bool.or_eq_true, Bool.not_eq_true'] at this
      rcases this with h | h
      · have := Nat.eq_of_beq_eq_true h
        rw [← this, Nat.beq_refl] at hb
        cases hb
      · rw [get_none h] at h'
        cases h'

def dstAt (ops : Array Oper) (x : Nat) : Nat := match ops[x]? with
  | some o => o.dst.getD 0
  | none => 0
/-- A cut behind a region of m operations that yield, of which x has put a value into its place. -/
theorem Dr.cutA {P : Program} {n : Nat} {T : TT} {ops : Array Oper} {F : Fr} {w : World} {K : Fr → World → Prop} {β : Type} (x m : Nat) (val : β → Value) (I : β → World → Prop)
    (h : Dr P n T ops F w fun F' w' => ∃ b, (F'.drop m = F ∧ Fr.get (F'.take m) (dstAt ops x) = some (val b) ∧ newB (dstAt ops x) F (F'.take m) = true) ∧ I b w')
    (k : ∀ b w', I b w' → K (putF F (some (dstAt ops x)) (val b)) w') : Dr P n T ops F w K :=
  ⟨fun a id Q ha hq => h.h a id Q ha fun F' a' w' ha' ⟨b, ⟨h1, h2, h3⟩, hI⟩ => hq (putF F (some (dstAt ops x)) (val b)) a' w' ⟨ha'.defers, ha'.size, fun s u hs => ha'.get s u (by
    have h4 := sub_new h2 h3 s u hs
    rw [← h1, List.take_append_drop] at h4
    exact h4)⟩ (k b w' hI)⟩
end Go.Proofs.YtmecmdnnhldjpaaDoor
