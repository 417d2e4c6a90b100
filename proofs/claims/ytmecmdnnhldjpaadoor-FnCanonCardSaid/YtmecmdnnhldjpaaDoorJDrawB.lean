/- The engine, fourth part: the verification condition of a region that draws its order, computed; its soundness; Laws for the stops of a region that draws its order. Conditions: none. -/
import Derived.Test.YtmecmdnnhldjpaaDoorDraw
import Derived.Test.YtmecmdnnhldjpaaDoorMem
namespace Go.Proofs.YtmecmdnnhldjpaaDoor
open Go.RowKit

/-- A load, in every world that meets S. -/
structure LdS (P : Program) (t : TypeId) (S : World → Prop) (a : Addr) (K : Value → Prop) : Prop where
  h : ∃ v, (∀ w, S w → (loadVar t a).run P w = .ok v w) ∧ K v
/-- An operation that reads at most, in every world that meets S. -/
structure GoS (P : Program) (m : Sem Value) (S : World → Prop) (K : Value → Prop) : Prop where
  h : ∃ v, (∀ w, S w → m.run P w = .ok v w) ∧ K v
/-- An effect, from every world that meets S. -/
structure Ef (S : World → Prop) (p : World → Prop) : Prop where
  h : ∀ w, S w → p w
/-- Behind an effect. -/
structure Af (late : Bool) (S : World → Prop) (w' : World) (p : (World → Prop) → Prop) : Prop where
  h : ∃ S' : World → Prop, S' w' ∧ (late = true → ∀ u, S' u → S u) ∧ p S'

def vcR (P : Program) (T : TT) (o : Oper) (F : Fr) (S : World → Prop) (K : Value → Prop) : Prop :=
  match pureV T F o.op with
  | some v => K v
  | none => match arithV F o.op with
    | some (k, z) => Wr k z fun r => K (.int k r)
    | none => match cmpB T F o.op with
      | some b => Cm b fun t => K (.bool t)
      | none => match o.op with
        | .pick c a b => match opd F c with
          | some (.bool t) => Sw t
            (match opd F a with
              | some v => K v
              | none => False)
            (match opd F b with
              | some v => K v
              | none => False)
          | _ => False
        | .load t x => match opd F x with
          | some (.pointer (some a)) => LdS P t S a K
          | _ => False
        | op => match semV F o.type op with
          | some m => GoS P m S K
          | none => False

theorem vcR_sound {P : Program} {n : Nat} {T : TT} (hT : TOk P T) {o : Oper} {F : Fr} {a : Act} (h : Holds n F a) {S : World → Prop} {K : Value → Prop} (hv : vcR P T o F S K) :
    ∃ v, (∀ w, S w → (execOp a.eval o).run P w = .ok (.value v) w) ∧ K v := by
  unfold vcR at hv
  split at hv
  · rename_i v hp
    exact ⟨v, fun w _ => pureV_sound hT h o hp w, hv⟩
  · split at hv
    · rename_i k z ha
      exact ⟨_, fun w _ => arithV_sound h o ha w, hv.h⟩
    · split at hv
      · rename_i b hb
        exact ⟨_, fun w _ => cmpB_sound hT h o hb w, hv.h⟩
      · split at hv
        · rename_i c x y ho
          split at hv
          · rename_i t hc
            cases t
            · simp only [Sw] at hv
              split at hv
              · rename_i v hx
                refine ⟨v, fun w _ => ?_, hv⟩
                unfold execOp
                rw [ho]
                simp [opd_eval h hc, opd_eval h hx, asBool]
              · exact hv.elim
            · simp only [Sw] at hv
              split at hv
              · rename_i v hx
                refine ⟨v, fun w _ => ?_, hv⟩
                unfold execOp
                rw [ho]
                simp [opd_eval h hc, opd_eval h hx, asBool]
              · exact hv.elim
          · exact hv.elim
        · rename_i t x ho
          split at hv
          · rename_i ad hx
            obtain ⟨v, h1, h2⟩ := hv.h
            refine ⟨v, fun w hw => ?_, h2⟩
            unfold execOp
            rw [ho]
            simp only [opd_eval h hx]
            refine run_value ?_
            simpa [Instr.loadAt, Instr.sureAddr] using h1 w hw
          · exact hv.elim
        · split at hv
          · rename_i m hm
            obtain ⟨v, h1, h2⟩ := hv.h
            exact ⟨v, fun w hw => semV_sound h o hm (h1 w hw), h2⟩
          · exact hv.elim

def vcd (P : Program) (T : TT) (ops : List Oper) (late : Nat → Bool) (K : Fr → World → Prop) : List Nat → Fr → (World → Prop) → Prop
  | [], F, S => ∀ w, S w → K F w
  | i :: r, F, S => match ops[i]? with
    | none => False
    | some o => gd ops F o.guard
      (match kindOf o.op with
        | 0 => vcR P T o F (fun _ => True) fun v => vcd P T ops late K r (putF F o.dst v) S
        | 1 => vcR P T o F S fun v => vcd P T ops late K r (putF F o.dst v) S
        | 2 => Ef S fun w => vc1 P T o F w fun F' w' => Af (late i) S w' fun S' => vcd P T ops late K r F' S'
        | _ => False)
      (vcd P T ops late K r (putF F o.dst undef) S)

theorem vcd_sound {P : Program} {n : Nat} {T : TT} (hT : TOk P T) (ops : Array Oper) (hok : opsOk n ops.toList = true) {late : Nat → Bool} {K : Fr → World → Prop} {Q : Act → World → Prop} (hk : ∀ F' a' w', Holds n F' a' → K F' w' → Q a' w') :
    ∀ (l : List Nat) (F : Fr) (S : World → Prop) (a : Act), Holds n F a → vcd P T ops.toList late K l F S → VD P ops late Q l S a := by
  intro l
  induction l with
  | nil => intro F S a h hv w hw; exact hk _ _ _ h (hv w hw)
  | cons i r ih =>
    intro F S a h hv
    simp only [vcd] at hv
    split at hv
    · exact hv.elim
    · rename_i o ho
      have ho' : ops[i]? = some o := by simpa using ho
      have hd : ∀ d, o.dst = some d → d < n := by
        intro d hd
        have := List.all_eq_true.1 hok o (List.mem_of_getElem? ho)
        rw [hd] at this
        exact Nat.blt_eq ▸ this
      have go : Region.wanted o (yielded ops a.tmps) = true → (match kindOf o.op with
        | 0 => vcR P T o F (fun _ => True) fun v => vcd P T ops.toList late K r (putF F o.dst v) S
        | 1 => vcR P T o F S fun v => vcd P T ops.toList late K r (putF F o.dst v) S
        | 2 => Ef S fun w => vc1 P T o F w fun F' w' => Af (late i) S w' fun S' => vcd P T ops.toList late K r F' S'
        | _ => False) → VD P ops late Q (i :: r) S a := by
        intro hw hv
        refine ⟨o, ho', ?_⟩
        split at hv
        · rename_i hk0
          obtain ⟨v, h1, h2⟩ := vcR_sound hT h hv
          exact .inr (.inr ⟨hk0, v, .inl ⟨hw, h1⟩, ih _ _ _ (h.put o.dst v hd) h2⟩)
        · rename_i hk1
          obtain ⟨v, h1, h2⟩ := vcR_sound hT h hv
          exact .inr (.inl ⟨hk1, v, .inl ⟨hw, h1⟩, ih _ _ _ (h.put o.dst v hd) h2⟩)
        · rename_i hk2
          refine .inl ⟨hk2, fun w hSw => ?_⟩
          unfold wpOp
          rw [ho']
          simp only [hw, if_true]
          refine .inl (vc1_sound hT h hd (fun F' a' w' h' ha => ?_) (hv.h w hSw))
          obtain ⟨S', hS', hl, hv'⟩ := ha.h
          exact ⟨S', hS', hl, ih _ _ _ h' hv'⟩
        · exact hv.elim
      have skip : Region.wanted o (yielded ops a.tmps) = false → vcd P T ops.toList late K r (putF F o.dst undef) S → VD P ops late Q (i :: r) S a := by
        intro hw hv
        refine ⟨o, ho', ?_⟩
        have hr := ih _ _ _ (h.put o.dst undef hd) hv
        by_cases h0 : kindOf o.op = 0
        · exact .inr (.inr ⟨h0, undef, .inr ⟨hw, rfl⟩, hr⟩)
        · by_cases h1 : kindOf o.op = 1
          · exact .inr (.inl ⟨h1, undef, .inr ⟨hw, rfl⟩, hr⟩)
          · have h2 : kindOf o.op = 2 := by
              unfold kindOf at h0 h1 ⊢
              split at h0 <;> simp_all
            refine .inl ⟨h2, fun w hSw => ?_⟩
            unfold wpOp
            rw [ho']
            simp only [hw, Bool.false_eq_true, if_false]
            exact ⟨S, hSw, fun _ _ h => h, hr⟩
      unfold gd at hv
      cases hg : o.guard with
      | none =>
        rw [hg] at hv
        exact go (by simp [Region.wanted, hg]) hv
      | some jw =>
        obtain ⟨j, want⟩ := jw
        rw [hg] at hv
        simp only at hv
        split at hv
        · rename_i oj hoj
          split at hv
          · rename_i d hod
            have hy : ∀ u, Fr.get F d = some u → yielded ops a.tmps j = (match u with | .bool b => some b | _ => none) := by
              intro u hu
              have h1 : ops[j]? = some oj := by simpa using hoj
              unfold yielded
              rw [h1]
              simp only [Option.bind_some, hod, h.get d u hu]
              cases u <;> rfl
            split at hv
            · rename_i b hb
              have hw : Region.wanted o (yielded ops a.tmps) = (b == want) := by
                simp only [Region.wanted, hg, hy _ hb]
                cases b <;> cases want <;> rfl
              cases want <;> cases b <;> simp only [Sw] at hv
              · exact go hw hv
              · exact skip hw hv
              · exact skip hw hv
              · exact go hw hv
            · rename_i vs hb
              have hw : Region.wanted o (yielded ops a.tmps) = false := by
                simp only [Region.wanted, hg, hy _ hb]
                rfl
              exact skip hw hv
            · exact hv.elim
          · exact hv.elim
        · exact hv.elim

theorem down_none (ops : Array Oper) : Down ops (Array.replicate ops.size false) := by
  intro k o ho hk
  have hks : k < ops.size := (Array.getElem?_eq_some_iff.1 ho).1
  simp [hks] at hk

/-- The rule for a region that draws its order: 'l' is one order, loads as early as they can come ('eagerB' looks that through); 'S' holds at the region's start. -/
theorem Dr.go {P : Program} {n : Nat} {T : TT} {ops : Array Oper} {F : Fr} {w : World} {K : Fr → World → Prop} (l : List Nat) (S : World → Prop) (hT : TOk P T) (hS : S { w with drawn := w.drawn + 1 }) (hv : vcd P T ops.toList (lateB ops l) K l F S)
    (hm : P.follows .mixedOrders = true := by kernel_rfl) (hok : opsOk n ops.toList = true := by kernel_rfl) (hl : eagerB ops l = true := by kernel_rfl) (hle : Nat.ble l.length ops.size = true := by kernel_rfl) : Dr P n T ops F w K := by
  refine ⟨fun a id Q h hq => ?_⟩
  have hl' := hl
  simp only [eagerB, Bool.and_eq_true] at hl'
  have hall := hl'.1.1.2
  have hlen : l.length ≤ ops.size := Nat.ble_eq ▸ hle
  refine Code.wp_mono (Q := QN (fun a w => Q .normal a w)) (fun e a w hx => by cases e <;> first | exact hx | exact hx.elim) (wp_region_any hm ?_)
  refine VD_any (Q := fun a w => Q .normal a w) l hl ops.size _ l S a _ (List.Sublist.refl l) (by simp) (fun j hj => ?_) (down_none ops) hlen (vcd_sound hT ops hok (fun F' a' w' h' hk => hq F' a' w' h' hk) l F S a h hv) hS
  have h1 := List.all_eq_true.1 hall j (List.mem_range.2 hj)
  simp [hj]
  simpa using h1

end Go.Proofs.YtmecmdnnhldjpaaDoor

namespace Go.Proofs.YtmecmdnnhldjpaaDoor
open Go.RowKit

theorem LdS.one {P : Program} {t : TypeId} {S : World → Prop} {a : Addr} {K : Value → Prop} {v : Value} (hc : ∀ w, S w → w.cell? a = some v) (k : K v) (ht : agg0 P t = true := by kernel_rfl) : LdS P t S a K :=
  ⟨v, fun w hw => by simp [loadVar, isAgg_false ht, hc w hw], k⟩

theorem LdS.agg {P : Program} {t : TypeId} {S : World → Prop} {a : Addr} {K : Value → Prop} {vs : List Value} (hc : ∀ w, S w → Lc w a vs) (k : K (.agg ⟨vs⟩)) (ht : aggN P t vs.length = true := by kernel_rfl) : LdS P t S a K :=
  ⟨.agg ⟨vs⟩, fun w hw => by
    obtain ⟨h1, h2⟩ := aggN_spec ht w
    have := run_loadCells_list (P := P) w a vs (hc w hw)
    simp [loadVar, h1, h2, this], k⟩

theorem LdS.x1 {P : Program} {t : TypeId} {w : World} {a : Addr} {K : Value → Prop} {v : Value} (hc : w.cell? a = some v) (k : K v) (ht : agg0 P t = true := by kernel_rfl) : LdS P t (fun u => Ext w u) a K :=
  LdS.one (fun _ hu => hu.cell hc) k ht

theorem LdS.xn {P : Program} {t : TypeId} {w : World} {a : Addr} {K : Value → Prop} {vs : List Value} (hc : Lc w a vs) (k : K (.agg ⟨vs⟩)) (ht : aggN P t vs.length = true := by kernel_rfl) : LdS P t (fun u => Ext w u) a K :=
  LdS.agg (fun _ hu => hc.chg hu (.inr id)) k ht

theorem GoS.of1 {P : Program} {m : Sem Value} {S : World → Prop} {K : Value → Prop} {v : Value} (h : ∀ w, m.run P w = .ok v w) (k : K v) : GoS P m S K := ⟨v, fun w _ => h w, k⟩

theorem run_ix {P : Program} {t : TypeId} {sz : Nat} {a : Addr} {len cap j : Nat} {kd : IntKind} (hj : j < len) (ht : slcB P t sz = true) (w : World) :
    (Instr.indexAt t (.slice (some a) len cap) (.int kd (j : Int))).run P w = .ok (.pointer (some (a.add (j * sz)))) w := by
  obtain ⟨v, w', h, e⟩ := (Go1.ix (P := P) (t := t) sz (w := w) (a := a) (len := len) (cap := cap) (j := j) (kd := kd) (K := fun v w' => v = .pointer (some (a.add (j * sz))) ∧ w' = w) hj ⟨rfl, rfl⟩ ht).h
  obtain ⟨rfl, rfl⟩ := e
  exact h

theorem GoS.ix {P : Program} {t : TypeId} (sz : Nat) {S : World → Prop} {a : Addr} {len cap j : Nat} {kd : IntKind} {K : Value → Prop} (hj : j < len) (k : K (.pointer (some (a.add (j * sz))))) (ht : slcB P t sz = true := by kernel_rfl) :
    GoS P (Instr.indexAt t (.slice (some a) len cap) (.int kd (j : Int))) S K := GoS.of1 (run_ix hj ht) k

theorem Af.ext {late : Bool} {w0 w1 : World} {p : (World → Prop) → Prop} (h : Ext w0 w1) (k : p (fun u => Ext w1 u)) : Af late (fun u => Ext w0 u) w1 p :=
  ⟨fun u => Ext w1 u, Chg.refl _ _, fun _ _ hu => h.trans hu, k⟩

theorem Dr.x {P : Program} {n : Nat} {T : TT} {ops : Array Oper} {F : Fr} {w : World} {K : Fr → World → Prop} (l : List Nat) (hT : TOk P T) (hv : vcd P T ops.toList (lateB ops l) K l F (fun u => Ext w u))
    (hm : P.follows .mixedOrders = true := by kernel_rfl) (hok : opsOk n ops.toList = true := by kernel_rfl) (hl : eagerB ops l = true := by kernel_rfl) (hle : Nat.ble l.length ops.size = true := by kernel_rfl) : Dr P n T ops F w K :=
  Dr.go l _ hT (chg_drawn w _) hv hm hok hl hle

end Go.Proofs.YtmecmdnnhldjpaaDoor
