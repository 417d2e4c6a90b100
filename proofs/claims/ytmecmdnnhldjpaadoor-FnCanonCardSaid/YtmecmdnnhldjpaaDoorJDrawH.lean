/- The engine: the check of a long region's order by a table of what each operation waits for; Contract: laws.big; The frame of a tied card's proof; the listed variables, read. Conditions: none. -/
import Derived.Test.YtmecmdnnhldjpaaDoorDrawE
import Derived.Test.YtmecmdnnhldjpaaDoorJStrH
import Derived.Test.YtmecmdnnhldjpaaDoorJLaw
import Derived.Test.YtmecmdnnhldjpaaDoorJNumD
import Derived.Test.YtmecmdnnhldjpaaDoorTie
import Derived.Test.YtmecmdnnhldjpaaDoorCards
import Derived.SevenTiedAt
import Derived.Lay
import Derived.LaidMore
import Derived.Lib.LaidTab
import Derived.Stop.LaidErr
import Derived.ShapedOpen
namespace Go.Proofs.YtmecmdnnhldjpaaDoor
open Go.RowKit

def precT (tab : List Nat) (j i : Nat) : Bool := Nat.testBit (tab.getD i 0) j
def rowT (tab : List Nat) (i : Nat) (o : Oper) : Nat := o.after.toList.foldl (fun m e => match Region.binds .any e && Nat.blt e.on i with
  | true => m ||| ((1 <<< e.on) ||| tab.getD e.on 0)
  | false => m) 0
def tabOk (ops : Array Oper) (tab : List Nat) : Bool := Nat.ble tab.length ops.size && (List.range ops.size).all fun i => match ops[i]? with
  | some o => Nat.beq (tab.getD i 0) (rowT tab i o)
  | none => false
def pairT (ops : Array Oper) (tab : List Nat) (late : Nat → Bool) (j i : Nat) : Bool :=
  match ops[j]?, ops[i]? with
  | some oj, some oi => (precT tab j i || (!(Nat.beq (kindOf oj.op) 2) && oj.apart ops oi)) &&
      (oj.after.toList.all fun e => !(Region.binds .any e && Nat.beq e.on i)) && (!(Nat.beq (kindOf oj.op) 1) || precT tab j i || late i)
  | _, _ => false
def pairsT (ops : Array Oper) (tab : List Nat) (late : Nat → Bool) : List Nat → Bool
  | [] => true
  | j :: r => r.all (pairT ops tab late j) && !r.contains j && pairsT ops tab late r
def eagerT (ops : Array Oper) (tab : List Nat) (late : Nat → Bool) (l : List Nat) : Bool :=
  tabOk ops tab && (Region.noSelect ops && pairsT ops tab late l && ((List.range ops.size).all fun i => l.contains i) && (l.all fun i => Nat.blt i ops.size) &&
    l.all fun i => match ops[i]? with
      | some o => o.after.toList.all fun e => !(Region.binds .any e) || (Nat.blt e.on ops.size && !(Nat.beq e.on i))
      | none => false)

theorem precB_succ (ops : Array Oper) : ∀ (n j i : Nat), precB ops n j i = true → precB ops (n + 1) j i = true
  | 0, j, i, h => by simp [precB] at h
  | n + 1, j, i, h => by
    unfold precB at h ⊢
    split at h
    · rename_i o ho
      simp only [List.any_eq_true] at h ⊢
      obtain ⟨e, he, h1⟩ := h
      refine ⟨e, he, ?_⟩
      simp only [Bool.and_eq_true, Bool.or_eq_true] at h1 ⊢
      exact ⟨h1.1, h1.2.imp id (precB_succ ops n j e.on)⟩
    · cases h
theorem precB_le (ops : Array Oper) {n m : Nat} (h : n ≤ m) {j i : Nat} (hp : precB ops n j i = true) : precB ops m j i = true := by
  induction h with
  | refl => exact hp
  | step _ ih => exact precB_succ ops _ j i ih
theorem foldT (tab : List Nat) (i j : Nat) : ∀ (l : List Edge) (m : Nat), Nat.testBit (l.foldl (fun m e => match Region.binds .any e && Nat.blt e.on i with
    | true => m ||| ((1 <<< e.on) ||| tab.getD e.on 0)
    | false => m) m) j = true → Nat.testBit m j = true ∨ ∃ e ∈ l, Region.binds .any e = true ∧ e.on < i ∧ (e.on = j ∨ Nat.testBit (tab.getD e.on 0) j = true)
  | [], m, h => .inl h
  | e :: l, m, h => by
    rw [List.foldl_cons] at h
    rcases foldT tab i j l _ h with h1 | ⟨e', he, h2⟩
    · cases hb : (Region.binds .any e && Nat.blt e.on i) with
      | false => rw [hb] at h1; exact .inl h1
      | true =>
        rw [hb] at h1
        simp only [Nat.testBit_or, Nat.one_shiftLeft, Nat.testBit_two_pow, Bool.or_eq_true, decide_eq_true_eq] at h1
        simp only [Bool.and_eq_true] at hb
        have h3 : e.on < i := Nat.blt_eq ▸ hb.2
        rcases h1 with h1 | h1 | h1
        · exact .inl h1
        · exact .inr ⟨e, List.mem_cons_self, hb.1, h3, .inl h1⟩
        · exact .inr ⟨e, List.mem_cons_self, hb.1, h3, .inr h1⟩
    · exact .inr ⟨e', List.mem_cons_of_mem _ he, h2⟩
theorem precT_B {ops : Array Oper} {tab : List Nat} (hok : tabOk ops tab = true) : ∀ (i j : Nat), precT tab j i = true → precB ops ops.size j i = true := by
  simp only [tabOk, Bool.and_eq_true, List.all_eq_true] at hok
  obtain ⟨hlen, hrow⟩ := hok
  have hlen : tab.length ≤ ops.size := Nat.le_of_ble_eq_true hlen
  have key : ∀ (i j : Nat), precT tab j i = true → i < ops.size ∧ precB ops (i + 1) j i = true := by
    intro i
    induction i using Nat.strongRecOn with
    | _ i ih =>
      intro j h
      have hi : i < ops.size := by
        rcases Nat.lt_or_ge i tab.length with h1 | h1
        · omega
        · unfold precT at h
          rw [List.getD_eq_getElem?_getD, List.getElem?_eq_none h1] at h
          simp at h
      refine ⟨hi, ?_⟩
      have h1 := hrow i (List.mem_range.2 hi)
      have ho : ops[i]? = some ops[i] := Array.getElem?_eq_getElem hi
      rw [ho] at h1
      have h1 := Nat.eq_of_beq_eq_true h1
      unfold precT at h
      rw [h1] at h
      unfold rowT at h
      rcases foldT tab i j _ _ h with h2 | ⟨e, he, hb, hlt, h3⟩
      · simp at h2
      · unfold precB
        simp only [ho]
        rw [List.any_eq_true]
        refine ⟨e, he, ?_⟩
        rw [hb, Bool.true_and, Bool.or_eq_true]
        rcases h3 with h3 | h3
        · left; rw [h3]; exact Nat.beq_refl j
        · right
          exact precB_le ops (by omega) (ih e.on hlt j h3).2
  intro i j h
  obtain ⟨h1, h2⟩ := key i j h
  exact precB_le ops (by omega) h2
theorem pairT_G {ops : Array Oper} {tab : List Nat} (hok : tabOk ops tab = true) {late : Nat → Bool} {j i : Nat} (h : pairT ops tab late j i = true) : pairG ops [] late j i = true := by
  unfold pairT at h
  unfold pairG
  split at h
  · rename_i oj oi hj hi
    simp only [hj, hi]
    simp only [Bool.and_eq_true, Bool.or_eq_true] at h ⊢
    obtain ⟨⟨h1, h2⟩, h3⟩ := h
    refine ⟨⟨h1.imp (precT_B hok i j) .inl, h2⟩, h3.imp (Or.imp id (precT_B hok i j)) id⟩
  · cases h
theorem pairsT_G {ops : Array Oper} {tab : List Nat} (hok : tabOk ops tab = true) {late : Nat → Bool} : ∀ {l : List Nat}, pairsT ops tab late l = true → pairsG ops [] late l = true
  | [], _ => rfl
  | j :: r, h => by
    simp only [pairsT, pairsG, Bool.and_eq_true, List.all_eq_true] at h ⊢
    exact ⟨⟨fun i hi => pairT_G hok (h.1.1 i hi), h.1.2⟩, pairsT_G hok h.2⟩
theorem eagerT_G {ops : Array Oper} {tab : List Nat} {late : Nat → Bool} {l : List Nat} (h : eagerT ops tab late l = true) : eagerG ops [] late l = true := by
  simp only [eagerT, Bool.and_eq_true] at h
  obtain ⟨hok, ⟨⟨⟨h1, h2⟩, h3⟩, h4⟩, h5⟩ := h
  simp only [eagerG, Bool.and_eq_true]
  exact ⟨⟨⟨⟨h1, pairsT_G hok h2⟩, h3⟩, h4⟩, h5⟩

/-- The rule for a long region that draws its order: 'tab' has, for each operation, the bits of those that it waits for; 'lt': behind what a load may come up that stands ahead of it in 'l'. -/
theorem Dr.t {P : Program} {n : Nat} {T : TT} {ops : Array Oper} {F : Fr} {w : World} {K : Fr → World → Prop} (l tab lt : List Nat) (hT : TOk P T) (hv : vce P T ops.toList [] (lateG lt) K l l F (fun u => Ext w u))
    (hm : P.follows .mixedOrders = true := by kernel_rfl) (hok : opsOk n ops.toList = true := by kernel_rfl) (hl : eagerT ops tab (lateG lt) l = true := by kernel_rfl) (hle : Nat.ble l.length ops.size = true := by kernel_rfl) : Dr P n T ops F w K :=
  Dr.g l [] lt hT hv hm hok (eagerT_G hl) hle
end Go.Proofs.YtmecmdnnhldjpaaDoor

namespace Go.Proofs.YtmecmdnnhldjpaaDoor
open Go.ChangeShapes Go.WideShapes Go.ChangeAt Go.RowKit

/-- laws.big -/
theorem c_big {w : World} {v : Value} (hv : OCode w v) : Ret Tryd.prog 29 [v] w fun r w' => (∃ b, r = .bool b) ∧ w' = w := by
  obtain ⟨zs, bs, hr⟩ := hv
  obtain ⟨ao, cap, rfl, hm, hcap⟩ := hr.form
  refine ret_of_vc ttOkD Tryd.func29 rfl (by kernel_rfl) (by kernel_rfl) ?_
  exact Cm.s (fun _ => ⟨⟨_, rfl⟩, rfl⟩) (fun _ => ⟨⟨_, rfl⟩, rfl⟩)

end Go.Proofs.YtmecmdnnhldjpaaDoor

namespace Go.Proofs.YtmecmdnnhldjpaaDoor
open Go.ChangeShapes Go.WideShapes Go.ChangeAt Go.RowKit

/-- A contract under what the row lists, with the world's shape kept: the law's form. -/
theorem handed_card {H : Type} {enc : TypeId × Value → H} {a : Assume} {C : Checked} {os : Os} {f : FuncId} {fn : Func} {s : ChangeSpec} {conds : List PathCond} {apart fresh handsOn again : Bool} {X : World → Array Value → Prop}
    (hX : ∀ (w w' : World) (args : Array Value), w.heap = w'.heap → X w args → X w' args) (own : ownKnob C.prog.godebug = none) (started : os.Started) (noInit : C.prog.inits.idxOf? f = none) (hfn : C.prog.funcs[f]? = some fn)
    (witness : ∃ (w : World) (tape : Tape) (i : Input), w.os = os ∧ (w.forCall tape i).Shaped C.prog ∧ i.vars = [] ∧ Input.okWide C.prog (w.forCall tape i) .any w.heap.size f i ∧
      ((s.pre enc C.prog fn conds apart (w.forCall tape i).memory i.args ∧ X (w.forCall tape i).memory i.args) ∧ sizedMet enc C.prog fn (OpenSpec.ofChange s) apart (w.forCall tape i).memory i.args) ∧ a.holds C.prog (lone (Frame.enter C.prog f i.args .normal) [] (w.forCall tape i)))
    (contract : ∀ (W : World) (base : Nat) (args : Array Value) (ds gs : List (DataW H)) (before : List MemPlace),
      (∀ (j : Nat) t v, fn.params[j]? = some t → args[j]? = some v → Value.okWide C.prog W .any base t v) → DataW.Whole enc C.prog fn.params.toList s.vars apart W args.toList ds gs before →
      W.ShapedOpen C.prog → X W args → Calls C.prog f args W fun e W' => ∃ v, e = .returned v ∧ s.post enc C.prog fn apart fresh handsOn again W args v W') :
    ReturnsInHanded a C os f .any (fun w args => (s.pre enc C.prog fn conds apart w args ∧ X w args) ∧ sizedMet enc C.prog fn (OpenSpec.ofChange s) apart w args) (s.post enc C.prog fn apart fresh handsOn again) := by
  refine returnsInHanded_of_calls own started noInit witness ?_
  intro w tape i _ hsh _ hok hpre _
  obtain ⟨_, _, _, fn', hfn', _, _, _, _, hval⟩ := hok
  obtain rfl : fn' = fn := Option.some.inj (hfn'.symm.trans hfn)
  obtain ⟨⟨⟨ds, gs, before, hw, _⟩, hx⟩, _⟩ := hpre
  refine (contract (w.forCall tape i) w.heap.size i.args ds gs before hval (DataW.Whole.of_heap (w' := w.forCall tape i) (by rfl) hw) hsh (hX _ _ _ (by rfl) hx)).mono fun e W' ⟨v, he, hp⟩ => ?_
  subst he
  exact ChangeSpec.post_blind hp

/-- Out of the table of powers of ten: strconv.Itoa. -/
theorem itoaOk_of {name : String} {W : World} {r : List (String × DataW Unit)} (hn : Tryd.prog.globalNamed name = some 0) (hc : ∀ (n : Int) (w1 : World), -9223372036854775808 ≤ n → n ≤ 9223372036854775807 → Lib.TabIs Tryd.prog w1 name .u64 Lib.pow10Tab → Calls Tryd.prog 56 #[.int .i64 n] w1 fun e w' => e = .returned (.string ⟨(Lib.itoa n).toArray⟩) ∧ ∃ k os, w' = Go.Sort.grow (w1.drewN k) os)
    (hL : laidMet Tryd.prog ((name, Lib.tabData .u64 Lib.pow10Tab) :: r) W) : ItoaOk W := by
  have htab := Lib.tabIs_of_head hn (by kernel_rfl) (t := 92) (e := 85) (n := 20) Tryd.underlying92 Tryd.underlying85 (by kernel_rfl) (by kernel_rfl) hL
  intro n w1 h0 h1 hx
  exact Ret.of Tryd.func56 rfl (by kernel_rfl) (hc n w1 h0 h1 (var_ext hx htab)) fun e w' ⟨he, k, os, hw⟩ => ⟨_, he, rfl, by rw [hw]; exact Below.ext (Lib.below_grow _ w1 (Nat.le_refl _) k os)⟩
end Go.Proofs.YtmecmdnnhldjpaaDoor
