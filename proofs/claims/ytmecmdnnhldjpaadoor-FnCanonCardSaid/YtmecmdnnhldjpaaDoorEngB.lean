/- The engine, second part: the verification condition of a region, of a code, of a function; its soundness. Conditions: none. -/
import Derived.Test.YtmecmdnnhldjpaaDoorEng
import Derived.Deep.LoopGhost
namespace Go.Proofs.YtmecmdnnhldjpaaDoor
open Go.RowKit

/- ## Stops: where the prover has to say something -/
/-- A test. -/
def Sw (b : Bool) (p q : Prop) : Prop :=
  match b with
  | true => p
  | false => q

theorem sw_t {b : Bool} {p q : Prop} (h : b = true) (k : p) : Sw b p q := by subst h; exact k
theorem sw_f {b : Bool} {p q : Prop} (h : b = false) (k : q) : Sw b p q := by subst h; exact k
theorem sw_dt {c : Prop} {_ : Decidable c} {p q : Prop} (h : c) (k : p) : Sw (decide c) p q := sw_t (decide_eq_true h) k
theorem sw_df {c : Prop} {_ : Decidable c} {p q : Prop} (h : ¬ c) (k : q) : Sw (decide c) p q := sw_f (decide_eq_false h) k
theorem sw_s {b : Bool} {p q : Prop} (h1 : b = true → p) (h2 : b = false → q) : Sw b p q := by cases b; exact h2 rfl; exact h1 rfl
theorem sw_d {c : Prop} {_ : Decidable c} {p q : Prop} (h1 : c → p) (h2 : ¬ c → q) : Sw (decide c) p q := sw_s (fun h => h1 (of_decide_eq_true h)) (fun h => h2 (of_decide_eq_false h))
theorem sw_n {b : Bool} {p q : Prop} (h : Sw b q p) : Sw (!b) p q := by cases b <;> exact h

theorem sw_nd {c : Prop} {_ : Decidable c} {p q : Prop} (h1 : ¬ c → p) (h2 : c → q) : Sw (!decide c) p q := sw_n (sw_d h2 h1)

/-- A comparison. -/
structure Cm (b : Bool) (K : Bool → Prop) : Prop where
  h : K b
theorem Cm.t {c : Prop} {_ : Decidable c} {K : Bool → Prop} (h : c) (k : K true) : Cm (decide c) K := ⟨by rw [decide_eq_true h]; exact k⟩
theorem Cm.f {c : Prop} {_ : Decidable c} {K : Bool → Prop} (h : ¬ c) (k : K false) : Cm (decide c) K := ⟨by rw [decide_eq_false h]; exact k⟩
theorem Cm.s {c : Prop} {_ : Decidable c} {K : Bool → Prop} (h1 : c → K true) (h2 : ¬ c → K false) : Cm (decide c) K := by
  by_cases h : c
  · exact Cm.t h (h1 h)
  · exact Cm.f h (h2 h)
theorem Cm.nt {c : Prop} {_ : Decidable c} {K : Bool → Prop} (h : ¬ c) (k : K true) : Cm (!decide c) K := ⟨by rw [decide_eq_false h]; exact k⟩
theorem Cm.nf {c : Prop} {_ : Decidable c} {K : Bool → Prop} (h : c) (k : K false) : Cm (!decide c) K := ⟨by rw [decide_eq_true h]; exact k⟩
theorem Cm.ns {c : Prop} {_ : Decidable c} {K : Bool → Prop} (h1 : ¬ c → K true) (h2 : c → K false) : Cm (!decide c) K := by
  by_cases h : c
  · exact Cm.nf h (h2 h)
  · exact Cm.nt h (h1 h)
theorem Cm.v {b c : Bool} {K : Bool → Prop} (h : b = c) (k : K c) : Cm b K := ⟨by rw [h]; exact k⟩

/-- A number that may wrap. -/
structure Wr (k : IntKind) (z : Int) (K : Int → Prop) : Prop where
  h : K (k.wrap z)
theorem Wr.go {k : IntKind} {z r : Int} {K : Int → Prop} (h : k.wrap z = r) (c : K r) : Wr k z K := ⟨by rw [h]; exact c⟩

/-- A load. -/
structure Ld (P : Program) (t : TypeId) (w : World) (a : Addr) (K : Value → Prop) : Prop where
  h : ∃ v, (loadVar t a).run P w = .ok v w ∧ K v
theorem Ld.go {P : Program} {t : TypeId} {w : World} {a : Addr} {K : Value → Prop} {v : Value} (h : (loadVar t a).run P w = .ok v w) (c : K v) : Ld P t w a K := ⟨v, h, c⟩

/-- An operation that yields a value. -/
structure Go1 (P : Program) (m : Sem Value) (w : World) (K : Value → World → Prop) : Prop where
  h : ∃ v w', m.run P w = .ok v w' ∧ K v w'
theorem Go1.go {P : Program} {m : Sem Value} {w w' : World} {K : Value → World → Prop} {v : Value} (h : m.run P w = .ok v w') (c : K v w') : Go1 P m w K := ⟨v, w', h, c⟩

/-- An operation that yields nothing. -/
structure Go0 (P : Program) (m : Sem Unit) (w : World) (K : World → Prop) : Prop where
  h : ∃ w', m.run P w = .ok () w' ∧ K w'
theorem Go0.go {P : Program} {m : Sem Unit} {w w' : World} {K : World → Prop} (h : m.run P w = .ok () w') (c : K w') : Go0 P m w K := ⟨w', h, c⟩

/-- A call returns, and what it returns and leaves meets K. -/
structure Ret (P : Program) (f : FuncId) (args : List Value) (w : World) (K : Value → World → Prop) : Prop where
  h : (∃ v w', (callFunc f ⟨args⟩).run P w = .ok (.value v) w' ∧ K v w') ∨
    ((callFunc f ⟨args⟩).run P w = .ok (.enter f ⟨args⟩) w ∧ Calls P f ⟨args⟩ w fun e w' => ∃ v, e = .returned v ∧ K v w')

theorem Ret.mono {P : Program} {f : FuncId} {args : List Value} {w : World} {K K' : Value → World → Prop} (h : Ret P f args w K) (hk : ∀ v w', K v w' → K' v w') : Ret P f args w K' := by
  refine ⟨h.h.imp ?_ ?_⟩
  · rintro ⟨v, w', h1, h2⟩; exact ⟨v, w', h1, hk _ _ h2⟩
  · rintro ⟨h1, h2⟩; exact ⟨h1, h2.mono fun e w' ⟨v, he, hv⟩ => ⟨v, he, hk _ _ hv⟩⟩

/- ## Operations that are handed on as they are -/
def semV (F : Fr) (ty : TypeId) (o : Op) : Option (Sem Value) :=
  match o with
  | .alloc t => some (Instr.alloc t true (.tuple #[]))
  | .box t x => match opd F x with
    | some v => some (Instr.box t v)
    | none => none
  | .build t parts => match partsO F parts.toList with
    | some vs => some (Instr.build t ⟨vs⟩)
    | none => none
  | .buildSlice t len parts => match partsO F parts.toList with
    | some vs => some (Instr.buildSlice t len ⟨vs⟩)
    | none => none
  | .convert s d x => match opd F x with
    | some v => some (Go.convert s d v)
    | none => none
  | .makeMap t r => match optO F r with
    | some v => some (Instr.makeMap t v)
    | none => none
  | .makeSlice t l c => match opd F l with
    | some v => match opd F c with
      | some u => some (Instr.makeSlice t v u)
      | none => none
    | none => none
  | .slice t x lo hi mx => match opd F x with
    | some v => match optO F lo with
      | some l => match optO F hi with
        | some h => match optO F mx with
          | some m => some (Instr.sliceAt t v l h m)
          | none => none
        | none => none
      | none => none
    | none => none
  | .fieldAddr t x f => match opd F x with
    | some v => some (Instr.fieldAt t v f)
    | none => none
  | .field t x f => match opd F x with
    | some v => some (Instr.field t v f)
    | none => none
  | .indexAddr t x i => match opd F x with
    | some v => match opd F i with
      | some u => some (Instr.indexAt t v u)
      | none => none
    | none => none
  | .index t x i => match opd F x with
    | some v => match opd F i with
      | some u => some (Instr.index t v u)
      | none => none
    | none => none
  | .lookup t x i ok => match opd F x with
    | some v => match opd F i with
      | some u => some (Instr.lookup t v u ok)
      | none => none
    | none => none
  | .range t x => match opd F x with
    | some v => some (Instr.range t v)
    | none => none
  | .next x s => match opd F x with
    | some v => some (Instr.next v s ty)
    | none => none
  | .entry x => match opd F x with
    | some v => some (Instr.entry v)
    | none => none
  | .binOp op t x y _ => match opd F x with
    | some v => match opd F y with
      | some u => some (do eqGuard op t x y v u; Go.binOp op t v u)
      | none => none
    | none => none
  | .unOp op _ x => match opd F x with
    | some v => some (Op.unary op v)
    | none => none
  | .makeInterface t x => match opd F x with
    | some v => some (Instr.makeInterface t v)
    | none => none
  | .call { callee := .builtin .append, args, argTypes } => match opds F args.toList with
    | some vs => some (Builtin.append_ argTypes ty ⟨vs⟩)
    | none => none
  | .call { callee := .builtin .len, args, argTypes } => match opds F args.toList with
    | some vs => some (Builtin.len_ argTypes ty ⟨vs⟩)
    | none => none
  | .call { callee := .builtin .cap, args, argTypes } => match opds F args.toList with
    | some vs => some (Builtin.cap_ argTypes ty ⟨vs⟩)
    | none => none
  | .call { callee := .builtin .copy, args, argTypes } => match opds F args.toList with
    | some vs => some (Builtin.copy_ argTypes ty ⟨vs⟩)
    | none => none
  | .call { callee := .builtin .clear, args, argTypes } => match opds F args.toList with
    | some vs => some (Builtin.clear_ argTypes ty ⟨vs⟩)
    | none => none
  | .call { callee := .builtin .min, args, argTypes } => match opds F args.toList with
    | some vs => some (Builtin.min_ argTypes ty ⟨vs⟩)
    | none => none
  | .call { callee := .builtin .max, args, argTypes } => match opds F args.toList with
    | some vs => some (Builtin.max_ argTypes ty ⟨vs⟩)
    | none => none
  | .nilCheck x => match opd F x with
    | some (.pointer (some a)) => some (pure (.pointer (some a)))
    | _ => none
  | _ => none

/- ## One operation -/
def arithV (F : Fr) (o : Op) : Option (IntKind × Int) :=
  match o with
  | .binOp op _ x y _ => match op with
    | .add => match opd F x with
      | some (.int k a) => match opd F y with
        | some (.int k' b) => match decide (k = k') with
          | true => some (k, a + b)
          | false => none
        | _ => none
      | _ => none
    | .sub => match opd F x with
      | some (.int k a) => match opd F y with
        | some (.int k' b) => match decide (k = k') with
          | true => some (k, a - b)
          | false => none
        | _ => none
      | _ => none
    | .mul => match opd F x with
      | some (.int k a) => match opd F y with
        | some (.int k' b) => match decide (k = k') with
          | true => some (k, a * b)
          | false => none
        | _ => none
      | _ => none
    | _ => none
  | _ => none

/-- An operation that is none of the computed ones. -/
def vc2 (P : Program) (o : Oper) (F : Fr) (w : World) (K : Fr → World → Prop) : Prop :=
  match o.op with

  | .pick c a b => match opd F c with
    | some (.bool t) => Sw t
      (match opd F a with
        | some v => K (putF F o.dst v) w
        | none => False)
      (match opd F b with
        | some v => K (putF F o.dst v) w
        | none => False)
    | _ => False
  | .load t x => match opd F x with
    | some (.pointer (some a)) => Ld P t w a fun v => K (putF F o.dst v) w
    | _ => False
  | .store t x y => match opd F x with
    | some (.pointer (some a)) => match opd F y with
      | some v => Go0 P (storeVar t a v) w fun w' => K (putF F o.dst undef) w'
      | none => False
    | _ => False
  | .mapUpdate t m k x => match opd F m with
    | some vm => match opd F k with
      | some vk => match opd F x with
        | some vx => Go0 P (Instr.mapUpdate t vm vk vx) w fun w' => K (putF F o.dst undef) w'
        | none => False
      | none => False
    | none => False
  | .call { callee := .value f, args, argTypes := _ } => match opd F f with
    | some (.func (.func g) first cap) => match opds F args.toList with
      | some vs => Ret P g (first.toList ++ vs ++ cap.toList) w fun v w' => K (putF F o.dst v) w'
      | none => False
    | _ => False
  | op => match semV F o.type op with
    | some m => Go1 P m w fun v w' => K (putF F o.dst v) w'
    | none => False

def vc1 (P : Program) (T : TT) (o : Oper) (F : Fr) (w : World) (K : Fr → World → Prop) : Prop :=
  match pureV T F o.op with
  | some v => K (putF F o.dst v) w
  | none => match arithV F o.op with
    | some (k, z) => Wr k z fun r => K (putF F o.dst (.int k r)) w
    | none => match cmpB T F o.op with
      | some b => Cm b fun t => K (putF F o.dst (.bool t)) w
      | none => vc2 P o F w K

/-- The guard of an operation. -/
def gd (ops : List Oper) (F : Fr) (g : Option (Nat × Bool)) (p q : Prop) : Prop :=
  match g with
  | none => p
  | some (j, want) => match ops[j]? with
    | some oj => match oj.dst with
      | some d => match Fr.get F d with
        | some (.bool b) => match want with
          | true => Sw b p q
          | false => Sw b q p
        | some (.tuple _) => q
        | _ => False
      | none => False
    | none => False

def vcs (P : Program) (T : TT) (ops : List Oper) (K : Fr → World → Prop) : List Oper → Fr → World → Prop
  | [], F, w => K F w
  | o :: rest, F, w => gd ops F o.guard (vc1 P T o F w (vcs P T ops K rest)) (vcs P T ops K rest (putF F o.dst undef) w)

def lift (n : Nat) (Q : Exit → Fr → World → Prop) : Exit → Act → World → Prop :=
  fun e a w => ∃ F, Holds n F a ∧ Q e F w

/-- A loop. -/
structure Lp (P : Program) (n : Nat) (body : Code) (F : Fr) (w : World) (Q : Exit → Fr → World → Prop) : Prop where
  h : ∀ a, Holds n F a → (Code.loop body).wp P (lift n Q) a w

/-- A region that draws its order. -/
structure Dr (P : Program) (n : Nat) (T : TT) (ops : Array Oper) (F : Fr) (w : World) (K : Fr → World → Prop) : Prop where
  h : ∀ a id Q, Holds n F a → (∀ F' a' w', Holds n F' a' → K F' w' → Q .normal a' w') → (Code.region id ops true).wp P Q a w

def vc (P : Program) (n : Nat) (T : TT) : Code → Fr → World → (Exit → Fr → World → Prop) → Prop
  | .skip, F, w, Q => Q .normal F w
  | .region _ ops draw, F, w, Q => match draw with
    | false => vcs P T ops.toList (Q .normal) ops.toList F w
    | true => Dr P n T ops F w (Q .normal)
  | .seq a b, F, w, Q => vc P n T a F w fun e F' w' => match e with
    | .normal => vc P n T b F' w' Q
    | e => Q e F' w'
  | .cond c a b, F, w, Q => match opd F c with
    | some (.bool t) => Sw t (vc P n T a F w Q) (vc P n T b F w Q)
    | _ => False
  | .block id c, F, w, Q => vc P n T c F w fun e F' w' => match e with
    | .exit i => match Nat.beq i id with
      | true => Q .normal F' w'
      | false => Q (.exit i) F' w'
    | e => Q e F' w'
  | .loop body, F, w, Q => Lp P n body F w Q
  | .exit id, F, w, Q => Q (.exit id) F w
  | .ret, F, w, Q => Q .ret F w
  | _, _, _, _ => False

/- ## Soundness -/
def opsOk (n : Nat) (ops : List Oper) : Bool := ops.all fun o => match o.dst with | some d => Nat.blt d n | none => true

def codeOk (n : Nat) : Code → Bool
  | .region _ ops _ => opsOk n ops.toList
  | .seq a b => codeOk n a && codeOk n b
  | .cond _ a b => codeOk n a && codeOk n b
  | .block _ c => codeOk n c
  | .loop c => codeOk n c
  | _ => true

theorem exec_builtin {P : Program} (ρ : Operand → Value) (b : Builtin) (args : Array Operand) (argTypes : Array TypeId) (type : TypeId) (w : World) :
    ∃ cs, (do let d ← resolve ρ { callee := .builtin b, args, argTypes } type; invoke d.target d.args : Sem Next).run P w = (builtin b argTypes type cs (args.map ρ)).run P w := ⟨_, rfl⟩

theorem semV_sound {P : Program} {n : Nat} {F : Fr} {a : Act} (h : Holds n F a) (o : Oper) {m : Sem Value} (e : semV F o.type o.op = some m) {w w' : World} {v : Value} (hm : m.run P w = .ok v w') :
    (execOp a.eval o).run P w = .ok (.value v) w' := by
  obtain ⟨dst, op, type, pos, after, guard⟩ := o
  simp only at e
  have arr : ∀ {xs : Array Operand} {vs : List Value}, opds F xs.toList = some vs → xs.map a.eval = ⟨vs⟩ := fun {xs vs} hx => by
    have := opds_eval h hx
    rw [← this]; simp [← Array.toList_map]
  have arp : ∀ {xs : Array (Nat × Operand)} {vs : List (Nat × Value)}, partsO F xs.toList = some vs → (xs.map fun (i, x) => (i, a.eval x)) = ⟨vs⟩ := fun {xs vs} hx => by
    have := partsO_eval h hx
    rw [← this]; simp [← Array.toList_map]
  have ofv : ∀ {m' : Sem Value}, m' = m → (do pure (Next.value (← m')) : Sem Next).run P w = .ok (.value v) w' := fun hh => by subst hh; exact run_value hm
  unfold semV at e
  split at e <;> rw [execOp]
  all_goals first
    | (simp at e; done)
    | (simp at e; exact ofv e)
    | (split at e <;> first
        | (simp at e; done)
        | (rename_i hx; simp at e; simp only [opd_eval h hx]; exact ofv e)
        | (rename_i hx; simp at e; simp only [arp hx]; exact ofv e)
        | (rename_i hx; simp at e; simp only [optO_eval h hx]; exact ofv e)
        | (rename_i hx; split at e <;> first
            | (simp at e; done)
            | (rename_i hy; simp at e; simp only [opd_eval h hx, opd_eval h hy]; exact ofv e)
            | (rename_i hy; split at e <;> first
                | (simp at e; done)
                | (rename_i hz; split at e <;> first
                    | (simp at e; done)
                    | (rename_i hu; simp at e; simp only [opd_eval h hx, optO_eval h hy, optO_eval h hz, optO_eval h hu]; exact ofv e)))))
    | skip
  all_goals
    split at e
    · rename_i args argTypes _ vs hvs
      simp at e
      obtain ⟨cs, hcs⟩ := exec_builtin (P := P) a.eval _ args argTypes type w
      refine Eq.trans hcs ?_
      rw [arr hvs]
      exact ofv e
    · simp at e

theorem arithV_sound {P : Program} {n : Nat} {F : Fr} {a : Act} (h : Holds n F a) (o : Oper) {k : IntKind} {z : Int} (e : arithV F o.op = some (k, z)) :
    Yv P a.eval o (.int k (k.wrap z)) := by
  intro w
  obtain ⟨dst, op, type, pos, after, guard⟩ := o
  simp only at e
  unfold arithV at e
  split at e
  · rename_i bop t x y yt
    split at e
    all_goals first
      | (simp at e; done)
      | (split at e
         · rename_i k1 a1 hx
           split at e
           · rename_i k2 a2 hy
             split at e
             · rename_i hk
               have hk' : k1 = k2 := by simpa using hk
               subst hk'
               simp at e
               obtain ⟨rfl, rfl⟩ := e
               rw [execOp]
               simp only [opd_eval h hx, opd_eval h hy]
               refine run_value ?_
               simp [eqGuard, binOp, Op.intArith]
             · simp at e
           · simp at e
         · simp at e)
  · simp at e

theorem Yv.wp {P : Program} {o : Oper} {a : Act} {v : Value} (h : Yv P a.eval o v) {w : World} {next : Act → World → Prop} {Q : Exit → Act → World → Prop} (k : next (a.put o.dst v) w) : o.wp P a w next Q := by
  unfold Oper.wp
  rw [h w]
  exact k

theorem run_skip {m : Sem Unit} {P : Program} {w w' : World} (h : m.run P w = .ok () w') : (do m; pure Next.skip : Sem Next).run P w = .ok .skip w' := by
  show (m.bind fun _ => Sem.pure Next.skip).run P w = _
  rw [Sem.run_bind', h]
  rfl

theorem vc2_sound {P : Program} {n : Nat} {o : Oper} {F : Fr} {a : Act} (h : Holds n F a) (hd : ∀ d, o.dst = some d → d < n) {w : World} {K : Fr → World → Prop} {next : Act → World → Prop} {Q : Exit → Act → World → Prop}
    (hk : ∀ F' a' w', Holds n F' a' → K F' w' → next a' w') (hv : vc2 P o F w K) : o.wp P a w next Q := by
  unfold vc2 at hv
  split at hv
  · rename_i c x y ho
    split at hv
    · rename_i t hc
      cases t
      · simp only [Sw] at hv
        split at hv
        · rename_i v hx
          refine Yv.wp (v := v) (fun w => ?_) (hk _ _ _ (h.put o.dst v hd) hv)
          unfold execOp
          rw [ho]
          simp [opd_eval h hc, opd_eval h hx, asBool]
        · exact hv.elim
      · simp only [Sw] at hv
        split at hv
        · rename_i v hx
          refine Yv.wp (v := v) (fun w => ?_) (hk _ _ _ (h.put o.dst v hd) hv)
          unfold execOp
          rw [ho]
          simp [opd_eval h hc, opd_eval h hx, asBool]
        · exact hv.elim
    · exact hv.elim
  · rename_i t x ho
    split at hv
    · rename_i ad hx
      obtain ⟨v, h1, h2⟩ := hv.h
      unfold Oper.wp
      have : (execOp a.eval o).run P w = .ok (.value v) w := by
        unfold execOp
        rw [ho]
        simp only [opd_eval h hx]
        refine run_value ?_
        simpa [Instr.loadAt, Instr.sureAddr] using h1
      rw [this]
      exact hk _ _ _ (h.put o.dst v hd) h2
    · exact hv.elim
  · rename_i t x y ho
    split at hv
    · rename_i ad hx
      split at hv
      · rename_i v hy
        obtain ⟨w', h1, h2⟩ := hv.h
        unfold Oper.wp
        have : (execOp a.eval o).run P w = .ok .skip w' := by
          unfold execOp
          rw [ho]
          simp only [opd_eval h hx, opd_eval h hy]
          refine run_skip ?_
          simpa [Instr.storeAt, Instr.sureAddr] using h1
        rw [this]
        exact hk _ _ _ (h.put o.dst _ hd) h2
      · exact hv.elim
    · exact hv.elim
  · rename_i t m k x ho
    split at hv
    · rename_i vm hm
      split at hv
      · rename_i vk hkk
        split at hv
        · rename_i vx hx
          obtain ⟨w', h1, h2⟩ := hv.h
          unfold Oper.wp
          have : (execOp a.eval o).run P w = .ok .skip w' := by
            unfold execOp
            rw [ho]
            simp only [opd_eval h hm, opd_eval h hkk, opd_eval h hx]
            exact run_skip h1
          rw [this]
          exact hk _ _ _ (h.put o.dst _ hd) h2
        · exact hv.elim
      · exact hv.elim
    · exact hv.elim
  · rename_i f args ats ho
    split at hv
    · rename_i g first cap hf
      split at hv
      · rename_i vs hvs
        have he : ∀ w, (execOp a.eval o).run P w = (callFunc g ⟨first.toList ++ vs ++ cap.toList⟩).run P w := by
          intro w
          unfold execOp
          rw [ho]
          have h1 := opds_eval h hvs
          have e1 : args.map a.eval = ⟨vs⟩ := by rw [← h1]; simp [← Array.toList_map]
          have e2 : (first ++ (⟨vs⟩ : Array Value) ++ cap) = ⟨first.toList ++ vs ++ cap.toList⟩ := by
            apply Array.ext'
            simp
          simp only [resolve, opd_eval h hf, e1, Deferred.ofValue, bind, Sem.bind, pure, invoke, e2]
        unfold Oper.wp
        rw [he]
        rcases hv.h with ⟨v, w', h1, h2⟩ | ⟨h1, h2⟩
        · rw [h1]
          exact hk _ _ _ (h.put o.dst v hd) h2
        · rw [h1]
          exact h2.mono fun e w' ⟨v, hev, hv⟩ => by
            subst hev
            exact hk _ _ _ (h.put o.dst v hd) hv
      · exact hv.elim
    · exact hv.elim
  · split at hv
    · rename_i m hm
      obtain ⟨v, w', h1, h2⟩ := hv.h
      unfold Oper.wp
      rw [semV_sound h o hm h1]
      exact hk _ _ _ (h.put o.dst v hd) h2
    · exact hv.elim

theorem vc1_sound {P : Program} {n : Nat} {T : TT} (hT : TOk P T) {o : Oper} {F : Fr} {a : Act} (h : Holds n F a) (hd : ∀ d, o.dst = some d → d < n) {w : World} {K : Fr → World → Prop} {next : Act → World → Prop} {Q : Exit → Act → World → Prop}
    (hk : ∀ F' a' w', Holds n F' a' → K F' w' → next a' w') (hv : vc1 P T o F w K) : o.wp P a w next Q := by
  unfold vc1 at hv
  split at hv
  · rename_i v hp
    exact (pureV_sound hT h o hp).wp (hk _ _ _ (h.put o.dst v hd) hv)
  · split at hv
    · rename_i k z ha
      exact (arithV_sound h o ha).wp (hk _ _ _ (h.put o.dst _ hd) hv.h)
    · split at hv
      · rename_i b hb
        exact (cmpB_sound hT h o hb).wp (hk _ _ _ (h.put o.dst _ hd) hv.h)
      · exact vc2_sound h hd hk hv

theorem vcs_sound {P : Program} {n : Nat} {T : TT} (hT : TOk P T) (ops : Array Oper) {K : Fr → World → Prop} {Q : Exit → Act → World → Prop} (hk : ∀ F' a' w', Holds n F' a' → K F' w' → Q .normal a' w') :
    ∀ (rest : List Oper) (F : Fr) (w : World) (a : Act), opsOk n rest = true → Holds n F a → vcs P T ops.toList K rest F w → wpList P ops Q rest a w := by
  intro rest
  induction rest with
  | nil => intro F w a _ h hv; exact hk _ _ _ h hv
  | cons o rest ih =>
    intro F w a hok h hv
    have hok2 : (∀ d, o.dst = some d → d < n) ∧ opsOk n rest = true := by
      simp only [opsOk, List.all_cons, Bool.and_eq_true] at hok
      refine ⟨fun d hd => ?_, hok.2⟩
      have := hok.1
      rw [hd] at this
      exact Nat.blt_eq ▸ this
    obtain ⟨hd, hok'⟩ := hok2
    have go : vc1 P T o F w (vcs P T ops.toList K rest) → o.wp P a w (wpList P ops Q rest) Q := fun hv =>
      vc1_sound hT h hd (fun F' a' w' h' hv' => ih F' w' a' hok' h' hv') hv
    have skip : vcs P T ops.toList K rest (putF F o.dst undef) w → wpList P ops Q rest (a.put o.dst undef) w := fun hv =>
      ih _ _ _ hok' (h.put o.dst undef hd) hv
    unfold vcs gd at hv
    unfold wpList
    cases hg : o.guard with
    | none =>
      rw [hg] at hv
      rw [if_pos (by simp [Region.wanted, hg])]
      exact .inl (go hv)
    | some jw =>
      obtain ⟨j, want⟩ := jw
      rw [hg] at hv
      simp only [Region.wanted, hg]
      simp only at hv
      split at hv
      · rename_i oj hoj
        split at hv
        · rename_i d hod
          have hy : ∀ u, Fr.get F d = some u → yielded ops a.tmps j = (match u with | .bool b => some b | _ => none) := by
            intro u hu
            have h1 : ops[j]? = some oj := by simpa using hoj
            unfold yielded
            rw [h1]
            simp only [Option.bind_some, hod, h.get d u hu]
            cases u <;> rfl
          split at hv
          · rename_i b hb
            rw [hy _ hb]
            simp only
            cases want <;> cases b <;> simp [Sw] at hv ⊢
            · exact .inl (go hv)
            · exact skip hv
            · exact skip hv
            · exact .inl (go hv)
          · rename_i vs hb
            rw [hy _ hb]
            simp
            exact skip hv
          · exact hv.elim
        · exact hv.elim
      · exact hv.elim

theorem vc_sound {P : Program} {n : Nat} {T : TT} (hT : TOk P T) : ∀ (c : Code) (F : Fr) (w : World) (Q : Exit → Fr → World → Prop), codeOk n c = true → vc P n T c F w Q →
    ∀ a, Holds n F a → c.wp P (lift n Q) a w := by
  intro c
  induction c with
  | skip => intro F w Q _ hv a h; exact wp_skip ⟨F, h, hv⟩
  | region id ops draw =>
    intro F w Q hok hv a h
    cases draw with
    | false => exact wp_region_list (vcs_sound hT ops (fun F' a' w' h' hv' => ⟨F', h', hv'⟩) _ _ _ _ hok h hv)
    | true => exact hv.h a id _ h fun F' a' w' h' hv' => ⟨F', h', hv'⟩
  | seq x y ihx ihy =>
    intro F w Q hok hv a h
    simp only [codeOk, Bool.and_eq_true] at hok
    refine wp_seq (wp_mono (ihx F w _ hok.1 hv a h) ?_)
    rintro e a' w' ⟨F', h', hq⟩
    cases e with
    | normal => exact ihy F' w' Q hok.2 hq a' h'
    | _ => exact ⟨F', h', hq⟩
  | cond c x y ihx ihy =>
    intro F w Q hok hv a h
    simp only [codeOk, Bool.and_eq_true] at hok
    simp only [vc] at hv
    split at hv
    · rename_i t hc
      cases t with
      | true => exact wp_cond_true (opd_eval h hc) (ihx F w Q hok.1 hv a h)
      | false => exact wp_cond_false (opd_eval h hc) (ihy F w Q hok.2 hv a h)
    · exact hv.elim
  | block id c ih =>
    intro F w Q hok hv a h
    refine wp_block (wp_mono (ih F w _ hok hv a h) ?_)
    rintro e a' w' ⟨F', h', hq⟩
    cases e with
    | exit i =>
      simp only at hq
      by_cases hi : i = id
      · subst hi
        simp at hq
        simp [Exit.inBlock]
        exact ⟨F', h', hq⟩
      · rw [nbeq_ne hi] at hq
        simp [Exit.inBlock, hi]
        exact ⟨F', h', hq⟩
    | _ => exact ⟨F', h', hq⟩
  | loop c ih => intro F w Q hok hv a h; exact hv.h a h
  | exit id => intro F w Q _ hv a h; exact wp_exit ⟨F, h, hv⟩
  | ret => intro F w Q _ hv a h; exact wp_ret ⟨F, h, hv⟩
  | _ => intro F w Q _ hv a h; exact hv.elim

/-- The rule for a loop: 'Fi b' is what the frame holds at a round's head, 'I b' what is known there, 'μ b' falls. -/
theorem Lp.go {P : Program} {n : Nat} {T : TT} (hT : TOk P T) {body : Code} (hok : codeOk n body = true) {F : Fr} {w : World} {Q : Exit → Fr → World → Prop} {β : Type} (Fi : β → Fr) (I : β → World → Prop) (μ : β → Nat) (b0 : β)
    (hF : SubF (Fi b0) F) (h0 : I b0 w)
    (round : ∀ b w, I b w → vc P n T body (Fi b) w fun e F' w' => match e with
      | .normal => ∃ b', SubF (Fi b') F' ∧ I b' w' ∧ μ b' < μ b
      | e => Q e F' w') : Lp P n body F w Q := by
  refine ⟨fun a ha => wp_loop_ghost (fun k a w => ∃ b, Holds n (Fi b) a ∧ I b w ∧ μ b = k) (μ b0) ⟨b0, ha.sub hF, h0, rfl⟩ ?_⟩
  rintro k a w ⟨b, h, hI, rfl⟩
  refine wp_mono (vc_sound hT body (Fi b) w _ hok (round b w hI) a h) ?_
  rintro e a' w' ⟨F', h', hq⟩
  cases e with
  | normal =>
    obtain ⟨b', hs, hI', hlt⟩ := hq
    exact ⟨μ b', hlt, b', h'.sub hs, hI', rfl⟩
  | _ => exact ⟨F', h', hq⟩

/-- The results of a function. -/
def rsV (P : Program) (F : Fr) (w : World) : List ResultVar → (List Value → Prop) → Prop
  | [], K => K []
  | .tmp t :: rs, K => match Fr.get F t with
    | some v => rsV P F w rs fun vs => K (v :: vs)
    | none => False
  | .cell t ty :: rs, K => match Fr.get F t with
    | some (.pointer (some a)) => Ld P ty w a fun v => rsV P F w rs fun vs => K (v :: vs)
    | _ => False

def fin (P : Program) (rs : List ResultVar) (K : Value → World → Prop) (F : Fr) (w : World) : Prop :=
  rsV P F w rs fun vs => match vs with
    | [v] => K v w
    | vs => K (.tuple ⟨vs⟩) w

def finQ (P : Program) (rs : List ResultVar) (K : Value → World → Prop) : Exit → Fr → World → Prop := fun e F w => match e with
  | .normal => fin P rs K F w
  | .ret => fin P rs K F w
  | _ => False

def argsF : Nat → List Value → Fr
  | _, [] => []
  | i, v :: vs => (i, v) :: argsF (i + 1) vs

theorem argsF_get (vs : List Value) : ∀ (k s : Nat) (v : Value), Fr.get (argsF k vs) s = some v → ∃ j, s = k + j ∧ vs[j]? = some v := by
  induction vs with
  | nil => intro k s v h; simp [argsF, Fr.get] at h
  | cons x vs ih =>
    intro k s v h
    simp only [argsF, Fr.get] at h
    by_cases e : k = s
    · subst e
      simp at h
      exact ⟨0, rfl, by simpa using h⟩
    · rw [nbeq_ne e] at h
      obtain ⟨j, h1, h2⟩ := ih (k + 1) s v h
      exact ⟨j + 1, by omega, by simpa using h2⟩

/-- What 'results' does with one result. -/
def rs1 (tmps : Array Value) : ResultVar → Sem Value := fun
  | .tmp t => pure (tmps.getD t undef)
  | .cell x t => do loadVar t (← asAddr (tmps.getD x undef))

theorem results_eq (fn : Func) (tmps : Array Value) : results fn tmps = (do
    let vs ← fn.results.mapM (rs1 tmps)
    pure (if h : vs.size = 1 then vs[0] else .tuple vs)) := rfl

theorem rsV_sound {P : Program} {n : Nat} {F : Fr} {a : Act} (h : Holds n F a) {w : World} : ∀ (rs : List ResultVar) (K : List Value → Prop), rsV P F w rs K →
    ∃ vs, K vs ∧ (rs.mapM (rs1 a.tmps)).run P w = .ok vs w := by
  intro rs
  induction rs with
  | nil => intro K hk; exact ⟨[], hk, rfl⟩
  | cons r rs ih =>
    intro K hk
    cases r with
    | tmp t =>
      simp only [rsV] at hk
      split at hk
      · rename_i v hv
        obtain ⟨vs, h1, h2⟩ := ih _ hk
        refine ⟨v :: vs, h1, ?_⟩
        have := h.get t v hv
        have e1 : rs1 a.tmps (.tmp t) = pure v := by simp [rs1, this]
        simp [List.mapM_cons, h2, e1]
      · exact hk.elim
    | cell t ty =>
      simp only [rsV] at hk
      split at hk
      · rename_i ad hv
        obtain ⟨v, h1, h2⟩ := hk.h
        obtain ⟨vs, h3, h4⟩ := ih _ h2
        refine ⟨v :: vs, h3, ?_⟩
        have := h.get t _ hv
        have e1 : rs1 a.tmps (.cell t ty) = loadVar ty ad := by simp [rs1, this, asAddr, pure, bind, Sem.bind]
        simp [List.mapM_cons, h4, e1, h1]
      · exact hk.elim

/-- A function's contract out of its verification condition. -/
theorem ret_of_vc {P : Program} {T : TT} (hT : TOk P T) {f : FuncId} {fn : Func} {c : Code} {args : List Value} {w : World} {K : Value → World → Prop} (hf : P.funcs[f]? = some fn) (hb : fn.body = some c)
    (hname : (fn.name == "runtime.NumGoroutine") = false) (hn : (Nat.ble args.length fn.ntmps && codeOk fn.ntmps c) = true)
    (h : vc P fn.ntmps T c (argsF 0 args) w (finQ P fn.results.toList K)) : Ret P f args w K := by
  simp only [Bool.and_eq_true] at hn
  have hlen : args.length ≤ fn.ntmps := Nat.ble_eq ▸ hn.1
  refine ⟨.inr ⟨?_, ?_⟩⟩
  · simp only [callFunc, Sem.run_bind, run_program, Result.andThen_ok, hf, hname, hb]; rfl
  · refine calls_of_wp hf hb (wp_mono (vc_sound hT c _ w _ hn.2 h _ ⟨rfl, ?_, ?_⟩) ?_)
    · simp; omega
    · intro s v hs
      obtain ⟨j, rfl, hj⟩ := argsF_get args 0 s v hs
      have hj' : j < args.length := (List.getElem?_eq_some_iff.1 hj).1
      simp only [Nat.zero_add]
      rw [Array.getElem?_append_left (by simpa using hj')]
      simpa using hj
    · rintro e a' w' ⟨F', h', hq⟩
      have fin' : fin P fn.results.toList K F' w' → a'.defers = [] ∧ ∃ v, (results fn a'.tmps).run P w' = .ok v w' ∧ ∃ u, Ending.returned v = .returned u ∧ K u w' := by
        intro hq
        obtain ⟨vs, h1, h2⟩ := rsV_sound h' _ _ hq
        refine ⟨h'.defers, ?_⟩
        have hr : (fn.results.mapM (rs1 a'.tmps)).run P w' = .ok ⟨vs⟩ w' := by
          rw [← Array.toArray_toList (xs := fn.results), List.mapM_toArray]
          simp [h2]
        split at h1
        · rename_i v
          exact ⟨v, by simp [results_eq, hr], v, rfl, h1⟩
        · rename_i vs9 hne
          refine ⟨.tuple ⟨vs⟩, ?_, _, rfl, h1⟩
          simp [results_eq, hr]
          intro hone
          match vs, hone with
          | [v], _ => exact absurd rfl (hne v)
      cases e with
      | normal => exact fin' hq
      | ret => exact fin' hq
      | _ => exact hq.elim

end Go.Proofs.YtmecmdnnhldjpaaDoor
