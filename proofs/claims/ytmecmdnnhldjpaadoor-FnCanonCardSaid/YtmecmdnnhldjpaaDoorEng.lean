/- The engine: a computed verification condition for a function's code ('vc'), with its soundness over the kit's 'Code.wp'. Nothing here names the program. Conditions: none. -/
import Derived.Orders
import Derived.Tactics
import Derived.Below
import Derived.Laws.Small
import Derived.Laws.Strings
namespace Go.Proofs.YtmecmdnnhldjpaaDoor
open Go.RowKit

/- ## Frames: what is known of the slots -/
abbrev Fr := List (Nat × Value)

def Fr.get : List (Nat × Value) → Nat → Option Value
  | [], _ => none
  | (t, v) :: F, s => match Nat.beq t s with
    | true => some v
    | false => Fr.get F s

theorem nbeq_ne {a b : Nat} (h : ¬ a = b) : Nat.beq a b = false := by
  cases h' : Nat.beq a b
  · rfl
  · exact absurd (Nat.eq_of_beq_eq_true h') h

structure Holds (n : Nat) (F : Fr) (a : Act) : Prop where
  defers : a.defers = []
  size : a.tmps.size = n
  get : ∀ s v, Fr.get F s = some v → a.tmps[s]? = some v

def putF (F : Fr) (dst : Option Tmp) (v : Value) : Fr :=
  match dst with
  | none => F
  | some d => (d, v) :: F

theorem Holds.put {n : Nat} {F : Fr} {a : Act} (h : Holds n F a) (dst : Option Tmp) (v : Value) (hd : ∀ d, dst = some d → d < n) : Holds n (putF F dst v) (a.put dst v) := by
  cases dst with
  | none => exact h
  | some d =>
    refine ⟨h.defers, by simp [Act.put, h.size], fun s u hs => ?_⟩
    have hdn := hd d rfl
    simp only [putF, Fr.get] at hs
    by_cases e : d = s
    · subst e
      simp at hs
      subst hs
      simp [Act.put, h.size, hdn]
    · rw [nbeq_ne e] at hs
      have := h.get s u hs
      simp [Act.put, e, this]

/-- What the smaller frame says the greater says. -/
def SubF : Fr → Fr → Prop
  | [], _ => True
  | (s, v) :: r, F => Fr.get F s = some v ∧ SubF r F

theorem SubF.get {F1 F : Fr} (h : SubF F1 F) : ∀ s v, Fr.get F1 s = some v → Fr.get F s = some v := by
  induction F1 with
  | nil => intro s v h; simp [Fr.get] at h
  | cons p r ih =>
    obtain ⟨t, u⟩ := p
    intro s v hs
    simp only [Fr.get] at hs
    by_cases e : t = s
    · subst e
      simp at hs
      subst hs
      exact h.1
    · rw [nbeq_ne e] at hs
      exact ih h.2 s v hs

theorem Holds.sub {n : Nat} {F1 F : Fr} {a : Act} (h : Holds n F a) (hs : SubF F1 F) : Holds n F1 a :=
  ⟨h.defers, h.size, fun s v e => h.get s v (hs.get s v e)⟩

/- ## Operands -/
def opd (F : Fr) : Operand → Option Value
  | .tmp t => Fr.get F t
  | .const v => some v
  | .func f => some (.func (.func f) #[] #[])
  | .global g => some (.pointer (some ⟨g, 0, none⟩))

theorem opd_eval {n : Nat} {F : Fr} {a : Act} (h : Holds n F a) {x : Operand} {v : Value} (e : opd F x = some v) : a.eval x = v := by
  cases x with
  | tmp t =>
    have := h.get t v e
    simp [Act.eval, this]
  | const u => simpa [opd, Act.eval] using e
  | func f => simpa [opd, Act.eval] using e
  | global g => simpa [opd, Act.eval] using e

def opds (F : Fr) : List Operand → Option (List Value)
  | [] => some []
  | x :: xs => match opd F x with
    | some v => match opds F xs with
      | some vs => some (v :: vs)
      | none => none
    | none => none

theorem opds_eval {n : Nat} {F : Fr} {a : Act} (h : Holds n F a) : ∀ {xs : List Operand} {vs : List Value}, opds F xs = some vs → xs.map a.eval = vs := by
  intro xs
  induction xs with
  | nil => intro vs e; simpa [opds] using e
  | cons x xs ih =>
    intro vs e
    simp only [opds] at e
    split at e
    · rename_i v hv
      split at e
      · rename_i us hus
        simp at e
        subst e
        simp [opd_eval h hv, ih hus]
      · simp at e
    · simp at e

def optO (F : Fr) : Option Operand → Option (Option Value)
  | none => some none
  | some x => match opd F x with
    | some v => some (some v)
    | none => none

theorem optO_eval {n : Nat} {F : Fr} {a : Act} (h : Holds n F a) {x : Option Operand} {v : Option Value} (e : optO F x = some v) : x.map a.eval = v := by
  cases x with
  | none => simpa [optO] using e
  | some x =>
    simp only [optO] at e
    split at e
    · rename_i u hu
      simp at e
      subst e
      simp [opd_eval h hu]
    · simp at e

def partsO (F : Fr) : List (Nat × Operand) → Option (List (Nat × Value))
  | [] => some []
  | (i, x) :: xs => match opd F x with
    | some v => match partsO F xs with
      | some vs => some ((i, v) :: vs)
      | none => none
    | none => none

theorem partsO_eval {n : Nat} {F : Fr} {a : Act} (h : Holds n F a) : ∀ {xs : List (Nat × Operand)} {vs : List (Nat × Value)}, partsO F xs = some vs → (xs.map fun (i, x) => (i, a.eval x)) = vs := by
  intro xs
  induction xs with
  | nil => intro vs e; simpa [partsO] using e
  | cons p xs ih =>
    obtain ⟨i, x⟩ := p
    intro vs e
    simp only [partsO] at e
    split at e
    · rename_i v hv
      split at e
      · rename_i us hus
        simp at e
        subst e
        simp [opd_eval h hv, ← ih hus]
      · simp at e
    · simp at e

/- ## Kinds of types that the computed steps ask -/
inductive TK where
  | str
  | boo
  | slc (e : Nat)
  | st (fs : List (Nat × Nat × Bool))

def Program.aggB (P : Program) (t : TypeId) : Option Bool :=
  match P.underlying t with
  | some (.struct _) | some (.array _ _) => some true
  | some _ => some false
  | none => none

def TKOk (P : Program) (t : TypeId) : TK → Prop
  | .str => P.underlying t = some .string
  | .boo => P.underlying t = some .bool
  | .slc e => P.underlying t = some (.slice e)
  | .st fs => ∃ fields : Array Field, P.underlying t = some (.struct fields) ∧ ∀ (k off sz : Nat) (ag : Bool), fs[k]? = some (off, sz, ag) →
      ∃ f i, fields[k]? = some f ∧ f.offset = off ∧ P.info? f.type = some i ∧ i.size = sz ∧ Program.aggB P f.type = some ag

abbrev TT := List (Nat × TK)

def TT.get : List (Nat × TK) → Nat → Option TK
  | [], _ => none
  | (t, v) :: F, s => match Nat.beq t s with
    | true => some v
    | false => TT.get F s

def stB (P : Program) (t : TypeId) (fs : List (Nat × Nat × Bool)) : Bool :=
  match P.underlying t with
  | some (.struct fields) => (List.range fs.length).all fun k => match fs[k]?, fields[k]? with
    | some (off, sz, ag), some f => f.offset == off && (match P.info? f.type with | some i => i.size == sz | none => false) && (Program.aggB P f.type == some ag)
    | _, _ => false
  | _ => false

theorem stB_ok {P : Program} {t : TypeId} {fs : List (Nat × Nat × Bool)} (h : stB P t fs = true) : TKOk P t (.st fs) := by
  unfold stB at h
  split at h
  · rename_i fields hu
    refine ⟨fields, hu, fun k off sz ag hk => ?_⟩
    have hlt : k < fs.length := (List.getElem?_eq_some_iff.1 hk).1
    have := List.all_eq_true.1 h k (List.mem_range.2 hlt)
    rw [hk] at this
    split at this
    · rename_i o1 s1 g1 f h1 h2
      simp at h1
      obtain ⟨rfl, rfl, rfl⟩ := h1
      simp only [Bool.and_eq_true, beq_iff_eq] at this
      obtain ⟨⟨h3, h4⟩, h5⟩ := this
      split at h4
      · rename_i i hi
        exact ⟨f, i, h2, h3, hi, by simpa using h4, h5⟩
      · simp at h4
    · simp at this
  · simp at h

def tkB (P : Program) (t : TypeId) : TK → Bool
  | .str => match P.underlying t with | some .string => true | _ => false
  | .boo => match P.underlying t with | some .bool => true | _ => false
  | .slc e => match P.underlying t with | some (.slice e') => e' == e | _ => false
  | .st fs => stB P t fs

theorem tkB_ok {P : Program} {t : TypeId} : ∀ {k : TK}, tkB P t k = true → TKOk P t k := by
  intro k h
  cases k with
  | str => simp only [tkB] at h; split at h <;> simp_all [TKOk]
  | boo => simp only [tkB] at h; split at h <;> simp_all [TKOk]
  | slc e => simp only [tkB] at h; split at h <;> simp_all [TKOk]
  | st fs => exact stB_ok h

def ttB (P : Program) (T : TT) : Bool := T.all fun x => tkB P x.1 x.2

def TOk (P : Program) (T : TT) : Prop := ∀ t k, TT.get T t = some k → TKOk P t k

theorem TT.get_mem {T : TT} {t : Nat} {k : TK} (h : TT.get T t = some k) : (t, k) ∈ T := by
  induction T with
  | nil => simp [TT.get] at h
  | cons p T ih =>
    obtain ⟨s, u⟩ := p
    simp only [TT.get] at h
    by_cases e : s = t
    · subst e
      simp at h
      subst h
      exact List.mem_cons_self
    · rw [nbeq_ne e] at h
      exact List.mem_cons_of_mem _ (ih h)

theorem ttB_ok {P : Program} {T : TT} (h : ttB P T = true) : TOk P T := fun t k hk => tkB_ok (List.all_eq_true.1 h (t, k) (TT.get_mem hk))

/- ## Operations whose value is computed -/
def cmpV (op : BinOp) (a b : Int) : Option Bool :=
  match op with
  | .eql => some (decide (a = b))
  | .neq => some (!(decide (a = b)))
  | .lss => some (decide (a < b))
  | .leq => some (decide (a ≤ b))
  | .gtr => some (decide (b < a))
  | .geq => some (decide (b ≤ a))
  | _ => none

def lenV (k : Option TK) (v : Value) : Option Value :=
  match v with
  | .string s => match k with
    | some .str => some (.int .i64 s.size)
    | _ => none
  | .slice _ n _ => match k with
    | some (.slc _) => some (.int .i64 n)
    | _ => none
  | _ => none

def fieldV (k : Option TK) (v : Value) (f : Nat) : Option Value :=
  match v with
  | .agg cs => match k with
    | some (.st fs) => match fs[f]? with
      | some (off, sz, true) => some (.agg ⟨(cs.toList.drop off).take sz⟩)
      | some (off, _, false) => cs.toList[off]?
      | none => none
    | _ => none
  | _ => none

def binV (op : BinOp) (tk : Option TK) (x y : Value) : Option Bool :=
  match x, y with
  | .int k a, .int k' b => match decide (k = k') with
    | true => cmpV op a b
    | false => none
  | .string a, .string b => match op with
    | .eql => some (decide (a = b))
    | .neq => some (!(decide (a = b)))
    | _ => none
  | .bool a, .bool b => match tk with
    | some .boo => match op with
      | .eql => some (a == b)
      | .neq => some (!(a == b))
      | _ => none
    | _ => none
  | _, _ => none

def pureV (T : TT) (F : Fr) (o : Op) : Option Value :=
  match o with
  | .move x => opd F x
  | .assign x => opd F x
  | .unOp .not _ x => match opd F x with
    | some (.bool b) => some (.bool (!b))
    | _ => none
  | .extract x i => match opd F x with
    | some (.tuple vs) => vs.toList[i]?
    | _ => none
  | .field t x f => match opd F x with
    | some v => fieldV (TT.get T t) v f
    | none => none
  | .makeFunc fn first captured => match opds F first.toList with
    | some vs => match opds F captured.toList with
      | some us => some (.func fn ⟨vs⟩ ⟨us⟩)
      | none => none
    | none => none
  | .call { callee := .builtin .len, args, argTypes } => match args.toList with
    | [x] => match opd F x with
      | some v => match argTypes.toList with
        | [t] => lenV (TT.get T t) v
        | _ => none
      | none => none
    | _ => none
  | _ => none

/-- A comparison's answer. -/
def cmpB (T : TT) (F : Fr) (o : Op) : Option Bool :=
  match o with
  | .binOp op t x y _ => match opd F x with
    | some v => match opd F y with
      | some u => binV op (TT.get T t) v u
      | none => none
    | none => none
  | _ => none

theorem run_value {m : Sem Value} {P : Program} {w w' : World} {v : Value} (h : m.run P w = .ok v w') : (do pure (Next.value (← m)) : Sem Next).run P w = .ok (.value v) w' := by
  show (m.bind fun v => Sem.pure (Next.value v)).run P w = _
  rw [Sem.run_bind', h]
  rfl

theorem beq_str (a b : ByteArray) : (a.toList == b.toList) = decide (a = b) := by
  by_cases h : a = b
  · subst h; simp
  · have : ¬ a.toList = b.toList := by
      rw [ByteArray.toList_eq, ByteArray.toList_eq]
      intro e
      apply h
      cases a; cases b
      simp only at e
      rw [Array.toList_inj.1 e]
    simp [h, this]

theorem beq_int (a b : Int) : (a == b) = decide (a = b) := by
  by_cases h : a = b <;> simp [h]

/-- The operation 'o' with operands read off the frame yields 'v' and leaves the world alone. -/
def Yv (P : Program) (ρ : Operand → Value) (o : Oper) (v : Value) : Prop := ∀ w : World, (execOp ρ o).run P w = .ok (.value v) w

theorem cmpB_sound {P : Program} {n : Nat} {T : TT} (hT : TOk P T) {F : Fr} {a : Act} (h : Holds n F a) (o : Oper) {v : Bool} (e : cmpB T F o.op = some v) : Yv P a.eval o (.bool v) := by
  intro w
  obtain ⟨dst, op, type, pos, after, guard⟩ := o
  simp only at e
  unfold cmpB at e
  split at e
  · rename_i bop t x y yt
    split at e
    · rename_i v1 hv
      split at e
      · rename_i u hu
        rw [execOp]
        simp only [opd_eval h hv, opd_eval h hu]
        refine run_value ?_
        unfold binV at e
        split at e
        · rename_i k1 i1 k2 i2
          split at e
          · rename_i hk
            have hk' : k1 = k2 := by simpa using hk
            subst hk'
            unfold cmpV at e
            split at e <;> simp only [Option.some.injEq, reduceCtorEq] at e <;> subst e <;> simp [eqGuard, binOp, Op.intCmp, bne, beq_int]
          · simp at e
        · split at e <;> simp only [Option.some.injEq, reduceCtorEq] at e <;> subst e <;> simp [eqGuard, binOp, Op.stringOp, beq_str]
        · split at e
          · rename_i htk
            have hb : P.underlying t = some .bool := hT _ _ htk
            split at e <;> simp only [Option.some.injEq, reduceCtorEq] at e <;> subst e
            · simp [eqGuard, binOp, run_equal_bool _ _ _ _ hb]
            · simp [eqGuard, binOp, run_equal_bool _ _ _ _ hb]
          · simp at e
        · simp at e
      · simp at e
    · simp at e
  · simp at e

theorem pureV_sound {P : Program} {n : Nat} {T : TT} (hT : TOk P T) {F : Fr} {a : Act} (h : Holds n F a) (o : Oper) {v : Value} (e : pureV T F o.op = some v) : Yv P a.eval o v := by
  intro w
  obtain ⟨dst, op, type, pos, after, guard⟩ := o
  simp only at e
  unfold pureV at e
  split at e
  · rw [execOp]; simp only [opd_eval h e]; rfl
  · rw [execOp]; simp only [opd_eval h e]; rfl
  · rename_i t x
    split at e
    · rename_i b hb
      simp at e
      subst e
      rw [execOp]
      simp only [opd_eval h hb]
      rfl
    · simp at e
  · rename_i x i
    split at e
    · rename_i vs hvs
      rw [execOp]
      simp only [opd_eval h hvs]
      have : vs[i]? = some v := by simpa using e
      simp [Instr.extract, this]
    · simp at e
  · rename_i t x f
    split at e
    · rename_i u hu
      rw [execOp]
      simp only [opd_eval h hu]
      refine run_value ?_
      unfold fieldV at e
      split at e
      · rename_i cs
        split at e
        · rename_i fs htk
          obtain ⟨fields, hun, hf⟩ := hT _ _ htk
          split at e
          · rename_i off sz hfs
            obtain ⟨fd, i, h1, h2, h3, h4, h5⟩ := hf _ _ _ _ hfs
            simp at e
            subst e
            unfold Program.aggB at h5
            have hag : (isAgg fd.type).run P w = .ok true w := by
              simp only [isAgg]
              split at h5 <;> simp at h5 <;> rename_i hu <;> simp [run_underlying hu]
            simp [Instr.field, run_underlying hun, asAgg, h1, part, hag, sizeOf, typeInfo, h3, h2, h4]
            apply Array.ext'
            simp [Array.toList_extract]
          · rename_i off sz hfs
            obtain ⟨fd, i, h1, h2, h3, h4, h5⟩ := hf _ _ _ _ hfs
            unfold Program.aggB at h5
            have hag : (isAgg fd.type).run P w = .ok false w := by
              simp only [isAgg]
              split at h5 <;> simp at h5
              rename_i d hd1 hd2 hu
              simp only [Sem.run_bind, run_underlying hu, Result.andThen_ok]
              cases d <;> first | rfl | (exact absurd rfl (hd1 _)) | (exact absurd rfl (hd2 _ _))
            have e' : cs[off]? = some v := by simpa using e
            simp [Instr.field, run_underlying hun, asAgg, h1, part, hag, h2, e']
          · simp at e
        · simp at e
      · simp at e
    · simp at e
  · rename_i fn first captured
    split at e
    · rename_i vs hvs
      split at e
      · rename_i us hus
        simp at e
        subst e
        rw [execOp]
        have h1 := opds_eval h hvs
        have h2 := opds_eval h hus
        simp only [Instr.makeFunc]
        have e1 : first.map a.eval = ⟨vs⟩ := by rw [← h1]; simp [← Array.toList_map]
        have e2 : captured.map a.eval = ⟨us⟩ := by rw [← h2]; simp [← Array.toList_map]
        rw [e1, e2]
        rfl
      · simp at e
    · simp at e
  · rename_i args argTypes
    split at e
    · rename_i x hx
      split at e
      · rename_i u hu
        split at e
        · rename_i t ht
          have ha : args = #[x] := Array.toList_inj.1 (by simpa using hx)
          have hat : argTypes = #[t] := Array.toList_inj.1 (by simpa using ht)
          subst ha
          subst hat
          rw [execOp]
          obtain ⟨cs, this⟩ : ∃ cs, (resolve a.eval { callee := .builtin .len, args := #[x], argTypes := #[t] } type).run P w = .ok { target := .builtin .len #[t] type cs, args := #[u] } w := by
            have hu' := opd_eval h hu
            refine ⟨#[match x with | .const _ => true | _ => false], ?_⟩
            cases x <;> simp [resolve, hu']
          simp only [Sem.run_bind, this, Result.andThen_ok, invoke, builtin]
          unfold lenV at e
          split at e
          · split at e
            · rename_i htk
              have hs : P.underlying t = some .string := hT _ _ htk
              simp at e
              subst e
              simp [Builtin.len_, run_underlying hs, goInt]
            · simp at e
          · split at e
            · rename_i htk
              have hs : P.underlying t = some (.slice _) := hT _ _ htk
              simp at e
              subst e
              simp [Builtin.len_, run_underlying hs, goInt]
            · simp at e
          · simp at e
        · simp at e
      · simp at e
    · simp at e
  · simp at e

end Go.Proofs.YtmecmdnnhldjpaaDoor
