/- The frame of every law's proof: out of a contract of the law's function (it returns true and changes no old block) the given row. Conditions: none. -/
import Derived.Test.YtmaklbdlijcopaaDoorStrB
import Derived.Test.YtmaklbdlijcopaaDoorRows
import Derived.ProofKit
namespace Go.Proofs.YtmaklbdlijcopaaDoor
open Go.ChangeShapes Go.WideShapes Go.ChangeAt Go.RowKit

theorem Tryd.own : ownKnob Tryd.prog.godebug = none := by kernel_rfl
theorem Tryd.laidOut : laidOutB Tryd.prog = true := by kernel_rfl

theorem Ret.calls {P : Program} {f : FuncId} {fn : Func} {c : Code} {args : List Value} {w : World} {K : Value → World → Prop} (hf : P.funcs[f]? = some fn) (hb : fn.body = some c) (hname : (fn.name == "runtime.NumGoroutine") = false)
    (h : Ret P f args w K) : Calls P f ⟨args⟩ w fun e w' => ∃ v, e = .returned v ∧ K v w' := by
  rcases h.h with ⟨v, w', h1, _⟩ | ⟨_, h2⟩
  · have : (callFunc f ⟨args⟩).run P w = .ok (.enter f ⟨args⟩) w := by
      simp only [callFunc, Sem.run_bind, run_program, Result.andThen_ok, hf, hname, hb]; rfl
    rw [this] at h1
    simp at h1
  · exact h2

theorem trodAll_below {H : Type} {enc : TypeId × Value → H} {P : Program} (hl : laidOutB P = true) {W W' : World} (hb : Below W.heap.size W W') : ∀ {ts : List TypeId} {vs : List Value} {ds : List (DataW H)} {ps : List MemPlace},
    (ts.all fun t => P.readableRec t && decide (t < P.types.size)) = true → DataW.TrodAll enc P W 0 (fun _ => true) true ts vs ds ps → (∀ x ∈ ps, x.block < W.heap.size) →
    DataW.TrodAll enc P W' 0 (fun b => decide (b < W.heap.size)) true ts vs ds ps
  | [], [], [], _, _, h, _ => h
  | t :: ts, v :: vs, d :: ds, ps, hr, ⟨p, q, h1, h2, e⟩, hlt => by
    simp only [List.all_cons, Bool.and_eq_true, decide_eq_true_eq] at hr
    exact ⟨p, q, Below.trod hl hr.1.1 hr.1.2 h1 hb (fun x hx => hlt x (by rw [e]; exact List.mem_append_left _ hx)),
      trodAll_below hl hb (by simpa using hr.2) h2 (fun x hx => hlt x (by rw [e]; exact List.mem_append_right _ hx)), e⟩

/-- What the row asks behind the call, of a law that has returned true and changed no old block. -/
theorem law_post {H : Type} {enc : TypeId × Value → H} {P : Program} {f : Func} {s : ChangeSpec} {W W' : World} {args : Array Value} {ds gs : List (DataW H)} {before : List MemPlace} {tb : TypeId}
    (hl : laidOutB P = true) (hr : (f.params.toList.all fun t => P.readableRec t && decide (t < P.types.size)) = true) (hres : f.resultTypes = #[tb]) (hb : P.underlying tb = some .bool)
    (hsv : s.vars = []) (hfn : s.fn H (ds ++ []) = { results := [.lit (.bool true)], args := ds, vars := [] }) (hW : DataW.Whole enc P f.params.toList s.vars false W args.toList ds gs before) (hx : Ext W W') :
    s.post enc P f false true false false W args (.bool true) W' := by
  have hlt := hW.lt
  have hW' := hW
  obtain ⟨p, q, hA, hV, rfl, hfz, hnd⟩ := hW
  rw [hsv] at hV
  obtain ⟨rfl, rfl⟩ := trodVars_none hV
  refine ⟨ds, [], p ++ [], [], p, [], hW', ?_, ?_, ?_, hx.below.frame _, fun h => by cases h⟩
  · rw [hfn, hres]
    exact trodAll_mk1 (shut_bool hb true)
  · rw [hfn]
    exact trodAll_below hl hx.below hr hA (fun x hxx => hlt x (List.mem_append_left _ hxx))
  · rw [hfn, hsv]
    exact rfl

/- ## Arguments, opened -/
def OStr (_w : World) (v : Value) : Prop := ∃ s : ByteArray, v = .string s ∧ s.size ≤ maxLen
def OInt (k : IntKind) (_w : World) (v : Value) : Prop := ∃ n : Int, v = .int k n ∧ (Lit.int k n).wf = true
def OStrs (w : World) (v : Value) : Prop := ∃ ss bs, Strs w v ss bs ∧ ∀ s ∈ ss, s.size ≤ maxLen

section
variable {H : Type} {enc : TypeId × Value → H} {P : Program} {W : World} {r : Reach} {b0 : Nat} {sp : Nat → Bool} {held : Bool} {t : TypeId} {v : Value} {d : DataW H} {p : List MemPlace}

theorem oStr (ht : P.underlying t = some .string) (hval : Value.okWide P W r b0 t v) (h : DataW.Trod enc P W 0 sp held t v d p) : OStr W v := by
  obtain ⟨s, h1, _, _, h2⟩ := Go.ChangeMaps.open_string ht hval h
  exact ⟨s, h1, h2⟩

theorem oInt {k : IntKind} (ht : P.underlying t = some (.int k)) (hval : Value.okWide P W r b0 t v) (h : DataW.Trod enc P W 0 sp held t v d p) : OInt k W v := by
  obtain ⟨n, h1, _, _, h2⟩ := open_int ht hval h
  exact ⟨n, h1, h2⟩

theorem oStrs {e : TypeId} (ht : P.underlying t = some (.slice e)) (he : P.underlying e = some .string) (hc : P.cellsOf e = 1) (hval : Value.okWide P W r b0 t v) (h : DataW.Trod enc P W 0 (fun _ => true) held t v d p) : OStrs W v := by
  obtain ⟨a0, len, cap, rfl⟩ := okWide_slice ht hval
  obtain ⟨fuel, hf⟩ := h
  rcases open_strings ht he hc hf with ⟨hcs, _⟩ | ⟨a, len', cap', ss, hcs, _, hl, hm, hz, _, hcell, hws⟩
  · have hcs' : [Value.slice a0 len cap] = [Value.slice none 0 0] := hcs
    simp only [List.cons.injEq, Value.slice.injEq, and_true] at hcs'
    obtain ⟨rfl, rfl, rfl⟩ := hcs'
    exact ⟨[], [], ⟨none, 0, rfl, ⟨Nat.zero_le _, Nat.zero_le _⟩, .inl ⟨rfl, rfl⟩⟩, by simp⟩
  · have hcs' : [Value.slice a0 len cap] = [Value.slice (some a) len' cap'] := hcs
    simp only [List.cons.injEq, Value.slice.injEq, and_true] at hcs'
    obtain ⟨rfl, rfl, rfl⟩ := hcs'
    simp only [if_true] at hz
    have hlen : (ss.take len).length = len := by simp; omega
    by_cases h0 : ss.take len = []
    · have : len = 0 := by rw [← hlen, h0]; rfl
      subst this
      exact ⟨[], [], ⟨some a, cap, rfl, ⟨Nat.zero_le _, Nat.zero_le _⟩, .inl ⟨rfl, rfl⟩⟩, by simp⟩
    · refine ⟨ss.take len, [a.block], ⟨some a, cap, by rw [List.length_map, hlen], ⟨by rw [List.length_map, hlen]; omega, by rw [List.length_map, hlen]; omega⟩, .inr ⟨a, by simpa using h0, rfl, rfl, ?_⟩⟩, fun s hs => hws s (List.mem_of_mem_take hs)⟩
      intro i u hu
      rw [List.map_take, List.getElem?_take] at hu
      split at hu
      · rw [List.getElem?_map] at hu
        cases hx : ss[i]? with
        | none => rw [hx] at hu; simp at hu
        | some x =>
          rw [hx] at hu
          simp at hu
          subst hu
          have := hcell i (List.getElem?_eq_some_iff.1 hx).1
          rw [this]
          simp [List.getD_eq_getElem?_getD, hx]
      · cases hu
end

end Go.Proofs.YtmaklbdlijcopaaDoor
