/- The frame of every law's proof: out of a contract of the law's function (it returns true and changes no old block) the given row; Operations: a string's bytes appended; contracts taken from the library. The reference's Join. Conditions: none. -/
import Derived.Test.YtmecmdnnhldjpaaDoorJTy
import Derived.Test.YtmecmdnnhldjpaaDoorRows
import Derived.ProofKit
import Derived.Test.YtmecmdnnhldjpaaDoorStrE
import Derived.Test.YtmecmdnnhldjpaaDoorTyG
import Derived.Test.YtmecmdnnhldjpaaDoorJMarkT
import Derived.Lib.AppendStr
import Derived.Lib.Join
namespace Go.Proofs.YtmecmdnnhldjpaaDoor
open Go.ChangeShapes Go.WideShapes Go.ChangeAt Go.RowKit

theorem Tryd.own : ownKnob Tryd.prog.godebug = none := by kernel_rfl
theorem Tryd.laidOut : laidOutB Tryd.prog = true := by kernel_rfl

theorem Ret.calls {P : Program} {f : FuncId} {fn : Func} {c : Code} {args : List Value} {w : World} {K : Value → World → Prop} (hf : P.funcs[f]? = some fn) (hb : fn.body = some c) (hname : (fn.name == "runtime.NumGoroutine") = false)
    (h : Ret P f args w K) : Calls P f ⟨args⟩ w fun e w' => ∃ v, e = .returned v ∧ K v w' := by
  rcases h.h with ⟨v, w', h1, _⟩ | ⟨_, h2⟩
  · have : (callFunc f ⟨args⟩).run P w = .ok (.enter f ⟨args⟩) w := by
      simp only [callFunc, Sem.run_bind, run_program, Result.andThen_ok, hf, hname, hb]; rfl
    rw [this] at h1
    simp at h1
  · exact h2

theorem trodAll_below {H : Type} {enc : TypeId × Value → H} {P : Program} (hl : laidOutB P = true) {W W' : World} (hb : Below W.heap.size W W') : ∀ {ts : List TypeId} {vs : List Value} {ds : List (DataW H)} {ps : List MemPlace},
    (ts.all fun t => P.readableRec t && decide (t < P.types.size)) = true → DataW.TrodAll enc P W 0 (fun _ => true) true ts vs ds ps → (∀ x ∈ ps, x.block < W.heap.size) →
    DataW.TrodAll enc P W' 0 (fun b => decide (b < W.heap.size)) true ts vs ds ps
  | [], [], [], _, _, h, _ => h
  | t :: ts, v :: vs, d :: ds, ps, hr, ⟨p, q, h1, h2, e⟩, hlt => by
    simp only [List.all_cons, Bool.and_eq_true, decide_eq_true_eq] at hr
    exact ⟨p, q, Below.trod hl hr.1.1 hr.1.2 h1 hb (fun x hx => hlt x (by rw [e]; exact List.mem_append_left _ hx)),
      trodAll_below hl hb (by simpa using hr.2) h2 (fun x hx => hlt x (by rw [e]; exact List.mem_append_right _ hx)), e⟩

/-- What the row asks behind the call, of a law that has returned true and changed no old block. -/
theorem law_post {H : Type} {enc : TypeId × Value → H} {P : Program} {f : Func} {s : ChangeSpec} {W W' : World} {args : Array Value} {ds gs : List (DataW H)} {before : List MemPlace} {tb : TypeId}
    (hl : laidOutB P = true) (hr : (f.params.toList.all fun t => P.readableRec t && decide (t < P.types.size)) = true) (hres : f.resultTypes = #[tb]) (hb : P.underlying tb = some .bool)
    (hsv : s.vars = []) (hfn : s.fn H (ds ++ []) = { results := [.lit (.bool true)], args := ds, vars := [] }) (hW : DataW.Whole enc P f.params.toList s.vars false W args.toList ds gs before) (hx : Ext W W') :
    s.post enc P f false true false false W args (.bool true) W' := by
  have hlt := hW.lt
  have hW' := hW
  obtain ⟨p, q, hA, hV, rfl, hfz, hnd⟩ := hW
  rw [hsv] at hV
  obtain ⟨rfl, rfl⟩ := trodVars_none hV
  refine ⟨ds, [], p ++ [], [], p, [], hW', ?_, ?_, ?_, hx.below.frame _, fun h => by cases h⟩
  · rw [hfn, hres]
    exact trodAll_mk1 (shut_bool hb true)
  · rw [hfn]
    exact trodAll_below hl hx.below hr hA (fun x hxx => hlt x (List.mem_append_left _ hxx))
  · rw [hfn, hsv]
    exact rfl

/- ## Arguments, opened -/
def OStr (_w : World) (v : Value) : Prop := ∃ s : ByteArray, v = .string s ∧ s.size ≤ maxLen
def OInt (k : IntKind) (_w : World) (v : Value) : Prop := ∃ n : Int, v = .int k n ∧ (Lit.int k n).wf = true
def OStrs (w : World) (v : Value) : Prop := ∃ ss bs, Strs w v ss bs ∧ ∀ s ∈ ss, s.size ≤ maxLen

section
variable {H : Type} {enc : TypeId × Value → H} {P : Program} {W : World} {r : Reach} {b0 : Nat} {sp : Nat → Bool} {held : Bool} {t : TypeId} {v : Value} {d : DataW H} {p : List MemPlace}

theorem oStr (ht : P.underlying t = some .string) (hval : Value.okWide P W r b0 t v) (h : DataW.Trod enc P W 0 sp held t v d p) : OStr W v := by
  obtain ⟨s, h1, _, _, h2⟩ := Go.ChangeMaps.open_string ht hval h
  exact ⟨s, h1, h2⟩

theorem oInt {k : IntKind} (ht : P.underlying t = some (.int k)) (hval : Value.okWide P W r b0 t v) (h : DataW.Trod enc P W 0 sp held t v d p) : OInt k W v := by
  obtain ⟨n, h1, _, _, h2⟩ := open_int ht hval h
  exact ⟨n, h1, h2⟩

theorem oStrs {e : TypeId} (ht : P.underlying t = some (.slice e)) (he : P.underlying e = some .string) (hc : P.cellsOf e = 1) (hval : Value.okWide P W r b0 t v) (h : DataW.Trod enc P W 0 (fun _ => true) held t v d p) : OStrs W v := by
  obtain ⟨a0, len, cap, rfl⟩ := okWide_slice ht hval
  obtain ⟨fuel, hf⟩ := h
  rcases open_strings ht he hc hf with ⟨hcs, _⟩ | ⟨a, len', cap', ss, hcs, _, hl, hm, hz, _, hcell, hws⟩
  · have hcs' : [Value.slice a0 len cap] = [Value.slice none 0 0] := hcs
    simp only [List.cons.injEq, Value.slice.injEq, and_true] at hcs'
    obtain ⟨rfl, rfl, rfl⟩ := hcs'
    exact ⟨[], [], ⟨none, 0, rfl, ⟨Nat.zero_le _, Nat.zero_le _⟩, .inl ⟨rfl, rfl⟩⟩, by simp⟩
  · have hcs' : [Value.slice a0 len cap] = [Value.slice (some a) len' cap'] := hcs
    simp only [List.cons.injEq, Value.slice.injEq, and_true] at hcs'
    obtain ⟨rfl, rfl, rfl⟩ := hcs'
    simp only [if_true] at hz
    have hlen : (ss.take len).length = len := by simp; omega
    by_cases h0 : ss.take len = []
    · have : len = 0 := by rw [← hlen, h0]; rfl
      subst this
      exact ⟨[], [], ⟨some a, cap, rfl, ⟨Nat.zero_le _, Nat.zero_le _⟩, .inl ⟨rfl, rfl⟩⟩, by simp⟩
    · refine ⟨ss.take len, [a.block], ⟨some a, cap, by rw [List.length_map, hlen], ⟨by rw [List.length_map, hlen]; omega, by rw [List.length_map, hlen]; omega⟩, .inr ⟨a, by simpa using h0, rfl, rfl, ?_⟩⟩, fun s hs => hws s (List.mem_of_mem_take hs)⟩
      intro i u hu
      rw [List.map_take, List.getElem?_take] at hu
      split at hu
      · rw [List.getElem?_map] at hu
        cases hx : ss[i]? with
        | none => rw [hx] at hu; simp at hu
        | some x =>
          rw [hx] at hu
          simp at hu
          subst hu
          have := hcell i (List.getElem?_eq_some_iff.1 hx).1
          rw [this]
          simp [List.getD_eq_getElem?_getD, hx]
      · cases hu
end

end Go.Proofs.YtmecmdnnhldjpaaDoor

namespace Go.Proofs.YtmecmdnnhldjpaaDoor
open Go.RowKit

/-- A library's contract as one of ours. -/
theorem Ret.of {P : Program} {f : FuncId} {fn : Func} {c : Code} {args : List Value} {w : World} {K : Value → World → Prop} {E : Ending → World → Prop} (hf : P.funcs[f]? = some fn) (hb : fn.body = some c) (hname : (fn.name == "runtime.NumGoroutine") = false)
    (h : Calls P f ⟨args⟩ w E) (hk : ∀ e w', E e w' → ∃ v, e = .returned v ∧ K v w') : Ret P f args w K := by
  refine ⟨.inr ⟨?_, h.mono hk⟩⟩
  simp only [callFunc, Sem.run_bind, run_program, Result.andThen_ok, hf, hname, hb]; rfl

/-- Bytes as cells. -/
def bytesL (l : List UInt8) : List Value := l.map fun b => .int .u8 b.toNat
theorem bytesL_append (a b : List UInt8) : bytesL (a ++ b) = bytesL a ++ bytesL b := List.map_append
theorem bytesL_length (a : List UInt8) : (bytesL a).length = a.length := List.length_map ..

/-- append of a string's bytes. -/
theorem Go1.aps {P : Program} {w : World} {t u ty e : TypeId} {K : Value → World → Prop} (ht : P.underlying t = some (.slice e)) (hu : P.underlying u = some .string) (hi : TyI P e (.int .u8 0) 1 1)
    {v : Value} {n : Nat} {xs : List Value} {O : List Nat} (hg : Grow w e 1 v n xs O) {s : ByteArray} (hm : n + s.size ≤ 140737488355328)
    (k : ∀ v' w' O', Chg (· ∈ O) w w' → Grow w' e 1 v' (n + s.size) (xs ++ bytesL s.data.toList) O' → (∀ b ∈ O', b ∈ O ∨ w.heap.size ≤ b) → (v ≠ .slice none 0 0 → v' ≠ .slice none 0 0) → K v' w') :
    Go1 P (Builtin.append_ #[t, u] ty #[v, .string s]) w K := by
  obtain ⟨i, i1, i2, i3, i4⟩ := hi.h
  have hM : maxLen = 9223372036854775807 := rfl
  obtain ⟨v', w', hr, h2, h3, h4⟩ := Lib.run_append_own_string (P := P) w 0 t u ty e i ht hu i1 i2 i3 i4 v n xs (hg.owns fun _ _ => Nat.zero_le _) s (by omega) hm (Nat.zero_le _)
  obtain ⟨O', hg', hO'⟩ := Grow.of_owns h2
  have hO : ∀ b, v.ownBlock = some b ↔ b ∈ O := by
    intro b
    rcases hg.2 with ⟨rfl, rfl, rfl⟩ | ⟨g, cap, rest, rfl, rfl, _⟩
    · simp [Value.ownBlock]
    · simp [Value.ownBlock, eq_comm]
  have hc : Chg (· ∈ O) w w' := ⟨h3.os, h3.tape, h3.output, h3.size, fun k hk hn => h3.block k hk fun e => hn ((hO k).1 e.symm)⟩
  refine Go1.go hr (k v' w' O' hc hg' (fun b hb => ?_) fun hv he => hv (h4.1 he).1)
  by_cases hb1 : w.heap.size ≤ b
  · exact .inr hb1
  · refine .inl ((hO b).1 ?_)
    have hv' := hO' b hb
    by_cases hown : v.ownBlock = some b
    · exact hown
    · exfalso
      rcases hg.2 with ⟨rfl, rfl, rfl⟩ | ⟨g, cap, rest, rfl, rfl, hbl, g1, g2, g3⟩
      · obtain ⟨v2, w2, hr2, q2, _, _⟩ := Lib.run_append_own_string (P := P) w w.heap.size t u ty e i ht hu i1 i2 i3 i4 _ 0 xs (hg.owns (by simp)) s (by omega) hm (Nat.le_refl _)
        rw [hr] at hr2
        simp only [Result.ok.injEq] at hr2
        obtain ⟨rfl, rfl⟩ := hr2
        exact hb1 (q2.lt b hv').1
      · by_cases hroom : n + s.size ≤ cap
        · have hr2 := Lib.run_append_room_string (P := P) w t u ty e i ht hu i1 i3 g n cap ⟨xs ++ rest⟩ hbl s hroom (by simp only [List.size_toArray]; omega)
          rw [hr] at hr2
          simp only [Result.ok.injEq] at hr2
          rw [hr2.1] at hv'
          exact hown hv'
        · have hr2 := Lib.run_append_grow_string (P := P) w t u ty e i _ ht hu i1 i2 ⟨g, 0, none⟩ n cap xs (by rw [hg.1, i3]) (fun j x hx => Blk.lc0 hbl j x hx) s (by omega) (by omega) (growslice_fits (by omega) (by rw [i4]; omega))
          rw [hr] at hr2
          simp only [Result.ok.injEq] at hr2
          rw [hr2.1] at hv'
          simp [Value.ownBlock] at hv'
          omega

/-- The strings, the separator between them. -/
def jn (ss : List ByteArray) (sep : ByteArray) : List UInt8 := Lib.join (ss.map (·.data.toList)) sep.data.toList
theorem jn_cons (x : ByteArray) (r : List ByteArray) (sep : ByteArray) : jn (x :: r) sep = x.data.toList ++ Lib.joinTail sep.data.toList (r.map (·.data.toList)) := Lib.join_cons _ _ _
theorem jn_take0 {ss : List ByteArray} {x : ByteArray} (h : ss[0]? = some x) (sep : ByteArray) : jn (ss.take 1) sep = x.data.toList := by
  cases ss with
  | nil => simp at h
  | cons y r =>
    obtain rfl : y = x := by simpa using h
    exact Lib.join_one _ _
theorem jn_take {ss : List ByteArray} {k : Nat} {x : ByteArray} (hk : 0 < k) (h : ss[k]? = some x) (sep : ByteArray) : jn (ss.take (k + 1)) sep = jn (ss.take k) sep ++ sep.data.toList ++ x.data.toList := by
  cases ss with
  | nil => simp at h
  | cons y r =>
    obtain ⟨j, rfl⟩ : ∃ j, k = j + 1 := ⟨k - 1, by omega⟩
    simp only [List.take_succ_cons, jn_cons, List.map_take]
    rw [Lib.joinTail_take_succ sep.data.toList (r.map (·.data.toList)) j x.data.toList (by rw [List.getElem?_map, show r[j]? = some x by simpa using h]; rfl)]
    simp [List.append_assoc]
theorem jn_le (ss : List ByteArray) (sep : ByteArray) (k : Nat) : (jn (ss.take k) sep).length ≤ (jn ss sep).length := by
  cases ss with
  | nil => simp
  | cons y r =>
    cases k with
    | zero => simp [jn, Lib.join_nil]
    | succ k =>
      simp only [List.take_succ_cons, jn_cons, List.length_append]
      have : Lib.joinTail sep.data.toList (r.map (·.data.toList)) = Lib.joinTail sep.data.toList ((r.take k).map (·.data.toList)) ++ Lib.joinTail sep.data.toList ((r.drop k).map (·.data.toList)) := by
        simp only [Lib.joinTail]
        rw [← List.flatten_append, ← List.map_append, ← List.map_append, List.take_append_drop]
      rw [this, List.length_append]
      omega
theorem jn_size (ss : List ByteArray) (sep : ByteArray) : (jn ss sep).length ≤ lenS ss + ss.length * sep.size := by
  cases ss with
  | nil => simp [jn, Lib.join_nil]
  | cons y r =>
    rw [jn_cons, List.length_append]
    have : ∀ r : List ByteArray, (Lib.joinTail sep.data.toList (r.map (·.data.toList))).length = lenS r + r.length * sep.size := by
      intro r
      induction r with
      | nil => simp [Lib.joinTail, lenS]
      | cons z r ih =>
        simp only [Lib.joinTail, List.map_cons, List.flatten_cons, List.length_append, lenS, List.sum_cons, List.length_cons] at ih ⊢
        rw [ih, Nat.add_mul]
        have h1 : sep.data.toList.length = sep.size := rfl
        have h2 : z.data.toList.length = z.size := rfl
        omega
    rw [this]
    have h2 : y.data.toList.length = y.size := rfl
    simp only [lenS, List.map_cons, List.sum_cons, List.length_cons, Nat.add_mul]
    omega

theorem jn_b {ss : List ByteArray} {sep : ByteArray} {m : Nat} (h : m + (ss.length + lenS ss) = 1048576) (hs : ¬ (1048576 : Int) < sep.size) : (jn ss sep).length ≤ 70368744177664 := by
  have h1 := jn_size ss sep
  have h2 : ss.length * sep.size ≤ 1048576 * 1048576 := Nat.mul_le_mul (by omega) (by omega)
  omega

theorem bytesV_mk (l : List UInt8) : bytesV ⟨l.toArray⟩ = bytesL l := rfl

end Go.Proofs.YtmecmdnnhldjpaaDoor
