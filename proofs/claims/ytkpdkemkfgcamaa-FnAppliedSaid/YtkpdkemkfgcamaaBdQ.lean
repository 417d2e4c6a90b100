/- Contracts: RestrictTo; bindings in the call's own memory: a copy, elements taken out. Conditions: none. -/
import Derived.Test.YtkpdkemkfgcamaaJBdE
import Derived.Test.YtkpdkemkfgcamaaStrE
import Derived.Laws.Cover3
namespace Go.Proofs.Ytkpdkemkfgcamaa
open Go.RowKit

theorem Lc.app2 {w : World} {a : Addr} {xs ys : List Value} (h : Lc w a xs) (k : Lc w (a.add xs.length) ys) : Lc w a (xs ++ ys) := by
  intro i v hv
  by_cases hi : i < xs.length
  · rw [List.getElem?_append_left hi] at hv
    exact h i v hv
  · rw [List.getElem?_append_right (by omega)] at hv
    have := k _ v hv
    rw [Go.Deep.add_add, show xs.length + (i - xs.length) = i by omega] at this
    exact this
theorem BL.fl {w : World} : ∀ {xs : List Bi} {a : Addr} {bs : List Nat}, BL w xs a bs → ∃ vs, vs.length = xs.length ∧ Lc w a (flB xs vs) ∧ BdL w vs xs bs
  | [], a, bs, h => ⟨[], rfl, fun i v hv => by simp [flB] at hv, h⟩
  | x :: xs, a, bs, h => by
    obtain ⟨b1, b2, rfl, ⟨v, hL, hK⟩, h2⟩ := h
    obtain ⟨vs, hl, h3, h4⟩ := BL.fl h2
    exact ⟨v :: vs, by simp [hl], Lc.app2 hL (by simpa using h3), b1, b2, rfl, hK, h4⟩
theorem flB_append {ys : List Bi} {us : List Value} : ∀ {xs : List Bi} {vs : List Value}, vs.length = xs.length → flB (xs ++ ys) (vs ++ us) = flB xs vs ++ flB ys us
  | [], [], _ => by simp [flB]
  | _ :: xs, _ :: vs, h => by
    simp only [List.cons_append, flB]
    rw [flB_append (by simpa using h)]
    simp
  | [], _ :: _, h => by simp at h
  | _ :: _, [], h => by simp at h
theorem flB_one : ∀ {xs : List Bi} {vs : List Value}, (∀ v ∈ vs, v.oneCell' = true) → ∀ u ∈ flB xs vs, u.oneCell' = true
  | [], _, _ => by simp [flB]
  | _ :: _, [], _ => by simp [flB]
  | x :: xs, v :: vs, h => by
    intro u hu
    simp only [flB, List.mem_append, List.mem_cons, List.not_mem_nil, or_false] at hu
    rcases hu with ((rfl | rfl | rfl) | rfl) | hu
    · rfl
    · rfl
    · rfl
    · exact h _ List.mem_cons_self
    · exact flB_one (fun v hv => h v (List.mem_cons_of_mem _ hv)) u hu
theorem BdL.one {w : World} : ∀ {vs : List Value} {xs : List Bi} {bs : List Nat}, BdL w vs xs bs → ∀ v ∈ vs, v.oneCell' = true
  | [], _, _, _ => by simp
  | v :: vs, [], _, h => h.elim
  | v :: vs, x :: xs, bs, h => by
    obtain ⟨b1, b2, _, h1, h2⟩ := h
    intro u hu
    rcases List.mem_cons.1 hu with rfl | hu
    · obtain ⟨ao, cap, rfl, _⟩ := h1.form
      rfl
    · exact BdL.one h2 u hu

theorem run_fromB {P : Program} {t e : TypeId} (ht : P.underlying t = some (.slice e)) {z : Value} {size bytes : Nat} (hi : TyI P e z size bytes) {ao : Option Addr} {n cap k : Nat} (hk : k ≤ n) (hn : n ≤ cap) {kd : IntKind} (w : World) :
    (Instr.sliceAt t (.slice ao n cap) (some (.int kd (k : Int))) none none).run P w = .ok (.slice (if cap = k then ao else ao.map (·.add (k * size))) (n - k) (cap - k)) w := by
  obtain ⟨i, h1, _, h3, _⟩ := hi.h
  have : (0 : Int) ≤ (k : Int) ∧ (k : Int) ≤ (n : Int) := by omega
  simp [Instr.sliceAt, Instr.slice, run_underlying ht, Instr.sliceBounds, Instr.sliceBound, asIntOf, sizeOf, typeInfo, h1, hk, h3]

theorem Go1.eqn {P : Program} {w : World} {t e : TypeId} {ox : Operand} {oy : Operand} {ao : Option Addr} {n cap : Nat} {K : Value → World → Prop} (ht : P.underlying t = some (.slice e)) (k : K (.bool ao.isNone) w) :
    Go1 P (do eqGuard .eql t ox oy (.slice ao n cap) (.slice none 0 0); Go.binOp .eql t (.slice ao n cap) (.slice none 0 0)) w K := by
  have h1 := run_equal_slice_nil (P := P) w t e ao n cap ht
  refine Go1.go (v := .bool ao.isNone) ?_ k
  simp [eqGuard, Go.binOp, h1]

/-- clear of the tail of a slice in the call's own memory. -/
theorem Go1.clr {P : Program} {w : World} {t ty e : TypeId} {z : Value} {size bytes b off n cap : Nat} {e' : TypeId} {xs ys : List Value} {K : Value → World → Prop} (ht : P.underlying t = some (.slice e)) (hi : TyI P e z size bytes) (hz : z.cells.size = size) (h0 : 0 < size) (h1 : ∀ u ∈ z.cells.toList, u.oneCell' = true)
    (h : Blk w b e' (xs ++ ys)) (ho : off = xs.length) (hn : n * size ≤ ys.length) (k : ∀ w' ys', ys'.length = ys.length → Chg (fun k => k = b) w w' → Blk w' b e' (xs ++ ys') → w'.heap.size = w.heap.size → K (.tuple #[]) w') :
    Go1 P (Builtin.clear_ #[t] ty #[.slice (some ⟨b, off, none⟩) n cap]) w K := by
  obtain ⟨i, i1, i2, i3, i4⟩ := hi.h
  cases n with
  | zero =>
    refine Go1.go (w' := w) (v := .tuple #[]) ?_ (k w ys rfl (Chg.refl _ _) h rfl)
    simp [Builtin.clear_, run_underlying ht]
  | succ n =>
    have hzl : (Builtin.zeroCells z.cells (n + 1)).toList.length = (n + 1) * size := by simp [Builtin.zeroCells, hz]
    have hz1 : ∀ u ∈ (Builtin.zeroCells z.cells (n + 1)).toList, u.oneCell' = true := by
      intro u hu
      simp only [Builtin.zeroCells, Array.toList_map, List.mem_map] at hu
      obtain ⟨j, _, rfl⟩ := hu
      have hj : j % z.cells.size < z.cells.size := Nat.mod_lt _ (by omega)
      rw [getElem!_pos z.cells _ hj]
      exact h1 _ (by simp)
    have hr := run_storeCells_at P b off e' (Builtin.zeroCells z.cells (n + 1)).toList 0 ⟨xs ++ ys⟩ w h (by rw [hzl]; simp only [List.size_toArray, List.length_append]; omega) hz1
    refine Go1.go (w' := w.setRow b (spl (xs ++ ys) off (Builtin.zeroCells z.cells (n + 1)).toList).toArray) (v := .tuple #[]) ?_ (k _ ((Builtin.zeroCells z.cells (n + 1)).toList ++ ys.drop ((n + 1) * size)) ?_ (chg_setRow w b _) ?_ (by simp [World.setRow]))
    · simp only [Nat.add_zero] at hr
      simp [Builtin.clear_, run_underlying ht, zeroValue, typeInfo, i1, i2, hr, spl]
    · simp only [List.length_append, List.length_drop, hzl]
      omega
    · have := setRow_heap w b _ ⟨spl (xs ++ ys) off (Builtin.zeroCells z.cells (n + 1)).toList⟩ e' (0, 0) h
      rw [spl_app _ _ _ ho, hzl] at this
      rw [spl_app _ _ _ ho, hzl]
      simpa [Blk, List.append_assoc] using this

theorem BdL.get {w : World} : ∀ {vs : List Value} {xs : List Bi} {bs : List Nat} {k : Nat} {x : Bi}, BdL w vs xs bs → xs[k]? = some x → ∃ v b1, vs[k]? = some v ∧ Kids encT w v x.2.kids b1 ∧ ∀ b ∈ b1, b ∈ bs
  | [], [], _, _, _, _, h => by simp at h
  | v :: vs, x :: xs, bs, 0, y, h, e => by
    obtain ⟨b1, b2, rfl, h1, h2⟩ := h
    obtain rfl : x = y := by simpa using e
    exact ⟨v, b1, rfl, h1, fun b hb => List.mem_append_left _ hb⟩
  | v :: vs, x :: xs, bs, k + 1, y, h, e => by
    obtain ⟨b1, b2, rfl, h1, h2⟩ := h
    obtain ⟨u, b3, g1, g2, g3⟩ := BdL.get h2 (by simpa using e)
    exact ⟨u, b3, by simpa using g1, g2, fun b hb => List.mem_append_right _ (g3 b hb)⟩
  | [], _ :: _, _, _, _, h, _ => h.elim
  | _ :: _, [], _, _, _, h, _ => h.elim
/-- The values beside what p keeps. -/
def selV (p : Bi → Bool) : List Bi → List Value → List Value
  | x :: xs, v :: vs => if p x then v :: selV p xs vs else selV p xs vs
  | _, _ => []
theorem selV_length (p : Bi → Bool) : ∀ {xs : List Bi} {vs : List Value}, vs.length = xs.length → (selV p xs vs).length = (xs.filter p).length
  | [], [], _ => rfl
  | x :: xs, v :: vs, h => by
    have ih := selV_length p (xs := xs) (vs := vs) (by simpa using h)
    by_cases e : p x = true
    · simp [selV, e, ih]
    · simp [selV, e, ih]
  | [], _ :: _, h => by simp at h
  | _ :: _, [], h => by simp at h
theorem selV_snoc (p : Bi → Bool) {x : Bi} {v : Value} : ∀ {xs : List Bi} {vs : List Value}, vs.length = xs.length → selV p (xs ++ [x]) (vs ++ [v]) = selV p xs vs ++ (if p x then [v] else [])
  | [], [], _ => by by_cases e : p x = true <;> simp [selV, e]
  | y :: ys, u :: us, h => by
    have ih := selV_snoc p (x := x) (v := v) (xs := ys) (vs := us) (by simpa using h)
    simp only [List.cons_append, selV]
    by_cases e : p y = true
    · rw [if_pos e, if_pos e, ih]; rfl
    · rw [if_neg e, if_neg e, ih]
  | [], _ :: _, h => by simp at h
  | _ :: _, [], h => by simp at h
theorem selV_all (p : Bi → Bool) : ∀ {xs : List Bi} {vs : List Value}, vs.length = xs.length → (∀ x ∈ xs, p x = true) → selV p xs vs = vs
  | [], [], _, _ => rfl
  | x :: xs, v :: vs, h, hp => by
    rw [selV, if_pos (hp x List.mem_cons_self), selV_all p (by simpa using h) fun y hy => hp y (List.mem_cons_of_mem _ hy)]
  | [], _ :: _, h, _ => by simp at h
  | _ :: _, [], h, _ => by simp at h
theorem BdL.sel {w : World} (p : Bi → Bool) : ∀ {vs : List Value} {xs : List Bi} {bs : List Nat}, BdL w vs xs bs → ∃ cs, BdL w (selV p xs vs) (xs.filter p) cs ∧ cs.Sublist bs
  | [], [], bs, h => ⟨[], rfl, by simp⟩
  | v :: vs, x :: xs, bs, h => by
    obtain ⟨b1, b2, rfl, h1, h2⟩ := h
    obtain ⟨cs, g1, g2⟩ := BdL.sel p h2
    by_cases e : p x = true
    · rw [selV, if_pos e, List.filter_cons_of_pos e]
      exact ⟨b1 ++ cs, ⟨b1, cs, rfl, h1, g1⟩, g2.append_left b1⟩
    · rw [selV, if_neg e, List.filter_cons_of_neg e]
      exact ⟨cs, g1, g2.trans (List.sublist_append_right _ _)⟩
  | [], _ :: _, _, h => h.elim
  | _ :: _, [], _, h => h.elim

/-- slices.Clone of bindings. -/
theorem c_slClone {xs : List Bi} (hs : xs.length ≤ 4294967296) {w : World} {v : Value} {bs : List Nat} (hk : Bds w v xs bs) :
    Ret Try.prog 88 [v] w fun r w' => Ext w w' ∧ ∃ vs O cs, Grow w' 72 4 r xs.length (flB xs vs) O ∧ (∀ b ∈ O, w.heap.size ≤ b) ∧ BdL w' vs xs cs ∧ ∀ b ∈ cs, b < w.heap.size := by
  have hlt := hk.lt
  obtain ⟨ao, cap, rfl, hm, h⟩ := hk
  refine ret_of_vc ttOkB Try.func88 rfl (by kernel_rfl) (by kernel_rfl) ?_
  refine Go1.eqn Try.underlying28 ?_
  cases ao with
  | none =>
    rcases h with ⟨rfl, rfl⟩ | ⟨a, _, _, ha, _⟩
    · exact ⟨Chg.refl _ _, [], [], [], Grow.nil, by simp, rfl, by simp⟩
    · cases ha
  | some a =>
    have hL : ∃ vs cs, vs.length = xs.length ∧ Lc w a (flB xs vs) ∧ BdL w vs xs cs ∧ ∀ b ∈ cs, b ∈ bs := by
      rcases h with ⟨rfl, rfl⟩ | ⟨a', bs', _, ha, rfl, hbl⟩
      · exact ⟨[], [], rfl, fun i v hv => by simp [flB] at hv, rfl, by simp⟩
      · cases ha
        obtain ⟨vs, h1, h2, h3⟩ := hbl.fl
        exact ⟨vs, bs', h1, h2, h3, fun b hb => List.mem_cons_of_mem _ hb⟩
    obtain ⟨vs, cs, hvl, hLc, hBL, hsub⟩ := hL
    refine Go1.b0 72 (size := 4) (bytes := 64) Try.underlying28 tiBd ?_
    intro w1 u1 hx1 hg1 hu
    subst hu
    refine Go1.app (size := 4) (bytes := 64) Try.underlying28 tiBd (by rfl) (by decide) hg1 (m := xs.length) (news := flB xs vs) (hLc.chg hx1 (.inr id)) (length_flB hvl) (flB_one hBL.one) (by omega) (by decide) ?_
    intro r w2 O hc2 hg2 hO
    have hx2 : Ext w w2 := hx1.chg hc2 (by simp)
    have sz1 := hx1.size
    refine ⟨hx2, vs, O, cs, by simpa using hg2, fun b hb => ?_, hBL.chg hx2 fun _ _ => id, fun b hb => hlt b (hsub b hb)⟩
    rcases hO b hb with h | h
    · simp at h; omega
    · omega

/-- impl.copyBindings -/
theorem c_copyBindings {xs : List Bi} (hs : cntB xs ≤ 4294967296) {w : World} {v : Value} {bs : List Nat} (hk : Bds w v xs bs) :
    Ret Try.prog 67 [v] w fun r w' => Ext w w' ∧ ∃ O cs, GrowB w.heap.size w' r xs O cs := by
  have hM : maxLen = 9223372036854775807 := rfl
  have hxl := cntB_length xs
  obtain ⟨a0, c0, rfl, _, _⟩ := hk.form
  refine ret_of_vc ttOkB Try.func67 rfl (by kernel_rfl) (by kernel_rfl) ?_
  refine (c_slClone (by omega) hk).mono ?_
  rintro r w1 ⟨hx1, vs, O, c1, hg1, hO, hB1, hc1⟩
  have sz1 := hx1.size
  have hvl := hB1.length
  have hform : ∃ ao cap, r = .slice ao xs.length cap := by
    rcases hg1.2 with ⟨rfl, h, _⟩ | ⟨g, cap, rest, rfl, _⟩
    · exact ⟨none, 0, by rw [h]⟩
    · exact ⟨_, cap, rfl⟩
  obtain ⟨ao, cap, rfl⟩ := hform
  have hOlt := hg1.lt
  refine Lp.go ttOkB (by kernel_rfl) (fun k : Nat => [(3, .slice ao xs.length cap), (8, .int .i64 xs.length), (9, .int .i64 k)])
    (fun k w' => Chg (· ∈ O) w1 w' ∧ k ≤ xs.length ∧ ∃ us cs, us.length = k ∧ Grow w' 72 4 (.slice ao xs.length cap) xs.length (flB (xs.take k) us ++ flB (xs.drop k) (vs.drop k)) O ∧ BdL w' us (xs.take k) cs ∧ Fresh w1.heap.size w' cs) (fun k => xs.length - k) 0
    ⟨rfl, rfl, rfl, trivial⟩ ⟨Chg.refl _ _, Nat.zero_le _, [], [], rfl, by simpa [flB] using hg1, rfl, Fresh.nil _ _⟩ ?_
  rintro k w2 ⟨hc2, hk2, us, cs, hul, hg2, hB2, hf2⟩
  have sz2 := hc2.size
  have hx2 : Ext w w2 := hx1.chg hc2 fun b hb => by have := hO b hb; omega
  refine Cm.s (fun hlt => ?_) (fun hge => ?_)
  · have hlt : k < xs.length := by omega
    obtain ⟨x, hx⟩ : ∃ x, xs[k]? = some x := ⟨xs[k], List.getElem?_eq_getElem hlt⟩
    obtain ⟨v, b1, hv, hkv, hb1⟩ := hB1.get hx
    have hcx := cntB_take_le hx
    rw [drop_get' hx, drop_get' hv] at hg2
    obtain ⟨hlen, ⟨h, _⟩ | ⟨g, cap', rest, e1, rfl, hblk, hc1', hc2', hc3'⟩⟩ := hg2
    · simp only [Value.slice.injEq] at h; omega
    cases e1
    have hP : (flB (xs.take k) us).length = k * 4 := by rw [length_flB hB2.length]; simp; omega
    generalize hPe : flB (xs.take k) us = P at *
    generalize hQe : flB (xs.drop (k + 1)) (vs.drop (k + 1)) = Q
    have hfl : flB (x :: xs.drop (k + 1)) (v :: vs.drop (k + 1)) = encB x ++ [v] ++ Q := by rw [← hQe]; rfl
    rw [hfl] at hblk hlen hc3'
    have hblk2 : Blk w2 g 72 ((P ++ [.string x.1]) ++ [.int .i64 x.2.lab.1, .string x.2.lab.2, v] ++ (Q ++ rest)) := by simpa [encB] using hblk
    have hea : ((⟨g, 0, none⟩ : Addr).add (k * 4)).add 1 = ⟨g, (P ++ [Value.string x.1]).length, none⟩ := by
      rw [Addr.add_lit, Addr.add_lit, List.length_append, hP]; simp
    obtain ⟨ax, cx, rfl, _, _⟩ := hkv.form
    have hkv2 : Kids encT w2 (.slice ax x.2.kids.length cx) x.2.kids b1 := hkv.chg hc2 fun b hb h => by have := hc1 b (hb1 b hb); have := hO b h; omega
    refine Go1.ix 4 hlt (Go1.fl 1 ?_)
    rw [hea]
    refine Ld.agg (vs := [.int .i64 x.2.lab.1, .string x.2.lab.2, .slice ax x.2.kids.length cx]) hblk2.lc ?_
    refine (c_copyType (l := x.2.lab) (ks := x.2.kids) (by omega) hkv2).mono ?_
    rintro _ w3 ⟨hx3, v3, c3, rfl, hk3, hf3⟩
    obtain ⟨ay, cy, rfl, _, _⟩ := hk3.form
    have sz3 := hx3.size
    refine Go1.ix 4 hlt (Go1.fl 1 ?_)
    refine Go0.st (off := (P ++ [Value.string x.1]).length) (vs := [.int .i64 x.2.lab.1, .string x.2.lab.2, .slice ay x.2.kids.length cy]) (hblk2.ext hx3) hea rfl (by simp; omega) (by simp [Value.oneCell']) ?_
    intro w4 hc4 hb4 hs4
    rw [spl_mid (P ++ [Value.string x.1]) [.int .i64 x.2.lab.1, .string x.2.lab.2, .slice ax x.2.kids.length cx] (Q ++ rest) [.int .i64 x.2.lab.1, .string x.2.lab.2, .slice ay x.2.kids.length cy] rfl rfl] at hb4
    have hgO : g ∈ [g] := by simp
    have hgw1 : g < w1.heap.size := hOlt g hgO
    refine Wr.n (k + 1) (by simp) (by omega) ?_
    have hB4 := BdL.snoc (x := x) (hk3.chg hc4 fun b hb h => by have := hf3.lo b hb; omega) ((hB2.chg hx3 fun _ _ => id).chg hc4 fun b hb h => by have := hf2.lo b hb; omega)
    refine ⟨k + 1, ⟨rfl, rfl, rfl, trivial⟩, ⟨(hc2.ext hx3).sub hc4 fun b hb => by subst hb; exact hgO, hlt, us ++ [.slice ay x.2.kids.length cy], cs ++ c3, by simp [hul], ?_, ?_, ?_⟩, by omega⟩
    · rw [take_succ_get hx, flB_snoc hB2.length, hPe, hQe]
      refine ⟨by simpa [encB] using hlen, .inr ⟨g, cap, rest, rfl, rfl, by simpa [encB] using hb4, hc1', hc2', by simpa [encB] using hc3'⟩⟩
    · rw [take_succ_get hx]; exact hB4
    · refine ⟨List.nodup_append.2 ⟨hf2.nodup, hf3.nodup, fun a ha b hb e => ?_⟩, fun b hb => ?_, fun b hb => ?_⟩
      · have := hf2.lt a ha
        have := hf3.lo b hb
        omega
      · rcases List.mem_append.1 hb with hb | hb
        · exact hf2.lo b hb
        · have := hf3.lo b hb
          omega
      · rcases List.mem_append.1 hb with hb | hb
        · obtain ⟨c, e, h⟩ := hf2.blk b hb
          exact ⟨c, e, (h.ext hx3).chg hc4 fun h => by have := hf2.lo b hb; omega⟩
        · obtain ⟨c, e, h⟩ := hf3.blk b hb
          exact ⟨c, e, h.chg hc4 fun h => by have := hf3.lo b hb; omega⟩
  · have : k = xs.length := by omega
    subst this
    rw [List.take_length, List.drop_length, ← hvl, List.drop_length, hvl] at hg2
    rw [List.take_length] at hB2
    have hg2 : Grow w2 72 4 (.slice ao xs.length cap) xs.length (flB xs us) O := by simpa [flB] using hg2
    have hfO := hg2.fresh hO
    refine ⟨hx2, O, cs, us, hg2, hB2, ⟨List.nodup_append.2 ⟨hfO.nodup, hf2.nodup, fun a ha b hb e => ?_⟩, fun b hb => ?_, fun b hb => ?_⟩⟩
    · have := hOlt a ha
      have := hf2.lo b hb
      omega
    · rcases List.mem_append.1 hb with hb | hb
      · exact hO b hb
      · have := hf2.lo b hb
        omega
    · rcases List.mem_append.1 hb with hb | hb
      · exact hfO.blk b hb
      · exact hf2.blk b hb
end Go.Proofs.Ytkpdkemkfgcamaa
