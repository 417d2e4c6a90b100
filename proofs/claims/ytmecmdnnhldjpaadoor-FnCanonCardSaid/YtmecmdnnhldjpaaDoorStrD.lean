/- Contracts: sets of strings in a map, AllDistinct, Index, Contains, keywords, names. Conditions: none. -/
import Derived.Test.YtmecmdnnhldjpaaDoorJTy
namespace Go.Proofs.YtmecmdnnhldjpaaDoor
open Go.RowKit

theorem beq_ba (a b : ByteArray) : (a == b) = decide (a = b) := by
  cases a; cases b; rename_i x y
  show (x == y) = _
  by_cases h : x = y <;> simp [h]

/-- Block b is a map from strings to true, with the keys ss. -/
def SetM (w : World) (b : Nat) (ss : List ByteArray) : Prop := ∃ es clock, w.heap[b]? = some (.map es clock) ∧ es.toList.map (·.key) = ss.map Value.string ∧ ∀ e ∈ es.toList, e.val = .bool true

theorem SetM.chg {M : Nat → Prop} {w w' : World} (h : Chg M w w') {b : Nat} {ss : List ByteArray} (hn : ¬ M b) (hs : SetM w b ss) : SetM w' b ss := by
  obtain ⟨es, c, h1, h2⟩ := hs
  exact ⟨es, c, h.heap hn h1, h2⟩

theorem findNow_str (s : ByteArray) : ∀ (es : List MapEntry) (ss : List ByteArray) (i : Nat), es.map (·.key) = ss.map Value.string → (∀ e ∈ es, e.val = .bool true) →
    (s ∈ ss → ∃ j, Instr.findNow .string (.string s) es i = some (some (j, .bool true))) ∧ (s ∉ ss → Instr.findNow .string (.string s) es i = some none)
  | [], ss, i, h, _ => by
    have : ss = [] := by cases ss <;> simp_all
    subst this
    simp [Instr.findNow]
  | e :: es, ss, i, h, hv => by
    cases ss with
    | nil => simp at h
    | cons t ts =>
      simp only [List.map_cons, List.cons.injEq] at h
      have ih := findNow_str s es ts (i + 1) h.2 (fun x hx => hv x (List.mem_cons_of_mem _ hx))
      have he : e.val = .bool true := hv e List.mem_cons_self
      simp only [Instr.findNow, h.1, Instr.sameNow, beq_ba]
      by_cases e1 : s = t
      · subst e1
        simp [he]
      · simp only [e1, decide_false, List.mem_cons, false_or]
        exact ih

theorem run_checkKey_str' {P : Program} {t : TypeId} (ht : P.underlying t = some .string) (b : Bool) (s : ByteArray) (n : Nat) (w : World) : (Instr.checkKey b (n + 1) t (.string s)).run P w = .ok () w := by
  simp [Instr.checkKey, run_underlying ht]

theorem run_checkKey_str {P : Program} {t : TypeId} (ht : P.underlying t = some .string) (b : Bool) (s : ByteArray) (w : World) : (Instr.checkKey b 10000 t (.string s)).run P w = .ok () w := by
  exact run_checkKey_str' ht b s 9999 w

theorem run_getObj_map {P : Program} {w : World} {b : Nat} {es : Array MapEntry} {c : Nat} (h : w.heap[b]? = some (.map es c)) : (getObj b).run P w = .ok (.map es c) w := by
  simp [getObj, Sem.run, h]

/-- seen[s] -/
theorem Go1.lk {P : Program} {w : World} {t ts : TypeId} {b : Nat} {ss : List ByteArray} {s : ByteArray} {K : Value → World → Prop} {tb : TypeId} (ht : P.underlying t = some (.map ts tb)) (hs : P.underlying ts = some .string) {size bytes : Nat} (hz : TyI P tb (.bool false) size bytes)
    (h : SetM w b ss) (k : K (.bool (has ss s)) w) : Go1 P (Instr.lookup t (.map (some b)) (.string s) false) w K := by
  obtain ⟨es, c, h1, h2, h3⟩ := h
  obtain ⟨i, hi1, hi2, _⟩ := hz.h
  have hf := findNow_str s es.toList ss 0 h2 h3
  refine Go1.go ?_ k
  by_cases hm : s ∈ ss
  · obtain ⟨j, hj⟩ := hf.1 hm
    rw [has_t hm]
    simp [Instr.lookup, run_underlying ht, run_getObj_map h1, run_checkKey_str hs, Instr.findKey, run_underlying hs, hj]
  · have hj := hf.2 hm
    rw [has_f hm]
    simp [Instr.lookup, run_underlying ht, run_getObj_map h1, run_checkKey_str hs, Instr.findKey, run_underlying hs, hj, zeroValue, typeInfo, hi1, hi2]

/-- seen[s] = true, s a new key -/
theorem Go0.mu {P : Program} {w : World} {t ts tb : TypeId} {b : Nat} {ss : List ByteArray} {s : ByteArray} {K : World → Prop} (ht : P.underlying t = some (.map ts tb)) (hs : P.underlying ts = some .string)
    (h : SetM w b ss) (hn : s ∉ ss) (k : ∀ w', Chg (fun k => k = b) w w' → SetM w' b (ss ++ [s]) → w'.heap.size = w.heap.size → K w') : Go0 P (Instr.mapUpdate t (.map (some b)) (.string s) (.bool true)) w K := by
  obtain ⟨es, c, h1, h2, h3⟩ := h
  have hf := (findNow_str s es.toList ss 0 h2 h3).2 hn
  have hlt : b < w.heap.size := (Array.getElem?_eq_some_iff.1 h1).1
  refine Go0.go (w' := { w with heap := w.heap.setIfInBounds b (.map (es.push { key := .string s, val := .bool true, born := c }) (c + 1)) }) ?_ (k _ ⟨rfl, rfl, rfl, by simp, fun x _ hx => ?_⟩ ⟨es.push { key := .string s, val := .bool true, born := c }, c + 1, by simp [hlt], ?_, ?_⟩ (by simp))
  · have h1' : w.heap[b] = .map es c := (Array.getElem?_eq_some_iff.1 h1).2
    simp [Instr.mapUpdate, run_underlying ht, run_getObj_map h1, run_checkKey_str hs, Instr.findKey, run_underlying hs, hf, setObj, Sem.run, h1]
  · simp [Ne.symm hx]
  · simp [h2]
  · intro e he
    simp at he
    rcases he with he | rfl
    · exact h3 e (by simpa using he)
    · rfl

/-- A new map. -/
theorem Go1.mm {P : Program} {w : World} {t : TypeId} {K : Value → World → Prop} (k : ∀ w', Ext w w' → SetM w' w.heap.size [] → w'.heap.size = w.heap.size + 1 → K (.map (some w.heap.size)) w') : Go1 P (Instr.makeMap t none) w K :=
  Go1.go (w' := { w with heap := w.heap.push (.map #[] 0) }) (by simp [Instr.makeMap]) (k _ (chg_push w _) ⟨#[], 0, by simp, by simp, by simp⟩ (by simp))

theorem nodup_take_succ {ss : List ByteArray} {k : Nat} (h : k < ss.length) : (ss.take (k + 1)).Nodup ↔ (ss.take k).Nodup ∧ ss[k] ∉ ss.take k := by
  rw [List.take_succ_eq_append_getElem h, List.nodup_append]
  constructor
  · rintro ⟨h1, _, h3⟩
    exact ⟨h1, fun hm => h3 _ hm _ (by simp) rfl⟩
  · rintro ⟨h1, h2⟩
    refine ⟨h1, by simp, ?_⟩
    intro a ha b hb e
    simp at hb
    subst hb
    exact h2 (e ▸ ha)

theorem nodup_of_take {ss : List ByteArray} {k : Nat} (h : ¬ (ss.take k).Nodup) : ¬ ss.Nodup := fun e => h (e.sublist (List.take_sublist k ss))

theorem Strs.cut {w : World} {ao : Option Addr} {n cap : Nat} {ss : List ByteArray} {bs : List Nat} (h : Strs w (.slice ao n cap) ss bs) {k : Nat} (hk : k ≤ ss.length) (cap' : Nat) (hc' : k ≤ cap') : ∃ bs', Strs w (.slice ao k cap') (ss.take k) bs' := by
  obtain ⟨ao', cap'', h1, hm, h2⟩ := h
  simp only [Value.slice.injEq] at h1
  obtain ⟨rfl, _, rfl⟩ := h1
  simp only [List.length_map] at hm
  by_cases h0 : ss.take k = []
  · have hk0 : (List.map Value.string (ss.take k)).length = k := by simp [hk]
    exact ⟨[], ao, cap', by rw [hk0], by simp; omega, .inl ⟨by rw [h0]; rfl, rfl⟩⟩
  · rcases h2 with ⟨h3, _⟩ | ⟨a, h3, h4, h5, h6⟩
    · simp at h3
      subst h3
      simp at h0
    · refine ⟨[a.block], ao, cap', by simp [hk], by simp; omega, .inr ⟨a, by simpa using h0, h4, rfl, fun i v hv => ?_⟩⟩
      rw [List.map_take] at hv
      rw [List.getElem?_take] at hv
      split at hv
      · exact h6 i v hv
      · cases hv

theorem run_sliceTo {P : Program} {t e : TypeId} (ht : P.underlying t = some (.slice e)) {z : Value} {size bytes : Nat} (hi : TyI P e z size bytes) {ao : Option Addr} {n cap k : Nat} (hk : k ≤ cap) {kd : IntKind} (w : World) :
    (Instr.sliceAt t (.slice ao n cap) none (some (.int kd (k : Int))) none).run P w = .ok (.slice ao k cap) w := by
  obtain ⟨i, h1, _⟩ := hi.h
  have : (0 : Int) ≤ (k : Int) ∧ (k : Int) ≤ (cap : Int) := by omega
  simp [Instr.sliceAt, Instr.slice, run_underlying ht, Instr.sliceBounds, Instr.sliceBound, asIntOf, sizeOf, typeInfo, h1, hk]
  intro _
  cases ao with
  | none => rfl
  | some a => simp [Addr.add]



end Go.Proofs.YtmecmdnnhldjpaaDoor
