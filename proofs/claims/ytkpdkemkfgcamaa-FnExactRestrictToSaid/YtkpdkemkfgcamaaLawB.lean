/- Bindings among a law's arguments, opened. Conditions: none. -/
import Derived.Test.YtkpdkemkfgcamaaLawU
import Derived.Test.YtkpdkemkfgcamaaBdA
namespace Go.Proofs.Ytkpdkemkfgcamaa
open Go.ChangeShapes Go.WideShapes Go.ChangeAt Go.RowKit

def OBds (w : World) (v : Value) : Prop := ∃ (xs : List Bi) (bs : List Nat), Bds w v xs bs ∧ AlB xs

theorem BL.of_each {w : World} : ∀ {xs : List Bi} {a : Addr}, (∀ i x, xs[i]? = some x → ∃ bs, Bn w x (a.add (i * 4)) bs) → ∃ bs, BL w xs a bs
  | [], _, _ => ⟨[], rfl⟩
  | x :: xs, a, h => by
    obtain ⟨b1, h1⟩ := h 0 x rfl
    obtain ⟨b2, h2⟩ := BL.of_each (xs := xs) (a := a.add 4) fun i y hy => by
      obtain ⟨bs, hb⟩ := h (i + 1) y (by simpa using hy)
      refine ⟨bs, ?_⟩
      rw [Go.Deep.add_add, show 4 + i * 4 = (i + 1) * 4 by omega]
      exact hb
    exact ⟨b1 ++ b2, b1, b2, rfl, by simpa [Addr.add] using h1, h2⟩

section
variable {H : Type} {enc : TypeId × Value → H} {W : World} {sp : Nat → Bool} {held : Bool}

set_option maxRecDepth 100000 in
theorem bd_el (n : Nat) (cs : List Value) (x : DataW H × List MemPlace) (h : DataW.trod enc Try.prog W 0 sp held n 70 cs = some x) :
    ∃ (b : Bi) (v : Value) (bs : List Nat), cs = encB b ++ [v] ∧ Kids encT W v b.2.kids bs ∧ b.1.size ≤ maxLen ∧ b.2.lab.2.size ≤ maxLen ∧ Rose.AlL (fun s => s.2.size ≤ maxLen) b.2.kids := by
  obtain ⟨xs, m, rfl, _, hl, hlen, hf⟩ := DataW.trod_struct Try.underlying70 h
  have h2 : Try.prog.cellsOf 70 = 4 := by kernel_rfl
  rw [h2] at hl
  match cs, hl with
  | [c0, c1, c2, c3], _ =>
    match xs, hlen with
    | [y0, y1], _ =>
      have f0 := hf 0 _ rfl
      have f1 := hf 1 _ rfl
      have g0 : DataW.trod enc Try.prog W 0 sp held m 9 (([c0, c1, c2, c3].drop 0).take (Try.prog.cellsOf 9)) = some y0 := f0
      have g1 : DataW.trod enc Try.prog W 0 sp held m 37 (([c0, c1, c2, c3].drop 1).take (Try.prog.cellsOf 37)) = some y1 := f1
      rw [show Try.prog.cellsOf 9 = 1 by kernel_rfl] at g0
      rw [show Try.prog.cellsOf 37 = 3 by kernel_rfl] at g1
      obtain ⟨s, hs, _, hz⟩ := DataW.trod_string Try.underlying9 g0
      obtain rfl : c0 = .string s := by simpa using hs
      obtain ⟨l, v, y, m', _, hcs, hl, hv⟩ := ty_el m _ _ g1
      obtain ⟨v2, ks, bs, hvv, hk, ha⟩ := open_kids encT_sz (fun s => s.2.size ≤ maxLen) Try.underlying23 (by kernel_rfl) ty_el m' m' _ _ (Nat.le_refl _) hv
      obtain rfl : v = v2 := by simpa using hvv
      have hcs' : [c1, c2, c3] = encT l ++ [v] := hcs
      refine ⟨(s, .mk l ks), v, bs, ?_, hk, hz, hl, ha⟩
      show [Value.string s, c1, c2, c3] = _
      simp only [encT, List.cons_append, List.nil_append, List.cons.injEq, and_true] at hcs'
      obtain ⟨rfl, rfl, rfl⟩ := hcs'
      rfl

set_option maxRecDepth 100000 in
theorem oBds {r : Reach} {b0 : Nat} {v : Value} {d : DataW H} {p : List MemPlace} (hval : Value.okWide Try.prog W r b0 22 v) (h : DataW.Trod enc Try.prog W 0 sp held 22 v d p) : OBds W v := by
  obtain ⟨a0, len, cap, rfl⟩ := okWide_slice Try.underlying22 hval
  obtain ⟨fuel, hf⟩ := h
  rcases DataW.trod_slice Try.underlying22 hf with ⟨hcs, _⟩ | ⟨a, len', cap', elems, rest, n, rfl, hcs, _, _, hl, hm, hlen, hE, _⟩
  · have hcs' : [Value.slice a0 len cap] = [Value.slice none 0 0] := hcs
    simp only [List.cons.injEq, Value.slice.injEq, and_true] at hcs'
    obtain ⟨rfl, rfl, rfl⟩ := hcs'
    exact ⟨[], [], Bds.nil, by simp [AlB]⟩
  · have hcs' : [Value.slice a0 len cap] = [Value.slice (some a) len' cap'] := hcs
    simp only [List.cons.injEq, Value.slice.injEq, and_true] at hcs'
    obtain ⟨rfl, rfl, rfl⟩ := hcs'
    have hc : Try.prog.cellsOf 70 = 4 := by kernel_rfl
    obtain ⟨xs, hxs, hp⟩ := list_of_all (p := fun i (x : Bi) => (∃ bs, Bn W x (a.add (i * 4)) bs) ∧ x.1.size ≤ maxLen ∧ x.2.lab.2.size ≤ maxLen ∧ Rose.AlL (fun s => s.2.size ≤ maxLen) x.2.kids) len fun i hi => by
      have h1 := hE i hi
      have h1 : (W.cells? 0 (a.add (i * Try.prog.cellsOf 70)) (Try.prog.cellsOf 70)).bind (DataW.trod enc Try.prog W 0 sp held n 70) = elems[i]? := h1
      rw [hc, List.getElem?_eq_getElem (by omega), Option.bind_eq_some_iff] at h1
      obtain ⟨cs', hcs, hy⟩ := h1
      obtain ⟨hcl, hLc⟩ := lc_of_cells hcs
      obtain ⟨b, v, bs, rfl, hk, h3, h4, h5⟩ := bd_el n cs' _ hy
      exact ⟨b, ⟨bs, v, hLc, hk⟩, h3, h4, h5⟩
    by_cases h0 : xs = []
    · subst h0
      have : len = 0 := by simpa using hxs.symm
      subst this
      exact ⟨[], [], Bds.nil, by simp [AlB]⟩
    · obtain ⟨bs, hbl⟩ := BL.of_each (w := W) (xs := xs) (a := a) fun i x hx => (hp i x hx).1
      refine ⟨xs, a.block :: bs, ⟨some a, cap, by rw [hxs], ⟨by omega, by omega⟩, .inr ⟨a, bs, h0, rfl, rfl, hbl⟩⟩, fun x hx => ?_⟩
      obtain ⟨i, hi⟩ := List.getElem?_of_mem hx
      exact (hp i x hi).2
end
end Go.Proofs.Ytkpdkemkfgcamaa
