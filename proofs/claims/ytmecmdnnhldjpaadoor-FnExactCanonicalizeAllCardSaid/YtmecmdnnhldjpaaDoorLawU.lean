/- Types among a law's arguments, opened. Conditions: none. -/
import Derived.Test.YtmecmdnnhldjpaaDoorLawT
import Derived.Test.YtmecmdnnhldjpaaDoorTyA
namespace Go.Proofs.YtmecmdnnhldjpaaDoor
open Go.ChangeShapes Go.WideShapes Go.ChangeAt Go.RowKit

def OTy (w : World) (v : Value) : Prop := ∃ (l : TLab) (ks : List Tp) (v' : Value) (bs : List Nat), v = .agg #[.int .i64 l.1, .string l.2, v'] ∧ Kids encT w v' ks bs ∧ l.2.size ≤ maxLen ∧ Rose.AlL (fun s => s.2.size ≤ maxLen) ks

section
variable {H : Type} {enc : TypeId × Value → H} {W : World} {sp : Nat → Bool} {held : Bool}

set_option maxRecDepth 100000 in
theorem ty_el (n : Nat) (cs : List Value) (x : DataW H × List MemPlace) (h : DataW.trod enc Tryd.prog W 0 sp held n 34 cs = some x) :
    ∃ l v y m, m < n ∧ cs = encT l ++ [v] ∧ ByteArray.size l.2 ≤ maxLen ∧ DataW.trod enc Tryd.prog W 0 sp held m 22 [v] = some y := by
  obtain ⟨xs, m, rfl, _, hl, hlen, hf⟩ := DataW.trod_struct Tryd.underlying34 h
  have h2 : Tryd.prog.cellsOf 34 = 3 := by kernel_rfl
  rw [h2] at hl
  match cs, hl with
  | [c0, c1, c2], _ =>
    match xs, hlen with
    | [y0, y1, y2], _ =>
      have f0 := hf 0 _ rfl
      have f1 := hf 1 _ rfl
      have f2 := hf 2 _ rfl
      have g0 : DataW.trod enc Tryd.prog W 0 sp held m 3 (([c0, c1, c2].drop 0).take (Tryd.prog.cellsOf 3)) = some y0 := f0
      have g1 : DataW.trod enc Tryd.prog W 0 sp held m 9 (([c0, c1, c2].drop 1).take (Tryd.prog.cellsOf 9)) = some y1 := f1
      have g2 : DataW.trod enc Tryd.prog W 0 sp held m 22 (([c0, c1, c2].drop 2).take (Tryd.prog.cellsOf 22)) = some y2 := f2
      rw [show Tryd.prog.cellsOf 3 = 1 by kernel_rfl] at g0
      rw [show Tryd.prog.cellsOf 9 = 1 by kernel_rfl] at g1
      rw [show Tryd.prog.cellsOf 22 = 1 by kernel_rfl] at g2
      obtain ⟨k, hk, _, _⟩ := DataW.trod_int Tryd.underlying3 g0
      obtain ⟨s, hs, _, hz⟩ := DataW.trod_string Tryd.underlying9 g1
      obtain rfl : c0 = .int .i64 k := by simpa using hk
      obtain rfl : c1 = .string s := by simpa using hs
      exact ⟨(k, s), c2, y2, m, by omega, rfl, hz, g2⟩

set_option maxRecDepth 100000 in
theorem oTy {r : Reach} {b0 : Nat} {v : Value} {d : DataW H} {p : List MemPlace} (hval : Value.okWide Tryd.prog W r b0 34 v) (h : DataW.Trod enc Tryd.prog W 0 sp held 34 v d p) : OTy W v := by
  obtain ⟨cs, rfl, hsz⟩ := okWide_struct Tryd.underlying34 hval
  obtain ⟨fuel, hf⟩ := h
  obtain ⟨l, v', y, m, _, hcs, hl, hv⟩ := ty_el fuel _ _ hf
  obtain ⟨v2, ks, bs, hvv, hk, ha⟩ := open_kids encT_sz (fun s => s.2.size ≤ maxLen) Tryd.underlying22 (by kernel_rfl) ty_el m m _ _ (Nat.le_refl _) hv
  obtain rfl : v' = v2 := by simpa using hvv
  refine ⟨l, ks, v', bs, ?_, hk, hl, ha⟩
  have : cs.toList = [.int .i64 l.1, .string l.2, v'] := hcs
  rw [← Array.toArray_toList (xs := cs), this]

def OTys (w : World) (v : Value) : Prop := ∃ (ks : List Tp) (bs : List Nat), Kids encT w v ks bs ∧ Rose.AlL (fun s => s.2.size ≤ maxLen) ks
set_option maxRecDepth 100000 in
theorem oTys {r : Reach} {b0 : Nat} {v : Value} {d : DataW H} {p : List MemPlace} (hval : Value.okWide Tryd.prog W r b0 22 v) (h : DataW.Trod enc Tryd.prog W 0 sp held 22 v d p) : OTys W v := by
  obtain ⟨a0, len, cap, rfl⟩ := okWide_slice Tryd.underlying22 hval
  obtain ⟨fuel, hf⟩ := h
  obtain ⟨v2, ks, bs, hvv, hk, ha⟩ := open_kids encT_sz (fun s => s.2.size ≤ maxLen) Tryd.underlying22 (by kernel_rfl) ty_el fuel fuel _ _ (Nat.le_refl _) hf
  have hvv' : [Value.slice a0 len cap] = [v2] := hvv
  obtain rfl : Value.slice a0 len cap = v2 := by simpa using hvv'
  exact ⟨ks, bs, hk, ha⟩
end
end Go.Proofs.YtmecmdnnhldjpaaDoor
