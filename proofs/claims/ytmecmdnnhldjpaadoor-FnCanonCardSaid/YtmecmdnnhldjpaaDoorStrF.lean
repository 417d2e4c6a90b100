/- Contracts: slices.Grow, slices.Concat at strings; Union. Conditions: none. -/
import Derived.Test.YtmecmdnnhldjpaaDoorStrE
import Derived.Test.YtmecmdnnhldjpaaDoorStrD
import Derived.Test.YtmecmdnnhldjpaaDoorJGrow
import Derived.Test.YtmecmdnnhldjpaaDoorTyG
import Derived.Lib.AppendZerosOnto
namespace Go.Proofs.YtmecmdnnhldjpaaDoor
open Go.RowKit

/-- append of k zero values to the nil slice. -/
theorem Go1.az {P : Program} {w : World} {t tn ty e : TypeId} {z : Value} {size bytes : Nat} {K : Value → World → Prop} (ht : P.underlying t = some (.slice e)) (htn : P.underlying tn = some (.int .i64)) (hi : TyI P e z size bytes) (hzs : z.cells.size = size) (hsz : 0 < size) {k : Nat} (h0 : 0 < k) (hk : k ≤ 1099511627776) (hby : bytes ≤ 128)
    (c : ∀ w' cap, Ext w w' → Grow w' e size (.slice (some ⟨w.heap.size, 0, none⟩) 0 cap) 0 [] [w.heap.size] → k ≤ cap → K (.slice (some ⟨w.heap.size, 0, none⟩) k cap) w') : Go1 P (Builtin.append_ #[t, tn] ty #[.slice none 0 0, .int .i64 (k : Int)]) w K := by
  obtain ⟨i, i1, i2, i3, i4⟩ := hi.h
  have hM : maxLen = 9223372036854775807 := rfl
  have hb1 : k * i.bytes ≤ 140737488355328 := by
    rw [i4]
    calc k * bytes ≤ 1099511627776 * 128 := Nat.mul_le_mul hk hby
      _ ≤ 140737488355328 := by decide
  have h := Lib.run_append_grow_zeros w t tn ty e i z .i64 .i64 ht htn i1 i2 none 0 0 [] (run_firstCells_none (P := P) (w := w.drew) i.size 0 0 0) k h0 (by omega) (by omega) (by omega) (by omega)
    (growslice_fits (by omega) (by rw [Nat.zero_add]; exact hb1))
  rw [Nat.zero_add] at h
  have hg := grownCap_ge w k 0 e
  have hm := grownCap_le_maxLen w k 0 e (by omega)
  refine Go1.go h (c _ _ (Ext.trans (chg_drawn w _) (chg_alloc _ _)) ⟨by simp, .inr ⟨w.heap.size, _, _, rfl, rfl, by rw [List.nil_append]; exact alloc_blk w.drew e _, Nat.zero_le _, hm, ?_⟩⟩ hg)
  simp only [List.nil_append, Array.length_toList, Array.size_append, size_zeroCells, hzs]
  rw [show (#[] : Array Value).size = 0 from rfl, Nat.zero_add, ← Nat.add_mul]
  congr 1
  omega

theorem run_app_none {P : Program} {w : World} {t ty e : TypeId} {i : TypeInfo} (ht : P.underlying t = some (.slice e)) (hi : P.info? e = some i) {v : Value} {n size c : Nat} {xs : List Value} {O : List Nat} (hg : Grow w e size v n xs O) :
    (Builtin.append_ #[t, t] ty #[v, .slice none 0 c]).run P w = .ok v w := by
  rcases hg.2 with ⟨rfl, rfl, rfl⟩ | ⟨g, cap, rest, rfl, rfl, _, hnc, _⟩
  · simp [Builtin.append_, run_underlying ht, sizeOf, typeInfo, hi, Builtin.lenOf, Builtin.firstCells]
  · simp [Builtin.append_, run_underlying ht, sizeOf, typeInfo, hi, Builtin.lenOf, Builtin.firstCells, hnc, storeCells]

/-- append of a slice of one-cell elements. -/
theorem Go1.apr {P : Program} {w : World} {t ty e : TypeId} {z : Value} {bytes : Nat} {K : Value → World → Prop} (ht : P.underlying t = some (.slice e)) (hi : TyI P e z 1 bytes) (hzs : z.cells.size = 1)
    {v u : Value} {n : Nat} {xs ys : List Value} {O bs : List Nat} (hg : Grow w e 1 v n xs O) (hr : Row w u ys bs) (h1 : ∀ u ∈ ys, u.oneCell' = true) (hm : n + ys.length ≤ 1099511627776) (hby : bytes ≤ 128)
    (k : ∀ v' w' O', Chg (· ∈ O) w w' → Grow w' e 1 v' (n + ys.length) (xs ++ ys) O' → (∀ b ∈ O', b ∈ O ∨ w.heap.size ≤ b) → K v' w') : Go1 P (Builtin.append_ #[t, t] ty #[v, u]) w K := by
  obtain ⟨ao, cap, rfl, _, h⟩ := hr
  cases ao with
  | some a =>
    refine Go1.app (size := 1) (m := ys.length) (news := ys) ht hi hzs (by decide) hg (fun i x hx => ?_) (by simp) h1 hm hby k
    rcases h with ⟨rfl, _⟩ | ⟨a', _, ha, _, hc⟩
    · simp at hx
    · obtain rfl : a = a' := by simpa using ha
      exact hc i x hx
  | none =>
    rcases h with ⟨rfl, _⟩ | ⟨a', _, ha, _, _⟩
    · obtain ⟨i, i1, _⟩ := hi.h
      refine Go1.go (run_app_none ht i1 hg) (k _ _ O (Chg.refl _ _) ?_ fun b hb => .inl hb)
      rw [List.append_nil]
      exact hg
    · cases ha

theorem Go1.cap {P : Program} {w : World} {t ty e : TypeId} {ao : Option Addr} {n c : Nat} {K : Value → World → Prop} (ht : P.underlying t = some (.slice e)) (k : K (.int .i64 c) w) : Go1 P (Builtin.cap_ #[t] ty #[.slice ao n c]) w K :=
  Go1.go (by simp [Builtin.cap_, run_underlying ht, goInt]) k

/-- What is put together of strings, each once. -/
def uni (out xs : List ByteArray) : List ByteArray := xs.foldl (fun o x => if has o x then o else o ++ [x]) out
theorem uni_append (out xs ys : List ByteArray) : uni out (xs ++ ys) = uni (uni out xs) ys := List.foldl_append ..
theorem uni_take {out xs : List ByteArray} {k : Nat} {x : ByteArray} (h : xs[k]? = some x) : uni out (xs.take (k + 1)) = if has (uni out (xs.take k)) x then uni out (xs.take k) else uni out (xs.take k) ++ [x] := by
  rw [take_succ_get h, uni_append]
  rfl
theorem uni_length (xs : List ByteArray) : ∀ out, (uni out xs).length ≤ out.length + xs.length := by
  induction xs with
  | nil => intro out; simp [uni]
  | cons x xs ih =>
    intro out
    have : uni out (x :: xs) = uni (if has out x then out else out ++ [x]) xs := rfl
    rw [this]
    have := ih (if has out x then out else out ++ [x])
    split at this
    · rename_i h; rw [if_pos h]; simp; omega
    · rename_i h; rw [if_neg h]; simp at this ⊢; omega

end Go.Proofs.YtmecmdnnhldjpaaDoor
