/- Contracts: slices.Grow, slices.Concat at strings; Union. Conditions: none. -/
import Derived.Test.YtapfcmlkcekfmaaStrE
import Derived.Test.YtapfcmlkcekfmaaStrD
import Derived.Test.YtapfcmlkcekfmaaGrow
import Derived.Test.YtapfcmlkcekfmaaTyG
import Derived.Lib.AppendZerosOnto
namespace Go.Proofs.Ytapfcmlkcekfmaa
open Go.RowKit

/-- append of k zero values to the nil slice. -/
theorem Go1.az {P : Program} {w : World} {t tn ty e : TypeId} {z : Value} {size bytes : Nat} {K : Value → World → Prop} (ht : P.underlying t = some (.slice e)) (htn : P.underlying tn = some (.int .i64)) (hi : TyI P e z size bytes) (hzs : z.cells.size = size) (hsz : 0 < size) {k : Nat} (h0 : 0 < k) (hk : k ≤ 1099511627776) (hby : bytes ≤ 128)
    (c : ∀ w' cap, Ext w w' → Grow w' e size (.slice (some ⟨w.heap.size, 0, none⟩) 0 cap) 0 [] [w.heap.size] → k ≤ cap → K (.slice (some ⟨w.heap.size, 0, none⟩) k cap) w') : Go1 P (Builtin.append_ #[t, tn] ty #[.slice none 0 0, .int .i64 (k : Int)]) w K := by
  obtain ⟨i, i1, i2, i3, i4⟩ := hi.h
  have hM : maxLen = 9223372036854775807 := rfl
  have hb1 : k * i.bytes ≤ 140737488355328 := by
    rw [i4]
    calc k * bytes ≤ 1099511627776 * 128 := Nat.mul_le_mul hk hby
      _ ≤ 140737488355328 := by decide
  have h := Lib.run_append_grow_zeros w t tn ty e i z .i64 .i64 ht htn i1 i2 none 0 0 [] (run_firstCells_none (P := P) (w := w.drew) i.size 0 0 0) k h0 (by omega) (by omega) (by omega) (by omega)
    (growslice_fits (by omega) (by rw [Nat.zero_add]; exact hb1))
  rw [Nat.zero_add] at h
  have hg := grownCap_ge w k 0 e
  have hm := grownCap_le_maxLen w k 0 e (by omega)
  refine Go1.go h (c _ _ (Ext.trans (chg_drawn w _) (chg_alloc _ _)) ⟨by simp, .inr ⟨w.heap.size, _, _, rfl, rfl, by rw [List.nil_append]; exact alloc_blk w.drew e _, Nat.zero_le _, hm, ?_⟩⟩ hg)
  simp only [List.nil_append, Array.length_toList, Array.size_append, size_zeroCells, hzs]
  rw [show (#[] : Array Value).size = 0 from rfl, Nat.zero_add, ← Nat.add_mul]
  congr 1
  omega

theorem run_app_none {P : Program} {w : World} {t ty e : TypeId} {i : TypeInfo} (ht : P.underlying t = some (.slice e)) (hi : P.info? e = some i) {v : Value} {n size c : Nat} {xs : List Value} {O : List Nat} (hg : Grow w e size v n xs O) :
    (Builtin.append_ #[t, t] ty #[v, .slice none 0 c]).run P w = .ok v w := by
  rcases hg.2 with ⟨rfl, rfl, rfl⟩ | ⟨g, cap, rest, rfl, rfl, _, hnc, _⟩
  · simp [Builtin.append_, run_underlying ht, sizeOf, typeInfo, hi, Builtin.lenOf, Builtin.firstCells]
  · simp [Builtin.append_, run_underlying ht, sizeOf, typeInfo, hi, Builtin.lenOf, Builtin.firstCells, hnc, storeCells]

/-- append of a slice of one-cell elements. -/
theorem Go1.apr {P : Program} {w : World} {t ty e : TypeId} {z : Value} {bytes : Nat} {K : Value → World → Prop} (ht : P.underlying t = some (.slice e)) (hi : TyI P e z 1 bytes) (hzs : z.cells.size = 1)
    {v u : Value} {n : Nat} {xs ys : List Value} {O bs : List Nat} (hg : Grow w e 1 v n xs O) (hr : Row w u ys bs) (h1 : ∀ u ∈ ys, u.oneCell' = true) (hm : n + ys.length ≤ 1099511627776) (hby : bytes ≤ 128)
    (k : ∀ v' w' O', Chg (· ∈ O) w w' → Grow w' e 1 v' (n + ys.length) (xs ++ ys) O' → (∀ b ∈ O', b ∈ O ∨ w.heap.size ≤ b) → K v' w') : Go1 P (Builtin.append_ #[t, t] ty #[v, u]) w K := by
  obtain ⟨ao, cap, rfl, _, h⟩ := hr
  cases ao with
  | some a =>
    refine Go1.app (size := 1) (m := ys.length) (news := ys) ht hi hzs (by decide) hg (fun i x hx => ?_) (by simp) h1 hm hby k
    rcases h with ⟨rfl, _⟩ | ⟨a', _, ha, _, hc⟩
    · simp at hx
    · obtain rfl : a = a' := by simpa using ha
      exact hc i x hx
  | none =>
    rcases h with ⟨rfl, _⟩ | ⟨a', _, ha, _, _⟩
    · obtain ⟨i, i1, _⟩ := hi.h
      refine Go1.go (run_app_none ht i1 hg) (k _ _ O (Chg.refl _ _) ?_ fun b hb => .inl hb)
      rw [List.append_nil]
      exact hg
    · cases ha

theorem Go1.cap {P : Program} {w : World} {t ty e : TypeId} {ao : Option Addr} {n c : Nat} {K : Value → World → Prop} (ht : P.underlying t = some (.slice e)) (k : K (.int .i64 c) w) : Go1 P (Builtin.cap_ #[t] ty #[.slice ao n c]) w K :=
  Go1.go (by simp [Builtin.cap_, run_underlying ht, goInt]) k
def ttc : TT := [(9, .str), (4, .boo), (37, .slc 9), (76, .slc 37)]
theorem ttOkC : TOk Try.prog ttc := ttB_ok (by kernel_rfl)
/-- slices.Grow of a nil slice of strings -/
theorem c_slGrow {w : World} (n : Nat) (hn : n ≤ 1099511627776) : Ret Try.prog 55 [.slice none 0 0, .int .i64 n] w fun r w' => Ext w w' ∧ ∃ O, Grow w' 9 1 r 0 [] O ∧ ∀ b ∈ O, w.heap.size ≤ b := by
  refine ret_of_vc ttOkC Try.func55 rfl (by kernel_rfl) (by kernel_rfl) ?_
  refine Cm.f (by omega) ?_
  refine Go1.cap Try.underlying37 ?_
  refine Wr.n 0 (by omega) (by unfold maxLen; omega) ?_
  refine Wr.n n (by omega) (by unfold maxLen; omega) ?_
  refine Cm.s (fun h => ?_) (fun h => ?_)
  · refine Go1.cap Try.underlying37 ?_
    refine Go1.go (run_sliceTo (k := 0) Try.underlying37 tiStr (Nat.le_refl _) _) ?_
    refine Go1.az (size := 1) (bytes := 16) Try.underlying37 Try.underlying3 tiStr (by rfl) (by decide) (by omega) hn (by decide) ?_
    intro w1 cap hx hg hc
    refine Go1.go (run_sliceTo (k := 0) Try.underlying37 tiStr (Nat.zero_le _) _) ?_
    exact ⟨hx, _, hg, by simp⟩
  · exact ⟨Chg.refl _ _, [], Grow.nil, by simp⟩

/-- slices.Concat of two slices of strings -/
theorem c_slConcat {ps bs : List ByteArray} (ha : ps.length ≤ 4294967296) (hb : bs.length ≤ 4294967296) {w : World} {v u : Value} {ca cb : List Nat} (hk : Strs w v ps ca) (gk : Strs w u bs cb) {g : Nat} (hg : Blk w g 37 [v, u]) :
    Ret Try.prog 42 [.slice (some ⟨g, 0, none⟩) 2 2] w (NewStrs w (ps ++ bs)) := by
  obtain ⟨ao, cap, rfl, hm, hcap⟩ := hk.form
  obtain ⟨ao2, cap2, rfl, hm2, hcap2⟩ := gk.form
  have hM : maxLen = 9223372036854775807 := rfl
  refine ret_of_vc ttOkC Try.func42 rfl (by kernel_rfl) (by kernel_rfl) ?_
  refine Lp.go ttOkC (by kernel_rfl) (fun k : Nat => [(0, .slice (some ⟨g, 0, none⟩) 2 2), (3, .int .i64 (([ps, bs].take k).flatten.length : Nat)), (9, .slice (some ⟨g, 0, none⟩) 2 2), (10, .int .i64 2), (11, .int .i64 k)]) (fun k w' => w' = w ∧ k ≤ 2) (fun k => 2 - k) 0
    ⟨rfl, rfl, rfl, rfl, rfl, trivial⟩ ⟨rfl, by omega⟩ ?_
  rintro k w' ⟨rfl, hk2⟩
  refine Cm.s (fun hlt => ?_) (fun hge => ?_)
  · have hlt : k < 2 := by omega
    obtain rfl | rfl : k = 0 ∨ k = 1 := by omega
    · refine Go1.ix 1 (by omega) (Ld.one (Blk.at0 hg) ?_)
      refine Wr.n ps.length (by simp) (by omega) ?_
      refine Cm.f (by omega) ?_
      refine Wr.n 1 (by simp) (by omega) ?_
      exact ⟨1, ⟨rfl, congrArg (fun n : Nat => some (Value.int .i64 (n : Int))) (show ps.length = ([ps, bs].take 1).flatten.length by simp), rfl, rfl, rfl, trivial⟩, ⟨rfl, by omega⟩, by omega⟩
    · refine Go1.ix 1 (by omega) (Ld.one (Blk.at1 hg) ?_)
      refine Wr.n (ps.length + bs.length) (by simp) (by omega) ?_
      refine Cm.f (by omega) ?_
      refine Wr.n 2 (by simp) (by omega) ?_
      exact ⟨2, ⟨rfl, congrArg (fun n : Nat => some (Value.int .i64 (n : Int))) (show ps.length + bs.length = ([ps, bs].take 2).flatten.length by simp), rfl, rfl, rfl, trivial⟩, ⟨rfl, by omega⟩, by omega⟩
  · obtain rfl : k = 2 := by omega
    refine (c_slGrow (([ps, bs].take 2).flatten.length) (by simp; omega)).mono ?_
    rintro r w1 ⟨hx1, O, hg1, hO⟩
    refine Lp.go ttOkC (by kernel_rfl) (fun b : Nat × Value => [(6, b.2), (25, .slice (some ⟨g, 0, none⟩) 2 2), (26, .int .i64 2), (27, .int .i64 b.1)])
      (fun b w'' => Ext w' w'' ∧ b.1 ≤ 2 ∧ ∃ O, Grow w'' 9 1 b.2 ([ps, bs].take b.1).flatten.length ((([ps, bs].take b.1).flatten).map .string) O ∧ ∀ b ∈ O, w'.heap.size ≤ b) (fun b => 2 - b.1) (0, r)
      ⟨rfl, rfl, rfl, rfl, trivial⟩ ⟨hx1, by omega, O, hg1, hO⟩ ?_
    rintro ⟨k, r⟩ w2 ⟨hx2, hk2, O, hg2, hO2⟩
    simp only at hk2 hg2
    have sz2 := hx2.size
    refine Cm.s (fun hlt => ?_) (fun hge => ?_)
    · have hlt : k < 2 := by have : (k : Int) < 2 := hlt; omega
      obtain rfl | rfl : k = 0 ∨ k = 1 := by omega
      · refine Go1.ix 1 (by omega) (Ld.one (Blk.at0 (hg.ext hx2)) ?_)
        refine Go1.apr (bytes := 16) Try.underlying37 tiStr rfl hg2 (hk.ext hx2) (by simp [Value.oneCell']) (by simp; omega) (by decide) ?_
        intro r3 w3 O3 hc3 hg3 hO3
        refine Wr.n 1 (by simp) (by omega) ?_
        refine ⟨(1, r3), ⟨rfl, rfl, rfl, rfl, trivial⟩, ⟨Chg.big hx2 hc3 hO2, by simp, O3, by simpa using hg3, fun b hb => ?_⟩, by simp⟩
        rcases hO3 b hb with h | h
        · exact hO2 b h
        · omega
      · refine Go1.ix 1 (by omega) (Ld.one (Blk.at1 (hg.ext hx2)) ?_)
        refine Go1.apr (bytes := 16) Try.underlying37 tiStr rfl hg2 (gk.ext hx2) (by simp [Value.oneCell']) (by simp; omega) (by decide) ?_
        intro r3 w3 O3 hc3 hg3 hO3
        refine Wr.n 2 (by simp) (by omega) ?_
        refine ⟨(2, r3), ⟨rfl, rfl, rfl, rfl, trivial⟩, ⟨Chg.big hx2 hc3 hO2, by simp, O3, by simpa using hg3, fun b hb => ?_⟩, by simp⟩
        rcases hO3 b hb with h | h
        · exact hO2 b h
        · omega
    · obtain rfl : k = 2 := by have : ¬ (k : Int) < 2 := hge; omega
      have : ([ps, bs].take 2).flatten = ps ++ bs := by simp
      rw [this] at hg2
      have hfr := hg2.fresh hO2
      obtain ⟨cs, h, hsu⟩ := hg2.strs (by simp; omega)
      exact ⟨hx2, cs, h, hfr.sub hsu⟩

/-- What is put together of strings, each once. -/
def uni (out xs : List ByteArray) : List ByteArray := xs.foldl (fun o x => if has o x then o else o ++ [x]) out
theorem uni_append (out xs ys : List ByteArray) : uni out (xs ++ ys) = uni (uni out xs) ys := List.foldl_append ..
theorem uni_take {out xs : List ByteArray} {k : Nat} {x : ByteArray} (h : xs[k]? = some x) : uni out (xs.take (k + 1)) = if has (uni out (xs.take k)) x then uni out (xs.take k) else uni out (xs.take k) ++ [x] := by
  rw [take_succ_get h, uni_append]
  rfl
theorem uni_length (xs : List ByteArray) : ∀ out, (uni out xs).length ≤ out.length + xs.length := by
  induction xs with
  | nil => intro out; simp [uni]
  | cons x xs ih =>
    intro out
    have : uni out (x :: xs) = uni (if has out x then out else out ++ [x]) xs := rfl
    rw [this]
    have := ih (if has out x then out else out ++ [x])
    split at this
    · rename_i h; rw [if_pos h]; simp; omega
    · rename_i h; rw [if_neg h]; simp at this ⊢; omega

/-- spec.Union -/
theorem c_sUnion {ps bs : List ByteArray} (ha : ps.length ≤ 4294967296) (hb : bs.length ≤ 4294967296) {w : World} {v u : Value} {ca cb : List Nat} (hk : Strs w v ps ca) (gk : Strs w u bs cb) :
    Ret Try.prog 24 [v, u] w (NewStrs w (uni [] (ps ++ bs))) := by
  obtain ⟨ao, cap, rfl, hm, hcap⟩ := hk.form
  obtain ⟨ao2, cap2, rfl, hm2, hcap2⟩ := gk.form
  have hM : maxLen = 9223372036854775807 := rfl
  refine ret_of_vc ttOk Try.func24 rfl (by kernel_rfl) (by kernel_rfl) ?_
  refine Go1.b0 9 (size := 1) (bytes := 16) Try.underlying37 tiStr ?_
  intro w0 u0 hx0 hg0 hu
  subst hu
  refine Lp.go ttOk (by kernel_rfl) (fun b : Nat × Value => [(0, .slice ao ps.length cap), (1, .slice ao2 bs.length cap2), (5, b.2), (6, .int .i64 b.1)])
    (fun b w' => Ext w w' ∧ b.1 ≤ ps.length ∧ ∃ O, Grow w' 9 1 b.2 (uni [] (ps.take b.1)).length ((uni [] (ps.take b.1)).map .string) O ∧ ∀ b ∈ O, w.heap.size ≤ b) (fun b => ps.length - b.1) (0, .slice (some ⟨w.heap.size, 0, none⟩) 0 0)
    ⟨rfl, rfl, rfl, rfl, trivial⟩ ⟨hx0, Nat.zero_le _, [w.heap.size], by simpa [uni] using hg0, by simp⟩ ?_
  rintro ⟨k, r⟩ w1 ⟨hx, hk1, O, hg, hO⟩
  simp only at hk1 hg
  refine Cm.s (fun hlt => ?_) (fun hge => ?_)
  · have hlt : k < ps.length := by have : (k : Int) < ps.length := hlt; omega
    obtain ⟨a, rfl, hcell⟩ := hk.get hlt
    have ht := List.getElem?_eq_getElem hlt
    have hul := uni_length (ps.take k) []
    have htl : (ps.take k).length = k := by simp; omega
    rw [htl] at hul
    simp only [List.length_nil, Nat.zero_add] at hul
    obtain ⟨bs', hst, _⟩ := hg.strs (by omega)
    refine Go1.ix 1 hlt (Ld.one (hx.cell hcell) ?_)
    refine (c_l1Has hst _).mono ?_
    rintro r3 w3 ⟨rfl, rfl⟩
    have hut := uni_take (out := []) ht
    cases hh : has (uni [] (ps.take k)) ps[k]
    · rw [hh] at hut
      refine Go1.ix 1 hlt (Ld.one (hx.cell hcell) ?_)
      refine Go1.bs 9 [.string ps[k]] (size := 1) (bytes := 16) Try.underlying37 tiStr (by decide) (by decide) (by kernel_rfl) ?_
      intro wb hxb hbb
      refine Go1.app (size := 1) (bytes := 16) Try.underlying37 tiStr (by rfl) (by decide) (hg.ext hxb) (m := 1) (news := [.string ps[k]]) (Blk.lc0 (post := []) hbb) (by simp) (by simp [Value.oneCell']) (by omega) (by decide) ?_
      intro u2 w2 O2 hcb hgb hOb
      refine Wr.n (k + 1) (by simp) (by omega) ?_
      have szb := (hx.trans hxb).size
      refine ⟨(k + 1, u2), ⟨rfl, rfl, rfl, rfl, trivial⟩, ⟨Chg.big (hx.trans hxb) hcb hO, hlt, O2, ?_, fun b hb => ?_⟩, by simp; omega⟩
      · simp only
        rw [hut]
        simpa using hgb
      · rcases hOb b hb with h | h
        · exact hO b h
        · omega
    · rw [hh] at hut
      refine Wr.n (k + 1) (by simp) (by omega) ?_
      refine ⟨(k + 1, r), ⟨rfl, rfl, rfl, rfl, trivial⟩, ⟨hx, hlt, O, ?_, hO⟩, by simp; omega⟩
      simp only
      rw [hut]
      exact hg
  · have : k = ps.length := by have : ¬ (k : Int) < ps.length := hge; omega
    subst this
    rw [List.take_length] at hg
    refine Lp.go ttOk (by kernel_rfl) (fun b : Nat × Value => [(1, .slice ao2 bs.length cap2), (5, b.2), (7, .int .i64 b.1)])
      (fun b w' => Ext w w' ∧ b.1 ≤ bs.length ∧ ∃ O, Grow w' 9 1 b.2 (uni (uni [] ps) (bs.take b.1)).length ((uni (uni [] ps) (bs.take b.1)).map .string) O ∧ ∀ b ∈ O, w.heap.size ≤ b) (fun b => bs.length - b.1) (0, r)
      ⟨rfl, rfl, rfl, trivial⟩ ⟨hx, Nat.zero_le _, O, hg, hO⟩ ?_
    rintro ⟨k, r⟩ w1 ⟨hx, hk1, O, hg, hO⟩
    simp only at hk1 hg
    have hul0 := uni_length ps []
    refine Cm.s (fun hlt => ?_) (fun hge => ?_)
    · have hlt : k < bs.length := by have : (k : Int) < bs.length := hlt; omega
      obtain ⟨a, rfl, hcell⟩ := gk.get hlt
      have ht := List.getElem?_eq_getElem hlt
      have hul := uni_length (bs.take k) (uni [] ps)
      have htl : (bs.take k).length = k := by simp; omega
      rw [htl] at hul
      simp only [List.length_nil, Nat.zero_add] at hul0
      obtain ⟨bs', hst, _⟩ := hg.strs (by omega)
      refine Go1.ix 1 hlt (Ld.one (hx.cell hcell) ?_)
      refine (c_l1Has hst _).mono ?_
      rintro r3 w3 ⟨rfl, rfl⟩
      have hut := uni_take (out := uni [] ps) ht
      cases hh : has (uni (uni [] ps) (bs.take k)) bs[k]
      · rw [hh] at hut
        refine Go1.ix 1 hlt (Ld.one (hx.cell hcell) ?_)
        refine Go1.bs 9 [.string bs[k]] (size := 1) (bytes := 16) Try.underlying37 tiStr (by decide) (by decide) (by kernel_rfl) ?_
        intro wb hxb hbb
        refine Go1.app (size := 1) (bytes := 16) Try.underlying37 tiStr (by rfl) (by decide) (hg.ext hxb) (m := 1) (news := [.string bs[k]]) (Blk.lc0 (post := []) hbb) (by simp) (by simp [Value.oneCell']) (by omega) (by decide) ?_
        intro u2 w2 O2 hcb hgb hOb
        refine Wr.n (k + 1) (by simp) (by omega) ?_
        have szb := (hx.trans hxb).size
        refine ⟨(k + 1, u2), ⟨rfl, rfl, rfl, trivial⟩, ⟨Chg.big (hx.trans hxb) hcb hO, hlt, O2, ?_, fun b hb => ?_⟩, by simp; omega⟩
        · simp only
          rw [hut]
          simpa using hgb
        · rcases hOb b hb with h | h
          · exact hO b h
          · omega
      · rw [hh] at hut
        refine Wr.n (k + 1) (by simp) (by omega) ?_
        refine ⟨(k + 1, r), ⟨rfl, rfl, rfl, trivial⟩, ⟨hx, hlt, O, ?_, hO⟩, by simp; omega⟩
        simp only
        rw [hut]
        exact hg
    · have : k = bs.length := by have : ¬ (k : Int) < bs.length := hge; omega
      subst this
      rw [List.take_length, ← uni_append] at hg
      have hul := uni_length (ps ++ bs) []
      simp only [List.length_nil, List.length_append] at hul
      obtain ⟨cs, h1, h2⟩ := hg.strs (by omega)
      exact ⟨hx, cs, h1, (hg.fresh hO).sub h2⟩
/-- impl.Union -/
theorem c_iUnion {ps bs : List ByteArray} (ha : ps.length ≤ 4294967296) (hb : bs.length ≤ 4294967296) {w : World} {v u : Value} {ca cb : List Nat} (hk : Strs w v ps ca) (gk : Strs w u bs cb) :
    Ret Try.prog 25 [v, u] w (NewStrs w (uni [] (ps ++ bs))) := by
  obtain ⟨ao, cap, rfl, hm, hcap⟩ := hk.form
  obtain ⟨ao2, cap2, rfl, hm2, hcap2⟩ := gk.form
  have hM : maxLen = 9223372036854775807 := rfl
  refine ret_of_vc ttOk Try.func25 rfl (by kernel_rfl) (by kernel_rfl) ?_
  refine Go1.b0 9 (size := 1) (bytes := 16) Try.underlying37 tiStr ?_
  intro w0 u0 hx0 hg0 hu
  subst hu
  have sz0 := hx0.size
  have lt0 := hg0.lt
  refine Go1.mm ?_
  intro w1 hx1 hs1 hz1
  refine Go1.bs 37 [.slice ao ps.length cap, .slice ao2 bs.length cap2] (z := .slice none 0 0) (size := 1) (bytes := 24) Try.underlying76 (TyI.of (by kernel_rfl)) (by decide) (by decide) (by kernel_rfl) ?_
  intro w2 hx2 hb2
  have hx02 := (hx0.trans hx1).trans hx2
  refine (c_slConcat ha hb (hk.ext hx02) (gk.ext hx02) hb2).mono ?_
  rintro r w3 ⟨hx3, cs, hst, hfs⟩
  obtain ⟨ao3, cap3, rfl, hm3, hcap3⟩ := hst.form
  have hx13 := hx2.trans hx3
  have hx03 := hx02.trans hx3
  have sz2 := hx2.size
  have sz3 := hx3.size
  have g0 : w.heap.size < w0.heap.size := lt0 _ (by simp)
  have lcs := hfs.lo
  have hcs := hfs.lt
  refine Lp.go ttOk (by kernel_rfl) (fun b : Nat × Value => [(5, b.2), (6, .map (some w0.heap.size)), (14, .slice ao3 (ps ++ bs).length cap3), (15, .int .i64 (ps ++ bs).length), (16, .int .i64 b.1)])
    (fun b w' => Chg (fun x => x = w.heap.size ∨ x = w0.heap.size ∨ w3.heap.size ≤ x) w3 w' ∧ b.1 ≤ (ps ++ bs).length ∧ SetM w' w0.heap.size (uni [] ((ps ++ bs).take b.1)) ∧ ∃ O, Grow w' 9 1 b.2 (uni [] ((ps ++ bs).take b.1)).length ((uni [] ((ps ++ bs).take b.1)).map .string) O ∧ ∀ b ∈ O, b = w.heap.size ∨ w3.heap.size ≤ b) (fun b => (ps ++ bs).length - b.1) (0, .slice (some ⟨w.heap.size, 0, none⟩) 0 0)
    ⟨rfl, rfl, rfl, rfl, rfl, trivial⟩ ⟨Chg.refl _ _, Nat.zero_le _, by simpa [uni] using hs1.chg hx13 id, [w.heap.size], by simpa [uni] using (hg0.ext hx1).ext hx13, by simp⟩ ?_
  rintro ⟨k, r⟩ w4 ⟨hc4, hk4, hs4, O, hg, hO⟩
  simp only at hk4 hs4 hg
  have sz4 := hc4.size
  have hx4 : Ext w w4 := hx03.chg hc4 (fun x hx => by omega)
  have hst4 : Strs w4 (.slice ao3 (ps ++ bs).length cap3) (ps ++ bs) cs := Row.chg hc4 (fun b hb => by have := lcs b hb; have := hcs b hb; omega) hst
  refine Cm.s (fun hlt => ?_) (fun hge => ?_)
  · have hlt : k < (ps ++ bs).length := by have : (k : Int) < (ps ++ bs).length := hlt; omega
    have hlen : (ps ++ bs).length = ps.length + bs.length := List.length_append
    obtain ⟨a, rfl, hcell⟩ := hst4.get hlt
    have ht := List.getElem?_eq_getElem hlt
    have hul := uni_length ((ps ++ bs).take k) []
    have htl : ((ps ++ bs).take k).length = k := by rw [List.length_take]; omega
    rw [htl] at hul
    simp only [List.length_nil, Nat.zero_add] at hul
    have hut := uni_take (out := []) ht
    refine Go1.ix 1 hlt (Ld.one hcell ?_)
    refine Go1.lk Try.underlying56 Try.underlying9 tiBool hs4 ?_
    cases hh : has (uni [] ((ps ++ bs).take k)) (ps ++ bs)[k]
    · rw [hh] at hut
      have hnm : (ps ++ bs)[k] ∉ uni [] ((ps ++ bs).take k) := fun h => by rw [has_t h] at hh; cases hh
      refine Go0.mu Try.underlying56 Try.underlying9 hs4 hnm ?_
      intro w5 hc5 hs5 hz5
      have hn0 : ∀ b ∈ O, ¬ b = w0.heap.size := fun b hb => by have := hO b hb; omega
      refine Go1.bs 9 [.string (ps ++ bs)[k]] (size := 1) (bytes := 16) Try.underlying37 tiStr (by decide) (by decide) (by kernel_rfl) ?_
      intro wb hxb hbb
      refine Go1.app (size := 1) (bytes := 16) Try.underlying37 tiStr (by rfl) (by decide) ((hg.chg hc5 hn0).ext hxb) (m := 1) (news := [.string (ps ++ bs)[k]]) (Blk.lc0 (post := []) hbb) (by simp) (by simp [Value.oneCell']) (by omega) (by decide) ?_
      intro u2 w6 O2 hcb hgb hOb
      refine Wr.n (k + 1) (by simp) (by omega) ?_
      have szb := hxb.size
      refine ⟨(k + 1, u2), ⟨rfl, rfl, rfl, rfl, rfl, trivial⟩, ⟨((hc4.trans' (hc5.mono fun x _ hx => .inr (.inl hx))).ext hxb).trans' (hcb.mono fun x _ hx => by have := hO x hx; omega), hlt, ?_, O2, ?_, fun b hb => ?_⟩, by simp; omega⟩
      · simp only
        rw [hut]
        exact (hs5.chg hxb id).chg hcb fun h => hn0 _ h rfl
      · simp only
        rw [hut]
        simpa using hgb
      · rcases hOb b hb with h | h
        · exact hO b h
        · omega
    · rw [hh] at hut
      refine Wr.n (k + 1) (by simp) (by omega) ?_
      refine ⟨(k + 1, r), ⟨rfl, rfl, rfl, rfl, rfl, trivial⟩, ⟨hc4, hlt, ?_, O, ?_, hO⟩, by simp; omega⟩
      · simp only
        rw [hut]
        exact hs4
      · simp only
        rw [hut]
        exact hg
  · have : k = (ps ++ bs).length := by have : ¬ (k : Int) < (ps ++ bs).length := hge; omega
    subst this
    rw [List.take_length] at hg
    have hul := uni_length (ps ++ bs) []
    simp only [List.length_nil, List.length_append] at hul
    obtain ⟨cs', h1, h2⟩ := hg.strs (by omega)
    exact ⟨hx4, cs', h1, (hg.fresh fun b hb => by have := hO b hb; omega).sub h2⟩
end Go.Proofs.Ytapfcmlkcekfmaa
