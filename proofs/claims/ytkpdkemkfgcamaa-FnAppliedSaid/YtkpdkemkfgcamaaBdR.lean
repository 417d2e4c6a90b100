/- Contracts: RestrictTo. Conditions: none. -/
import Derived.Test.YtkpdkemkfgcamaaBdQ
namespace Go.Proofs.Ytkpdkemkfgcamaa
open Go.RowKit

theorem row_lt {w : World} {v : Value} {xs : List Value} {bs : List Nat} (h : Row w v xs bs) : ∀ b ∈ bs, b < w.heap.size := by
  obtain ⟨ao, cap, _, _, ⟨_, rfl⟩ | ⟨a, h0, _, rfl, hc⟩⟩ := h
  · simp
  · intro b hb
    obtain rfl : b = a.block := by simpa using hb
    cases xs with
    | nil => exact absurd rfl h0
    | cons x r =>
      have := World.block_lt_of_cell? w (a.add 0) (hc 0 _ rfl)
      have e : (a.add 0).block = a.block := by unfold Addr.add; split <;> rfl
      omega
/-- The function that DeleteFunc asks: is the binding's variable outside ss? -/
theorem c_restrict1 {ss : List ByteArray} {w : World} {b : Nat} {e : TypeId} {kv v : Value} {bk : List Nat} (hb : Blk w b e [kv]) (hs : Strs w kv ss bk) (x : Bi) (ao : Option Addr) (n c : Nat) (hv : v = .slice ao n c) :
    Ret Try.prog 68 [.agg #[.string x.1, .int .i64 x.2.lab.1, .string x.2.lab.2, v], .pointer (some ⟨b, 0, none⟩)] w fun r w' => r = .bool (!has ss x.1) ∧ Ext w w' := by
  subst hv
  obtain ⟨ak, ck, rfl, _, _⟩ := hs.form
  refine ret_of_vc ttOkB Try.func68 rfl (by kernel_rfl) (by kernel_rfl) ?_
  refine Go1.bx ?_
  intro w1 hx1 hb1
  refine Ld.one ((hb.ext hx1).at0) ?_
  refine Go1.fl 0 (Ld.one hb1.at0 ?_)
  refine (c_slContains (Row.ext hx1 hs) x.1).mono ?_
  rintro _ w2 ⟨rfl, rfl⟩
  cases has ss x.1
  · exact ⟨rfl, hx1⟩
  · exact ⟨rfl, hx1⟩
/-- The first binding that is taken out. -/
theorem c_idxRestrict {ss : List ByteArray} {xs : List Bi} {w : World} {v kv : Value} {bs bk : List Nat} {b : Nat} {e : TypeId} (hk : Bds w v xs bs) (hb : Blk w b e [kv]) (hs : Strs w kv ss bk) :
    Ret Try.prog 87 [v, .func (.func 68) #[] #[.pointer (some ⟨b, 0, none⟩)]] w fun r w' => (∃ n : Int, r = .int .i64 n ∧ ((n = -1 ∧ ∀ x ∈ xs, has ss x.1 = true) ∨ ∃ i : Nat, n = i ∧ i < xs.length ∧ (∀ x ∈ xs.take i, has ss x.1 = true) ∧ ∃ x, xs[i]? = some x ∧ has ss x.1 = false)) ∧ Ext w w' := by
  have hM : maxLen = 9223372036854775807 := rfl
  obtain ⟨ao, cap, rfl, hm, hcap⟩ := hk.form
  refine ret_of_vc ttOkB Try.func87 rfl (by kernel_rfl) (by kernel_rfl) ?_
  refine Lp.go ttOkB (by kernel_rfl) (fun k : Nat => [(0, .slice ao xs.length cap), (1, .func (.func 68) #[] #[.pointer (some ⟨b, 0, none⟩)]), (7, .int .i64 xs.length), (8, .int .i64 k)]) (fun k w' => Ext w w' ∧ k ≤ xs.length ∧ ∀ x ∈ xs.take k, has ss x.1 = true) (fun k => xs.length - k) 0
    ⟨rfl, rfl, rfl, rfl, trivial⟩ ⟨Chg.refl _ _, Nat.zero_le _, by simp⟩ ?_
  rintro k w1 ⟨hx, hk1, hn⟩
  refine Cm.s (fun hlt => ?_) (fun hge => ?_)
  · have hlt : k < xs.length := by omega
    obtain ⟨a, x, u, b1, rfl, ht, hc, hkt, _⟩ := (hk.ext hx).get hlt
    obtain ⟨ax, cx, rfl, _, _⟩ := hkt.form
    refine Go1.ix 4 hlt (Ld.agg (vs := [.string x.1, .int .i64 x.2.lab.1, .string x.2.lab.2, .slice ax x.2.kids.length cx]) hc ?_)
    refine (c_restrict1 (hb.ext hx) (Row.ext hx hs) x _ _ _ rfl).mono ?_
    rintro _ w2 ⟨rfl, hx2⟩
    cases hh : has ss x.1 with
    | true =>
      refine Wr.n (k + 1) (by omega) (by omega) ?_
      refine ⟨k + 1, ⟨rfl, rfl, rfl, rfl, trivial⟩, ⟨hx.trans hx2, hlt, fun u hu => ?_⟩, by omega⟩
      rw [take_succ_get ht] at hu
      rcases List.mem_append.1 hu with hu | hu
      · exact hn u hu
      · obtain rfl : u = x := by simpa using hu
        exact hh
    | false => exact ⟨⟨k, rfl, .inr ⟨k, rfl, hlt, hn, x, ht, hh⟩⟩, hx.trans hx2⟩
  · have : k = xs.length := by omega
    subst this
    rw [List.take_length] at hn
    exact ⟨⟨-1, rfl, .inl ⟨rfl, hn⟩⟩, hx⟩

theorem flB_sel_snoc (p : Bi → Bool) {xs : List Bi} {vs : List Value} {x : Bi} {v : Value} (h : vs.length = xs.length) :
    flB ((xs ++ [x]).filter p) (selV p (xs ++ [x]) (vs ++ [v])) = flB (xs.filter p) (selV p xs vs) ++ (if p x then encB x ++ [v] else []) := by
  rw [selV_snoc p h, List.filter_append]
  by_cases e : p x = true
  · rw [if_pos e, if_pos e, List.filter_cons_of_pos e, List.filter_nil, flB_append (selV_length p h)]
    simp [flB]
  · rw [if_neg e, if_neg e, List.filter_cons_of_neg e, List.filter_nil]
    simp
/-- slices.DeleteFunc of bindings in the call's own memory. -/
theorem c_slDelete {ss : List ByteArray} {xs : List Bi} {n0 : Nat} {w : World} {r kv : Value} {O cs bk : List Nat} {b : Nat} {e : TypeId} (hg : GrowB n0 w r xs O cs) (hxm : xs.length ≤ 4294967296) (hb : Blk w b e [kv]) (hs : Strs w kv ss bk) (hbO : b ∉ O) (hkO : ∀ y ∈ bk, y ∉ O) :
    Ret Try.prog 66 [r, .func (.func 68) #[] #[.pointer (some ⟨b, 0, none⟩)]] w fun r' w' => Chg (· ∈ O) w w' ∧ ∃ cs', GrowB n0 w' r' (xs.filter fun x => has ss x.1) O cs' := by
  have hM : maxLen = 9223372036854775807 := rfl
  obtain ⟨bx, hbx, _⟩ := hg.bds (by omega)
  obtain ⟨ao, cap, rfl, _, _⟩ := hbx.form
  refine ret_of_vc ttOkB Try.func66 rfl (by kernel_rfl) (by kernel_rfl) ?_
  refine (c_idxRestrict hbx hb hs).mono ?_
  rintro _ w1 ⟨⟨n, rfl, hn⟩, hx1⟩
  rcases hn with ⟨rfl, hall⟩ | ⟨i, rfl, hi, hpre, x0, hx0, hn0⟩
  · refine Cm.t rfl ?_
    rw [List.filter_eq_self.2 hall]
    exact ⟨hx1.mono fun _ _ h => h.elim, cs, hg.ext hx1⟩
  refine Cm.f (by omega) ?_
  obtain ⟨vs, hgr, hBL, hfr⟩ := hg
  have hvl := hBL.length
  obtain ⟨hlen, ⟨h, h', _⟩ | ⟨g, cap', rest, e1, rfl, hblk, hc1, hc2, hc3'⟩⟩ := hgr
  · omega
  cases e1
  generalize hp : (fun x : Bi => has ss x.1) = p
  have hpx : ∀ x, p x = has ss x.1 := fun x => by rw [← hp]
  obtain ⟨v0, _, hv0, _, _⟩ := hBL.get hx0
  have hgb : b ≠ g := fun h => hbO (by simp [h])
  have hgk : ∀ y ∈ bk, y ≠ g := fun y hy h => hkO y hy (by simp [h])
  have hft : (xs.take i).filter p = xs.take i := List.filter_eq_self.2 fun x hx => by rw [hpx]; exact hpre x hx
  have hst : selV p (xs.take i) (vs.take i) = vs.take i := selV_all p (by simp [hvl]) fun x hx => by rw [hpx]; exact hpre x hx
  have hsplit : flB xs vs = flB (xs.take i) (vs.take i) ++ (encB x0 ++ [v0]) ++ flB (xs.drop (i + 1)) (vs.drop (i + 1)) := by
    conv => lhs; rw [← List.take_append_drop i xs, ← List.take_append_drop i vs]
    rw [flB_append (by simp [hvl]), drop_get' hx0, drop_get' hv0]
    simp [flB]
  have htot : (flB xs vs).length = xs.length * 4 := length_flB hvl
  refine Wr.n (i + 1) (by simp) (by omega) ?_
  refine Lp.go ttOkB (by kernel_rfl) (fun q : Nat × Nat => [(0, .slice (some ⟨g, 0, none⟩) xs.length cap), (1, .func (.func 68) #[] #[.pointer (some ⟨b, 0, none⟩)]), (5, .int .i64 q.1), (6, .int .i64 q.2)])
    (fun q w' => Chg (· ∈ [g]) w1 w' ∧ q.2 ≤ xs.length ∧ q.1 < q.2 ∧ q.1 = ((xs.take q.2).filter p).length ∧ ∃ gs, gs.length = (q.2 - q.1) * 4 ∧ Blk w' g 72 (flB ((xs.take q.2).filter p) (selV p (xs.take q.2) (vs.take q.2)) ++ gs ++ (flB (xs.drop q.2) (vs.drop q.2) ++ rest))) (fun q => xs.length - q.2) (i, i + 1)
    ⟨rfl, rfl, rfl, rfl, trivial⟩ ⟨Chg.refl _ _, hi, Nat.lt_succ_self i, ?_, encB x0 ++ [v0], ?_, ?_⟩ ?_
  · rw [take_succ_get hx0, List.filter_append, hft]
    simp [hpx, hn0]; omega
  · simp
  · have h1 := flB_sel_snoc p (xs := xs.take i) (vs := vs.take i) (x := x0) (v := v0) (by simp [hvl])
    rw [take_succ_get hx0, take_succ_get hv0, h1, hft, hst, hpx, hn0]
    have := hblk.ext hx1
    rw [hsplit] at this
    simpa [List.append_assoc] using this
  rintro ⟨i, j⟩ w2 ⟨hc2w, hj, hij, hif, gs, hgl, hb2⟩
  dsimp only at hj hij hif hgl hb2
  have hKl : (flB ((xs.take j).filter p) (selV p (xs.take j) (vs.take j))).length = i * 4 := by
    rw [length_flB (selV_length p (by simp [hvl])), ← hif]
  generalize hKe : flB ((xs.take j).filter p) (selV p (xs.take j) (vs.take j)) = K at hb2 hKl
  refine Cm.s (fun hlt => ?_) (fun hge => ?_)
  · have hlt : j < xs.length := by omega
    obtain ⟨x, hx⟩ : ∃ x, xs[j]? = some x := ⟨xs[j], List.getElem?_eq_getElem hlt⟩
    obtain ⟨v, b1, hv, hkv, _⟩ := hBL.get hx
    obtain ⟨ax, cx, rfl, _, _⟩ := hkv.form
    have h1 := flB_sel_snoc p (xs := xs.take j) (vs := vs.take j) (x := x) (v := .slice ax x.2.kids.length cx) (by simp [hvl])
    rw [drop_get' hx, drop_get' hv] at hb2
    generalize hQe : flB (xs.drop (j + 1)) (vs.drop (j + 1)) = Q at *
    have hfl : flB (x :: xs.drop (j + 1)) (.slice ax x.2.kids.length cx :: vs.drop (j + 1)) = encB x ++ [.slice ax x.2.kids.length cx] ++ Q := by rw [← hQe]; rfl
    rw [hfl] at hb2
    have hb2' : Blk w2 g 72 ((K ++ gs) ++ [.string x.1, .int .i64 x.2.lab.1, .string x.2.lab.2, .slice ax x.2.kids.length cx] ++ (Q ++ rest)) := by simpa [encB] using hb2
    have hea : ((⟨g, 0, none⟩ : Addr).add (j * 4)) = ⟨g, (K ++ gs).length, none⟩ := by
      rw [Addr.add_lit, List.length_append, hKl, hgl]
      congr 1
      omega
    refine Go1.ix 4 hlt ?_
    rw [hea]
    refine Ld.agg (vs := [.string x.1, .int .i64 x.2.lab.1, .string x.2.lab.2, .slice ax x.2.kids.length cx]) hb2'.lc ?_
    refine Go1.al tiBd ?_
    intro w3 hx3 hb3
    have lt3 := hb3.lt
    have hgw2 := hb2.lt
    refine Go0.st (off := 0) (vs := [.string x.1, .int .i64 x.2.lab.1, .string x.2.lab.2, .slice ax x.2.kids.length cx]) hb3 rfl rfl (by simp [Value.cells]) (by simp [Value.oneCell']) ?_
    intro w4 hc4 hb4 _
    have hb4 : Blk w4 w2.heap.size 72 [.string x.1, .int .i64 x.2.lab.1, .string x.2.lab.2, .slice ax x.2.kids.length cx] := hb4
    have hx24 : Ext w2 w4 := hx3.chg hc4 (by omega)
    refine Ld.agg (vs := [.string x.1, .int .i64 x.2.lab.1, .string x.2.lab.2, .slice ax x.2.kids.length cx]) (Blk.lc0 (post := []) hb4) ?_
    have hbw : Blk w4 b e [kv] := ((hb.ext hx1).chg hc2w (by simpa using hgb)).ext hx24
    have hsw : Strs w4 kv ss bk := Row.ext hx24 (Row.chg hc2w (fun y hy h => hgk y hy (by simpa using h)) (Row.ext hx1 hs))
    refine (c_restrict1 hbw hsw x _ _ _ rfl).mono ?_
    rintro _ w5 ⟨rfl, hx5⟩
    have hx25 := hx24.trans hx5
    have hc5 : Chg (· ∈ [g]) w1 w5 := hc2w.ext hx25
    cases hh : has ss x.1 with
    | true =>
      refine Ld.agg (vs := [.string x.1, .int .i64 x.2.lab.1, .string x.2.lab.2, .slice ax x.2.kids.length cx]) (Blk.lc0 (post := []) (hb4.ext hx5)) ?_
      obtain ⟨g1, g2, rfl, hg4⟩ : ∃ g1 g2, gs = g1 ++ g2 ∧ g1.length = 4 := ⟨gs.take 4, gs.drop 4, (List.take_append_drop 4 gs).symm, by rw [List.length_take, hgl]; omega⟩
      rw [List.length_append, hg4] at hgl
      have hb5 : Blk w5 g 72 (K ++ g1 ++ (g2 ++ (encB x ++ [.slice ax x.2.kids.length cx] ++ Q ++ rest))) := by
        simpa [List.append_assoc] using hb2.ext hx25
      refine Go1.ix 4 (by omega) ?_
      refine Go0.st (off := K.length) (vs := [.string x.1, .int .i64 x.2.lab.1, .string x.2.lab.2, .slice ax x.2.kids.length cx]) hb5 (by rw [Addr.add_lit, hKl]; simp) rfl (by simp [hg4] <;> omega) (by simp [Value.oneCell']) ?_
      intro w6 hc6 hb6 _
      rw [spl_mid K g1 _ [.string x.1, .int .i64 x.2.lab.1, .string x.2.lab.2, .slice ax x.2.kids.length cx] rfl (by rw [hg4]; rfl)] at hb6
      refine Wr.n (i + 1) (by simp) (by omega) ?_
      refine Wr.n (j + 1) (by simp) (by omega) ?_
      refine ⟨(i + 1, j + 1), ⟨rfl, rfl, rfl, rfl, trivial⟩, ⟨hc5.sub hc6 fun b hb => by simp [hb], hlt, by simp only; omega, ?_, g2 ++ (encB x ++ [.slice ax x.2.kids.length cx]), ?_, ?_⟩, by simp only; omega⟩
      · simp only
        rw [take_succ_get hx, List.filter_append, List.length_append, ← hif]
        simp [hpx, hh]
      · simp only [List.length_append, List.length_cons, List.length_nil]
        omega
      · simp only
        rw [take_succ_get hx, take_succ_get hv, h1, hpx, hh, hKe, hQe]
        simpa [List.append_assoc, encB] using hb6
    | false =>
      refine Wr.n (j + 1) (by simp) (by omega) ?_
      refine ⟨(i, j + 1), ⟨rfl, rfl, rfl, rfl, trivial⟩, ⟨hc5, hlt, by simp only; omega, ?_, gs ++ (encB x ++ [.slice ax x.2.kids.length cx]), ?_, ?_⟩, by simp only; omega⟩
      · simp only
        rw [take_succ_get hx, List.filter_append, List.length_append, ← hif]
        simp [hpx, hh]
      · simp only [List.length_append, hgl, List.length_cons, List.length_nil]
        omega
      · simp only
        rw [take_succ_get hx, take_succ_get hv, h1, hpx, hh, hKe, hQe]
        simpa [List.append_assoc, encB] using hb2.ext hx25
  · have hjn : j = xs.length := by omega
    subst hjn
    rw [List.take_length] at hif
    rw [List.take_length, ← hvl, List.take_length] at hKe
    rw [List.drop_length, ← hvl, List.drop_length] at hb2
    have hb2 : Blk w2 g 72 (K ++ (gs ++ rest)) := by simpa [flB, List.append_assoc] using hb2
    refine Go1.go (run_fromB (k := i) Try.underlying28 tiBd (by omega) hc1 w2) ?_
    rw [if_neg (by omega)]
    have hea : ((⟨g, 0, none⟩ : Addr).add (i * 4)) = ⟨g, i * 4, none⟩ := by rw [Addr.add_lit]; simp
    rw [Option.map_some, hea]
    refine Go1.clr (xs := K) (ys := gs ++ rest) (size := 4) (bytes := 64) Try.underlying28 tiBd rfl (by decide) (by simp [Value.cells, Value.oneCell']) hb2 hKl.symm (by rw [List.length_append, hgl]; omega) ?_
    intro w3 ys' hys hc3 hb3 hs3
    refine Go1.go (run_sliceTo (k := i) Try.underlying28 tiBd (by omega) _) ?_
    have hcA : Chg (· ∈ [g]) w w3 := (hx1.chgM hc2w).sub hc3 fun b hb => by simp [hb]
    have hnd : (g :: cs).Nodup := hfr.nodup
    rw [List.nodup_cons] at hnd
    have hgc : ∀ b ∈ cs, ¬ b ∈ [g] := fun b hb h => by
      obtain rfl : b = g := by simpa using h
      exact hnd.1 hb
    obtain ⟨cs', hB', hsub⟩ := hBL.sel p
    refine ⟨hcA, cs', selV p xs vs, ?_, hB'.chg hcA fun b hb => hgc b (hsub.subset hb), ?_⟩
    · rw [hKe, hif.symm]
      exact ⟨hKl, .inr ⟨g, cap, ys', rfl, rfl, hb3, by omega, hc2, by rw [List.length_append, hys, hKl, List.length_append, hgl]; rw [List.length_append, htot] at hc3'; omega⟩⟩
    · refine ⟨List.nodup_cons.2 ⟨fun h => hnd.1 (hsub.subset h), hsub.nodup hnd.2⟩, fun b hb => ?_, fun b hb => ?_⟩
      · rcases List.mem_cons.1 hb with rfl | hb
        · exact hfr.lo _ (by simp)
        · exact hfr.lo _ (by simp [hsub.subset hb])
      · rcases List.mem_cons.1 hb with rfl | hb
        · exact ⟨_, _, hb3⟩
        · obtain ⟨c, e, h⟩ := hfr.blk b (by simp [hsub.subset hb])
          exact ⟨c, e, h.chg hcA (hgc b (hsub.subset hb))⟩

/-- impl.RestrictTo -/
theorem c_iRestrictTo {ss : List ByteArray} {xs : List Bi} (hb : cntB xs ≤ 4294967296) {w : World} {u v : Value} {bx bk : List Nat} (hk : Bds w u xs bx) (hs : Strs w v ss bk) :
    Ret Try.prog 42 [u, v] w (NewBds w (xs.filter fun x => has ss x.1)) := by
  have hM : maxLen = 9223372036854775807 := rfl
  have hxl := cntB_length xs
  have hsl := row_lt hs
  obtain ⟨ak, ck, rfl, _, _⟩ := hs.form
  obtain ⟨ax, cx, rfl, _, _⟩ := hk.form
  refine ret_of_vc ttOkB Try.func42 rfl (by kernel_rfl) (by kernel_rfl) ?_
  refine Go1.bx ?_
  intro w1 hx1 hb1
  have lt1 := hb1.lt
  have sz1 := hx1.size
  refine (c_copyBindings hb (hk.ext hx1)).mono ?_
  rintro r w2 ⟨hx2, O, cs, hg⟩
  have hlo : ∀ b ∈ O ++ cs, w1.heap.size ≤ b := by
    obtain ⟨_, _, _, hf⟩ := hg
    exact hf.lo
  refine (c_slDelete hg (by omega) (hb1.ext hx2) (Row.ext (hx1.trans hx2) hs) (fun h => by have := hlo _ (List.mem_append_left _ h); omega) (fun y hy h => by have := hlo _ (List.mem_append_left _ h); have := hsl y hy; omega)).mono ?_
  rintro r' w3 ⟨hc3, cs', hg3⟩
  have hfl : (xs.filter fun x => has ss x.1).length ≤ xs.length := List.length_filter_le _ _
  obtain ⟨bs, h1, h2⟩ := hg3.bds (by omega)
  obtain ⟨_, _, _, hf⟩ := hg3
  exact ⟨(hx1.trans hx2).chg hc3 fun b hb => by have := hlo b (List.mem_append_left _ hb); omega, bs, h1, (hf.sub h2).mono sz1⟩
/-- spec.RestrictTo -/
theorem c_sRestrictTo {ss : List ByteArray} {xs : List Bi} (hb : cntB xs ≤ 4294967296) {w : World} {u v : Value} {bx bk : List Nat} (hk : Bds w u xs bx) (hs : Strs w v ss bk) :
    Ret Try.prog 40 [u, v] w (NewBds w (xs.filter fun x => has ss x.1)) := by
  have hM : maxLen = 9223372036854775807 := rfl
  have hxl := cntB_length xs
  obtain ⟨ak, ck, rfl, _, _⟩ := hs.form
  obtain ⟨ax, cx, rfl, _, _⟩ := hk.form
  refine ret_of_vc ttOkB Try.func40 rfl (by kernel_rfl) (by kernel_rfl) ?_
  refine Go1.b0 72 (size := 4) (bytes := 64) Try.underlying28 tiBd ?_
  intro w1 u1 hx1 hg1 hu
  subst hu
  have hg1' : GrowB w.heap.size w1 (.slice (some ⟨w.heap.size, 0, none⟩) 0 0) [] [w.heap.size] [] := ⟨[], hg1, rfl, by simpa using hg1.fresh (by simp)⟩
  refine Lp.go ttOkB (by kernel_rfl) (fun q : Nat × Value => [(0, .slice ax xs.length cx), (1, .slice ak ss.length ck), (5, q.2), (6, .int .i64 q.1)])
    (fun q w' => Ext w w' ∧ q.1 ≤ xs.length ∧ ∃ O cs, GrowB w.heap.size w' q.2 ((xs.take q.1).filter fun x => has ss x.1) O cs) (fun q => xs.length - q.1) (0, .slice (some ⟨w.heap.size, 0, none⟩) 0 0)
    ⟨rfl, rfl, rfl, rfl, trivial⟩ ⟨hx1, Nat.zero_le _, _, _, by simpa using hg1'⟩ ?_
  rintro ⟨k, r⟩ w2 ⟨hx2, hk2, O, cs, hg2⟩
  dsimp only at hk2 hg2
  refine Cm.s (fun hlt => ?_) (fun hge => ?_)
  · have hlt : k < xs.length := by omega
    obtain ⟨a, x, u, b1, rfl, hx, hL, hkv, _⟩ := (hk.ext hx2).get hlt
    obtain ⟨ay, cy, rfl, _, _⟩ := hkv.form
    have hcx := cntB_take_le hx
    have hfe : (xs.take (k + 1)).filter (fun x => has ss x.1) = (xs.take k).filter (fun x => has ss x.1) ++ (if has ss x.1 then [x] else []) := by
      rw [take_succ_get hx, List.filter_append]
      cases h : has ss x.1 <;> simp [h]
    refine Go1.ix 4 hlt (Go1.fl 0 (Ld.one (hL 0 _ rfl) ?_))
    refine (c_l1Has (Row.ext hx2 hs) x.1).mono ?_
    rintro _ w3 ⟨rfl, rfl⟩
    cases hh : has ss x.1 with
    | true =>
      rw [hh, if_pos rfl] at hfe
      refine Dr.x [0, 1, 2, 3, 4, 5, 6, 7, 8, 9, 10, 11, 12, 13, 14, 15] ttOkB ?_
      refine GoS.ix 4 hlt (GoS.fl 0 (LdS.x1 (hL 0 _ rfl) ?_))
      refine GoS.ix 4 hlt (GoS.fl 1 (LdS.xn (vs := [.int .i64 x.2.lab.1, .string x.2.lab.2, .slice ay x.2.kids.length cy]) (fun i v hv => by rw [Go.Deep.add_add]; exact hL (1 + i) v (by rw [Nat.add_comm]; exact hv)) ?_))
      refine ⟨fun u1 hu1 => ?_⟩
      refine (c_l4Copy (l := x.2.lab) (ks := x.2.kids) (by omega) (hkv.ext hu1)).mono ?_
      rintro _ u2 ⟨hu2, v2, d2, rfl, hk2', hf2⟩
      obtain ⟨az, cz, rfl, _, _⟩ := hk2'.form
      refine Af.ext (hu1.trans hu2) ?_
      refine GoS.bd [.string x.1, .int .i64 x.2.lab.1, .string x.2.lab.2, .slice az x.2.kids.length cz] ?_
      refine ⟨fun u3 hu3 => ?_⟩
      refine Go1.bs 72 [.string x.1, .int .i64 x.2.lab.1, .string x.2.lab.2, .slice az x.2.kids.length cz] (size := 4) (bytes := 64) Try.underlying28 tiBd (by decide) (by decide) (by kernel_rfl) ?_
      intro u4 hu4 hb4
      refine Af.ext (hu3.trans hu4) ?_
      refine ⟨fun u5 hu5 => ?_⟩
      have h25 := (((hu1.trans hu2).trans hu3).trans hu4).trans hu5
      obtain ⟨vs, hgr, hbl, hfr⟩ := hg2
      have hlo := hfr.lo
      have hfl : ((xs.take k).filter fun x => has ss x.1).length ≤ xs.length := Nat.le_trans (List.length_filter_le _ _) (by simp; omega)
      refine Go1.app (size := 4) (bytes := 64) Try.underlying28 tiBd (by rfl) (by decide) (hgr.ext h25) (m := 1) (news := [.string x.1, .int .i64 x.2.lab.1, .string x.2.lab.2, .slice az x.2.kids.length cz]) (Blk.lc0 (post := []) (hb4.ext hu5)) (by simp) (by simp [Value.oneCell']) (by omega) (by decide) ?_
      intro r6 u6 O6 hc6 hg6 hO6
      refine Af.new ?_
      intro u7 hu7
      have s2 := hx2.size
      have s1 := hu1.size
      have hsn := GrowB.snoc (r := r) (x := x) h25 hbl hfr (((hk2'.ext hu3).ext hu4).ext hu5) ((((hf2.ext hu3).ext hu4).ext hu5).mono s1) hc6 hg6 hO6 s2
      refine Wr.n (k + 1) (by simp) (by omega) ?_
      refine ⟨(k + 1, r6), ⟨rfl, rfl, rfl, rfl, trivial⟩, ⟨((hx2.trans h25).chg hc6 fun b hb => hlo b (List.mem_append_left _ hb)).trans hu7, hlt, O6, cs ++ d2, ?_⟩, by simp only; omega⟩
      simp only
      rw [hfe]
      exact hsn.ext hu7
    | false =>
      rw [hh] at hfe
      refine Wr.n (k + 1) (by simp) (by omega) ?_
      refine ⟨(k + 1, r), ⟨rfl, rfl, rfl, rfl, trivial⟩, ⟨hx2, hlt, O, cs, ?_⟩, by simp only; omega⟩
      simp only
      rw [hfe]
      simpa using hg2
  · have : k = xs.length := by omega
    subst this
    rw [List.take_length] at hg2
    have hfl : (xs.filter fun x => has ss x.1).length ≤ xs.length := List.length_filter_le _ _
    obtain ⟨bs, h1, h2⟩ := hg2.bds (by omega)
    obtain ⟨_, _, _, hf⟩ := hg2
    exact ⟨hx2, bs, h1, hf.sub h2⟩
end Go.Proofs.Ytkpdkemkfgcamaa
