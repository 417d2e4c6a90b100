/- Contracts: the laws' helpers on bindings: sizes, copies, equality. Conditions: none. -/
import Derived.Test.YtkpdkemkfgcamaaBd
namespace Go.Proofs.Ytkpdkemkfgcamaa
open Go.RowKit

theorem Blk.lc1 {w : World} {b : Nat} {e : TypeId} {x : Value} {xs : List Value} (h : Blk w b e (x :: xs)) : Lc w ((⟨b, 0, none⟩ : Addr).add 1) xs := by
  have := Blk.lc (pre := [x]) (xs := xs) (post := []) (by simpa using h)
  intro i v hv
  have h1 := this i v hv
  rw [Addr.add_lit] at h1
  rw [Addr.add_lit, Addr.add_lit, Nat.zero_add]
  exact h1

/-- The nodes of bindings. -/
def cntB : List Bi → Nat
  | [] => 0
  | x :: xs => 1 + Rose.cnt x.2.kids + cntB xs
/-- The weight of bindings. -/
def szB : List Bi → Nat
  | [] => 0
  | x :: xs => 1 + (x.1.size + (x.2.lab.2.size + szT x.2.kids)) + szB xs
theorem cntB_append (xs ys : List Bi) : cntB (xs ++ ys) = cntB xs + cntB ys := by
  induction xs with
  | nil => simp [cntB]
  | cons x xs ih => simp only [List.cons_append, cntB, ih]; omega
theorem szB_append (xs ys : List Bi) : szB (xs ++ ys) = szB xs + szB ys := by
  induction xs with
  | nil => simp [szB]
  | cons x xs ih => simp only [List.cons_append, szB, ih]; omega
theorem szB_take {xs : List Bi} {i : Nat} {x : Bi} (h : xs[i]? = some x) : szB (xs.take (i + 1)) = szB (xs.take i) + (1 + (x.1.size + (x.2.lab.2.size + szT x.2.kids))) := by
  rw [take_succ_get h, szB_append]; simp [szB]
theorem cntB_take {xs : List Bi} {i : Nat} {x : Bi} (h : xs[i]? = some x) : cntB (xs.take (i + 1)) = cntB (xs.take i) + (1 + Rose.cnt x.2.kids) := by
  rw [take_succ_get h, cntB_append]; simp [cntB]
theorem cntB_take_le {xs : List Bi} {i : Nat} {x : Bi} (h : xs[i]? = some x) : cntB (xs.take i) + (1 + Rose.cnt x.2.kids) ≤ cntB xs := by
  rw [← cntB_take h]
  have := cntB_append (xs.take (i + 1)) (xs.drop (i + 1))
  rw [List.take_append_drop] at this
  omega
theorem cntB_length (xs : List Bi) : xs.length ≤ cntB xs := by
  induction xs with
  | nil => simp
  | cons x xs ih => simp only [List.length_cons, cntB]; omega
theorem cntB_le (xs : List Bi) : cntB xs ≤ szB xs := by
  induction xs with
  | nil => simp [cntB, szB]
  | cons x xs ih =>
    have := Rose.cnt_le (fun l : TLab => l.2.size) x.2.kids
    simp only [cntB, szB, szT]
    omega
theorem szB_cnt {m left : Nat} {xs : List Bi} (h : m + szB xs = left) (hl : left ≤ 1048576) : cntB xs ≤ 1048576 := by have := cntB_le xs; omega
/-- All texts are of a length that is an int. -/
def AlB (xs : List Bi) : Prop := ∀ x ∈ xs, x.1.size ≤ maxLen ∧ x.2.lab.2.size ≤ maxLen ∧ Rose.AlL (fun s => s.2.size ≤ maxLen) x.2.kids

/-- laws.szBinding -/
theorem c_szBinding {x : Bi} (h1 : x.1.size ≤ maxLen) (h2 : x.2.lab.2.size ≤ maxLen) (ha : Rose.AlL (fun s => s.2.size ≤ maxLen) x.2.kids) {w : World} {v : Value} {bs : List Nat} (hk : Kids encT w v x.2.kids bs) (left : Nat) (hle : left ≤ 1048576) :
    Ret Try.prog 52 [.agg #[.string x.1, .int .i64 x.2.lab.1, .string x.2.lab.2, v], .int .i64 left] w fun r w' => Ext w w' ∧ Left left (x.1.size + (x.2.lab.2.size + szT x.2.kids)) r := by
  have hM : maxLen = 9223372036854775807 := rfl
  refine ret_of_vc ttOkB Try.func52 rfl (by kernel_rfl) (by kernel_rfl) ?_
  refine Go1.bx ?_
  intro w1 hx1 hb1
  refine Go1.fl 0 (Ld.one hb1.at0 ?_)
  refine Wr.i (r := (left : Int) - x.1.size) rfl (by omega) (by omega) ?_
  refine Cm.s (fun _ => ⟨hx1, .inl rfl⟩) (fun hge => ?_)
  refine Go1.fl 1 (Ld.agg (vs := [.int .i64 x.2.lab.1, .string x.2.lab.2, v]) (Blk.lc1 hb1) ?_)
  rw [show ((left : Int) - x.1.size) = ((left - x.1.size : Nat) : Int) by omega]
  refine (c_szType h2 ha (hk.ext hx1) (left - x.1.size) (by omega)).mono ?_
  rintro r w2 ⟨hx2, rfl | ⟨m, rfl, hm⟩⟩
  · refine Cm.t (by omega) ?_
    exact ⟨hx1.trans hx2, .inl rfl⟩
  · refine Cm.f (by omega) ?_
    exact ⟨hx1.trans hx2, .inr ⟨m, rfl, by omega⟩⟩

/-- laws.szBindingS -/
theorem c_szBindingS {xs : List Bi} (ha : AlB xs) {w : World} {v : Value} {bs : List Nat} (hk : Bds w v xs bs) (left : Nat) (hle : left ≤ 1048576) :
    Ret Try.prog 9 [v, .int .i64 left] w fun r w' => Ext w w' ∧ Left left (szB xs) r := by
  obtain ⟨ao, cap, rfl, hm, hcap⟩ := hk.form
  have hM : maxLen = 9223372036854775807 := rfl
  refine ret_of_vc ttOkB Try.func9 rfl (by kernel_rfl) (by kernel_rfl) ?_
  refine Wr.i (r := (left : Int) - xs.length) rfl (by omega) (by omega) ?_
  refine Cm.s (fun _ => ⟨Chg.refl _ _, .inl rfl⟩) (fun hge => ?_)
  refine Lp.go ttOkB (by kernel_rfl) (fun k : Nat × Nat => [(0, .slice ao xs.length cap), (1, .int .i64 k.2), (5, .int .i64 k.1)]) (fun k w' => Ext w w' ∧ k.1 ≤ xs.length ∧ k.2 + szB (xs.take k.1) + (xs.length - k.1) = left) (fun k => xs.length - k.1) (0, left - xs.length)
    ⟨rfl, by show some _ = some _; rw [show ((left : Int) - xs.length) = ((left - xs.length : Nat) : Int) by omega], rfl, trivial⟩ ⟨Chg.refl _ _, Nat.zero_le _, by simp [szB]; omega⟩ ?_
  rintro ⟨k, m⟩ w' ⟨hx, hkl, hn⟩
  simp only at hkl hn
  refine Cm.s (fun hlt => ?_) (fun hge => ?_)
  · have hlt : k < xs.length := by omega
    obtain ⟨a, x, v1, b1, rfl, ht, hc, hk1, _⟩ := hk.get hlt
    have htm : x ∈ xs := List.mem_of_getElem? ht
    obtain ⟨h1, h2, h3⟩ := ha x htm
    refine Go1.ix 4 hlt ?_
    refine Ld.agg (vs := encB x ++ [v1]) (hc.chg hx (.inr id)) ?_
    refine (c_szBinding h1 h2 h3 (hk1.ext hx) m (by omega)).mono ?_
    rintro r w2 ⟨hx2, rfl | ⟨m2, rfl, hm2⟩⟩
    · refine Cm.t (by omega) ?_
      exact ⟨hx.trans hx2, .inl rfl⟩
    · refine Cm.f (by omega) ?_
      refine Wr.n (k + 1) (by simp) (by omega) ?_
      refine ⟨(k + 1, m2), ⟨rfl, rfl, rfl, trivial⟩, ⟨hx.trans hx2, hlt, ?_⟩, by simp; omega⟩
      simp only [szB_take ht]
      omega
  · have : k = xs.length := by omega
    subst this
    rw [List.take_length] at hn
    exact ⟨hx, .inr ⟨m, rfl, by omega⟩⟩

/-- laws.toBinding -/
theorem c_toBinding {x : Bi} (hs : Rose.cnt x.2.kids ≤ 4294967296) {w : World} {v : Value} {bs : List Nat} (hk : Kids encT w v x.2.kids bs) :
    Ret Try.prog 53 [.agg #[.string x.1, .int .i64 x.2.lab.1, .string x.2.lab.2, v]] w fun r w' => Ext w w' ∧ ∃ v' cs, r = .agg #[.string x.1, .int .i64 x.2.lab.1, .string x.2.lab.2, v'] ∧ Kids encT w' v' x.2.kids cs ∧ Fresh w.heap.size w' cs := by
  refine ret_of_vc ttOkB Try.func53 rfl (by kernel_rfl) (by kernel_rfl) ?_
  refine Go1.bx ?_
  intro w1 hx1 hb1
  refine Go1.al tiBd ?_
  intro w2 hx2 hb2
  refine Go1.al tiBd ?_
  intro w3 hx3 hb3
  refine Go1.fl 0 (Ld.one ((hb1.ext hx2).ext hx3).at0 ?_)
  refine Go1.fl 0 ?_
  refine Go0.st (off := 0) (vs := [.string x.1]) hb3 (by rw [Addr.add_lit]) rfl (by simp [Value.cells]) (by simp [Value.oneCell']) ?_
  intro w4 hx4 hb4 hs4
  have hb4 : Blk w4 w2.heap.size 72 [.string x.1, .int .i64 0, .string ⟨#[]⟩, .slice none 0 0] := hb4
  have lt1 := hb1.lt
  have lt2 := hb2.lt
  have sz1 := hx1.size
  have sz2 := hx2.size
  have sz3 := hx3.size
  have hb14 : Blk w4 w.heap.size _ _ := ((hb1.ext hx2).ext hx3).chg hx4 (by omega)
  have hb24 : Blk w4 w1.heap.size _ _ := (hb2.ext hx3).chg hx4 (by omega)
  have hx04 : Ext w w4 := ((hx1.trans hx2).trans hx3).chg hx4 (by omega)
  refine Go1.fl 1 (Ld.agg (vs := [.int .i64 x.2.lab.1, .string x.2.lab.2, v]) (Blk.lc1 hb14) ?_)
  refine (c_toType hs (hk.ext hx04)).mono ?_
  rintro r w5 ⟨hx5, v5, cs, rfl, hk5, hf5⟩
  obtain ⟨ao, cap, rfl, _, _⟩ := hk5.form
  refine Go1.fl 1 ?_
  have lt3 := hb3.lt
  have sz5 := hx5.size
  refine Go0.st (off := 1) (vs := [.int .i64 x.2.lab.1, .string x.2.lab.2, .slice ao x.2.kids.length cap]) (hb4.ext hx5) (by rw [Addr.add_lit]) rfl (by simp) (by simp [Value.oneCell']) ?_
  intro w6 hx6 hb6 hs6
  have hb6' : Blk w6 w2.heap.size 72 [.string x.1, .int .i64 x.2.lab.1, .string x.2.lab.2, .slice ao x.2.kids.length cap] := hb6
  refine Ld.agg (vs := [.string x.1, .int .i64 x.2.lab.1, .string x.2.lab.2, .slice ao x.2.kids.length cap]) (Blk.lc0 (post := []) hb6') ?_
  refine Go0.st (off := 0) (vs := [.string x.1, .int .i64 x.2.lab.1, .string x.2.lab.2, .slice ao x.2.kids.length cap]) ((hb24.ext hx5).chg hx6 (by omega)) rfl rfl (by simp [Value.cells]) (by simp [Value.oneCell']) ?_
  intro w7 hx7 hb7 hs7
  have hb7' : Blk w7 w1.heap.size 72 [.string x.1, .int .i64 x.2.lab.1, .string x.2.lab.2, .slice ao x.2.kids.length cap] := hb7
  refine Ld.agg (vs := [.string x.1, .int .i64 x.2.lab.1, .string x.2.lab.2, .slice ao x.2.kids.length cap]) (Blk.lc0 (post := []) hb7') ?_
  have hn6 : ∀ b ∈ cs, ¬ b = w2.heap.size := fun b hb => by have := hf5.lo b hb; omega
  have hn7 : ∀ b ∈ cs, ¬ b = w1.heap.size := fun b hb => by have := hf5.lo b hb; omega
  refine ⟨((hx04.trans hx5).chg hx6 (by omega)).chg hx7 (by omega), _, cs, rfl, (hk5.chg hx6 hn6).chg hx7 hn7, ((hf5.chg hx6 hn6).chg hx7 hn7).mono (by omega)⟩

/-- laws.toBindingS -/
theorem c_toBindingS {xs : List Bi} {w : World} {v : Value} {bs : List Nat} (hk : Bds w v xs bs) (hs : cntB xs ≤ 4294967296) : Ret Try.prog 12 [v] w (NewBds w xs) := by
  obtain ⟨ao, cap, rfl, hm, hcap⟩ := hk.form
  have hlen : xs.length ≤ 4294967296 := Nat.le_trans (cntB_length _) hs
  refine ret_of_vc ttOkB Try.func12 rfl (by kernel_rfl) (by kernel_rfl) ?_
  refine Go1.make 72 Try.underlying28 tiBd rfl (by omega) hm ?_
  intro w1 hx1 hb1
  refine Lp.go ttOkB (by kernel_rfl) (fun k : Nat => [(0, .slice ao xs.length cap), (3, .slice (some ⟨w.heap.size, 0, none⟩) xs.length xs.length), (4, .int .i64 k)])
    (fun k w' => Ext w w' ∧ k ≤ xs.length ∧ ∃ vs cs, BdL w' vs (xs.take k) cs ∧ Fresh (w.heap.size + 1) w' cs ∧ Blk w' w.heap.size 72 (flB (xs.take k) vs ++ zeros [.string ⟨#[]⟩, .int .i64 0, .string ⟨#[]⟩, .slice none 0 0] (xs.length - k))) (fun k => xs.length - k) 0
    ⟨rfl, rfl, rfl, trivial⟩ ⟨hx1, Nat.zero_le _, [], [], rfl, Fresh.nil _ _, by simpa [flB, Value.cells] using hb1⟩ ?_
  rintro k w' ⟨hx, hkl, vs, cs, hkl1, hf, hb⟩
  refine Cm.s (fun hlt => ?_) (fun hge => ?_)
  · have hlt : k < xs.length := by omega
    obtain ⟨a, x, v1, b1, rfl, ht, hc, hk1, _⟩ := hk.get hlt
    have htm : x ∈ xs := List.mem_of_getElem? ht
    have hcnt := cntB_take_le ht
    refine Go1.ix 4 hlt ?_
    refine Ld.agg (vs := encB x ++ [v1]) (hc.chg hx (.inr id)) ?_
    refine (c_toBinding (by omega) (hk1.ext hx)).mono ?_
    rintro r w2 ⟨hx2, v2, b2, rfl, hk2, hf2⟩
    refine Go1.ix 4 hlt ?_
    obtain ⟨ao2, cap2, rfl, _, _⟩ := hk2.form
    have hvl : vs.length = (xs.take k).length := hkl1.length
    have hfl := length_flB hvl
    have htk : (xs.take k).length = k := by simp; omega
    rw [htk] at hfl
    have lt0 := hb.lt
    refine Go0.st (off := k * 4) (vs := [.string x.1, .int .i64 x.2.lab.1, .string x.2.lab.2, .slice ao2 x.2.kids.length cap2]) (hb.ext hx2) (by rw [Addr.add_lit]; simp) rfl (by simp [length_zeros, hfl]; omega) (by simp [Value.oneCell']) ?_
    intro w3 hx3 hb3 hs3
    refine Wr.n (k + 1) (by omega) (by omega) ?_
    have hn1 : ∀ b ∈ cs, ¬ b = w.heap.size := fun b hb => by have := hf.lo b hb; omega
    have hn2 : ∀ b ∈ b2, ¬ b = w.heap.size := fun b hb => by have := hf2.lo b hb; omega
    refine ⟨k + 1, ⟨rfl, rfl, rfl, trivial⟩, ⟨(hx.trans hx2).chg hx3 (by omega), hlt, vs ++ [.slice ao2 x.2.kids.length cap2], cs ++ b2, ?_, ?_, ?_⟩, by omega⟩
    · rw [take_succ_get ht]
      exact BdL.snoc (hk2.chg hx3 hn2) (((hkl1.chg hx2 fun _ _ => id)).chg hx3 hn1)
    · exact ((hf.ext hx2).chg hx3 hn1).append (hf2.chg hx3 hn2) (by omega) hf.lt
    · rw [take_succ_get ht, flB_snoc hvl]
      rw [spl_app _ _ _ hfl.symm] at hb3
      have : (zeros [.string ⟨#[]⟩, .int .i64 0, .string ⟨#[]⟩, .slice none 0 0] (xs.length - k)).drop 4 = zeros [.string ⟨#[]⟩, .int .i64 0, .string ⟨#[]⟩, .slice none 0 0] (xs.length - (k + 1)) := by
        rw [show xs.length - k = (xs.length - (k + 1)) + 1 by omega]
        simp [zeros, List.replicate_succ]
      simp only [List.length_cons, List.length_nil, Nat.reduceAdd, this] at hb3
      exact hb3
  · have : k = xs.length := by omega
    subst this
    rw [List.take_length] at hkl1 hb
    obtain ⟨cs', h1, h2⟩ := Bds.of_blk (cap := xs.length) hb hkl1 rfl ⟨hm, Nat.le_refl _⟩
    refine ⟨hx, cs', h1, Fresh.sub (Fresh.cons hb (Nat.le_refl _) (hf.mono (by omega)) (fun hh => by have := hf.lo _ hh; omega)) h2⟩

theorem Bi.ext {x y : Bi} (h0 : x.1 = y.1) (h1 : x.2.lab = y.2.lab) (h2 : x.2.kids = y.2.kids) : x = y := Prod.ext h0 (Rose.ext h1 h2)
/-- laws.eqBinding -/
theorem c_eqBinding {x y : Bi} {w : World} {v u : Value} {bs cs : List Nat} (hk : Kids encT w v x.2.kids bs) (gk : Kids encT w u y.2.kids cs) :
    Ret Try.prog 54 [.agg #[.string x.1, .int .i64 x.2.lab.1, .string x.2.lab.2, v], .agg #[.string y.1, .int .i64 y.2.lab.1, .string y.2.lab.2, u]] w fun r w' => Says (x = y) r ∧ Ext w w' := by
  refine ret_of_vc ttOkB Try.func54 rfl (by kernel_rfl) (by kernel_rfl) ?_
  refine Go1.bx ?_
  intro w1 hx1 hb1
  refine Go1.bx ?_
  intro w2 hx2 hb2
  have hx02 := hx1.trans hx2
  have hb1 := hb1.ext hx2
  refine Go1.fl 0 (Ld.one hb1.at0 ?_)
  refine Go1.fl 0 (Ld.one hb2.at0 ?_)
  refine Cm.ns (fun hne => ?_) (fun he => ?_)
  · exact ⟨Says.f (fun e => hne (by rw [e])), hx02⟩
  refine Go1.fl 1 (Ld.agg (vs := [.int .i64 x.2.lab.1, .string x.2.lab.2, v]) (Blk.lc1 hb1) ?_)
  refine Go1.fl 1 (Ld.agg (vs := [.int .i64 y.2.lab.1, .string y.2.lab.2, u]) (Blk.lc1 hb2) ?_)
  refine (c_eqType (hk.ext hx02) (gk.ext hx02)).mono ?_
  rintro r w3 ⟨⟨b, rfl, hb⟩, hx3⟩
  cases b
  · exact ⟨Says.f (fun e => by subst e; simpa using hb.2 ⟨rfl, rfl⟩), hx02.trans hx3⟩
  · exact ⟨Says.t (Bi.ext he (hb.1 rfl).1 (hb.1 rfl).2), hx02.trans hx3⟩

/-- laws.eqBindingS -/
theorem c_eqBindingS {xs ys : List Bi} {w : World} {v u : Value} {bs cs : List Nat} (hk : Bds w v xs bs) (gk : Bds w u ys cs) :
    Ret Try.prog 16 [v, u] w fun r w' => Says (xs = ys) r ∧ Ext w w' := by
  obtain ⟨ao, cap, rfl, hm, hcap⟩ := hk.form
  obtain ⟨ao2, cap2, rfl, hm2, hcap2⟩ := gk.form
  refine ret_of_vc ttOkB Try.func16 rfl (by kernel_rfl) (by kernel_rfl) ?_
  refine Cm.ns (fun hne => ?_) (fun he => ?_)
  · exact ⟨Says.f (fun e => hne (by rw [e])), Chg.refl _ _⟩
  · have hlen : xs.length = ys.length := by omega
    refine Lp.go ttOkB (by kernel_rfl) (fun k : Nat => [(0, .slice ao xs.length cap), (1, .slice ao2 ys.length cap2), (5, .int .i64 k)]) (fun k w' => Ext w w' ∧ k ≤ xs.length ∧ xs.take k = ys.take k) (fun k => xs.length - k) 0
      ⟨rfl, rfl, rfl, trivial⟩ ⟨Chg.refl _ _, Nat.zero_le _, rfl⟩ ?_
    rintro k w1 ⟨hx, hk1, hn⟩
    refine Cm.s (fun hlt => ?_) (fun hge => ?_)
    · have hlt : k < xs.length := by omega
      have hlt2 : k < ys.length := by omega
      obtain ⟨a, x, v1, b1, rfl, ht, hc, hkt, _⟩ := hk.get hlt
      obtain ⟨a2, y, u1, c1, rfl, ht2, hc2, gkt, _⟩ := gk.get hlt2
      refine Dr.x [0, 1, 2, 3, 4, 5, 6, 7, 8, 9] ttOkB ?_
      refine GoS.ix 4 hlt (LdS.xn (vs := encB x ++ [v1]) (hc.chg hx (.inr id)) ?_)
      refine GoS.ix 4 hlt2 (LdS.xn (vs := encB y ++ [u1]) (hc2.chg hx (.inr id)) ?_)
      refine ⟨fun w2 hw2 => ?_⟩
      refine (c_eqBinding ((hkt.ext hx).ext hw2) ((gkt.ext hx).ext hw2)).mono ?_
      rintro r w3 ⟨⟨b, rfl, hb⟩, hx3⟩
      refine Af.ext (hw2.trans hx3) ?_
      intro w4 hw4
      have hx4 := ((hx.trans hw2).trans hx3).trans hw4
      cases b
      · exact ⟨Says.f (take_succ_ne ht ht2 fun e => by simpa using hb.2 e), hx4⟩
      · refine Wr.n (k + 1) (by omega) (by omega) ?_
        refine ⟨k + 1, ⟨rfl, rfl, rfl, trivial⟩, ⟨hx4, hlt, ?_⟩, by omega⟩
        rw [take_succ_get ht, take_succ_get ht2, hn, hb.1 rfl]
    · have : k = xs.length := by omega
      subst this
      rw [List.take_length, hlen, List.take_length] at hn
      exact ⟨Says.t hn, hx⟩
end Go.Proofs.Ytkpdkemkfgcamaa
