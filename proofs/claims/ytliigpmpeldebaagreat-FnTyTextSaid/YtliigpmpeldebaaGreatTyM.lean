/- Contracts: SExprToType. Conditions: none. -/
import Derived.Test.YtliigpmpeldebaaGreatTyL
import Derived.Test.YtliigpmpeldebaaGreatTyB
import Derived.Test.YtliigpmpeldebaaGreatSxB
import Derived.Test.YtliigpmpeldebaaGreatMark
import Derived.Shelf.Small.Wraps
namespace Go.Proofs.YtliigpmpeldebaaGreat
open Go.RowKit

theorem run_from {P : Program} {t e : TypeId} (ht : P.underlying t = some (.slice e)) {z : Value} {size bytes : Nat} (hi : TyI P e z size bytes) {ao : Option Addr} {n cap k : Nat} (hk : k ≤ n) (hn : n ≤ cap) {kd : IntKind} (w : World) :
    (Instr.sliceAt t (.slice ao n cap) (some (.int kd (k : Int))) none none).run P w = .ok (.slice (if cap = k then ao else ao.map (·.add (k * size))) (n - k) (cap - k)) w := by
  obtain ⟨i, h1, _, h3, _⟩ := hi.h
  have : (0 : Int) ≤ (k : Int) ∧ (k : Int) ≤ (n : Int) := by omega
  simp [Instr.sliceAt, Instr.slice, run_underlying ht, Instr.sliceBounds, Instr.sliceBound, asIntOf, sizeOf, typeInfo, h1, hk, h3]
theorem tl_ex (s : ByteArray) : s.extract 1 s.size = tl s := by
  apply ByteArray.ext
  unfold tl tb
  rw [ByteArray.data_extract]
  apply Array.ext'
  simp
  rw [show s.size = s.data.toList.length from rfl]
  rw [← List.length_drop, List.drop_one, List.take_length]
theorem run_fromS {P : Program} {t : TypeId} (ht : P.underlying t = some .string) {s : ByteArray} (hk : 1 ≤ s.size) {kd : IntKind} (w : World) :
    (Instr.sliceAt t (.string s) (some (.int kd (1 : Int))) none none).run P w = .ok (.string (tl s)) w := by
  have : (1 : Int) ≤ (s.size : Int) := by omega
  rw [← tl_ex]
  simp [Instr.sliceAt, Instr.slice, run_underlying ht, Instr.sliceBounds, Instr.sliceBound, asIntOf, this]

theorem ne_size {s : ByteArray} (h : s ≠ em) : 1 ≤ s.size := by
  rcases Nat.eq_zero_or_pos s.size with h0 | h0
  · exact absurd (ByteArray.ext (Array.eq_empty_of_size_eq_zero h0)) h
  · exact h0
theorem quo_0 {s : ByteArray} (h : 0 < s.size) : quo s = decide (s[0].toNat = 39) := by
  unfold quo
  cases hd : s.data.toList with
  | nil =>
    have : s.data.toList.length = s.size := rfl
    rw [hd] at this
    simp at this
    omega
  | cons b r =>
    have h6 : s.data.toList[0]? = some b := by rw [hd]; rfl
    have h7 : s.data[0]? = some b := by rw [← h6]; simp
    obtain ⟨_, h8⟩ := Array.getElem?_eq_some_iff.1 h7
    have hb : s[0] = b := h8
    rw [hb]
    simp only [decide_eq_decide]
    constructor
    · rintro rfl; rfl
    · intro h; exact UInt8.toNat_inj.1 h

theorem Kids.drop {α : Type} {enc : α → List Value} {w : World} {sz : Nat} (hsz : ∀ l, (enc l).length + 1 = sz) {ao : Option Addr} {n cap : Nat} {ks : List (Rose α)} {bs : List Nat} (h : Kids enc w (.slice ao n cap) ks bs) {k : Nat} (hk : k ≤ n) :
    ∃ ds, Kids enc w (.slice (if cap = k then ao else ao.map (·.add (k * sz))) (n - k) (cap - k)) (ks.drop k) ds ∧ ds.Sublist bs := by
  obtain ⟨ao', cap', h1, hm, h2⟩ := h
  simp only [Value.slice.injEq] at h1
  obtain ⟨rfl, rfl, rfl⟩ := h1
  by_cases hd : ks.drop k = []
  · have : ks.length - k = 0 := by rw [← List.length_drop, hd]; rfl
    rw [hd, this]
    exact ⟨[], Kids.nil, by simp⟩
  · have hlt : k < ks.length := by
      rcases Nat.lt_or_ge k ks.length with h | h
      · exact h
      · exact absurd (List.drop_eq_nil_of_le h) hd
    rcases h2 with ⟨rfl, _⟩ | ⟨a, bs', h3, rfl, rfl, hnl⟩
    · simp at hlt
    · have hx : ks = ks.take k ++ ks[k] :: ks.drop (k + 1) := by rw [← List.drop_eq_getElem_cons hlt, List.take_append_drop]
      have hnl2 := hnl
      rw [hx] at hnl2
      obtain ⟨b1, b2, b3, rfl, _, h4, h5⟩ := (NL.split hsz).1 hnl2
      have hl : (ks.take k).length = k := by simp; omega
      rw [hl] at h4 h5
      rw [if_neg (by omega)]
      refine ⟨(a.add (k * sz)).block :: (b2 ++ b3), ⟨_, _, by rw [List.length_drop]; rfl, by rw [List.length_drop]; omega, .inr ⟨_, _, hd, rfl, rfl, ?_⟩⟩, ?_⟩
      · rw [List.drop_eq_getElem_cons hlt]
        refine ⟨b2, b3, rfl, h4, ?_⟩
        rw [hsz, Go.Deep.add_add, show k * sz + sz = (k + 1) * sz by rw [Nat.add_mul, Nat.one_mul]]
        exact h5
      · have : (a.add (k * sz)).block = a.block := by unfold Addr.add; split <;> rfl
        rw [this]
        exact List.Sublist.cons_cons _ (List.sublist_append_right _ _)

theorem labAt_get {ks : List Sx} {i : Nat} {t : Sx} (h : ks[i]? = some t) : labAt ks i = t.lab := by unfold labAt; rw [h]
theorem deSL_step {ks : List Sx} {k : Nat} {t : Sx} (hk : 1 ≤ k) (h : ks[k]? = some t) : (deSL (ks.take (k + 1))).drop 1 = (deSL (ks.take k)).drop 1 ++ [deS t] := by
  rw [deSL_map, deSL_map, take_succ_get h, List.map_append, List.drop_append_of_le_length]
  · rfl
  · have := (List.getElem?_eq_some_iff.1 h).1
    simp
    omega

/-- spec.l4Var -/
theorem c_l4Var (s : ByteArray) {w : World} : Ret Tryz.prog 63 [.string s] w (NewTy w (1, s) []) := by
  refine ret_of_vc ttOk Tryz.func63 rfl (by kernel_rfl) (by kernel_rfl) ?_
  refine Go1.al tiTy ?_
  intro w1 hx1 hb1
  have lt1 := hb1.lt
  refine Go1.bd [.int .i64 1, .string s, .slice none 0 0] ?_
  refine Go0.st (off := 0) (vs := [.int .i64 1, .string s, .slice none 0 0]) hb1 rfl rfl (by simp [Value.cells]) (by simp [Value.oneCell']) ?_
  intro w2 hx2 hb2 _
  have hb2 : Blk w2 w.heap.size 26 [.int .i64 1, .string s, .slice none 0 0] := hb2
  refine Ld.agg (vs := [.int .i64 1, .string s, .slice none 0 0]) (Blk.lc0 (post := []) hb2) ?_
  exact ⟨hx1.chg hx2 (by omega), _, [], rfl, Kids.nil, Fresh.nil _ _⟩
/-- spec.l4Con of nothing -/
theorem c_l4Con0 (s : ByteArray) {w : World} : Ret Tryz.prog 42 [.string s, .slice none 0 0] w (NewTy w (2, s) []) := by
  refine ret_of_vc ttOk Tryz.func42 rfl (by kernel_rfl) (by kernel_rfl) ?_
  refine Go1.al tiTy ?_
  intro w1 hx1 hb1
  have lt1 := hb1.lt
  have sz1 := hx1.size
  refine Go1.b0 26 (size := 3) (bytes := 48) Tryz.underlying24 tiTy ?_
  intro w2 u hx2 hg2 hu
  subst hu
  obtain ⟨i, i1, _⟩ := tiTy.h
  refine Go1.go (run_app_none' Tryz.underlying24 i1 hg2) ?_
  refine Go1.bd [.int .i64 2, .string s, .slice (some ⟨w1.heap.size, 0, none⟩) 0 0] ?_
  refine Go0.st (off := 0) (vs := [.int .i64 2, .string s, .slice (some ⟨w1.heap.size, 0, none⟩) 0 0]) (hb1.ext hx2) rfl rfl (by simp [Value.cells]) (by simp [Value.oneCell']) ?_
  intro w3 hx3 hb3 _
  have hb3 : Blk w3 w.heap.size 26 [.int .i64 2, .string s, .slice (some ⟨w1.heap.size, 0, none⟩) 0 0] := hb3
  refine Ld.agg (vs := [.int .i64 2, .string s, .slice (some ⟨w1.heap.size, 0, none⟩) 0 0]) (Blk.lc0 (post := []) hb3) ?_
  exact ⟨(hx1.trans hx2).chg hx3 (by omega), _, [], rfl, Kids.nil, Fresh.nil _ _⟩

def DeSaid (ks : List Sx) : Prop := ∀ (l : ByteArray) (w : World) (v : Value) (bs : List Nat), Rose.cnt ks ≤ 4294967296 → Kids encS w v ks bs →
    Ret Tryz.prog 31 [.agg #[.string l, v]] w (NewTy w (deS (.mk l ks)).lab (deS (.mk l ks)).kids)

set_option maxHeartbeats 1000000 in
/-- spec.l5Ty -/
theorem c_l5Ty (ks : List Sx) : DeSaid ks := by
  refine Rose.forest (fun ks ih => ?_) ks
  intro l w v bs hs hk
  obtain ⟨ao, cap, rfl, hm, hcap⟩ := hk.form
  have hM : maxLen = 9223372036854775807 := rfl
  have hlen : ks.length ≤ 4294967296 := Nat.le_trans (Rose.wtL_length _ _) hs
  refine ret_of_vc ttOk Tryz.func31 rfl (by kernel_rfl) (by kernel_rfl) ?_
  refine Go1.bx ?_
  intro w1 hx1 hb1
  refine Go1.al tiTy ?_
  intro w2 hx2 hb2
  have hx02 := hx1.trans hx2
  have hb12 := hb1.ext hx2
  have lt1 := hb1.lt
  have lt2 := hb2.lt
  have sz1 := hx1.size
  have sz2 := hx2.size
  refine Go1.fl 0 (Ld.one hb12.at0 ?_)
  refine Cm.ns (fun hne => ?_) (fun he => ?_)
  · have h1 := ne_size hne
    refine Go1.fl 0 (Ld.one hb12.at0 ?_)
    refine Go1.ixS (j := 0) h1 ?_
    have hq := quo_0 h1
    refine Cm.s (fun h39 => ?_) (fun h39 => ?_)
    · have hd : deS (.mk l ks) = .mk (1, tl l) [] := by rw [deS_eq, if_pos hne, hq, if_pos (by simp; omega)]
      rw [hd]
      refine Go1.fl 0 (Ld.one hb12.at0 ?_)
      refine Go1.go (run_fromS Tryz.underlying9 h1 _) ?_
      refine (c_l4Var _).mono ?_
      rintro _ w3 ⟨hx3, v3, c3, rfl, hk3, hf3⟩
      obtain ⟨ao3, cap3, rfl, _, _⟩ := hk3.form
      have sz3 := hx3.size
      refine Go0.st (off := 0) (vs := [.int .i64 1, .string (tl l), .slice ao3 0 cap3]) (hb2.ext hx3) rfl rfl (by simp [Value.cells]) (by simp [Value.oneCell']) ?_
      intro wz hcz hbz _
      have hbz : Blk wz w1.heap.size 26 [.int .i64 1, .string (tl l), .slice ao3 0 cap3] := hbz
      refine Ld.agg (vs := [.int .i64 1, .string (tl l), .slice ao3 0 cap3]) (Blk.lc0 (post := []) hbz) ?_
      exact ⟨(hx02.trans hx3).chg hcz (by omega), _, [], rfl, Kids.nil, Fresh.nil _ _⟩
    · have hd : deS (.mk l ks) = .mk (2, l) [] := by rw [deS_eq, if_pos hne, hq, if_neg (by simp; omega)]
      rw [hd]
      refine Go1.fl 0 (Ld.one hb12.at0 ?_)
      refine (c_l4Con0 _).mono ?_
      rintro _ w3 ⟨hx3, v3, c3, rfl, hk3, hf3⟩
      obtain ⟨ao3, cap3, rfl, _, _⟩ := hk3.form
      have sz3 := hx3.size
      refine Go0.st (off := 0) (vs := [.int .i64 2, .string l, .slice ao3 0 cap3]) (hb2.ext hx3) rfl rfl (by simp [Value.cells]) (by simp [Value.oneCell']) ?_
      intro wz hcz hbz _
      have hbz : Blk wz w1.heap.size 26 [.int .i64 2, .string l, .slice ao3 0 cap3] := hbz
      refine Ld.agg (vs := [.int .i64 2, .string l, .slice ao3 0 cap3]) (Blk.lc0 (post := []) hbz) ?_
      exact ⟨(hx02.trans (hx3)).chg hcz (by omega), _, [], rfl, Kids.nil, Fresh.nil _ _⟩
  refine Go1.fl 1 (Ld.one hb12.at1 ?_)
  refine Cm.s (fun hl2 => ?_) (fun hl2 => ?_)
  · have hd : deS (.mk l ks) = .mk (0, em) [] := by rw [deS_eq, if_neg (by simp [he]), if_pos (by omega)]
    rw [hd]
    refine Go1.bd [.int .i64 0, .string em, .slice none 0 0] ?_
    refine Go0.st (off := 0) (vs := [.int .i64 0, .string em, .slice none 0 0]) (hb2) rfl rfl (by simp [Value.cells]) (by simp [Value.oneCell']) ?_
    intro wz hcz hbz _
    have hbz : Blk wz w1.heap.size 26 [.int .i64 0, .string em, .slice none 0 0] := hbz
    refine Ld.agg (vs := [.int .i64 0, .string em, .slice none 0 0]) (Blk.lc0 (post := []) hbz) ?_
    exact ⟨(hx02.trans (Chg.refl _ _)).chg hcz (by omega), _, [], rfl, Kids.nil, Fresh.nil _ _⟩
  have hge2 : ¬ ks.length < 2 := by omega
  have hlt0 : 0 < ks.length := by omega
  have hlt1 : 1 < ks.length := by omega
  obtain ⟨a, t0, v0, b0, rfl, ht0, hc0, _, _⟩ := (hk.ext hx02).get encS_sz hlt0
  obtain ⟨a', t1, v1, b1, ha', ht1, hc1, _, _⟩ := (hk.ext hx02).get encS_sz hlt1
  obtain rfl : a = a' := by simpa using ha'
  have hl0 := labAt_get ht0
  have hl1 := labAt_get ht1
  refine Go1.fl 1 (Ld.one hb12.at1 ?_)
  refine Go1.ix 2 (j := 0) hlt0 (Go1.fl 0 (Ld.one (hc0 0 _ rfl) ?_))
  refine Go1.b0 26 (size := 3) (bytes := 48) Tryz.underlying24 tiTy ?_
  intro w3 u hx3 hg3 hu
  subst hu
  refine Lp.go ttOk (by kernel_rfl) (fun b : Nat × Value => [(1, .pointer (some ⟨w.heap.size, 0, none⟩)), (2, .pointer (some ⟨w1.heap.size, 0, none⟩)), (3, .string t0.lab), (4, b.2), (5, .int .i64 b.1)])
    (fun b w' => Ext w2 w' ∧ 1 ≤ b.1 ∧ b.1 ≤ ks.length ∧ ∃ O cs, GrowT encT 26 3 w2.heap.size w' b.2 ((deSL (ks.take b.1)).drop 1) O cs) (fun b => ks.length - b.1) (1, .slice (some ⟨w2.heap.size, 0, none⟩) 0 0)
    ⟨rfl, rfl, rfl, rfl, rfl, trivial⟩ ⟨hx3, Nat.le_refl _, by omega, [w2.heap.size], [], by
      have : (deSL (ks.take 1)).drop 1 = [] := by rw [deSL_map]; apply List.eq_nil_of_length_eq_zero; simp
      simp only [this]
      exact GrowT.of_nil hg3 (by simp)⟩ ?_
  rintro ⟨k, r⟩ w4 ⟨hx4, hk1, hk4, O, cs, hg⟩
  simp only at hk1 hk4 hg
  have sz4 := hx4.size
  have hlk : ((deSL (ks.take k)).drop 1).length ≤ ks.length := by rw [deSL_map]; simp; omega
  have hb14 := hb12.ext hx4
  refine Go1.fl 1 (Ld.one hb14.at1 ?_)
  refine Cm.s (fun hlt => ?_) (fun hge => ?_)
  · have hlt : k < ks.length := by have : (k : Int) < ks.length := hlt; omega
    obtain ⟨a2, t, v2, b2, ha2, ht, hc, hkt, _⟩ := (hk.ext (hx02.trans hx4)).get encS_sz hlt
    obtain rfl : a = a2 := by simpa using ha2
    have htm := List.mem_of_getElem? ht
    have hcm := Rose.cnt_mem htm
    refine Go1.fl 1 (Ld.one hb14.at1 ?_)
    refine Go1.ix 2 hlt (Ld.agg hc ?_)
    refine (ih t htm t.lab w4 v2 b2 (by omega) hkt).mono ?_
    rw [t.eta]
    have hstep := deSL_step hk1 ht
    generalize deS t = T at hstep ⊢
    rintro _ w5 ⟨hx5, v5, c5, rfl, hk5, hf5⟩
    obtain ⟨ao5, cap5, rfl, _, _⟩ := hk5.form
    refine Go1.bs 26 [.int .i64 T.lab.1, .string T.lab.2, .slice ao5 T.kids.length cap5] (size := 3) (bytes := 48) Tryz.underlying24 tiTy (by decide) (by decide) (by kernel_rfl) ?_
    intro w6 hx6 hb6
    have hxT := hx5.trans hx6
    obtain ⟨vsT, hgrT, hklT, hfrT⟩ := hg
    refine Go1.app (size := 3) (bytes := 48) Tryz.underlying24 tiTy (by rfl) (by decide) (hgrT.ext hxT) (m := 1) (news := [.int .i64 T.lab.1, .string T.lab.2, .slice ao5 T.kids.length cap5]) (Blk.lc0 (post := []) hb6) (by simp) (by simp [Value.oneCell']) (by omega) (by decide) ?_
    intro r7 w7 O7 hc7 hg7 hO7
    have hgF := GrowT.snoc (t := T) (v := .slice ao5 T.kids.length cap5) hxT hklT hfrT (hk5.ext hx6) (hf5.ext hx6) (Nat.le_refl _) hc7 hg7 hO7 sz4
    rw [← hstep] at hgF
    refine Wr.n (k + 1) (by simp) (by omega) ?_
    exact ⟨(k + 1, r7), ⟨rfl, rfl, rfl, rfl, rfl, trivial⟩, ⟨Chg.big (hx4.trans hxT) hc7 (fun b hb => hfrT.lo b (List.mem_append_left _ hb)), by simp, hlt, O7, _, hgF⟩, by simp; omega⟩
  have hke : k = ks.length := by have : ¬ (k : Int) < ks.length := hge; omega
  subst hke
  rw [List.take_length] at hg hlk
  obtain ⟨dz, hkz, hfz⟩ := hg.kids (by omega)
  obtain ⟨aoz, capz, rfl, _, hcz0⟩ := hkz.form
  have hb24 := hb2.ext hx4
  have hc14 : w4.cell? ((a.add (1 * 2)).add 0) = some (.string t1.lab) := hx4.cell (hc1 0 _ rfl)
  have hdz : ((deSL ks).drop 1).length = ks.length - 1 := by rw [deSL_map]; simp
  have hA0 : t0.lab = sAssoc → ¬ t0.lab = sDyn := fun h e => by rw [h] at e; exact absurd e (by decide)
  refine Cm.s (fun hA => Cm.s (fun hA2 => Go1.fl 1 (Ld.one hb14.at1 (Go1.ix 2 (j := 1) hlt1 (Go1.fl 0 (Ld.one hc14 (Cm.ns (fun hA3 => ?_) (fun hA3 => ?_))))))) (fun hA2 => ?_)) (fun hA => ?_)
  · have hd : deS (.mk l ks) = .mk (3, t1.lab) (((deSL ks).drop 1).drop 1) := by rw [deS_eq, if_neg (by simp [he]), if_neg hge2, if_pos ⟨by rw [hl0]; exact hA, by omega, by rw [hl1]; exact hA3⟩, hl1]
    rw [hd]
    obtain ⟨dz', hkd, hsub⟩ := hkz.drop encT_sz (k := 1) (by omega)
    have hfd := hfz.sub hsub
    clear hkz hfz
    refine Dr.x [0, 1, 2, 3, 4, 5, 6, 7, 8] ttOk ?_
    refine GoS.fl 1 (LdS.x1 hb14.at1 ?_)
    refine GoS.ix 2 (j := 1) hlt1 (GoS.fl 0 (LdS.x1 hc14 ?_))
    refine GoS.of1 (run_from (k := 1) Tryz.underlying24 tiTy (by omega) hcz0) ?_
    obtain ⟨aoy, capy, hey, _, _⟩ := hkd.form
    rw [hey] at hkd ⊢
    refine GoS.bd [.int .i64 3, .string t1.lab, .slice aoy (((deSL ks).drop 1).drop 1).length capy] ?_
    refine ⟨fun wy hxy => ?_⟩
    have szy := hxy.size
    refine Go0.st (off := 0) (vs := [.int .i64 3, .string t1.lab, .slice aoy (((deSL ks).drop 1).drop 1).length capy]) (hb24.ext hxy) rfl rfl (by simp [Value.cells]) (by simp [Value.oneCell']) ?_
    intro wz hcz hbz _
    have hbz : Blk wz w1.heap.size 26 [.int .i64 3, .string t1.lab, .slice aoy (((deSL ks).drop 1).drop 1).length capy] := hbz
    refine Af.nw ?_
    intro wx hxx
    refine Ld.agg (vs := [.int .i64 3, .string t1.lab, .slice aoy (((deSL ks).drop 1).drop 1).length capy]) (Blk.lc0 (post := []) (hbz.ext hxx)) ?_
    have hnz : ∀ b ∈ dz', ¬ b = w1.heap.size := fun b hb => by have := hfd.lo b hb; omega
    exact ⟨(((hx02.trans hx4).trans hxy).chg hcz (by omega)).trans hxx, _, dz', rfl, ((hkd.ext hxy).chg hcz hnz).ext hxx, (((hfd.ext hxy).chg hcz hnz).ext hxx).mono (by omega)⟩
  · refine Cm.f (hA0 hA) ?_
    have hd : deS (.mk l ks) = .mk (2, t0.lab) ((deSL ks).drop 1) := by rw [deS_eq, if_neg (by simp [he]), if_neg hge2, if_neg (fun h => h.2.2 (by rw [hl1]; exact hA3)), if_neg (fun h => hA0 hA (by rw [← hl0]; exact h.1)), hl0]
    rw [hd]
    refine Go1.bd [.int .i64 2, .string t0.lab, .slice aoz ((deSL ks).drop 1).length capz] ?_
    refine Go0.st (off := 0) (vs := [.int .i64 2, .string t0.lab, .slice aoz ((deSL ks).drop 1).length capz]) (hb24) rfl rfl (by simp [Value.cells]) (by simp [Value.oneCell']) ?_
    intro wz hcz hbz _
    have hbz : Blk wz w1.heap.size 26 [.int .i64 2, .string t0.lab, .slice aoz ((deSL ks).drop 1).length capz] := hbz
    refine Ld.agg (vs := [.int .i64 2, .string t0.lab, .slice aoz ((deSL ks).drop 1).length capz]) (Blk.lc0 (post := []) hbz) ?_
    have hnz : ∀ b ∈ dz, ¬ b = w1.heap.size := fun b hb => by have := (hfz).lo b hb; omega
    exact ⟨(hx02.trans (hx4)).chg hcz (by omega), _, dz, rfl, (hkz).chg hcz hnz, ((hfz).chg hcz hnz).mono (by omega)⟩
  · refine Cm.f (hA0 hA) ?_
    have hd : deS (.mk l ks) = .mk (2, t0.lab) ((deSL ks).drop 1) := by rw [deS_eq, if_neg (by simp [he]), if_neg hge2, if_neg (fun h => hA2 (by have := h.2.1; omega)), if_neg (fun h => hA0 hA (by rw [← hl0]; exact h.1)), hl0]
    rw [hd]
    refine Go1.bd [.int .i64 2, .string t0.lab, .slice aoz ((deSL ks).drop 1).length capz] ?_
    refine Go0.st (off := 0) (vs := [.int .i64 2, .string t0.lab, .slice aoz ((deSL ks).drop 1).length capz]) (hb24) rfl rfl (by simp [Value.cells]) (by simp [Value.oneCell']) ?_
    intro wz hcz hbz _
    have hbz : Blk wz w1.heap.size 26 [.int .i64 2, .string t0.lab, .slice aoz ((deSL ks).drop 1).length capz] := hbz
    refine Ld.agg (vs := [.int .i64 2, .string t0.lab, .slice aoz ((deSL ks).drop 1).length capz]) (Blk.lc0 (post := []) hbz) ?_
    have hnz : ∀ b ∈ dz, ¬ b = w1.heap.size := fun b hb => by have := (hfz).lo b hb; omega
    exact ⟨(hx02.trans (hx4)).chg hcz (by omega), _, dz, rfl, (hkz).chg hcz hnz, ((hfz).chg hcz hnz).mono (by omega)⟩
  · have hnA : ¬ (labAt ks 0 = sAssoc ∧ ((deSL ks).drop 1).length = 2 ∧ labAt ks 1 ≠ em) := fun h => hA (by rw [← hl0]; exact h.1)
    refine Cm.s (fun hD => Cm.s (fun hD2 => Go1.fl 1 (Ld.one hb14.at1 (Go1.ix 2 (j := 1) hlt1 (Go1.fl 0 (Ld.one hc14 (Cm.ns (fun hD3 => ?_) (fun hD3 => ?_))))))) (fun hD2 => ?_)) (fun hD => ?_)
    · have hd : deS (.mk l ks) = .mk (4, t1.lab) [] := by rw [deS_eq, if_neg (by simp [he]), if_neg hge2, if_neg hnA, if_pos ⟨by rw [hl0]; exact hD, by omega, by rw [hl1]; exact hD3⟩, hl1]
      rw [hd]
      refine Go1.fl 1 (Ld.one hb14.at1 ?_)
      refine Go1.ix 2 (j := 1) hlt1 (Go1.fl 0 (Ld.one hc14 ?_))
      refine Go1.bd [.int .i64 4, .string t1.lab, .slice none 0 0] ?_
      refine Go0.st (off := 0) (vs := [.int .i64 4, .string t1.lab, .slice none 0 0]) (hb24) rfl rfl (by simp [Value.cells]) (by simp [Value.oneCell']) ?_
      intro wz hcz hbz _
      have hbz : Blk wz w1.heap.size 26 [.int .i64 4, .string t1.lab, .slice none 0 0] := hbz
      refine Ld.agg (vs := [.int .i64 4, .string t1.lab, .slice none 0 0]) (Blk.lc0 (post := []) hbz) ?_
      exact ⟨(hx02.trans (hx4)).chg hcz (by omega), _, [], rfl, Kids.nil, Fresh.nil _ _⟩
    · have hd : deS (.mk l ks) = .mk (2, t0.lab) ((deSL ks).drop 1) := by rw [deS_eq, if_neg (by simp [he]), if_neg hge2, if_neg (hnA), if_neg (fun h => h.2.2 (by rw [hl1]; exact hD3)), hl0]
      rw [hd]
      refine Go1.bd [.int .i64 2, .string t0.lab, .slice aoz ((deSL ks).drop 1).length capz] ?_
      refine Go0.st (off := 0) (vs := [.int .i64 2, .string t0.lab, .slice aoz ((deSL ks).drop 1).length capz]) (hb24) rfl rfl (by simp [Value.cells]) (by simp [Value.oneCell']) ?_
      intro wz hcz hbz _
      have hbz : Blk wz w1.heap.size 26 [.int .i64 2, .string t0.lab, .slice aoz ((deSL ks).drop 1).length capz] := hbz
      refine Ld.agg (vs := [.int .i64 2, .string t0.lab, .slice aoz ((deSL ks).drop 1).length capz]) (Blk.lc0 (post := []) hbz) ?_
      have hnz : ∀ b ∈ dz, ¬ b = w1.heap.size := fun b hb => by have := (hfz).lo b hb; omega
      exact ⟨(hx02.trans (hx4)).chg hcz (by omega), _, dz, rfl, (hkz).chg hcz hnz, ((hfz).chg hcz hnz).mono (by omega)⟩
    · have hd : deS (.mk l ks) = .mk (2, t0.lab) ((deSL ks).drop 1) := by rw [deS_eq, if_neg (by simp [he]), if_neg hge2, if_neg (hnA), if_neg (fun h => hD2 (by have := h.2.1; omega)), hl0]
      rw [hd]
      refine Go1.bd [.int .i64 2, .string t0.lab, .slice aoz ((deSL ks).drop 1).length capz] ?_
      refine Go0.st (off := 0) (vs := [.int .i64 2, .string t0.lab, .slice aoz ((deSL ks).drop 1).length capz]) (hb24) rfl rfl (by simp [Value.cells]) (by simp [Value.oneCell']) ?_
      intro wz hcz hbz _
      have hbz : Blk wz w1.heap.size 26 [.int .i64 2, .string t0.lab, .slice aoz ((deSL ks).drop 1).length capz] := hbz
      refine Ld.agg (vs := [.int .i64 2, .string t0.lab, .slice aoz ((deSL ks).drop 1).length capz]) (Blk.lc0 (post := []) hbz) ?_
      have hnz : ∀ b ∈ dz, ¬ b = w1.heap.size := fun b hb => by have := (hfz).lo b hb; omega
      exact ⟨(hx02.trans (hx4)).chg hcz (by omega), _, dz, rfl, (hkz).chg hcz hnz, ((hfz).chg hcz hnz).mono (by omega)⟩
    · have hd : deS (.mk l ks) = .mk (2, t0.lab) ((deSL ks).drop 1) := by rw [deS_eq, if_neg (by simp [he]), if_neg hge2, if_neg (hnA), if_neg (fun h => hD (by rw [← hl0]; exact h.1)), hl0]
      rw [hd]
      refine Go1.bd [.int .i64 2, .string t0.lab, .slice aoz ((deSL ks).drop 1).length capz] ?_
      refine Go0.st (off := 0) (vs := [.int .i64 2, .string t0.lab, .slice aoz ((deSL ks).drop 1).length capz]) (hb24) rfl rfl (by simp [Value.cells]) (by simp [Value.oneCell']) ?_
      intro wz hcz hbz _
      have hbz : Blk wz w1.heap.size 26 [.int .i64 2, .string t0.lab, .slice aoz ((deSL ks).drop 1).length capz] := hbz
      refine Ld.agg (vs := [.int .i64 2, .string t0.lab, .slice aoz ((deSL ks).drop 1).length capz]) (Blk.lc0 (post := []) hbz) ?_
      have hnz : ∀ b ∈ dz, ¬ b = w1.heap.size := fun b hb => by have := (hfz).lo b hb; omega
      exact ⟨(hx02.trans (hx4)).chg hcz (by omega), _, dz, rfl, (hkz).chg hcz hnz, ((hfz).chg hcz hnz).mono (by omega)⟩
end Go.Proofs.YtliigpmpeldebaaGreat
