/- Contracts: the program's SExprToType. Conditions: none. -/
import Derived.Test.YtliigpmpeldebaaGreatTyM
namespace Go.Proofs.YtliigpmpeldebaaGreat
open Go.RowKit

def cp_ren : Go.Shelf.Ren := ⟨fun | 103 => 58 | 210 => 82 | 206 => 97 | n => n, fun | 9 => 9 | 4 => 4 | 24 => 76 | 3 => 3 | n => n, fun | n => n⟩
theorem cp_lays : Go.Proofs.Lays.n103 Tryz.prog cp_ren := {
  mixed := by kernel_rfl
  f103 := Tryz.func58.trans (congrArg some (by kernel_rfl))
  f206 := Tryz.func97.trans (congrArg some (by kernel_rfl))
  f210 := Tryz.func82.trans (congrArg some (by kernel_rfl))
  t3 := Tryz.underlying3
  a3 := Tryz.isAgg3
  z3 := Tryz.sizeOf3
  v3 := Tryz.zeroValue3
  t4 := Tryz.underlying4
  a4 := Tryz.isAgg4
  z4 := Tryz.sizeOf4
  v4 := Tryz.zeroValue4
  t9 := Tryz.underlying9
  a9 := Tryz.isAgg9
  z9 := Tryz.sizeOf9
  v9 := Tryz.zeroValue9
  t24 := Tryz.underlying76
  a24 := Tryz.isAgg76
  z24 := Tryz.sizeOf76
  v24 := Tryz.zeroValue76 }
/-- strings.CutPrefix of a quote -/
theorem c_CutPrefix (s : ByteArray) {w : World} : Ret Tryz.prog 58 [.string s, .string ⟨#[39]⟩] w fun r w' => (∃ t, r = .tuple #[.string t, .bool (quo s)] ∧ (quo s = true → t = tl s)) ∧ w' = w := by
  have h1 : Lib.hasPrefix s.data.toList [39] = quo s := by
    unfold quo
    cases s.data.toList with
    | nil => rfl
    | cons b r =>
      by_cases h : b = 39
      · simp [Lib.hasPrefix, h]
      · have h' : ¬ (39 : UInt8) = b := fun e => h e.symm
        simp [Lib.hasPrefix, List.isPrefixOf, h, h']
  have h2 : quo s = true → (⟨(Lib.trimPrefix s.data.toList [39]).toArray⟩ : ByteArray) = tl s := fun hq => by
    unfold quo at hq
    unfold tl tb
    cases hd : s.data.toList with
    | nil => rw [hd] at hq; cases hq
    | cons b r =>
      rw [hd] at hq
      simp only [decide_eq_true_eq] at hq
      subst hq
      simp [Lib.trimPrefix, Lib.hasPrefix]
  have call := Any.strings_CutPrefix cp_lays s ⟨#[39]⟩ w
  rw [show (ByteArray.mk #[39]).data.toList = [39] from rfl, h1] at call
  exact Ret.of Tryz.func58 rfl (by kernel_rfl) call fun e w' h => ⟨_, h.1, ⟨_, rfl, h2⟩, h.2⟩
/-- impl.varType -/
theorem c_varType (s : ByteArray) {w : World} : Ret Tryz.prog 59 [.string s] w (NewTy w (1, s) []) := by
  refine ret_of_vc ttOk Tryz.func59 rfl (by kernel_rfl) (by kernel_rfl) ?_
  refine Go1.al tiTy ?_
  intro w1 hx1 hb1
  have lt1 := hb1.lt
  refine Go1.bd [.int .i64 1, .string s, .slice none 0 0] ?_
  refine Go0.st (off := 0) (vs := [.int .i64 1, .string s, .slice none 0 0]) hb1 rfl rfl (by simp [Value.cells]) (by simp [Value.oneCell']) ?_
  intro w2 hx2 hb2 _
  have hb2 : Blk w2 w.heap.size 26 [.int .i64 1, .string s, .slice none 0 0] := hb2
  refine Ld.agg (vs := [.int .i64 1, .string s, .slice none 0 0]) (Blk.lc0 (post := []) hb2) ?_
  exact ⟨hx1.chg hx2 (by omega), _, [], rfl, Kids.nil, Fresh.nil _ _⟩
/-- impl.dynType -/
theorem c_dynType (s : ByteArray) {w : World} : Ret Tryz.prog 60 [.string s] w (NewTy w (4, s) []) := by
  refine ret_of_vc ttOk Tryz.func60 rfl (by kernel_rfl) (by kernel_rfl) ?_
  refine Go1.al tiTy ?_
  intro w1 hx1 hb1
  have lt1 := hb1.lt
  refine Go1.bd [.int .i64 4, .string s, .slice none 0 0] ?_
  refine Go0.st (off := 0) (vs := [.int .i64 4, .string s, .slice none 0 0]) hb1 rfl rfl (by simp [Value.cells]) (by simp [Value.oneCell']) ?_
  intro w2 hx2 hb2 _
  have hb2 : Blk w2 w.heap.size 26 [.int .i64 4, .string s, .slice none 0 0] := hb2
  refine Ld.agg (vs := [.int .i64 4, .string s, .slice none 0 0]) (Blk.lc0 (post := []) hb2) ?_
  exact ⟨hx1.chg hx2 (by omega), _, [], rfl, Kids.nil, Fresh.nil _ _⟩

def DeISaid (ks : List Sx) : Prop := ∀ (l : ByteArray) (w : World) (v : Value) (bs : List Nat), Rose.cnt ks ≤ 4294967296 → Kids encS w v ks bs →
    Ret Tryz.prog 29 [.agg #[.string l, v]] w (NewTy w (deI (.mk l ks)).lab (deI (.mk l ks)).kids)

/-- impl.decodeTypes -/
theorem c_decodeTypes {ks : List Sx} (ih : ∀ t ∈ ks, DeISaid t.kids) (hcn : ∀ t ∈ ks, Rose.cnt t.kids ≤ 4294967296) (hlen : ks.length ≤ 4294967296) {w : World} {v : Value} {bs : List Nat} (hk : Kids encS w v ks bs) :
    Ret Tryz.prog 61 [v] w fun r w' => Ext w w' ∧ ∃ ds, Kids encT w' r (ks.map deI) ds ∧ Fresh w.heap.size w' ds := by
  obtain ⟨ao, cap, rfl, hm, hcap⟩ := hk.form
  have hM : maxLen = 9223372036854775807 := rfl
  refine ret_of_vc ttOk Tryz.func61 rfl (by kernel_rfl) (by kernel_rfl) ?_
  refine Go1.b0 26 (size := 3) (bytes := 48) Tryz.underlying24 tiTy ?_
  intro w1 u hx1 hg1 hu
  subst hu
  refine Lp.go ttOk (by kernel_rfl) (fun b : Nat × Value => [(3, b.2), (7, .slice ao ks.length cap), (8, .int .i64 ks.length), (9, .int .i64 b.1)])
    (fun b w' => Ext w w' ∧ b.1 ≤ ks.length ∧ ∃ O cs, GrowT encT 26 3 w.heap.size w' b.2 ((ks.take b.1).map deI) O cs) (fun b => ks.length - b.1) (0, .slice (some ⟨w.heap.size, 0, none⟩) 0 0)
    ⟨rfl, rfl, rfl, rfl, trivial⟩ ⟨hx1, Nat.zero_le _, [w.heap.size], [], by simpa using GrowT.of_nil hg1 (by simp)⟩ ?_
  rintro ⟨k, r⟩ w2 ⟨hx2, hk1, O, cs, hg⟩
  simp only at hk1 hg
  have sz2 := hx2.size
  refine Cm.s (fun hlt => ?_) (fun hge => ?_)
  · have hlt : k < ks.length := by have : (k : Int) < ks.length := hlt; omega
    obtain ⟨a, t, v1, b1, rfl, ht, hc, hkt, _⟩ := (hk.ext hx2).get encS_sz hlt
    have htm := List.mem_of_getElem? ht
    obtain ⟨ao3, cap3, rfl, _, _⟩ := hkt.form
    refine Go1.ix 2 hlt (Ld.agg hc ?_)
    refine Go1.al tiSx ?_
    intro w4 hxw4 hbw4
    have ltw4 := hbw4.lt
    refine Go0.st (off := 0) (vs := [.string t.lab, .slice ao3 t.kids.length cap3]) hbw4 rfl rfl (by simp [Value.cells]) (by simp [Value.oneCell']) ?_
    intro w5 hx0w5 hb0w5 _
    have hbw5 : Blk w5 w2.heap.size 33 [.string t.lab, .slice ao3 t.kids.length cap3] := hb0w5
    have hxw5 : Ext w2 w5 := hxw4.chg hx0w5 (by omega)
    refine Ld.agg (vs := [.string t.lab, .slice ao3 t.kids.length cap3]) (Blk.lc0 (post := []) hbw5) ?_
    refine (ih t htm t.lab w5 _ b1 (hcn t htm) (hkt.ext hxw5)).mono ?_
    rw [t.eta]
    have hstep : (ks.take (k + 1)).map deI = (ks.take k).map deI ++ [deI t] := by rw [take_succ_get ht, List.map_append]; rfl
    generalize deI t = T at hstep ⊢
    rintro _ wb ⟨hxb, vb, cb, rfl, hkb, hfb⟩
    obtain ⟨aob, capb, rfl, _, _⟩ := hkb.form
    refine Go1.bs 26 [.int .i64 T.lab.1, .string T.lab.2, .slice aob T.kids.length capb] (size := 3) (bytes := 48) Tryz.underlying24 tiTy (by decide) (by decide) (by kernel_rfl) ?_
    intro wd hxd hbd
    have hxTe := (hxw5.trans hxb).trans hxd
    obtain ⟨vsT, hgrT, hklT, hfrT⟩ := hg
    have hlk : ((ks.take k).map deI).length ≤ ks.length := by simp; omega
    refine Go1.app (size := 3) (bytes := 48) Tryz.underlying24 tiTy (by rfl) (by decide) (hgrT.ext hxTe) (m := 1) (news := [.int .i64 T.lab.1, .string T.lab.2, .slice aob T.kids.length capb]) (Blk.lc0 (post := []) hbd) (by simp) (by simp [Value.oneCell']) (by omega) (by decide) ?_
    intro rf wf Of hcf hgf hOf
    have hgF := GrowT.snoc (t := T) (v := .slice aob T.kids.length capb) hxTe hklT hfrT (hkb.ext hxd) (hfb.ext hxd) hxw5.size hcf hgf hOf sz2
    rw [← hstep] at hgF
    refine Wr.n (k + 1) (by simp) (by omega) ?_
    exact ⟨(k + 1, rf), ⟨rfl, rfl, rfl, rfl, trivial⟩, ⟨Chg.big (hx2.trans hxTe) hcf (fun b hb => hfrT.lo b (List.mem_append_left _ hb)), hlt, Of, _, hgF⟩, by simp; omega⟩
  · have : k = ks.length := by have : ¬ (k : Int) < ks.length := hge; omega
    subst this
    rw [List.take_length] at hg
    obtain ⟨ds, h1, h2⟩ := hg.kids (by simp; omega)
    exact ⟨hx2, ds, h1, h2⟩

/-- impl.decodeType -/
theorem c_decodeType (ks : List Sx) : DeISaid ks := by
  refine Rose.forest (fun ks ih => ?_) ks
  intro l w v bs hs hk
  obtain ⟨ao, cap, rfl, hm, hcap⟩ := hk.form
  have hM : maxLen = 9223372036854775807 := rfl
  have hlen : ks.length ≤ 4294967296 := Nat.le_trans (Rose.wtL_length _ _) hs
  have hcn : ∀ t ∈ ks, Rose.cnt t.kids ≤ 4294967296 := fun t ht => by have := Rose.cnt_mem ht; omega
  refine ret_of_vc ttOk Tryz.func29 rfl (by kernel_rfl) (by kernel_rfl) ?_
  refine Go1.bx ?_
  intro w1 hx1 hb1
  refine Go1.al tiTy ?_
  intro w2 hx2 hb2
  have hx02 := hx1.trans hx2
  have hb12 := hb1.ext hx2
  have lt1 := hb1.lt
  have lt2 := hb2.lt
  have sz1 := hx1.size
  have sz2 := hx2.size
  refine Go1.fl 0 (Ld.one hb12.at0 ?_)
  refine Cm.ns (fun hne => ?_) (fun he => ?_)
  · refine Go1.fl 0 (Ld.one hb12.at0 ?_)
    refine (c_CutPrefix l).mono ?_
    rintro _ w3 ⟨⟨t, rfl, ht⟩, rfl⟩
    cases hq : quo l
    · have hd : deI (.mk l ks) = .mk (2, l) [] := by rw [deI_eq, if_pos hne, hq]; rfl
      rw [hd]
      refine Go1.fl 0 (Ld.one hb12.at0 ?_)
      refine Go1.bd [.int .i64 2, .string l, .slice none 0 0] ?_
      refine Go0.st (off := 0) (vs := [.int .i64 2, .string l, .slice none 0 0]) hb2 rfl rfl (by simp [Value.cells]) (by simp [Value.oneCell']) ?_
      intro wz hcz hbz _
      have hbz : Blk wz w1.heap.size 26 [.int .i64 2, .string l, .slice none 0 0] := hbz
      refine Ld.agg (vs := [.int .i64 2, .string l, .slice none 0 0]) (Blk.lc0 (post := []) hbz) ?_
      exact ⟨hx02.chg hcz (by omega), _, [], rfl, Kids.nil, Fresh.nil _ _⟩
    · have hd : deI (.mk l ks) = .mk (1, tl l) [] := by rw [deI_eq, if_pos hne, hq]; rfl
      rw [hd]
      obtain rfl := ht hq
      refine (c_varType _).mono ?_
      rintro _ w4 ⟨hx3, v3, c3, rfl, hk3, hf3⟩
      obtain ⟨ao3, cap3, rfl, _, _⟩ := hk3.form
      have sz3 := hx3.size
      refine Go0.st (off := 0) (vs := [.int .i64 1, .string (tl l), .slice ao3 0 cap3]) (hb2.ext hx3) rfl rfl (by simp [Value.cells]) (by simp [Value.oneCell']) ?_
      intro wz hcz hbz _
      have hbz : Blk wz w1.heap.size 26 [.int .i64 1, .string (tl l), .slice ao3 0 cap3] := hbz
      refine Ld.agg (vs := [.int .i64 1, .string (tl l), .slice ao3 0 cap3]) (Blk.lc0 (post := []) hbz) ?_
      exact ⟨(hx02.trans hx3).chg hcz (by omega), _, [], rfl, Kids.nil, Fresh.nil _ _⟩
  refine Go1.fl 1 (Ld.one hb12.at1 ?_)
  refine Cm.s (fun hl2 => ?_) (fun hl2 => ?_)
  · have hd : deI (.mk l ks) = .mk (0, em) [] := by rw [deI_eq, if_neg (by simp [he]), if_pos (by omega)]
    rw [hd]
    refine Go1.bd [.int .i64 0, .string em, .slice none 0 0] ?_
    refine Go0.st (off := 0) (vs := [.int .i64 0, .string em, .slice none 0 0]) hb2 rfl rfl (by simp [Value.cells]) (by simp [Value.oneCell']) ?_
    intro wz hcz hbz _
    have hbz : Blk wz w1.heap.size 26 [.int .i64 0, .string em, .slice none 0 0] := hbz
    refine Ld.agg (vs := [.int .i64 0, .string em, .slice none 0 0]) (Blk.lc0 (post := []) hbz) ?_
    exact ⟨hx02.chg hcz (by omega), _, [], rfl, Kids.nil, Fresh.nil _ _⟩
  have hge2 : ¬ ks.length < 2 := by omega
  have hlt0 : 0 < ks.length := by omega
  have hlt1 : 1 < ks.length := by omega
  obtain ⟨a, t0, v0, b0, rfl, ht0, hc0, _, _⟩ := (hk.ext hx02).get encS_sz hlt0
  obtain ⟨a', t1, v1, b1, ha', ht1, hc1, _, _⟩ := (hk.ext hx02).get encS_sz hlt1
  obtain rfl : a = a' := by simpa using ha'
  have hl0 := labAt_get ht0
  have hl1 := labAt_get ht1
  have hc14 : w2.cell? ((a.add (1 * 2)).add 0) = some (.string t1.lab) := hc1 0 _ rfl
  refine Go1.fl 1 (Ld.one hb12.at1 ?_)
  refine Go1.ix 2 (j := 0) hlt0 (Go1.fl 0 (Ld.one (hc0 0 _ rfl) ?_))
  refine Cm.s (fun hD => ?_) (fun hD => ?_)
  · have hd : deI (.mk l ks) = .mk (4, t1.lab) [] := by rw [deI_eq, if_neg (by simp [he]), if_neg hge2, if_pos (by rw [hl0]; exact hD), hl1]
    rw [hd]
    refine Go1.fl 1 (Ld.one hb12.at1 ?_)
    refine Go1.ix 2 (j := 1) hlt1 (Go1.fl 0 (Ld.one hc14 ?_))
    refine (c_dynType _).mono ?_
    rintro _ w4 ⟨hx3, v3, c3, rfl, hk3, hf3⟩
    obtain ⟨ao3, cap3, rfl, _, _⟩ := hk3.form
    have sz3 := hx3.size
    refine Go0.st (off := 0) (vs := [.int .i64 4, .string t1.lab, .slice ao3 0 cap3]) (hb2.ext hx3) rfl rfl (by simp [Value.cells]) (by simp [Value.oneCell']) ?_
    intro wz hcz hbz _
    have hbz : Blk wz w1.heap.size 26 [.int .i64 4, .string t1.lab, .slice ao3 0 cap3] := hbz
    refine Ld.agg (vs := [.int .i64 4, .string t1.lab, .slice ao3 0 cap3]) (Blk.lc0 (post := []) hbz) ?_
    exact ⟨(hx02.trans hx3).chg hcz (by omega), _, [], rfl, Kids.nil, Fresh.nil _ _⟩
  have hnD : ¬ labAt ks 0 = sDyn := by rw [hl0]; exact hD
  have hdr : ∀ k, (ks.drop k).map deI = (deIL ks).drop k := fun k => by rw [deIL_map, List.map_drop]
  have iht : ∀ k, ∀ t ∈ ks.drop k, DeISaid t.kids := fun k t ht => ih t (List.mem_of_mem_drop ht)
  have hct : ∀ k, ∀ t ∈ ks.drop k, Rose.cnt t.kids ≤ 4294967296 := fun k t ht => hcn t (List.mem_of_mem_drop ht)
  refine Cm.s (fun hA => ?_) (fun hA => ?_)
  · have hd : deI (.mk l ks) = .mk (3, t1.lab) ((ks.drop 2).map deI) := by rw [deI_eq, if_neg (by simp [he]), if_neg hge2, if_neg hnD, if_pos (by rw [hl0]; exact hA), hl1, hdr]
    rw [hd]
    refine Dr.x [0, 1, 2, 3, 4, 5, 6, 7, 8, 9, 10] ttOk ?_
    refine GoS.fl 1 (LdS.x1 hb12.at1 ?_)
    refine GoS.ix 2 (j := 1) hlt1 (GoS.fl 0 (LdS.x1 hc14 ?_))
    refine GoS.fl 1 (LdS.x1 hb12.at1 ?_)
    refine GoS.of1 (run_from (k := 2) Tryz.underlying31 tiSx (by omega) hcap) ?_
    obtain ⟨dk, hkd, _⟩ := (hk.ext hx02).drop encS_sz (k := 2) (by omega)
    refine ⟨fun wa hxa => ?_⟩
    refine (c_decodeTypes (iht 2) (hct 2) (by simp; omega) (hkd.ext hxa)).mono ?_
    rintro r wb ⟨hxb, ds, hkb, hfb⟩
    obtain ⟨aob, capb, rfl, _, _⟩ := hkb.form
    have sza := hxa.size
    refine Af.ext (hxa.trans hxb) ?_
    refine GoS.bd [.int .i64 3, .string t1.lab, .slice aob ((ks.drop 2).map deI).length capb] ?_
    refine ⟨fun wy hxy => ?_⟩
    refine Go0.st (off := 0) (vs := [.int .i64 3, .string t1.lab, .slice aob ((ks.drop 2).map deI).length capb]) (((hb2.ext hxa).ext hxb).ext hxy) rfl rfl (by simp [Value.cells]) (by simp [Value.oneCell']) ?_
    intro wz hcz hbz _
    have hbz : Blk wz w1.heap.size 26 [.int .i64 3, .string t1.lab, .slice aob ((ks.drop 2).map deI).length capb] := hbz
    refine Af.nw ?_
    intro wx hxx
    refine Ld.agg (vs := [.int .i64 3, .string t1.lab, .slice aob ((ks.drop 2).map deI).length capb]) (Blk.lc0 (post := []) (hbz.ext hxx)) ?_
    have hnz : ∀ b ∈ ds, ¬ b = w1.heap.size := fun b hb => by have := hfb.lo b hb; omega
    exact ⟨((((hx02.trans hxa).trans hxb).trans hxy).chg hcz (by omega)).trans hxx, _, ds, rfl, ((hkb.ext hxy).chg hcz hnz).ext hxx, (((hfb.ext hxy).chg hcz hnz).ext hxx).mono (by omega)⟩
  · have hd : deI (.mk l ks) = .mk (2, t0.lab) ((ks.drop 1).map deI) := by rw [deI_eq, if_neg (by simp [he]), if_neg hge2, if_neg hnD, if_neg (by rw [hl0]; exact hA), hl0, hdr]
    rw [hd]
    refine Go1.fl 1 (Ld.one hb12.at1 ?_)
    refine Go1.go (run_from (k := 1) Tryz.underlying31 tiSx (by omega) hcap _) ?_
    obtain ⟨dk, hkd, _⟩ := (hk.ext hx02).drop encS_sz (k := 1) (by omega)
    refine (c_decodeTypes (iht 1) (hct 1) (by simp; omega) hkd).mono ?_
    rintro r wb ⟨hxb, ds, hkb, hfb⟩
    obtain ⟨aob, capb, rfl, _, _⟩ := hkb.form
    refine Go1.bd [.int .i64 2, .string t0.lab, .slice aob ((ks.drop 1).map deI).length capb] ?_
    refine Go0.st (off := 0) (vs := [.int .i64 2, .string t0.lab, .slice aob ((ks.drop 1).map deI).length capb]) (hb2.ext hxb) rfl rfl (by simp [Value.cells]) (by simp [Value.oneCell']) ?_
    intro wz hcz hbz _
    have hbz : Blk wz w1.heap.size 26 [.int .i64 2, .string t0.lab, .slice aob ((ks.drop 1).map deI).length capb] := hbz
    refine Ld.agg (vs := [.int .i64 2, .string t0.lab, .slice aob ((ks.drop 1).map deI).length capb]) (Blk.lc0 (post := []) hbz) ?_
    have hnz : ∀ b ∈ ds, ¬ b = w1.heap.size := fun b hb => by have := hfb.lo b hb; omega
    exact ⟨(hx02.trans hxb).chg hcz (by omega), _, ds, rfl, hkb.chg hcz hnz, (hfb.chg hcz hnz).mono (by omega)⟩

/-- What a function hands back that makes a Type, and a bool. -/
def NewTyB (w : World) (o : Option Tp) (r : Value) (w' : World) : Prop := Ext w w' ∧ ∃ v bs, r = .tuple #[.agg #[.int .i64 (o.getD (.mk (0, em) [])).lab.1, .string (o.getD (.mk (0, em) [])).lab.2, v], .bool o.isSome] ∧ Kids encT w' v (o.getD (.mk (0, em) [])).kids bs ∧ Fresh w.heap.size w' bs

/-- Names no longer than a machine's strings; a bound on the number of nodes. -/
def SzOk (t : Tp) : Prop := t.lab.2.size ≤ maxLen ∧ Rose.AlL (fun s => s.2.size ≤ maxLen) t.kids ∧ Rose.cnt t.kids ≤ 4294967296
/-- spec.SExprToType -/
theorem c_sSExprToType {l : ByteArray} {ks : List Sx} (hsz : SzOk (deS (.mk l ks))) (hs : Rose.cnt ks ≤ 4294967296) {w : World} {v : Value} {bs : List Nat} (hk : Kids encS w v ks bs) :
    Ret Tryz.prog 10 [.agg #[.string l, v]] w (NewTyB w (stO (.mk l ks))) := by
  obtain ⟨ao, cap, rfl, hm, hcap⟩ := hk.form
  have hM : maxLen = 9223372036854775807 := rfl
  refine ret_of_vc ttOk Tryz.func10 rfl (by kernel_rfl) (by kernel_rfl) ?_
  refine Go1.bx ?_
  intro w1 hx1 hb1
  refine Go1.al tiTy ?_
  intro w2 hx2 hb2
  have hx02 := hx1.trans hx2
  have lt1 := hb1.lt
  have lt2 := hb2.lt
  have sz1 := hx1.size
  have sz2 := hx2.size
  refine Ld.agg (vs := [.string l, .slice ao ks.length cap]) (Blk.lc0 (post := []) (hb1.ext hx2)) ?_
  refine (c_l5Ty ks l w2 _ bs hs (hk.ext hx02)).mono ?_
  have hsame := de_same (.mk l ks)
  have heq := @de_eq (.mk l ks)
  generalize hT : deS (.mk l ks) = T at hsz hsame heq ⊢
  rintro _ w3 ⟨hx3, v3, c3, rfl, hk3, hf3⟩
  obtain ⟨ao3, cap3, rfl, _, _⟩ := hk3.form
  refine Go1.al tiTy ?_
  intro w4 hx4 hb4
  have lt4 := hb4.lt
  have sz3 := hx3.size
  have sz4 := hx4.size
  refine Go0.st (off := 0) (vs := [.int .i64 T.lab.1, .string T.lab.2, .slice ao3 T.kids.length cap3]) hb4 rfl rfl (by simp [Value.cells]) (by simp [Value.oneCell']) ?_
  intro w5 hx5 hb5 _
  have hb5 : Blk w5 w3.heap.size 26 [.int .i64 T.lab.1, .string T.lab.2, .slice ao3 T.kids.length cap3] := hb5
  have hx35 : Ext w3 w5 := hx4.chg hx5 (by omega)
  have hx25 := hx3.trans hx35
  have hx05 := hx02.trans hx25
  have hk5 := hk3.ext hx35
  have hf5 := hf3.ext hx35
  have hb15 := (hb1.ext hx2).ext hx25
  have hb25 := hb2.ext hx25
  have hno : ¬ (okT T ∧ enS T = .mk l ks) → stO (.mk l ks) = none := fun h => if_neg fun h' => h (hsame.2 h')
  have hyes : okT T ∧ enS T = .mk l ks → stO (.mk l ks) = some T := fun h => by
    have h' : okT (deI (.mk l ks)) ∧ enS (deI (.mk l ks)) = .mk l ks := hsame.1 h
    have : deI (.mk l ks) = T := (heq h').symm
    unfold stO
    rw [if_pos h', this]
  refine Dr.x [0, 1, 2, 3, 4, 6, 5, 7, 8, 9] ttOk ?_
  refine LdS.xn (vs := [.int .i64 T.lab.1, .string T.lab.2, .slice ao3 T.kids.length cap3]) (Blk.lc0 (post := []) hb5) ?_
  refine ⟨fun wa hxa => ?_⟩
  refine (c_sIsValidType hsz.1 hsz.2.1 (hk5.ext hxa)).mono ?_
  rw [T.eta]
  rintro _ wb ⟨⟨b, rfl, hb⟩, hxb⟩
  refine Af.ext (hxa.trans hxb) ?_
  have hx5b := hxa.trans hxb
  cases b
  · intro wc hxc
    rw [hno fun h => by simpa using hb.2 h.1]
    refine Go1.bd [.int .i64 0, .string em, .slice none 0 0] ?_
    refine Go0.st (off := 0) (vs := [.int .i64 0, .string em, .slice none 0 0]) ((hb25.ext hx5b).ext hxc) rfl rfl (by simp [Value.cells]) (by simp [Value.oneCell']) ?_
    intro wz hcz hbz _
    have hbz : Blk wz w1.heap.size 26 [.int .i64 0, .string em, .slice none 0 0] := hbz
    refine Ld.agg (vs := [.int .i64 0, .string em, .slice none 0 0]) (Blk.lc0 (post := []) hbz) ?_
    exact ⟨((hx05.trans hx5b).trans hxc).chg hcz (by omega), _, [], rfl, Kids.nil, Fresh.nil _ _⟩
  · have hok := hb.1 rfl
    refine LdS.xn (vs := [.int .i64 T.lab.1, .string T.lab.2, .slice ao3 T.kids.length cap3]) (Blk.lc0 (post := []) (hb5.ext hx5b)) ?_
    refine LdS.xn (vs := [.string l, .slice ao ks.length cap]) (Blk.lc0 (post := []) (hb15.ext hx5b)) ?_
    refine ⟨fun wc hxc => ?_⟩
    refine (c_l5Sx T.kids T.lab wc _ c3 (by rw [T.eta]; exact hok.2.1) (by have := hok.1; omega) (hk5.ext (hx5b.trans hxc))).mono ?_
    rw [T.eta]
    rintro _ wd ⟨hxd, vd, cd, rfl, hkd, hfd⟩
    refine Af.ext (hxc.trans hxd) ?_
    refine ⟨fun we hxe => ?_⟩
    have hx5e := ((hx5b.trans hxc).trans hxd).trans hxe
    refine (c_sEqualSExpr _ _ _ _ _ _ _ _ _ (hkd.ext hxe) (hk.ext (hx05.trans hx5e))).mono ?_
    rintro _ wf ⟨⟨b2, rfl, hb2'⟩, hxf⟩
    refine Af.ext (hxe.trans hxf) ?_
    have hx5f := hx5e.trans hxf
    have hiff : b2 = true ↔ enS T = .mk l ks := hb2'.trans ⟨fun h => Rose.ext h.1 h.2, fun h => by rw [h]; exact ⟨rfl, rfl⟩⟩
    cases b2
    · intro wg hxg
      rw [hno fun h => by simpa using hiff.2 h.2]
      refine Go1.bd [.int .i64 0, .string em, .slice none 0 0] ?_
      refine Go0.st (off := 0) (vs := [.int .i64 0, .string em, .slice none 0 0]) ((hb25.ext hx5f).ext hxg) rfl rfl (by simp [Value.cells]) (by simp [Value.oneCell']) ?_
      intro wz hcz hbz _
      have hbz : Blk wz w1.heap.size 26 [.int .i64 0, .string em, .slice none 0 0] := hbz
      refine Ld.agg (vs := [.int .i64 0, .string em, .slice none 0 0]) (Blk.lc0 (post := []) hbz) ?_
      exact ⟨((hx05.trans hx5f).trans hxg).chg hcz (by omega), _, [], rfl, Kids.nil, Fresh.nil _ _⟩
    · intro wg hxg
      rw [hyes ⟨hok, hiff.1 rfl⟩]
      have hx5g := hx5f.trans hxg
      refine Ld.agg (vs := [.int .i64 T.lab.1, .string T.lab.2, .slice ao3 T.kids.length cap3]) (Blk.lc0 (post := []) (hb5.ext hx5g)) ?_
      refine Go0.st (off := 0) (vs := [.int .i64 T.lab.1, .string T.lab.2, .slice ao3 T.kids.length cap3]) (hb25.ext hx5g) rfl rfl (by simp [Value.cells]) (by simp [Value.oneCell']) ?_
      intro wz hcz hbz _
      have hbz : Blk wz w1.heap.size 26 [.int .i64 T.lab.1, .string T.lab.2, .slice ao3 T.kids.length cap3] := hbz
      refine Ld.agg (vs := [.int .i64 T.lab.1, .string T.lab.2, .slice ao3 T.kids.length cap3]) (Blk.lc0 (post := []) hbz) ?_
      have hnz : ∀ b ∈ c3, ¬ b = w1.heap.size := fun b hb => by have := hf5.lo b hb; omega
      exact ⟨(hx05.trans hx5g).chg hcz (by omega), _, c3, rfl, (hk5.ext hx5g).chg hcz hnz, ((hf5.ext hx5g).chg hcz hnz).mono (by omega)⟩
/-- impl.SExprToType -/
theorem c_iSExprToType {l : ByteArray} {ks : List Sx} (hsz : SzOk (deI (.mk l ks))) (hs : Rose.cnt ks ≤ 4294967296) {w : World} {v : Value} {bs : List Nat} (hk : Kids encS w v ks bs) :
    Ret Tryz.prog 9 [.agg #[.string l, v]] w (NewTyB w (stO (.mk l ks))) := by
  obtain ⟨ao, cap, rfl, hm, hcap⟩ := hk.form
  have hM : maxLen = 9223372036854775807 := rfl
  refine ret_of_vc ttOk Tryz.func9 rfl (by kernel_rfl) (by kernel_rfl) ?_
  refine Go1.bx ?_
  intro w1 hx1 hb1
  refine Go1.al tiTy ?_
  intro w2 hx2 hb2
  have hx02 := hx1.trans hx2
  have lt1 := hb1.lt
  have lt2 := hb2.lt
  have sz1 := hx1.size
  have sz2 := hx2.size
  refine Ld.agg (vs := [.string l, .slice ao ks.length cap]) (Blk.lc0 (post := []) (hb1.ext hx2)) ?_
  refine (c_decodeType ks l w2 _ bs hs (hk.ext hx02)).mono ?_
  have hsame := de_same (.mk l ks)
  have heq := @de_eq (.mk l ks)
  generalize hT : deI (.mk l ks) = T at hsz hsame heq ⊢
  rintro _ w3 ⟨hx3, v3, c3, rfl, hk3, hf3⟩
  obtain ⟨ao3, cap3, rfl, _, _⟩ := hk3.form
  refine Go1.al tiTy ?_
  intro w4 hx4 hb4
  have lt4 := hb4.lt
  have sz3 := hx3.size
  have sz4 := hx4.size
  refine Go0.st (off := 0) (vs := [.int .i64 T.lab.1, .string T.lab.2, .slice ao3 T.kids.length cap3]) hb4 rfl rfl (by simp [Value.cells]) (by simp [Value.oneCell']) ?_
  intro w5 hx5 hb5 _
  have hb5 : Blk w5 w3.heap.size 26 [.int .i64 T.lab.1, .string T.lab.2, .slice ao3 T.kids.length cap3] := hb5
  have hx35 : Ext w3 w5 := hx4.chg hx5 (by omega)
  have hx25 := hx3.trans hx35
  have hx05 := hx02.trans hx25
  have hk5 := hk3.ext hx35
  have hf5 := hf3.ext hx35
  have hb15 := (hb1.ext hx2).ext hx25
  have hb25 := hb2.ext hx25
  have hno : ¬ (okT T ∧ enS T = .mk l ks) → stO (.mk l ks) = none := fun h => if_neg fun h' => h (by rw [← hT]; exact h')
  have hyes : okT T ∧ enS T = .mk l ks → stO (.mk l ks) = some T := fun h => by
    have h' : okT (deI (.mk l ks)) ∧ enS (deI (.mk l ks)) = .mk l ks := by rw [hT]; exact h
    have : deI (.mk l ks) = T := hT
    unfold stO
    rw [if_pos h', this]
  refine Dr.x [0, 1, 2, 3, 4, 6, 5, 7, 8, 9] ttOk ?_
  refine LdS.xn (vs := [.int .i64 T.lab.1, .string T.lab.2, .slice ao3 T.kids.length cap3]) (Blk.lc0 (post := []) hb5) ?_
  refine ⟨fun wa hxa => ?_⟩
  refine (c_iIsValidType hsz.1 hsz.2.1 hsz.2.2 (hk5.ext hxa)).mono ?_
  rw [T.eta]
  rintro _ wb ⟨⟨b, rfl, hb⟩, hxb⟩
  refine Af.ext (hxa.trans hxb) ?_
  have hx5b := hxa.trans hxb
  cases b
  · intro wc hxc
    rw [hno fun h => by simpa using hb.2 h.1]
    refine Go1.bd [.int .i64 0, .string em, .slice none 0 0] ?_
    refine Go0.st (off := 0) (vs := [.int .i64 0, .string em, .slice none 0 0]) ((hb25.ext hx5b).ext hxc) rfl rfl (by simp [Value.cells]) (by simp [Value.oneCell']) ?_
    intro wz hcz hbz _
    have hbz : Blk wz w1.heap.size 26 [.int .i64 0, .string em, .slice none 0 0] := hbz
    refine Ld.agg (vs := [.int .i64 0, .string em, .slice none 0 0]) (Blk.lc0 (post := []) hbz) ?_
    exact ⟨((hx05.trans hx5b).trans hxc).chg hcz (by omega), _, [], rfl, Kids.nil, Fresh.nil _ _⟩
  · have hok := hb.1 rfl
    refine LdS.xn (vs := [.int .i64 T.lab.1, .string T.lab.2, .slice ao3 T.kids.length cap3]) (Blk.lc0 (post := []) (hb5.ext hx5b)) ?_
    refine LdS.xn (vs := [.string l, .slice ao ks.length cap]) (Blk.lc0 (post := []) (hb15.ext hx5b)) ?_
    refine ⟨fun wc hxc => ?_⟩
    refine (c_encodeType T.kids T.lab wc _ c3 (by rw [T.eta]; exact hok.2.1) (by have := hok.1; omega) (hk5.ext (hx5b.trans hxc))).mono ?_
    rw [T.eta]
    rintro _ wd ⟨hxd, vd, cd, rfl, hkd, hfd⟩
    refine Af.ext (hxc.trans hxd) ?_
    refine ⟨fun we hxe => ?_⟩
    have hx5e := ((hx5b.trans hxc).trans hxd).trans hxe
    refine (c_iEqualSExpr (hkd.ext hxe) (hk.ext (hx05.trans hx5e))).mono ?_
    rintro _ wf ⟨⟨b2, rfl, hb2'⟩, hxf⟩
    refine Af.ext (hxe.trans hxf) ?_
    have hx5f := hx5e.trans hxf
    have hiff : b2 = true ↔ enS T = .mk l ks := hb2'.trans ⟨fun h => Rose.ext h.1 h.2, fun h => by rw [h]; exact ⟨rfl, rfl⟩⟩
    cases b2
    · intro wg hxg
      rw [hno fun h => by simpa using hiff.2 h.2]
      refine Go1.bd [.int .i64 0, .string em, .slice none 0 0] ?_
      refine Go0.st (off := 0) (vs := [.int .i64 0, .string em, .slice none 0 0]) ((hb25.ext hx5f).ext hxg) rfl rfl (by simp [Value.cells]) (by simp [Value.oneCell']) ?_
      intro wz hcz hbz _
      have hbz : Blk wz w1.heap.size 26 [.int .i64 0, .string em, .slice none 0 0] := hbz
      refine Ld.agg (vs := [.int .i64 0, .string em, .slice none 0 0]) (Blk.lc0 (post := []) hbz) ?_
      exact ⟨((hx05.trans hx5f).trans hxg).chg hcz (by omega), _, [], rfl, Kids.nil, Fresh.nil _ _⟩
    · intro wg hxg
      rw [hyes ⟨hok, hiff.1 rfl⟩]
      have hx5g := hx5f.trans hxg
      refine Ld.agg (vs := [.int .i64 T.lab.1, .string T.lab.2, .slice ao3 T.kids.length cap3]) (Blk.lc0 (post := []) (hb5.ext hx5g)) ?_
      refine Go0.st (off := 0) (vs := [.int .i64 T.lab.1, .string T.lab.2, .slice ao3 T.kids.length cap3]) (hb25.ext hx5g) rfl rfl (by simp [Value.cells]) (by simp [Value.oneCell']) ?_
      intro wz hcz hbz _
      have hbz : Blk wz w1.heap.size 26 [.int .i64 T.lab.1, .string T.lab.2, .slice ao3 T.kids.length cap3] := hbz
      refine Ld.agg (vs := [.int .i64 T.lab.1, .string T.lab.2, .slice ao3 T.kids.length cap3]) (Blk.lc0 (post := []) hbz) ?_
      have hnz : ∀ b ∈ c3, ¬ b = w1.heap.size := fun b hb => by have := hf5.lo b hb; omega
      exact ⟨(hx05.trans hx5g).chg hcz (by omega), _, c3, rfl, (hk5.ext hx5g).chg hcz hnz, ((hf5.ext hx5g).chg hcz hnz).mono (by omega)⟩
end Go.Proofs.YtliigpmpeldebaaGreat
