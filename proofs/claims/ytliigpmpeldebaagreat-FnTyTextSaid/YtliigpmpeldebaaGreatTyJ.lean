/- Contracts: the program's Type as an SExpr; TypeToSExpr, FormatType. Conditions: none. -/
import Derived.Test.YtliigpmpeldebaaGreatTyI
import Derived.Test.YtliigpmpeldebaaGreatSxE
namespace Go.Proofs.YtliigpmpeldebaaGreat
open Go.RowKit

theorem encS_one (l : ByteArray) : ∀ u ∈ encS l, u.oneCell' = true := by
  intro u hu
  simp only [encS, List.mem_singleton] at hu
  subst hu
  rfl

def EncSaid (ks : List Tp) : Prop := ∀ (l : TLab) (w : World) (v : Value) (bs : List Nat), fmT (.mk l ks) → Rose.cnt ks ≤ 4294967296 → Kids encT w v ks bs →
    Ret Tryz.prog 21 [.agg #[.int .i64 l.1, .string l.2, v]] w (NewSx w (enS (.mk l ks)).lab (enS (.mk l ks)).kids)

/-- impl.encodeTypes -/
theorem c_encodeTypes {ks : List Tp} (ih : ∀ t ∈ ks, EncSaid t.kids) (hfm : ∀ t ∈ ks, fmT t) (hs : Rose.cnt ks ≤ 4294967296) {w : World} {v : Value} {bs : List Nat} (hk : Kids encT w v ks bs) :
    Ret Tryz.prog 51 [v] w fun r w' => Ext w w' ∧ ∃ O cs, GrowT encS 33 2 w.heap.size w' r (enL ks) O cs := by
  obtain ⟨ao, cap, rfl, hm, hcap⟩ := hk.form
  have hM : maxLen = 9223372036854775807 := rfl
  have hlen : ks.length ≤ 4294967296 := Nat.le_trans (Rose.wtL_length _ _) hs
  refine ret_of_vc ttOk Tryz.func51 rfl (by kernel_rfl) (by kernel_rfl) ?_
  refine Go1.b0 33 (size := 2) (bytes := 40) Tryz.underlying31 tiSx ?_
  intro w1 u hx1 hg1 hu
  subst hu
  refine Lp.go ttOk (by kernel_rfl) (fun b : Nat × Value => [(3, b.2), (7, .slice ao ks.length cap), (8, .int .i64 ks.length), (9, .int .i64 b.1)])
    (fun b w' => Ext w w' ∧ b.1 ≤ ks.length ∧ ∃ O cs, GrowT encS 33 2 w.heap.size w' b.2 (enL (ks.take b.1)) O cs) (fun b => ks.length - b.1) (0, .slice (some ⟨w.heap.size, 0, none⟩) 0 0)
    ⟨rfl, rfl, rfl, rfl, trivial⟩ ⟨hx1, Nat.zero_le _, [w.heap.size], [], by rw [List.take_zero, enL_nil]; exact GrowT.of_nil hg1 (by simp)⟩ ?_
  rintro ⟨k, r⟩ w2 ⟨hx2, hk1, O, cs, hg⟩
  simp only at hk1 hg
  have sz2 := hx2.size
  refine Cm.s (fun hlt => ?_) (fun hge => ?_)
  · have hlt : k < ks.length := by have : (k : Int) < ks.length := hlt; omega
    obtain ⟨a, t, v1, b1, rfl, ht, hc, hkt, _⟩ := (hk.ext hx2).get encT_sz hlt
    have htm := List.mem_of_getElem? ht
    have hcm := Rose.cnt_mem htm
    obtain ⟨ao3, cap3, rfl, _, _⟩ := hkt.form
    refine Go1.ix 3 hlt (Ld.agg hc ?_)
    refine Go1.al tiTy ?_
    intro w4 hxw4 hbw4
    have ltw4 := hbw4.lt
    refine Go0.st (off := 0) (vs := [.int .i64 t.lab.1, .string t.lab.2, .slice ao3 t.kids.length cap3]) hbw4 rfl rfl (by simp [Value.cells]) (by simp [Value.oneCell']) ?_
    intro w5 hx0w5 hb0w5 _
    have hbw5 : Blk w5 w2.heap.size 26 [.int .i64 t.lab.1, .string t.lab.2, .slice ao3 t.kids.length cap3] := hb0w5
    have hxw5 : Ext w2 w5 := hxw4.chg hx0w5 (by omega)
    refine Ld.agg (vs := [.int .i64 t.lab.1, .string t.lab.2, .slice ao3 t.kids.length cap3]) (Blk.lc0 (post := []) hbw5) ?_
    refine (ih t htm t.lab w5 _ b1 (by rw [t.eta]; exact hfm t htm) (by omega) (hkt.ext hxw5)).mono ?_
    rw [t.eta]
    generalize hT : enS t = T
    rintro _ wb ⟨hxb, vb, cb, rfl, hkb, hfb⟩
    obtain ⟨aob, capb, rfl, _, _⟩ := hkb.form
    refine Go1.bs 33 [.string T.lab, .slice aob T.kids.length capb] (size := 2) (bytes := 40) Tryz.underlying31 tiSx (by decide) (by decide) (by kernel_rfl) ?_
    intro wd hxd hbd
    have hxTe := (hxw5.trans hxb).trans hxd
    obtain ⟨vsT, hgrT, hklT, hfrT⟩ := hg
    have hlk : (enL (ks.take k)).length ≤ ks.length := by rw [enL_length, List.length_take]; omega
    refine Go1.app (size := 2) (bytes := 40) Tryz.underlying31 tiSx (by rfl) (by decide) (hgrT.ext hxTe) (m := 1) (news := [.string T.lab, .slice aob T.kids.length capb]) (Blk.lc0 (post := []) hbd) (by simp) (by simp [Value.oneCell']) (by omega) (by decide) ?_
    intro rf wf Of hcf hgf hOf
    have hgF := GrowT.snoc (t := T) (v := .slice aob T.kids.length capb) hxTe hklT hfrT (hkb.ext hxd) (hfb.ext hxd) hxw5.size hcf hgf hOf sz2
    rw [← hT, ← enL_take ht] at hgF
    refine Wr.n (k + 1) (by simp) (by omega) ?_
    exact ⟨(k + 1, rf), ⟨rfl, rfl, rfl, rfl, trivial⟩, ⟨Chg.big (hx2.trans hxTe) hcf (fun b hb => hfrT.lo b (List.mem_append_left _ hb)), hlt, Of, _, hgF⟩, by simp; omega⟩
  · have : k = ks.length := by have : ¬ (k : Int) < ks.length := hge; omega
    subst this
    rw [List.take_length] at hg
    exact ⟨hx2, O, cs, hg⟩

set_option maxHeartbeats 1000000 in
/-- impl.encodeType -/
theorem c_encodeType (ks : List Tp) : EncSaid ks := by
  refine Rose.forest (fun ks ih => ?_) ks
  intro l w v bs hfm hs hk
  have hbl := Kids.lt encT_ne ks hk
  obtain ⟨ao, cap, rfl, hm, hcap⟩ := hk.form
  have hM : maxLen = 9223372036854775807 := rfl
  have hlen : ks.length ≤ 4294967296 := Nat.le_trans (Rose.wtL_length _ _) hs
  rw [fmT_iff] at hfm
  have hhd := hfm.1
  rw [enS_eq]
  refine ret_of_vc ttOk Tryz.func21 rfl (by kernel_rfl) (by kernel_rfl) ?_
  refine Go1.bx ?_
  intro w1 hx1 hb1
  refine Go1.al tiSx ?_
  intro w2 hx2 hb2
  have hx02 := hx1.trans hx2
  have hb12 := hb1.ext hx2
  have lt1 := hb1.lt
  have lt2 := hb2.lt
  have sz1 := hx1.size
  have sz2 := hx2.size
  refine Go1.fl 0 (Ld.one hb12.at0 ?_)
  refine Cm.s (fun h1 => ?_) (fun h1 => ?_)
  · rw [if_pos h1]
    have hnm := head_name hhd (.inl h1)
    refine Go1.fl 1 (Ld.one hb12.at1 ?_)
    refine Go1.cat (by have := hnm.2.2.1; show 1 + l.2.size ≤ _; omega) ?_
    refine (c_atom _).mono ?_
    rintro _ w3 ⟨hx3, v3, c3, rfl, hk3, hf3⟩
    obtain ⟨ao3, cap3, rfl, _, _⟩ := hk3.form
    have sz3 := hx3.size
    refine Go0.st (off := 0) (vs := [.string (⟨#[39]⟩ ++ l.2), .slice ao3 0 cap3]) (hb2.ext hx3) rfl rfl (by simp [Value.cells]) (by simp [Value.oneCell']) ?_
    intro w4 hx4 hb4 _
    have hb4 : Blk w4 w1.heap.size 33 [.string (⟨#[39]⟩ ++ l.2), .slice ao3 0 cap3] := hb4
    refine Ld.agg (vs := [.string (⟨#[39]⟩ ++ l.2), .slice ao3 0 cap3]) (Blk.lc0 (post := []) hb4) ?_
    exact ⟨(hx02.trans hx3).chg hx4 (by omega), _, [], rfl, Kids.nil, Fresh.nil _ _⟩
  rw [if_neg h1]
  refine Cm.s (fun h4 => ?_) (fun h4 => ?_)
  · rw [if_pos h4]
    refine Dr.x [1, 2, 0, 3, 4, 5, 6] ttOk ?_
    refine GoS.fl 1 (LdS.x1 hb12.at1 ?_)
    refine ⟨fun wa hxa => ?_⟩
    refine (c_atom sDyn).mono ?_
    rintro _ wb ⟨hxb, vb, cb, rfl, hkb, _⟩
    obtain ⟨aob, capb, rfl, _, _⟩ := hkb.form
    refine Af.ext (hxa.trans hxb) ?_
    refine ⟨fun wc hxc => ?_⟩
    refine (c_atom l.2).mono ?_
    rintro _ wd ⟨hxd, vd, cd, rfl, hkd, _⟩
    obtain ⟨aod, capd, rfl, _, _⟩ := hkd.form
    refine Af.ext (hxc.trans hxd) ?_
    refine ⟨fun we hxe => ?_⟩
    refine Go1.bs 33 [.string sDyn, .slice aob 0 capb, .string l.2, .slice aod 0 capd] (size := 2) (bytes := 40) Tryz.underlying31 tiSx (by decide) (by decide) (by kernel_rfl) ?_
    intro wf hxf hbf
    refine Af.ext (hxe.trans hxf) ?_
    refine ⟨fun wg hxg => ?_⟩
    obtain ⟨dl, hkl, hfl⟩ := kids_lit (enc := encS) (ts := [at_ sDyn, at_ l.2]) (vs := [.slice aob 0 capb, .slice aod 0 capd]) (n0 := we.heap.size) (cs := []) (by simpa [fl, encS, Rose.lab] using hbf.ext hxg) ⟨[], [], rfl, Kids.nil, ⟨[], [], rfl, Kids.nil, rfl⟩⟩ (Fresh.nil _ _) (Nat.le_refl _) (by simp) rfl (by simp; decide)
    refine (c_list hkl hfl (hxf.trans hxg).size).mono ?_
    rintro _ wh ⟨hxh, rfl, hkh, hfh⟩
    refine Af.ext (hxg.trans hxh) ?_
    refine ⟨fun wi hxi => ?_⟩
    have hx2h := ((((hxa.trans hxb).trans hxc).trans hxd).trans (hxe.trans hxf)).trans (hxg.trans hxh)
    have hx2e := (((hxa.trans hxb).trans hxc).trans hxd).trans hxe
    have sze := hx2e.size
    refine Go0.st (off := 0) (vs := [.string em, .slice (some ⟨we.heap.size, 0, none⟩) 2 2]) ((hb2.ext hx2h).ext hxi) rfl rfl (by simp [Value.cells]) (by simp [Value.oneCell']) ?_
    intro wj hcj hbj _
    have hbj : Blk wj w1.heap.size 33 [.string em, .slice (some ⟨we.heap.size, 0, none⟩) 2 2] := hbj
    refine Af.nw ?_
    intro wk hxk
    refine Ld.agg (vs := [.string em, .slice (some ⟨we.heap.size, 0, none⟩) 2 2]) (Blk.lc0 (post := []) (hbj.ext hxk)) ?_
    have hn : ∀ b ∈ dl, ¬ b = w1.heap.size := fun b hb => by have := hfh.lo b hb; omega
    exact ⟨(((hx02.trans hx2h).trans hxi).chg hcj (by omega)).trans hxk, _, dl, rfl, ((hkh.ext hxi).chg hcj hn).ext hxk, (((hfh.ext hxi).chg hcj hn).ext hxk).mono (by omega)⟩
  rw [if_neg h4]
  refine Cm.s (fun h3 => ?_) (fun h3 => ?_)
  · rw [if_pos h3]
    have hk1 : ks.length = 1 := by rcases hhd with h | h | h <;> omega
    have hlt : 0 < ks.length := by omega
    obtain ⟨a, t, v1, b1, rfl, ht, hc, hkt, _⟩ := (hk.ext hx02).get encT_sz hlt
    have htm := List.mem_of_getElem? ht
    have hcm := Rose.cnt_mem htm
    have hkst : ks = [t] := by
      match ks, hk1, ht with
      | [x], _, ht => simp at ht; rw [ht]
    refine Dr.x [1, 2, 4, 5, 6, 7, 0, 3, 8, 9, 10, 11] ttOk ?_
    refine GoS.fl 1 (LdS.x1 hb12.at1 ?_)
    refine GoS.fl 2 (LdS.x1 hb12.at2 ?_)
    refine GoS.ix 3 (j := 0) hlt (LdS.xn hc ?_)
    refine ⟨fun wa hxa => ?_⟩
    refine (c_atom sAssoc).mono ?_
    rintro _ wb ⟨hxb, vb, cb, rfl, hkb, _⟩
    obtain ⟨aob, capb, rfl, _, _⟩ := hkb.form
    refine Af.ext (hxa.trans hxb) ?_
    refine ⟨fun wc hxc => ?_⟩
    refine (c_atom l.2).mono ?_
    rintro _ wd ⟨hxd, vd, cd, rfl, hkd, _⟩
    obtain ⟨aod, capd, rfl, _, _⟩ := hkd.form
    refine Af.ext (hxc.trans hxd) ?_
    refine ⟨fun we hxe => ?_⟩
    have hx2e := (((hxa.trans hxb).trans hxc).trans hxd).trans hxe
    refine (ih t htm t.lab we v1 b1 (by rw [t.eta]; exact hfm.2 t htm) (by omega) (hkt.ext hx2e)).mono ?_
    rw [t.eta]
    generalize hT : enS t = T
    rintro _ wf ⟨hxf, vf, cf, rfl, hkf, hff⟩
    obtain ⟨aof, capf, rfl, _, _⟩ := hkf.form
    refine Af.ext (hxe.trans hxf) ?_
    refine ⟨fun wg hxg => ?_⟩
    refine Go1.bs 33 [.string sAssoc, .slice aob 0 capb, .string l.2, .slice aod 0 capd, .string T.lab, .slice aof T.kids.length capf] (size := 2) (bytes := 40) Tryz.underlying31 tiSx (by decide) (by decide) (by kernel_rfl) ?_
    intro wh hxh hbh
    refine Af.ext (hxg.trans hxh) ?_
    refine ⟨fun wi hxi => ?_⟩
    have szf := hxf.size
    have szg := hxg.size
    have sze := hx2e.size
    have hgi := hxh.trans hxi
    obtain ⟨dl, hkl, hfl⟩ := kids_lit (enc := encS) (ts := [at_ sAssoc, at_ l.2, T]) (vs := [.slice aob 0 capb, .slice aod 0 capd, .slice aof T.kids.length capf]) (n0 := we.heap.size) (cs := cf) (by simpa [fl, encS, Rose.lab] using hbh.ext hxi)
      ⟨[], cf, rfl, Kids.nil, ⟨[], cf, rfl, Kids.nil, ⟨cf, [], by simp, (hkf.ext hxg).ext hgi, rfl⟩⟩⟩ ((hff.ext hxg).ext hgi) (by omega) (fun hb => by have := hff.lt _ hb; omega) rfl (by simp; decide)
    refine (c_list hkl hfl (by have := hgi.size; omega)).mono ?_
    rintro _ wj ⟨hxj, rfl, hkj, hfj⟩
    refine Af.ext (hxi.trans hxj) ?_
    refine ⟨fun wk hxk => ?_⟩
    have hx2k := ((((hx2e.trans hxf).trans hxg).trans hgi).trans hxj).trans hxk
    refine Go0.st (off := 0) (vs := [.string em, .slice (some ⟨wg.heap.size, 0, none⟩) 3 3]) (hb2.ext hx2k) rfl rfl (by simp [Value.cells]) (by simp [Value.oneCell']) ?_
    intro wl hcl hbl' _
    have hbl' : Blk wl w1.heap.size 33 [.string em, .slice (some ⟨wg.heap.size, 0, none⟩) 3 3] := hbl'
    refine Af.nw ?_
    intro wm hxm
    refine Ld.agg (vs := [.string em, .slice (some ⟨wg.heap.size, 0, none⟩) 3 3]) (Blk.lc0 (post := []) (hbl'.ext hxm)) ?_
    have hn : ∀ b ∈ dl, ¬ b = w1.heap.size := fun b hb => by have := hfj.lo b hb; omega
    have hen : enL ks = [T] := by rw [hkst, enL_cons, enL_nil, hT]
    rw [hen]
    exact ⟨((hx02.trans hx2k).chg hcl (by omega)).trans hxm, _, dl, rfl, ((hkj.ext hxk).chg hcl hn).ext hxm, (((hfj.ext hxk).chg hcl hn).ext hxm).mono (by omega)⟩
  rw [if_neg h3]
  refine Go1.fl 2 (Ld.one hb12.at2 ?_)
  refine Cm.s (fun h0 => ?_) (fun h0 => ?_)
  · have hk0 : ks.length = 0 := by omega
    rw [if_pos hk0]
    refine Go1.fl 1 (Ld.one hb12.at1 ?_)
    refine (c_atom _).mono ?_
    rintro _ w3 ⟨hx3, v3, c3, rfl, hk3, hf3⟩
    obtain ⟨ao3, cap3, rfl, _, _⟩ := hk3.form
    have sz3 := hx3.size
    refine Go0.st (off := 0) (vs := [.string l.2, .slice ao3 0 cap3]) (hb2.ext hx3) rfl rfl (by simp [Value.cells]) (by simp [Value.oneCell']) ?_
    intro w4 hx4 hb4 _
    have hb4 : Blk w4 w1.heap.size 33 [.string l.2, .slice ao3 0 cap3] := hb4
    refine Ld.agg (vs := [.string l.2, .slice ao3 0 cap3]) (Blk.lc0 (post := []) hb4) ?_
    exact ⟨(hx02.trans hx3).chg hx4 (by omega), _, [], rfl, Kids.nil, Fresh.nil _ _⟩
  · rw [if_neg (by omega)]
    -- the literal of one atom and the encoded elements, in either order; then what is left to do
    have fin : ∀ (wp wq : World) (g : Nat) (aob : Option Addr) (capb : Nat) (r : Value) (O cs : List Nat), Ext w2 wp → w2.heap.size ≤ wq.heap.size → Blk wp g 33 [.string l.2, .slice aob 0 capb] → w2.heap.size ≤ g → g ∉ O ++ cs → GrowT encS 33 2 wq.heap.size wp r (enL ks) O cs → Ext w2 wp →
        Go1 Tryz.prog (Builtin.append_ #[31, 31] 31 #[.slice (some ⟨g, 0, none⟩) 1 1, r]) wp fun r' wr => Chg (fun x => w2.heap.size ≤ x) wp wr ∧ ∃ ds, Kids encS wr r' (at_ l.2 :: enL ks) ds ∧ Fresh w2.heap.size wr ds := by
      intro wp wq g aob capb r O cs hxp hq hbg hg hno ⟨vs, hgr, hkl, hfr⟩ _
      have hne : enL ks ≠ [] := fun e => by have := enL_length ks; rw [e] at this; simp at this; omega
      rcases hgr.2 with ⟨_, h0, _⟩ | ⟨g2, cap2, rest2, rfl, rfl, hb2', hcl2, _⟩
      · exact absurd (List.eq_nil_of_length_eq_zero h0) hne
      · have hgs : Grow wp 33 2 (.slice (some ⟨g, 0, none⟩) 1 1) ([at_ l.2] : List Sx).length (fl encS [at_ l.2] [.slice aob 0 capb]) [g] := ⟨by simp [fl, encS], .inr ⟨g, 1, [], rfl, rfl, by simpa [fl, encS, Rose.lab] using hbg, Nat.le_refl _, by decide, by simp [fl, encS]⟩⟩
        have hfl : (fl encS (enL ks) vs).length = (enL ks).length * 2 := length_fl encS_sz hkl.length
        refine Go1.app (size := 2) (bytes := 40) Tryz.underlying31 tiSx (by rfl) (by decide) hgs (m := (enL ks).length) (news := fl encS (enL ks) vs) (fun i x hx => Blk.lc0 hb2' i x hx) hfl (fl_one encS_one hkl) (by rw [enL_length]; simp; omega) (by decide) ?_
        intro r' wr O' hc hg' hO'
        have hk1 : KidsL encS wp [.slice aob 0 capb] [at_ l.2] [] := ⟨[], [], rfl, Kids.nil, rfl⟩
        have hcsf : Fresh wq.heap.size wp cs := hfr.sub (List.sublist_append_right _ _)
        have hgno : g ∉ cs := fun h => hno (List.mem_append_right _ h)
        have hcs' : ∀ b ∈ cs, ¬ b ∈ [g] := fun b hb h => by
          obtain rfl : b = g := by simpa using h
          exact hgno hb
        have hlim : ([at_ l.2] ++ enL ks).length ≤ maxLen := by rw [List.length_append, enL_length]; simp; omega
        have hO'lo : ∀ b ∈ O', w2.heap.size ≤ b := fun b hb => by
          rcases hO' b hb with h | h
          · obtain rfl : b = g := by simpa using h
            exact hg
          · exact Nat.le_trans hxp.size h
        have hO'f : Fresh w2.heap.size wr O' := hg'.fresh hO'lo
        have hcsr : Fresh w2.heap.size wr cs := ((hcsf.chg hc hcs').mono hq)
        have hall : Fresh w2.heap.size wr (O' ++ cs) := ⟨List.nodup_append.2 ⟨hO'f.nodup, hcsr.nodup, fun x hx y hy e => by
          subst e
          rcases hO' x hx with h | h
          · exact hcs' x hy h
          · have := hcsf.lt x hy
            omega⟩, fun b hb => by
          rcases List.mem_append.1 hb with h | h
          · exact hO'f.lo b h
          · exact hcsr.lo b h, fun b hb => by
          rcases List.mem_append.1 hb with h | h
          · exact hO'f.blk b h
          · exact hcsr.blk b h⟩
        have hgt : GrowT encS 33 2 w2.heap.size wr r' ([at_ l.2] ++ enL ks) O' cs := ⟨[.slice aob 0 capb] ++ vs, by rw [List.length_append, fl_append rfl]; exact hg', by simpa using KidsL.append (hk1.chg hc (by simp)) (hkl.chg hc hcs'), hall⟩
        obtain ⟨ds, h1, h2⟩ := hgt.kids hlim
        exact ⟨hc.mono fun x _ hx => by
          obtain rfl : x = g := by simpa using hx
          exact hg, ds, h1, h2⟩
    refine Dr.e [0, 1, 4, 5, 2, 3, 6, 7, 8, 9] [(3, 6)] ttOk ?_
    refine GoS.fl 1 (LdS.x1 hb12.at1 ?_)
    refine GoS.fl 2 (LdS.x1 hb12.at2 ?_)
    refine ⟨fun wa hxa => ?_⟩
    refine (c_atom l.2).mono ?_
    rintro _ wb ⟨hxb, vb, cb, rfl, hkb, _⟩
    obtain ⟨aob, capb, rfl, _, _⟩ := hkb.form
    refine Af.ext (hxa.trans hxb) ?_
    have hx2b := hxa.trans hxb
    refine ⟨?_, ?_⟩
    · refine ⟨fun wc hxc => ?_⟩
      refine Go1.bs 33 [.string l.2, .slice aob 0 capb] (size := 2) (bytes := 40) Tryz.underlying31 tiSx (by decide) (by decide) (by kernel_rfl) ?_
      intro wd hxd hbd
      refine Af.ext (hxc.trans hxd) ?_
      refine ⟨fun we hxe => ?_⟩
      have hx2c := hx2b.trans hxc
      have hx2e := (hx2c.trans hxd).trans hxe
      have szc := hx2c.size
      have szd := hxd.size
      have sze := hxe.size
      have ltd := hbd.lt
      refine (c_encodeTypes ih hfm.2 hs (hk.ext (hx02.trans hx2e))).mono ?_
      rintro r wf ⟨hxf, O, cs, hgf⟩
      refine Af.ext (hxe.trans hxf) ?_
      refine ⟨fun wg hxg => ?_⟩
      refine Go1.mono' (fin wg we wc.heap.size aob capb r O cs ((hx2e.trans hxf).trans hxg) (by omega) (((hbd.ext hxe).ext hxf).ext hxg) szc (fun h => by have := hgf.lo _ h; omega) (hgf.ext hxg) ((hx2e.trans hxf).trans hxg)) ?_
      rintro r' wr ⟨hcr, ds, hkr, hfr⟩
      have hE : Ext w2 wr := ((hx2e.trans hxf).trans hxg).chg hcr (fun _ h => h)
      obtain ⟨ao5, cap5, rfl, _, _⟩ := hkr.form
      refine Af.nw ?_
      refine ⟨fun wh hxh => ?_⟩
      refine (c_list (hkr.ext hxh) (hfr.ext hxh) (hE.trans hxh).size).mono ?_
      rintro _ wi ⟨hxi, rfl, hki, hfi⟩
      refine Af.ext (hxh.trans hxi) ?_
      refine ⟨fun wj hxj => ?_⟩
      have hx2j := ((hE.trans hxh).trans hxi).trans hxj
      refine Go0.st (off := 0) (vs := [.string em, .slice ao5 (at_ l.2 :: enL ks).length cap5]) (hb2.ext hx2j) rfl rfl (by simp [Value.cells]) (by simp [Value.oneCell']) ?_
      intro wl hcl hbl' _
      have hbl' : Blk wl w1.heap.size 33 [.string em, .slice ao5 (at_ l.2 :: enL ks).length cap5] := hbl'
      refine Af.nw ?_
      intro wm hxm
      refine Ld.agg (vs := [.string em, .slice ao5 (at_ l.2 :: enL ks).length cap5]) (Blk.lc0 (post := []) (hbl'.ext hxm)) ?_
      have hn : ∀ b ∈ ds, ¬ b = w1.heap.size := fun b hb => by have := hfi.lo b hb; omega
      exact ⟨((hx02.trans hx2j).chg hcl (by omega)).trans hxm, _, ds, rfl, ((hki.ext hxj).chg hcl hn).ext hxm, (((hfi.ext hxj).chg hcl hn).ext hxm).mono (by omega)⟩
    · refine ⟨fun wc hxc => ?_⟩
      have hx2c := hx2b.trans hxc
      have szc := hx2c.size
      refine (c_encodeTypes ih hfm.2 hs (hk.ext (hx02.trans hx2c))).mono ?_
      rintro r wf ⟨hxf, O, cs, hgf⟩
      refine Af.ext (hxc.trans hxf) ?_
      refine ⟨fun wd hxd => ?_⟩
      refine Go1.bs 33 [.string l.2, .slice aob 0 capb] (size := 2) (bytes := 40) Tryz.underlying31 tiSx (by decide) (by decide) (by kernel_rfl) ?_
      intro we hxe hbe
      refine Af.ext (hxd.trans hxe) ?_
      refine ⟨fun wg hxg => ?_⟩
      have hx2d := (hx2c.trans hxf).trans hxd
      have szd := hx2d.size
      have szd' := hxd.size
      refine Go1.mono' (fin wg wc wd.heap.size aob capb r O cs ((hx2d.trans hxe).trans hxg) (by omega) (hbe.ext hxg) szd (fun h => by have := hgf.lt _ h; omega) (((hgf.ext hxd).ext hxe).ext hxg) ((hx2d.trans hxe).trans hxg)) ?_
      rintro r' wr ⟨hcr, ds, hkr, hfr⟩
      have hx2e := hx2d
      have hE : Ext w2 wr := ((hx2d.trans hxe).trans hxg).chg hcr (fun _ h => h)
      obtain ⟨ao5, cap5, rfl, _, _⟩ := hkr.form
      refine Af.nw ?_
      refine ⟨fun wh hxh => ?_⟩
      refine (c_list (hkr.ext hxh) (hfr.ext hxh) (hE.trans hxh).size).mono ?_
      rintro _ wi ⟨hxi, rfl, hki, hfi⟩
      refine Af.ext (hxh.trans hxi) ?_
      refine ⟨fun wj hxj => ?_⟩
      have hx2j := ((hE.trans hxh).trans hxi).trans hxj
      refine Go0.st (off := 0) (vs := [.string em, .slice ao5 (at_ l.2 :: enL ks).length cap5]) (hb2.ext hx2j) rfl rfl (by simp [Value.cells]) (by simp [Value.oneCell']) ?_
      intro wl hcl hbl' _
      have hbl' : Blk wl w1.heap.size 33 [.string em, .slice ao5 (at_ l.2 :: enL ks).length cap5] := hbl'
      refine Af.nw ?_
      intro wm hxm
      refine Ld.agg (vs := [.string em, .slice ao5 (at_ l.2 :: enL ks).length cap5]) (Blk.lc0 (post := []) (hbl'.ext hxm)) ?_
      have hn : ∀ b ∈ ds, ¬ b = w1.heap.size := fun b hb => by have := hfi.lo b hb; omega
      exact ⟨((hx02.trans hx2j).chg hcl (by omega)).trans hxm, _, ds, rfl, ((hki.ext hxj).chg hcl hn).ext hxm, (((hfi.ext hxj).chg hcl hn).ext hxm).mono (by omega)⟩

open Classical in
/-- What TypeToSExpr answers. -/
noncomputable def ttS (t : Tp) : Sx := if okT t then enS t else .mk em []
theorem enS_cnt (ks : List Tp) : Rose.cnt (enL ks) ≤ 3 * Rose.cnt ks := by
  refine Rose.forest (p := fun ks => Rose.cnt (enL ks) ≤ 3 * Rose.cnt ks) (fun ks ih => ?_) ks
  induction ks with
  | nil => rw [enL_nil]; show Rose.wtL _ [] ≤ _; rw [Rose.wtL_nil]; omega
  | cons t ts iht =>
    have h1 := ih t List.mem_cons_self
    have h2 := iht fun u hu => ih u (List.mem_cons_of_mem _ hu)
    rw [enL_cons]
    have e1 : Rose.cnt (enS t :: enL ts) = 1 + Rose.cnt (enS t).kids + Rose.cnt (enL ts) := by
      show Rose.wtL _ _ = 1 + Rose.wtL _ _ + Rose.wtL _ _
      rw [Rose.wtL_cons]
    have e2 : Rose.cnt (t :: ts) = 1 + Rose.cnt t.kids + Rose.cnt ts := by
      show Rose.wtL _ _ = 1 + Rose.wtL _ _ + Rose.wtL _ _
      rw [Rose.wtL_cons]
    have h3 : Rose.cnt (enS t).kids ≤ 2 + 3 * Rose.cnt t.kids := by
      cases t with
      | mk l ls =>
        have h1 : Rose.cnt (enL ls) ≤ 3 * Rose.cnt ls := h1
        show _ ≤ 2 + 3 * Rose.cnt ls
        rw [enS_eq]
        have hat : ∀ (s : ByteArray) (us : List Sx), Rose.cnt (at_ s :: us) = 1 + Rose.cnt us := fun s us => by
          show Rose.wtL _ _ = 1 + Rose.wtL _ _
          rw [Rose.wtL_cons]
          simp [Rose.kids, Rose.wtL_nil]
        have hnil : Rose.cnt ([] : List Sx) = 0 := Rose.wtL_nil _
        split
        · simp only [Rose.kids, hnil]; omega
        · split
          · simp only [Rose.kids, hat, hnil]; omega
          · split
            · simp only [Rose.kids, hat]; omega
            · split
              · simp only [Rose.kids, hnil]; omega
              · simp only [Rose.kids, hat]; omega
    omega
theorem enS_kids (l : TLab) (ks : List Tp) : Rose.cnt (enS (.mk l ks)).kids ≤ 2 + 3 * Rose.cnt ks := by
  have h := enS_cnt [.mk l ks]
  have e1 : Rose.cnt (enL [.mk l ks]) = 1 + Rose.cnt (enS (.mk l ks)).kids := by
    rw [enL_cons, enL_nil]
    show Rose.wtL _ _ = _
    rw [Rose.wtL_cons, Rose.wtL_nil]
    rfl
  have e2 : Rose.cnt [Rose.mk l ks] = 1 + Rose.cnt ks := by
    show Rose.wtL _ _ = _
    rw [Rose.wtL_cons, Rose.wtL_nil]
    rfl
  omega
theorem ttS_kids (l : TLab) (ks : List Tp) : Rose.cnt (ttS (.mk l ks)).kids ≤ 2 + 3 * Rose.cnt ks := by
  unfold ttS
  split
  · exact enS_kids l ks
  · show Rose.wtL _ [] ≤ _
    rw [Rose.wtL_nil]
    omega

/-- spec.TypeToSExpr -/
theorem c_sTypeToSExpr {l : TLab} {ks : List Tp} (hl : l.2.size ≤ maxLen) (ha : Rose.AlL (fun s => s.2.size ≤ maxLen) ks) (hs : Rose.cnt ks ≤ 4294967296) {w : World} {v : Value} {bs : List Nat} (hk : Kids encT w v ks bs) :
    Ret Tryz.prog 25 [.agg #[.int .i64 l.1, .string l.2, v]] w (NewSx w (ttS (.mk l ks)).lab (ttS (.mk l ks)).kids) := by
  obtain ⟨ao, cap, rfl, hm, hcap⟩ := hk.form
  refine ret_of_vc ttOk Tryz.func25 rfl (by kernel_rfl) (by kernel_rfl) ?_
  refine Go1.bx ?_
  intro w1 hx1 hb1
  refine Go1.al tiSx ?_
  intro w2 hx2 hb2
  have lt2 := hb2.lt
  have sz1 := hx1.size
  have sz2 := hx2.size
  have hx02 := hx1.trans hx2
  refine Ld.agg (vs := [.int .i64 l.1, .string l.2, .slice ao ks.length cap]) (Blk.lc0 (post := []) (hb1.ext hx2)) ?_
  refine (c_sIsValidType hl ha (hk.ext hx02)).mono ?_
  rintro r w3 ⟨⟨b, rfl, hb⟩, hx3⟩
  have sz3 := hx3.size
  unfold ttS
  cases b
  · rw [if_neg fun h => by simpa using hb.2 h]
    refine Go1.bd [.string em, .slice none 0 0] ?_
    refine Go0.st (off := 0) (vs := [.string em, .slice none 0 0]) (hb2.ext hx3) rfl rfl (by simp [Value.cells]) (by simp [Value.oneCell']) ?_
    intro w4 hx4 hb4 _
    have hb4 : Blk w4 w1.heap.size 33 [.string em, .slice none 0 0] := hb4
    refine Ld.agg (vs := [.string em, .slice none 0 0]) (Blk.lc0 (post := []) hb4) ?_
    exact ⟨(hx02.trans hx3).chg hx4 (by omega), _, [], rfl, Kids.nil, Fresh.nil _ _⟩
  · have hok := hb.1 rfl
    rw [if_pos hok]
    refine Ld.agg (vs := [.int .i64 l.1, .string l.2, .slice ao ks.length cap]) (Blk.lc0 (post := []) ((hb1.ext hx2).ext hx3)) ?_
    refine (c_l5Sx ks l w3 _ bs hok.2.1 hs (hk.ext (hx02.trans hx3))).mono ?_
    generalize enS (.mk l ks) = T
    rintro _ w4 ⟨hx4, v4, c4, rfl, hk4, hf4⟩
    obtain ⟨ao4, cap4, rfl, _, _⟩ := hk4.form
    have sz4 := hx4.size
    refine Go0.st (off := 0) (vs := [.string T.lab, .slice ao4 T.kids.length cap4]) ((hb2.ext hx3).ext hx4) rfl rfl (by simp [Value.cells]) (by simp [Value.oneCell']) ?_
    intro w5 hx5 hb5 _
    have hb5 : Blk w5 w1.heap.size 33 [.string T.lab, .slice ao4 T.kids.length cap4] := hb5
    refine Ld.agg (vs := [.string T.lab, .slice ao4 T.kids.length cap4]) (Blk.lc0 (post := []) hb5) ?_
    have hn : ∀ b ∈ c4, ¬ b = w1.heap.size := fun b hb => by have := hf4.lo b hb; omega
    exact ⟨((hx02.trans hx3).trans hx4).chg hx5 (by omega), _, c4, rfl, hk4.chg hx5 hn, (hf4.chg hx5 hn).mono (by omega)⟩
/-- impl.TypeToSExpr -/
theorem c_iTypeToSExpr {l : TLab} {ks : List Tp} (hl : l.2.size ≤ maxLen) (ha : Rose.AlL (fun s => s.2.size ≤ maxLen) ks) (hs : Rose.cnt ks ≤ 4294967296) {w : World} {v : Value} {bs : List Nat} (hk : Kids encT w v ks bs) :
    Ret Tryz.prog 16 [.agg #[.int .i64 l.1, .string l.2, v]] w (NewSx w (ttS (.mk l ks)).lab (ttS (.mk l ks)).kids) := by
  obtain ⟨ao, cap, rfl, hm, hcap⟩ := hk.form
  refine ret_of_vc ttOk Tryz.func16 rfl (by kernel_rfl) (by kernel_rfl) ?_
  refine Go1.bx ?_
  intro w1 hx1 hb1
  refine Go1.al tiSx ?_
  intro w2 hx2 hb2
  have lt2 := hb2.lt
  have sz1 := hx1.size
  have sz2 := hx2.size
  have hx02 := hx1.trans hx2
  refine Ld.agg (vs := [.int .i64 l.1, .string l.2, .slice ao ks.length cap]) (Blk.lc0 (post := []) (hb1.ext hx2)) ?_
  refine (c_iIsValidType hl ha hs (hk.ext hx02)).mono ?_
  rintro r w3 ⟨⟨b, rfl, hb⟩, hx3⟩
  have sz3 := hx3.size
  unfold ttS
  cases b
  · rw [if_neg fun h => by simpa using hb.2 h]
    refine Go1.bd [.string em, .slice none 0 0] ?_
    refine Go0.st (off := 0) (vs := [.string em, .slice none 0 0]) (hb2.ext hx3) rfl rfl (by simp [Value.cells]) (by simp [Value.oneCell']) ?_
    intro w4 hx4 hb4 _
    have hb4 : Blk w4 w1.heap.size 33 [.string em, .slice none 0 0] := hb4
    refine Ld.agg (vs := [.string em, .slice none 0 0]) (Blk.lc0 (post := []) hb4) ?_
    exact ⟨(hx02.trans hx3).chg hx4 (by omega), _, [], rfl, Kids.nil, Fresh.nil _ _⟩
  · have hok := hb.1 rfl
    rw [if_pos hok]
    refine Ld.agg (vs := [.int .i64 l.1, .string l.2, .slice ao ks.length cap]) (Blk.lc0 (post := []) ((hb1.ext hx2).ext hx3)) ?_
    refine (c_encodeType ks l w3 _ bs hok.2.1 hs (hk.ext (hx02.trans hx3))).mono ?_
    generalize enS (.mk l ks) = T
    rintro _ w4 ⟨hx4, v4, c4, rfl, hk4, hf4⟩
    obtain ⟨ao4, cap4, rfl, _, _⟩ := hk4.form
    have sz4 := hx4.size
    refine Go0.st (off := 0) (vs := [.string T.lab, .slice ao4 T.kids.length cap4]) ((hb2.ext hx3).ext hx4) rfl rfl (by simp [Value.cells]) (by simp [Value.oneCell']) ?_
    intro w5 hx5 hb5 _
    have hb5 : Blk w5 w1.heap.size 33 [.string T.lab, .slice ao4 T.kids.length cap4] := hb5
    refine Ld.agg (vs := [.string T.lab, .slice ao4 T.kids.length cap4]) (Blk.lc0 (post := []) hb5) ?_
    have hn : ∀ b ∈ c4, ¬ b = w1.heap.size := fun b hb => by have := hf4.lo b hb; omega
    exact ⟨((hx02.trans hx3).trans hx4).chg hx5 (by omega), _, c4, rfl, hk4.chg hx5 hn, (hf4.chg hx5 hn).mono (by omega)⟩
end Go.Proofs.YtliigpmpeldebaaGreat
