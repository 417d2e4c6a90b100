/- Contracts: a Type as an SExpr. Conditions: none. -/
import Derived.Test.YtliigpmpeldebaaGreatTyH
import Derived.Test.YtliigpmpeldebaaGreatJGrowT
import Derived.Test.YtliigpmpeldebaaGreatJMarkT
import Derived.Test.YtliigpmpeldebaaGreatDrawC
namespace Go.Proofs.YtliigpmpeldebaaGreat
open Go.RowKit

abbrev sDyn : ByteArray := ⟨#[100, 121, 110]⟩
abbrev sAssoc : ByteArray := ⟨#[97, 115, 115, 111, 99]⟩
/-- An atom. -/
abbrev at_ (s : ByteArray) : Sx := .mk s []
mutual
/-- A Type as an SExpr. -/
def enS : Tp → Sx
  | .mk l ks => if l.1 = 1 then at_ (⟨#[39]⟩ ++ l.2) else if l.1 = 4 then .mk em [at_ sDyn, at_ l.2] else if l.1 = 3 then .mk em (at_ sAssoc :: at_ l.2 :: enL ks) else if ks.length = 0 then at_ l.2 else .mk em (at_ l.2 :: enL ks)
def enL : List Tp → List Sx
  | [] => []
  | k :: ks => enS k :: enL ks
end
theorem enS_eq (l : TLab) (ks : List Tp) : enS (.mk l ks) = if l.1 = 1 then at_ (⟨#[39]⟩ ++ l.2) else if l.1 = 4 then .mk em [at_ sDyn, at_ l.2] else if l.1 = 3 then .mk em (at_ sAssoc :: at_ l.2 :: enL ks) else if ks.length = 0 then at_ l.2 else .mk em (at_ l.2 :: enL ks) := by rw [enS]
theorem enL_cons (k : Tp) (ks : List Tp) : enL (k :: ks) = enS k :: enL ks := by rw [enL]
theorem enL_nil : enL [] = [] := by rw [enL]
theorem enL_append (ks ls : List Tp) : enL (ks ++ ls) = enL ks ++ enL ls := by
  induction ks with
  | nil => simp [enL]
  | cons k ks ih => simp only [List.cons_append, enL_cons, ih]
theorem enL_length (ks : List Tp) : (enL ks).length = ks.length := by
  induction ks with
  | nil => simp [enL]
  | cons k ks ih => simp only [enL_cons, List.length_cons, ih]
theorem enL_take {ks : List Tp} {k : Nat} {t : Tp} (h : ks[k]? = some t) : enL (ks.take (k + 1)) = enL (ks.take k) ++ [enS t] := by
  rw [take_succ_get h, enL_append, enL_cons, enL_nil]

/-- impl.atom -/
theorem c_atom (s : ByteArray) {w : World} : Ret Tryz.prog 49 [.string s] w (NewSx w s []) := by
  refine ret_of_vc ttOk Tryz.func49 rfl (by kernel_rfl) (by kernel_rfl) ?_
  refine Go1.al tiSx ?_
  intro w1 hx1 hb1
  have lt1 := hb1.lt
  refine Go1.bd [.string s, .slice none 0 0] ?_
  refine Go0.st (off := 0) (vs := [.string s, .slice none 0 0]) hb1 rfl rfl (by simp [Value.cells]) (by simp [Value.oneCell']) ?_
  intro w2 hx2 hb2 _
  have hb2 : Blk w2 w.heap.size 33 [.string s, .slice none 0 0] := hb2
  refine Ld.agg (vs := [.string s, .slice none 0 0]) (Blk.lc0 (post := []) hb2) ?_
  exact ⟨hx1.chg hx2 (by omega), _, [], rfl, Kids.nil, Fresh.nil _ _⟩
/-- impl.list -/
theorem c_list {ks : List Sx} {n0 : Nat} {w : World} {v : Value} {bs : List Nat} (hk : Kids encS w v ks bs) (hf : Fresh n0 w bs) (hn : n0 ≤ w.heap.size) :
    Ret Tryz.prog 50 [v] w fun r w' => Ext w w' ∧ r = .agg #[.string em, v] ∧ Kids encS w' v ks bs ∧ Fresh n0 w' bs := by
  obtain ⟨ao, cap, rfl, _, _⟩ := hk.form
  refine ret_of_vc ttOk Tryz.func50 rfl (by kernel_rfl) (by kernel_rfl) ?_
  refine Go1.al tiSx ?_
  intro w1 hx1 hb1
  have lt1 := hb1.lt
  refine Go1.bd [.string em, .slice ao ks.length cap] ?_
  refine Go0.st (off := 0) (vs := [.string em, .slice ao ks.length cap]) hb1 rfl rfl (by simp [Value.cells]) (by simp [Value.oneCell']) ?_
  intro w2 hx2 hb2 _
  have hb2 : Blk w2 w.heap.size 33 [.string em, .slice ao ks.length cap] := hb2
  refine Ld.agg (vs := [.string em, .slice ao ks.length cap]) (Blk.lc0 (post := []) hb2) ?_
  have hx : Ext w w2 := hx1.chg hx2 (by omega)
  exact ⟨hx, rfl, hk.ext hx, hf.ext hx⟩
/-- spec.l2Atom -/
theorem c_l2Atom (s : ByteArray) {w : World} : Ret Tryz.prog 53 [.string s] w (NewSx w s []) := by
  refine ret_of_vc ttOk Tryz.func53 rfl (by kernel_rfl) (by kernel_rfl) ?_
  refine Go1.al tiSx ?_
  intro w1 hx1 hb1
  have lt1 := hb1.lt
  refine Go1.bd [.string s, .slice none 0 0] ?_
  refine Go0.st (off := 0) (vs := [.string s, .slice none 0 0]) hb1 rfl rfl (by simp [Value.cells]) (by simp [Value.oneCell']) ?_
  intro w2 hx2 hb2 _
  have hb2 : Blk w2 w.heap.size 33 [.string s, .slice none 0 0] := hb2
  refine Ld.agg (vs := [.string s, .slice none 0 0]) (Blk.lc0 (post := []) hb2) ?_
  exact ⟨hx1.chg hx2 (by omega), _, [], rfl, Kids.nil, Fresh.nil _ _⟩
/-- spec.l2List of two atoms -/
theorem c_l2List2 (s t : ByteArray) {w : World} {g : Nat} {a b : Option Addr} {c d : Nat} (hb : Blk w g 33 [.string s, .slice a 0 c, .string t, .slice b 0 d]) :
    Ret Tryz.prog 54 [.slice (some ⟨g, 0, none⟩) 2 2] w (NewSx w em [at_ s, at_ t]) := by
  refine ret_of_vc ttOk Tryz.func54 rfl (by kernel_rfl) (by kernel_rfl) ?_
  refine Go1.al tiSx ?_
  intro w1 hx1 hb1
  have lt1 := hb1.lt
  have sz1 := hx1.size
  refine Go1.b0 33 (size := 2) (bytes := 40) Tryz.underlying31 tiSx ?_
  intro w2 u hx2 hg2 hu
  subst hu
  have sz2 := hx2.size
  refine Go1.app (size := 2) (bytes := 40) Tryz.underlying31 tiSx (by rfl) (by decide) hg2 (m := 2) (news := [.string s, .slice a 0 c, .string t, .slice b 0 d]) (Blk.lc0 (post := []) ((hb.ext hx1).ext hx2)) (by simp) (by simp [Value.oneCell']) (by omega) (by decide) ?_
  intro r3 w3 O3 hc3 hg3 hO3
  have hne : w.heap.size ∉ [w1.heap.size] := by simp; omega
  have hgt : GrowT encS 33 2 w1.heap.size w3 r3 [at_ s, at_ t] O3 [] := ⟨[.slice a 0 c, .slice b 0 d], by simpa [fl, encS, Rose.lab] using hg3, ⟨[], [], rfl, Kids.nil, ⟨[], [], rfl, Kids.nil, rfl⟩⟩, by
    simpa using hg3.fresh fun b hb => by
      rcases hO3 b hb with h | h
      · have : b = w1.heap.size := by simpa using h
        omega
      · omega⟩
  obtain ⟨ds, hk3, hf3⟩ := hgt.kids (by simp; decide)
  obtain ⟨ao, cap, rfl, _, _⟩ := hk3.form
  refine Go1.bd [.string em, .slice ao [at_ s, at_ t].length cap] ?_
  refine Go0.st (off := 0) (vs := [.string em, .slice ao [at_ s, at_ t].length cap]) ((hb1.ext hx2).chg hc3 hne) rfl rfl (by simp [Value.cells]) (by simp [Value.oneCell']) ?_
  intro w4 hx4 hb4 _
  have hb4 : Blk w4 w.heap.size 33 [.string em, .slice ao [at_ s, at_ t].length cap] := hb4
  refine Ld.agg (vs := [.string em, .slice ao [at_ s, at_ t].length cap]) (Blk.lc0 (post := []) hb4) ?_
  have hn4 : ∀ b ∈ ds, ¬ b = w.heap.size := fun b hb => by have := hf3.lo b hb; omega
  refine ⟨(((hx1.trans hx2).chg hc3 fun x hx => by have : x = w1.heap.size := by simpa using hx
                                                   omega)).chg hx4 (by omega), _, ds, rfl, hk3.chg hx4 hn4, (hf3.chg hx4 hn4).mono sz1⟩

theorem kids_nil {α : Type} {enc : α → List Value} {w : World} {v : Value} {bs : List Nat} (h : Kids enc w v ([] : List (Rose α)) bs) : bs = [] := by
  obtain ⟨ao, cap, _, _, ⟨_, h⟩ | ⟨a, bs', h, _⟩⟩ := h
  · exact h
  · exact absurd rfl h
/-- A literal. -/
theorem kids_lit {α : Type} {enc : α → List Value} {w : World} {g n0 n : Nat} {e : TypeId} {ts : List (Rose α)} {vs : List Value} {cs : List Nat} (hb : Blk w g e (fl enc ts vs)) (hk : KidsL enc w vs ts cs) (hf : Fresh n0 w cs) (hg : n0 ≤ g) (hn : g ∉ cs) (hl : n = ts.length) (hm : ts.length ≤ maxLen) :
    ∃ ds, Kids enc w (.slice (some ⟨g, 0, none⟩) n n) ts ds ∧ Fresh n0 w ds := by
  subst hl
  obtain ⟨ds, h1, h2⟩ := Kids.of_blk (rest := []) (cap := ts.length) (by simpa using hb) hk rfl ⟨hm, Nat.le_refl _⟩
  exact ⟨ds, h1, (Fresh.cons hb hg hf hn).sub h2⟩

theorem head_name {l : TLab} {n : Nat} (h : headP l n) (h1 : l.1 = 1 ∨ l.1 = 4) : NameOk l.2 := by
  rcases h with h | h | h
  · exact h.2.1
  · exact h.2.1
  · omega
def L5Said (ks : List Tp) : Prop := ∀ (l : TLab) (w : World) (v : Value) (bs : List Nat), fmT (.mk l ks) → Rose.cnt ks ≤ 4294967296 → Kids encT w v ks bs →
    Ret Tryz.prog 32 [.agg #[.int .i64 l.1, .string l.2, v]] w (NewSx w (enS (.mk l ks)).lab (enS (.mk l ks)).kids)

set_option maxHeartbeats 1000000 in
/-- spec.l5Sx -/
theorem c_l5Sx (ks : List Tp) : L5Said ks := by
  refine Rose.forest (fun ks ih => ?_) ks
  intro l w v bs hfm hs hk
  have hbl := Kids.lt encT_ne ks hk
  obtain ⟨ao, cap, rfl, hm, hcap⟩ := hk.form
  have hM : maxLen = 9223372036854775807 := rfl
  have hlen : ks.length ≤ 4294967296 := Nat.le_trans (Rose.wtL_length _ _) hs
  rw [fmT_iff] at hfm
  have hhd := hfm.1
  rw [enS_eq]
  refine ret_of_vc ttOk Tryz.func32 rfl (by kernel_rfl) (by kernel_rfl) ?_
  refine Go1.bx ?_
  intro w1 hx1 hb1
  refine Go1.al tiSx ?_
  intro w2 hx2 hb2
  have hx02 := hx1.trans hx2
  have hb12 := hb1.ext hx2
  have lt1 := hb1.lt
  have lt2 := hb2.lt
  have sz1 := hx1.size
  have sz2 := hx2.size
  -- a result that is one tree, put into its place
  refine Go1.fl 0 (Ld.one hb12.at0 ?_)
  refine Cm.s (fun h1 => ?_) (fun h1 => ?_)
  · rw [if_pos h1]
    have hnm := head_name hhd (.inl h1)
    refine Go1.fl 1 (Ld.one hb12.at1 ?_)
    refine Go1.cat (by have := hnm.2.2.1; show 1 + l.2.size ≤ _; omega) ?_
    refine (c_l2Atom _).mono ?_
    rintro _ w3 ⟨hx3, v3, c3, rfl, hk3, hf3⟩
    obtain ⟨ao3, cap3, rfl, _, _⟩ := hk3.form
    have sz3 := hx3.size
    refine Go0.st (off := 0) (vs := [.string (⟨#[39]⟩ ++ l.2), .slice ao3 0 cap3]) (hb2.ext hx3) rfl rfl (by simp [Value.cells]) (by simp [Value.oneCell']) ?_
    intro w4 hx4 hb4 _
    have hb4 : Blk w4 w1.heap.size 33 [.string (⟨#[39]⟩ ++ l.2), .slice ao3 0 cap3] := hb4
    refine Ld.agg (vs := [.string (⟨#[39]⟩ ++ l.2), .slice ao3 0 cap3]) (Blk.lc0 (post := []) hb4) ?_
    exact ⟨(hx02.trans hx3).chg hx4 (by omega), _, [], rfl, Kids.nil, Fresh.nil _ _⟩
  rw [if_neg h1]
  refine Go1.fl 0 (Ld.one hb12.at0 ?_)
  refine Cm.s (fun h4 => ?_) (fun h4 => ?_)
  · rw [if_pos h4]
    refine Dr.x [1, 2, 0, 3, 4, 5, 6] ttOk ?_
    refine GoS.fl 1 (LdS.x1 hb12.at1 ?_)
    refine ⟨fun wa hxa => ?_⟩
    refine (c_l2Atom sDyn).mono ?_
    rintro _ wb ⟨hxb, vb, cb, rfl, hkb, _⟩
    obtain ⟨aob, capb, rfl, _, _⟩ := hkb.form
    refine Af.ext (hxa.trans hxb) ?_
    refine ⟨fun wc hxc => ?_⟩
    refine (c_l2Atom l.2).mono ?_
    rintro _ wd ⟨hxd, vd, cd, rfl, hkd, _⟩
    obtain ⟨aod, capd, rfl, _, _⟩ := hkd.form
    refine Af.ext (hxc.trans hxd) ?_
    refine ⟨fun we hxe => ?_⟩
    refine Go1.bs 33 [.string sDyn, .slice aob 0 capb, .string l.2, .slice aod 0 capd] (size := 2) (bytes := 40) Tryz.underlying31 tiSx (by decide) (by decide) (by kernel_rfl) ?_
    intro wf hxf hbf
    refine Af.ext (hxe.trans hxf) ?_
    refine ⟨fun wg hxg => ?_⟩
    refine (c_l2List2 sDyn l.2 (hbf.ext hxg)).mono ?_
    rintro _ wh ⟨hxh, vh, ch, rfl, hkh, hfh⟩
    obtain ⟨aoh, caph, rfl, _, _⟩ := hkh.form
    refine Af.ext (hxg.trans hxh) ?_
    refine ⟨fun wi hxi => ?_⟩
    have hx2h := ((((hxa.trans hxb).trans hxc).trans hxd).trans (hxe.trans hxf)).trans (hxg.trans hxh)
    have hx2g := ((((hxa.trans hxb).trans hxc).trans hxd).trans (hxe.trans hxf)).trans hxg
    have szg := hx2g.size
    refine Go0.st (off := 0) (vs := [.string em, .slice aoh [at_ sDyn, at_ l.2].length caph]) ((hb2.ext hx2h).ext hxi) rfl rfl (by simp [Value.cells]) (by simp [Value.oneCell']) ?_
    intro wj hcj hbj _
    have hbj : Blk wj w1.heap.size 33 [.string em, .slice aoh [at_ sDyn, at_ l.2].length caph] := hbj
    refine Af.nw ?_
    intro wk hxk
    refine Ld.agg (vs := [.string em, .slice aoh [at_ sDyn, at_ l.2].length caph]) (Blk.lc0 (post := []) (hbj.ext hxk)) ?_
    have hn : ∀ b ∈ ch, ¬ b = w1.heap.size := fun b hb => by have := hfh.lo b hb; omega
    exact ⟨(((hx02.trans hx2h).trans hxi).chg hcj (by omega)).trans hxk, _, ch, rfl, ((hkh.ext hxi).chg hcj hn).ext hxk, (((hfh.ext hxi).chg hcj hn).ext hxk).mono (by omega)⟩
  rw [if_neg h4]
  -- what has elements
  have rest : True := trivial
  refine Go1.fl 0 (Ld.one hb12.at0 ?_)
  refine Cm.s (fun h2 => Go1.fl 2 (Ld.one hb12.at2 (Cm.s (fun h0 => ?_) (fun h0 => ?_)))) (fun h2 => ?_)
  · have hk0 : ks.length = 0 := by omega
    rw [if_neg (by omega), if_pos hk0]
    refine Go1.fl 1 (Ld.one hb12.at1 ?_)
    refine (c_l2Atom _).mono ?_
    rintro _ w3 ⟨hx3, v3, c3, rfl, hk3, hf3⟩
    obtain ⟨ao3, cap3, rfl, _, _⟩ := hk3.form
    have sz3 := hx3.size
    refine Go0.st (off := 0) (vs := [.string l.2, .slice ao3 0 cap3]) (hb2.ext hx3) rfl rfl (by simp [Value.cells]) (by simp [Value.oneCell']) ?_
    intro w4 hx4 hb4 _
    have hb4 : Blk w4 w1.heap.size 33 [.string l.2, .slice ao3 0 cap3] := hb4
    refine Ld.agg (vs := [.string l.2, .slice ao3 0 cap3]) (Blk.lc0 (post := []) hb4) ?_
    exact ⟨(hx02.trans hx3).chg hx4 (by omega), _, [], rfl, Kids.nil, Fresh.nil _ _⟩
  · have h3 : ¬ l.1 = 3 := by omega
    rw [if_neg h3, if_neg (by omega)]
    refine Go1.bd [.string em, .slice none 0 0] ?_
    refine Go1.al tiSx ?_
    intro w3' hx3 hb3
    have sz3 := hx3.size
    have lt3 := hb3.lt
    refine Go0.st (off := 0) (vs := [.string em, .slice none 0 0]) hb3 rfl rfl (by simp [Value.cells]) (by simp [Value.oneCell']) ?_
    intro w4 hx4 hb4 _
    obtain ⟨w3, rfl⟩ : ∃ w3, w3 = w2 := ⟨_, rfl⟩
    have hb4 : Blk w4 w3.heap.size 33 [.string em, .slice none 0 0] := hb4
    have hx34 : Ext w3 w4 := hx3.chg hx4 (by omega)
    have hx04 := hx02.trans hx34
    have lt4 := hb4.lt
    have hb14 := hb12.ext hx34
    have hb24 := hb2.ext hx34
    have hk4 := hk.ext hx04
    have sz4 := hx34.size
    refine Go1.fl 0 (Ld.one hb14.at0 ?_)
    refine Cm.f (by omega) ?_
    obtain ⟨OT, csT, hgT⟩ : ∃ O cs, GrowT encS 33 2 w4.heap.size w4 (.slice none 0 0) ([] : List Sx) O cs := ⟨[], [], GrowT.nil⟩
    have hbT := hb4
    have hb1T := hb14
    have hcT : Chg (fun x => x = w3.heap.size ∨ w4.heap.size ≤ x) w4 w4 := Chg.refl _ _
    refine Dr.x [0, 1, 2, 3, 4, 5, 6, 7, 8] ttOk ?_
    refine GoS.fl 1 (LdS.x1 (Blk.at1 hbT) ?_)
    refine GoS.fl 1 (LdS.x1 (hb1T.at1) ?_)
    refine ⟨fun wa hxa => ?_⟩
    refine (c_l2Atom l.2).mono ?_
    rintro _ wb ⟨hxb, vb, cb, rfl, hkb, _⟩
    obtain ⟨aob, capb, rfl, _, _⟩ := hkb.form
    obtain rfl := kids_nil hkb
    refine Af.ext (hxa.trans hxb) ?_
    refine ⟨fun wc hxc => ?_⟩
    refine Go1.bs 33 [.string l.2, .slice aob 0 capb] (size := 2) (bytes := 40) Tryz.underlying31 tiSx (by decide) (by decide) (by kernel_rfl) ?_
    intro wd hxd hbd
    refine Af.ext (hxc.trans hxd) ?_
    refine ⟨fun we hxe => ?_⟩
    have hxTe := (((hxa.trans hxb).trans hxc).trans hxd).trans hxe
    obtain ⟨vsT, hgrT, hklT, hfrT⟩ := hgT
    refine Go1.app (size := 2) (bytes := 40) Tryz.underlying31 tiSx (by rfl) (by decide) (hgrT.ext hxTe) (m := 1) (news := [.string l.2, .slice aob 0 capb]) (Blk.lc0 (post := []) (hbd.ext hxe)) (by simp) (by simp [Value.oneCell']) (by simp) (by decide) ?_
    intro rf wf Of hcf hgf hOf
    have hgF : GrowT encS 33 2 w4.heap.size wf rf (([] : List Sx) ++ [at_ l.2]) Of (csT ++ []) := GrowT.snoc (v := .slice aob 0 capb) (m := we.heap.size) hxTe hklT hfrT Kids.nil (Fresh.nil _ _) hxTe.size hcf hgf hOf hcT.size
    have hloT : ∀ b ∈ OT, w4.heap.size ≤ b := fun b hb => hfrT.lo b (List.mem_append_left _ hb)
    obtain ⟨dsF, hkF, _⟩ := hgF.kids (by simp; decide)
    obtain ⟨aof, capf, rfl, _, _⟩ := hkF.form
    refine Af.nw ?_
    refine GoS.fl 1 ?_
    refine ⟨fun wg hxg => ?_⟩
    have hnT : ∀ b ∈ OT, w3.heap.size ≠ b := fun b hb => by have := hloT b hb; omega
    refine Go0.st (off := 1) (vs := [.slice aof (([] : List Sx) ++ [at_ l.2]).length capf]) (((hbT.ext hxTe).chg hcf fun h => hnT _ h rfl).ext hxg) (by rw [Addr.add_lit]) rfl (by simp [Value.cells]) (by simp [Value.oneCell']) ?_
    intro wh hch hbh _
    have hbh : Blk wh w3.heap.size 33 [.string em, .slice aof (([] : List Sx) ++ [at_ l.2]).length capf] := hbh
    refine Af.nw ?_
    intro wi hxi
    have hgI : GrowT encS 33 2 w4.heap.size wi (.slice aof (([] : List Sx) ++ [at_ l.2]).length capf) (([] : List Sx) ++ [at_ l.2]) Of (csT ++ []) := ((hgF.ext hxg).chg hch fun b hb => by have := hgF.lo b hb; omega).ext hxi
    have hcI : Chg (fun x => x = w3.heap.size ∨ w4.heap.size ≤ x) w4 wi := ((((hcT.ext hxTe).trans' (hcf.mono fun x _ hx => .inr (hloT x hx))).ext hxg).trans' (hch.mono fun x _ hx => .inl hx)).ext hxi
    refine Lp.go ttOk (by kernel_rfl) (fun k : Nat => [(1, .pointer (some ⟨w.heap.size, 0, none⟩)), (2, .pointer (some ⟨w1.heap.size, 0, none⟩)), (3, .pointer (some ⟨w3.heap.size, 0, none⟩)), (4, .int .i64 k)])
      (fun k w' => Chg (fun x => x = w3.heap.size ∨ w4.heap.size ≤ x) w4 w' ∧ k ≤ ks.length ∧ ∃ r O cs, Blk w' w3.heap.size 33 [.string em, r] ∧ GrowT encS 33 2 w4.heap.size w' r (([] : List Sx) ++ [at_ l.2] ++ enL (ks.take k)) O cs) (fun k => ks.length - k) 0
      ⟨rfl, rfl, rfl, rfl, trivial⟩ ⟨hcI, Nat.zero_le _, _, Of, csT ++ [], hbh.ext hxi, by simpa [enL] using hgI⟩ ?_
    rintro k w5 ⟨hc5, hk5, r, O, cs, hb5, hg5⟩
    have hlim : (([] : List Sx) ++ [at_ l.2] ++ enL (ks.take k)).length ≤ 2 + ks.length := by
      rw [List.length_append, enL_length, List.length_take]
      simp
      omega
    have hb15 := hb14.chg hc5 (by omega)
    have hb25 := hb24.chg hc5 (by omega)
    have hk5' : Kids encT w5 (.slice ao ks.length cap) ks bs := hk4.chg hc5 fun b hb => by have := hbl b hb; omega
    refine Go1.fl 2 (Ld.one hb15.at2 ?_)
    refine Cm.s (fun hlt => ?_) (fun hge => ?_)
    · have hlt : k < ks.length := by omega
      obtain ⟨a, t, v1, b1, rfl, ht, hc, hkt, _⟩ := hk5'.get encT_sz hlt
      have htm := List.mem_of_getElem? ht
      have hcm := Rose.cnt_mem htm
      refine Dr.x [0, 1, 2, 3, 4, 5, 6, 7, 8, 9, 10, 11] ttOk ?_
      refine GoS.fl 1 (LdS.x1 (Blk.at1 hb5) ?_)
      refine GoS.fl 2 (LdS.x1 hb15.at2 ?_)
      refine GoS.ix 3 hlt (LdS.xn hc ?_)
      refine ⟨fun wa hxa => ?_⟩
      refine (ih t htm t.lab wa v1 b1 (by rw [t.eta]; exact hfm.2 t htm) (by omega) (hkt.ext hxa)).mono ?_
      rw [t.eta]
      generalize hT : enS t = T
      rintro _ wb ⟨hxb, vb, cb, rfl, hkb, hfb⟩
      obtain ⟨aob, capb, rfl, _, _⟩ := hkb.form
      refine Af.ext (hxa.trans hxb) ?_
      refine ⟨fun wc hxc => ?_⟩
      refine Go1.bs 33 [.string T.lab, .slice aob T.kids.length capb] (size := 2) (bytes := 40) Tryz.underlying31 tiSx (by decide) (by decide) (by kernel_rfl) ?_
      intro wd hxd hbd
      refine Af.ext (hxc.trans hxd) ?_
      refine ⟨fun we hxe => ?_⟩
      have hxTe := (((hxa.trans hxb).trans hxc).trans hxd).trans hxe
      obtain ⟨vsT, hgrT, hklT, hfrT⟩ := hg5
      refine Go1.app (size := 2) (bytes := 40) Tryz.underlying31 tiSx (by rfl) (by decide) (hgrT.ext hxTe) (m := 1) (news := [.string T.lab, .slice aob T.kids.length capb]) (Blk.lc0 (post := []) (hbd.ext hxe)) (by simp) (by simp [Value.oneCell']) (by omega) (by decide) ?_
      intro rf wf Of hcf hgf hOf
      have hgF := GrowT.snoc (t := T) (v := .slice aob T.kids.length capb) hxTe hklT hfrT (((hkb.ext hxc).ext hxd).ext hxe) (((hfb.ext hxc).ext hxd).ext hxe) hxa.size hcf hgf hOf hc5.size
      have hloT : ∀ b ∈ O, w4.heap.size ≤ b := fun b hb => hfrT.lo b (List.mem_append_left _ hb)
      rw [List.append_assoc, ← hT, ← enL_take ht] at hgF
      obtain ⟨dsF, hkF, _⟩ := hgF.kids (by rw [List.length_append, enL_length, List.length_take]; simp; omega)
      obtain ⟨aof, capf, hrf, _, _⟩ := hkF.form
      generalize hlen : (([] : List Sx) ++ [at_ l.2] ++ enL (ks.take (k + 1))).length = m at hrf
      subst hrf
      refine Af.nw ?_
      refine GoS.fl 1 ?_
      refine ⟨fun wg hxg => ?_⟩
      have hnT : ∀ b ∈ O, w3.heap.size ≠ b := fun b hb => by have := hloT b hb; omega
      refine Go0.st (off := 1) (vs := [.slice aof m capf]) (((hb5.ext hxTe).chg hcf fun h => hnT _ h rfl).ext hxg) (by rw [Addr.add_lit]) rfl (by simp [Value.cells]) (by simp [Value.oneCell']) ?_
      intro wh hch hbh _
      have hbh : Blk wh w3.heap.size 33 [.string em, .slice aof m capf] := hbh
      refine Af.nw ?_
      intro wi hxi
      refine Wr.n (k + 1) (by omega) (by omega) ?_
      refine ⟨k + 1, ⟨rfl, rfl, rfl, rfl, trivial⟩, ⟨((((hc5.ext hxTe).trans' (hcf.mono fun x _ hx => .inr (hloT x hx))).ext hxg).trans' (hch.mono fun x _ hx => .inl hx)).ext hxi, hlt, _, Of, cs ++ cb, hbh.ext hxi, ?_⟩, by omega⟩
      exact ((hgF.ext hxg).chg hch fun b hb => by have := hgF.lo b hb; omega).ext hxi
    · have : k = ks.length := by omega
      subst this
      rw [List.take_length] at hg5 hlim
      obtain ⟨dsF, hkF, hfF⟩ := hg5.kids (by omega)
      obtain ⟨aof, capf, rfl, _, _⟩ := hkF.form
      refine Ld.agg (vs := [.string em, .slice aof _ capf]) (Blk.lc0 (post := []) hb5) ?_
      refine Go0.st (off := 0) (vs := [.string em, .slice aof _ capf]) hb25 rfl rfl (by simp [Value.cells]) (by simp [Value.oneCell']) ?_
      intro w6 hc6 hb6 _
      have hb6 : Blk w6 w1.heap.size 33 [.string em, .slice aof _ capf] := hb6
      refine Ld.agg (vs := [.string em, .slice aof _ capf]) (Blk.lc0 (post := []) hb6) ?_
      have hn6 : ∀ b ∈ dsF, ¬ b = w1.heap.size := fun b hb => by have := hfF.lo b hb; omega
      have hE : Ext w w5 := hx04.chg hc5 fun x hx => by omega
      refine ⟨hE.chg hc6 (by omega), _, dsF, rfl, ?_, (hfF.chg hc6 hn6).mono (by omega)⟩
      have hfin := hkF.chg hc6 hn6
      simpa [Rose.kids] using hfin
  · have h3 : l.1 = 3 := by rcases hhd with h | h | h <;> omega
    rw [if_pos h3]
    refine Go1.bd [.string em, .slice none 0 0] ?_
    refine Go1.al tiSx ?_
    intro w3' hx3 hb3
    have sz3 := hx3.size
    have lt3 := hb3.lt
    refine Go0.st (off := 0) (vs := [.string em, .slice none 0 0]) hb3 rfl rfl (by simp [Value.cells]) (by simp [Value.oneCell']) ?_
    intro w4 hx4 hb4 _
    obtain ⟨w3, rfl⟩ : ∃ w3, w3 = w2 := ⟨_, rfl⟩
    have hb4 : Blk w4 w3.heap.size 33 [.string em, .slice none 0 0] := hb4
    have hx34 : Ext w3 w4 := hx3.chg hx4 (by omega)
    have hx04 := hx02.trans hx34
    have lt4 := hb4.lt
    have hb14 := hb12.ext hx34
    have hb24 := hb2.ext hx34
    have hk4 := hk.ext hx04
    have sz4 := hx34.size
    refine Go1.fl 0 (Ld.one hb14.at0 ?_)
    refine Cm.t (by omega) ?_
    refine Dr.x [0, 1, 2, 3, 4, 5, 6] ttOk ?_
    refine GoS.fl 1 (LdS.x1 (Blk.at1 hb4) ?_)
    refine ⟨fun wa hxa => ?_⟩
    refine (c_l2Atom sAssoc).mono ?_
    rintro _ wb ⟨hxb, vb, cb, rfl, hkb, _⟩
    obtain ⟨aob, capb, rfl, _, _⟩ := hkb.form
    refine Af.ext (hxa.trans hxb) ?_
    refine ⟨fun wc hxc => ?_⟩
    refine Go1.bs 33 [.string sAssoc, .slice aob 0 capb] (size := 2) (bytes := 40) Tryz.underlying31 tiSx (by decide) (by decide) (by kernel_rfl) ?_
    intro wd hxd hbd
    refine Af.ext (hxc.trans hxd) ?_
    refine ⟨fun we hxe => ?_⟩
    have hxTe := (((hxa.trans hxb).trans hxc).trans hxd).trans hxe
    refine Go1.app (size := 2) (bytes := 40) Tryz.underlying31 tiSx (by rfl) (by decide) Grow.nil (m := 1) (news := [.string sAssoc, .slice aob 0 capb]) (Blk.lc0 (post := []) (hbd.ext hxe)) (by simp) (by simp [Value.oneCell']) (by simp) (by decide) ?_
    intro rf wf Of hcf hgf hOf
    have hgF : GrowT encS 33 2 w4.heap.size wf rf ([] ++ [at_ sAssoc]) Of ([] ++ []) := GrowT.snoc (w := w4) (O := []) (cs := []) (vs := []) (v := .slice aob 0 capb) (m := we.heap.size) hxTe rfl (Fresh.nil _ _) Kids.nil (Fresh.nil _ _) hxTe.size hcf hgf hOf (Nat.le_refl _)
    obtain ⟨dsF, hkF, _⟩ := hgF.kids (by simp; decide)
    obtain ⟨aof, capf, rfl, _, _⟩ := hkF.form
    refine Af.nw ?_
    refine GoS.fl 1 ?_
    refine ⟨fun wg hxg => ?_⟩
    refine Go0.st (off := 1) (vs := [.slice aof ([] ++ [at_ sAssoc]).length capf]) (((hb4.ext hxTe).chg hcf (by simp)).ext hxg) (by rw [Addr.add_lit]) rfl (by simp [Value.cells]) (by simp [Value.oneCell']) ?_
    intro wh hch hbh _
    have hbh : Blk wh w3.heap.size 33 [.string em, .slice aof ([] ++ [at_ sAssoc]).length capf] := hbh
    refine Af.nw ?_
    intro wT hxi
    have hgT' : GrowT encS 33 2 w4.heap.size wT (.slice aof ([] ++ [at_ sAssoc]).length capf) [at_ sAssoc] Of ([] ++ []) := ((hgF.ext hxg).chg hch fun b hb => by have := hgF.lo b hb; omega).ext hxi
    obtain ⟨OT, csT, hgT⟩ : ∃ O cs, GrowT encS 33 2 w4.heap.size wT (.slice aof ([] ++ [at_ sAssoc]).length capf) [at_ sAssoc] O cs := ⟨_, _, hgT'⟩
    have hbT := hbh.ext hxi
    have hcT : Chg (fun x => x = w3.heap.size ∨ w4.heap.size ≤ x) w4 wT := (((((Chg.refl _ w4).ext hxTe).trans' (hcf.mono fun x _ hx => by simp at hx)).ext hxg).trans' (hch.mono fun x _ hx => .inl hx)).ext hxi
    have hb1T := hb14.chg hcT (by omega)
    clear hgT' hbh hch hxi hxg hgF hkF hcf hgf hOf hxTe hbd hxe hxd hxc hkb hxb hxa
    refine Dr.x [0, 1, 2, 3, 4, 5, 6, 7, 8] ttOk ?_
    refine GoS.fl 1 (LdS.x1 (Blk.at1 hbT) ?_)
    refine GoS.fl 1 (LdS.x1 (hb1T.at1) ?_)
    refine ⟨fun wa hxa => ?_⟩
    refine (c_l2Atom l.2).mono ?_
    rintro _ wb ⟨hxb, vb, cb, rfl, hkb, _⟩
    obtain ⟨aob, capb, rfl, _, _⟩ := hkb.form
    obtain rfl := kids_nil hkb
    refine Af.ext (hxa.trans hxb) ?_
    refine ⟨fun wc hxc => ?_⟩
    refine Go1.bs 33 [.string l.2, .slice aob 0 capb] (size := 2) (bytes := 40) Tryz.underlying31 tiSx (by decide) (by decide) (by kernel_rfl) ?_
    intro wd hxd hbd
    refine Af.ext (hxc.trans hxd) ?_
    refine ⟨fun we hxe => ?_⟩
    have hxTe := (((hxa.trans hxb).trans hxc).trans hxd).trans hxe
    obtain ⟨vsT, hgrT, hklT, hfrT⟩ := hgT
    refine Go1.app (size := 2) (bytes := 40) Tryz.underlying31 tiSx (by rfl) (by decide) (hgrT.ext hxTe) (m := 1) (news := [.string l.2, .slice aob 0 capb]) (Blk.lc0 (post := []) (hbd.ext hxe)) (by simp) (by simp [Value.oneCell']) (by simp) (by decide) ?_
    intro rf wf Of hcf hgf hOf
    have hgF : GrowT encS 33 2 w4.heap.size wf rf ([at_ sAssoc] ++ [at_ l.2]) Of (csT ++ []) := GrowT.snoc (v := .slice aob 0 capb) (m := we.heap.size) hxTe hklT hfrT Kids.nil (Fresh.nil _ _) hxTe.size hcf hgf hOf hcT.size
    have hloT : ∀ b ∈ OT, w4.heap.size ≤ b := fun b hb => hfrT.lo b (List.mem_append_left _ hb)
    obtain ⟨dsF, hkF, _⟩ := hgF.kids (by simp; decide)
    obtain ⟨aof, capf, rfl, _, _⟩ := hkF.form
    refine Af.nw ?_
    refine GoS.fl 1 ?_
    refine ⟨fun wg hxg => ?_⟩
    have hnT : ∀ b ∈ OT, w3.heap.size ≠ b := fun b hb => by have := hloT b hb; omega
    refine Go0.st (off := 1) (vs := [.slice aof ([at_ sAssoc] ++ [at_ l.2]).length capf]) (((hbT.ext hxTe).chg hcf fun h => hnT _ h rfl).ext hxg) (by rw [Addr.add_lit]) rfl (by simp [Value.cells]) (by simp [Value.oneCell']) ?_
    intro wh hch hbh _
    have hbh : Blk wh w3.heap.size 33 [.string em, .slice aof ([at_ sAssoc] ++ [at_ l.2]).length capf] := hbh
    refine Af.nw ?_
    intro wi hxi
    have hgI : GrowT encS 33 2 w4.heap.size wi (.slice aof ([at_ sAssoc] ++ [at_ l.2]).length capf) ([at_ sAssoc] ++ [at_ l.2]) Of (csT ++ []) := ((hgF.ext hxg).chg hch fun b hb => by have := hgF.lo b hb; omega).ext hxi
    have hcI : Chg (fun x => x = w3.heap.size ∨ w4.heap.size ≤ x) w4 wi := ((((hcT.ext hxTe).trans' (hcf.mono fun x _ hx => .inr (hloT x hx))).ext hxg).trans' (hch.mono fun x _ hx => .inl hx)).ext hxi
    refine Lp.go ttOk (by kernel_rfl) (fun k : Nat => [(1, .pointer (some ⟨w.heap.size, 0, none⟩)), (2, .pointer (some ⟨w1.heap.size, 0, none⟩)), (3, .pointer (some ⟨w3.heap.size, 0, none⟩)), (4, .int .i64 k)])
      (fun k w' => Chg (fun x => x = w3.heap.size ∨ w4.heap.size ≤ x) w4 w' ∧ k ≤ ks.length ∧ ∃ r O cs, Blk w' w3.heap.size 33 [.string em, r] ∧ GrowT encS 33 2 w4.heap.size w' r ([at_ sAssoc] ++ [at_ l.2] ++ enL (ks.take k)) O cs) (fun k => ks.length - k) 0
      ⟨rfl, rfl, rfl, rfl, trivial⟩ ⟨hcI, Nat.zero_le _, _, Of, csT ++ [], hbh.ext hxi, by simpa [enL] using hgI⟩ ?_
    rintro k w5 ⟨hc5, hk5, r, O, cs, hb5, hg5⟩
    have hlim : ([at_ sAssoc] ++ [at_ l.2] ++ enL (ks.take k)).length ≤ 2 + ks.length := by
      rw [List.length_append, enL_length, List.length_take]
      simp
      omega
    have hb15 := hb14.chg hc5 (by omega)
    have hb25 := hb24.chg hc5 (by omega)
    have hk5' : Kids encT w5 (.slice ao ks.length cap) ks bs := hk4.chg hc5 fun b hb => by have := hbl b hb; omega
    refine Go1.fl 2 (Ld.one hb15.at2 ?_)
    refine Cm.s (fun hlt => ?_) (fun hge => ?_)
    · have hlt : k < ks.length := by omega
      obtain ⟨a, t, v1, b1, rfl, ht, hc, hkt, _⟩ := hk5'.get encT_sz hlt
      have htm := List.mem_of_getElem? ht
      have hcm := Rose.cnt_mem htm
      refine Dr.x [0, 1, 2, 3, 4, 5, 6, 7, 8, 9, 10, 11] ttOk ?_
      refine GoS.fl 1 (LdS.x1 (Blk.at1 hb5) ?_)
      refine GoS.fl 2 (LdS.x1 hb15.at2 ?_)
      refine GoS.ix 3 hlt (LdS.xn hc ?_)
      refine ⟨fun wa hxa => ?_⟩
      refine (ih t htm t.lab wa v1 b1 (by rw [t.eta]; exact hfm.2 t htm) (by omega) (hkt.ext hxa)).mono ?_
      rw [t.eta]
      generalize hT : enS t = T
      rintro _ wb ⟨hxb, vb, cb, rfl, hkb, hfb⟩
      obtain ⟨aob, capb, rfl, _, _⟩ := hkb.form
      refine Af.ext (hxa.trans hxb) ?_
      refine ⟨fun wc hxc => ?_⟩
      refine Go1.bs 33 [.string T.lab, .slice aob T.kids.length capb] (size := 2) (bytes := 40) Tryz.underlying31 tiSx (by decide) (by decide) (by kernel_rfl) ?_
      intro wd hxd hbd
      refine Af.ext (hxc.trans hxd) ?_
      refine ⟨fun we hxe => ?_⟩
      have hxTe := (((hxa.trans hxb).trans hxc).trans hxd).trans hxe
      obtain ⟨vsT, hgrT, hklT, hfrT⟩ := hg5
      refine Go1.app (size := 2) (bytes := 40) Tryz.underlying31 tiSx (by rfl) (by decide) (hgrT.ext hxTe) (m := 1) (news := [.string T.lab, .slice aob T.kids.length capb]) (Blk.lc0 (post := []) (hbd.ext hxe)) (by simp) (by simp [Value.oneCell']) (by omega) (by decide) ?_
      intro rf wf Of hcf hgf hOf
      have hgF := GrowT.snoc (t := T) (v := .slice aob T.kids.length capb) hxTe hklT hfrT (((hkb.ext hxc).ext hxd).ext hxe) (((hfb.ext hxc).ext hxd).ext hxe) hxa.size hcf hgf hOf hc5.size
      have hloT : ∀ b ∈ O, w4.heap.size ≤ b := fun b hb => hfrT.lo b (List.mem_append_left _ hb)
      rw [List.append_assoc, ← hT, ← enL_take ht] at hgF
      obtain ⟨dsF, hkF, _⟩ := hgF.kids (by rw [List.length_append, enL_length, List.length_take]; simp; omega)
      obtain ⟨aof, capf, hrf, _, _⟩ := hkF.form
      generalize hlen : ([at_ sAssoc] ++ [at_ l.2] ++ enL (ks.take (k + 1))).length = m at hrf
      subst hrf
      refine Af.nw ?_
      refine GoS.fl 1 ?_
      refine ⟨fun wg hxg => ?_⟩
      have hnT : ∀ b ∈ O, w3.heap.size ≠ b := fun b hb => by have := hloT b hb; omega
      refine Go0.st (off := 1) (vs := [.slice aof m capf]) (((hb5.ext hxTe).chg hcf fun h => hnT _ h rfl).ext hxg) (by rw [Addr.add_lit]) rfl (by simp [Value.cells]) (by simp [Value.oneCell']) ?_
      intro wh hch hbh _
      have hbh : Blk wh w3.heap.size 33 [.string em, .slice aof m capf] := hbh
      refine Af.nw ?_
      intro wi hxi
      refine Wr.n (k + 1) (by omega) (by omega) ?_
      refine ⟨k + 1, ⟨rfl, rfl, rfl, rfl, trivial⟩, ⟨((((hc5.ext hxTe).trans' (hcf.mono fun x _ hx => .inr (hloT x hx))).ext hxg).trans' (hch.mono fun x _ hx => .inl hx)).ext hxi, hlt, _, Of, cs ++ cb, hbh.ext hxi, ?_⟩, by omega⟩
      exact ((hgF.ext hxg).chg hch fun b hb => by have := hgF.lo b hb; omega).ext hxi
    · have : k = ks.length := by omega
      subst this
      rw [List.take_length] at hg5 hlim
      obtain ⟨dsF, hkF, hfF⟩ := hg5.kids (by omega)
      obtain ⟨aof, capf, rfl, _, _⟩ := hkF.form
      refine Ld.agg (vs := [.string em, .slice aof _ capf]) (Blk.lc0 (post := []) hb5) ?_
      refine Go0.st (off := 0) (vs := [.string em, .slice aof _ capf]) hb25 rfl rfl (by simp [Value.cells]) (by simp [Value.oneCell']) ?_
      intro w6 hc6 hb6 _
      have hb6 : Blk w6 w1.heap.size 33 [.string em, .slice aof _ capf] := hb6
      refine Ld.agg (vs := [.string em, .slice aof _ capf]) (Blk.lc0 (post := []) hb6) ?_
      have hn6 : ∀ b ∈ dsF, ¬ b = w1.heap.size := fun b hb => by have := hfF.lo b hb; omega
      have hE : Ext w w5 := hx04.chg hc5 fun x hx => by omega
      refine ⟨hE.chg hc6 (by omega), _, dsF, rfl, ?_, (hfF.chg hc6 hn6).mono (by omega)⟩
      have hfin := hkF.chg hc6 hn6
      simpa [Rose.kids] using hfin
end Go.Proofs.YtliigpmpeldebaaGreat
