/- Draws: an SExpr that may be long, and its text. Conditions: none. -/
import Derived.Test.YtdoanmhiedemaaaSxG
namespace Go.Proofs.Ytdoanmhiedemaaa
open Go.RowKit

/-- An SExpr that a draw has handed out. -/
def DrOut (w : World) (r : Value) (w' : World) : Prop := Ext w w' ∧ ∃ (t : Sx) (u : Value) (bs : List Nat), r = .agg #[.string t.lab, u] ∧ Kids encS w' u t.kids bs ∧ Fresh w.heap.size w' bs ∧ 1 + Rose.cnt t.kids ≤ 1024 ∧ Sm t
/-- spec.DrawIsValidSExpr -/
theorem c_DrawIsValidSExpr {w : World} {v : Value} (hv : OCode w v) : Ret Try.prog 92 [v] w (DrOut w) := by
  have hM : maxLen = 9223372036854775807 := rfl
  obtain ⟨zs0, bs0, hr0⟩ := hv
  refine ret_of_vc ttOkD Try.func92 rfl (by kernel_rfl) (by kernel_rfl) ?_
  refine Go1.al tiSx ?_
  intro w1 hx1 hb1
  have lt1 := hb1.lt
  have sz1 := hx1.size
  refine (c_l1New ⟨zs0, bs0, hr0.ext hx1⟩).mono ?_
  rintro _ w2 ⟨hx2, g, rfl, hg, hc2⟩
  have hg2 := hc2.lt
  have sz2 := hx2.size
  refine (c_l1Once hc2 20 (by decide) (by decide)).mono ?_
  rintro _ w3 ⟨⟨b, rfl⟩, hd3⟩
  have sz3 := hd3.size
  have hb3 := hd3.blk (hb1.ext hx2) (by omega)
  obtain rfl | rfl : b = true ∨ b = false := by cases b <;> simp
  · have hx03 : Ext w w3 := (hx1.trans hx2).chg hd3.1 (fun x hx => by omega)
    refine Go1.bd [.string em, .slice none 0 0] ?_
    refine Go1.al tiSx ?_
    intro w4 hx4 hb4
    have lt4 := hb4.lt
    have sz4 := hx4.size
    refine Go0.st (off := 0) (vs := [.string em, .slice none 0 0]) hb4 rfl rfl (by simp [Value.cells]) (by simp [Value.oneCell']) ?_
    intro w5 hc5 hb5 hs5
    have hb5 : Blk w5 w3.heap.size 39 [.string em, .slice none 0 0] := hb5
    have hx35 : Ext w3 w5 := hx4.chg hc5 (by omega)
    refine (c_l1Below ((hd3.ext hx35).2) 3 (by decide) (by decide)).mono ?_
    rintro _ w6 ⟨⟨m, rfl, hm⟩, hd6⟩
    have sz6 := hd6.size
    have hg3 : g < w3.heap.size := by omega
    have hx36 : Ext w w6 := (hx03.trans hx35).chg hd6.1 (fun x hx => by omega)
    refine Wr.n (898 + m) (by simp) (by omega) ?_
    refine Lp.go ttOkD (by kernel_rfl) (fun k : Nat => [(2, .pointer (some ⟨w.heap.size, 0, none⟩)), (4, .pointer (some ⟨w3.heap.size, 0, none⟩)), (5, .int .i64 (898 + m : Nat)), (6, .int .i64 k)])
      (fun k w' => Ext w w' ∧ k ≤ 898 + m ∧ Blk w' w.heap.size 39 [.string em, .slice none 0 0] ∧ w6.heap.size ≤ w'.heap.size ∧ ∃ r ts O cs, Blk w' w3.heap.size 39 [.string em, r] ∧ GrowT encS 39 2 w6.heap.size w' r ts O cs ∧ ts.length = k ∧ (Rose.cnt ts ≤ k ∧ SmL ts)) (fun k => 898 + m - k) 0
      ⟨rfl, rfl, rfl, rfl, trivial⟩ ⟨hx36, Nat.zero_le _, hd6.blk (hb3.ext hx35) (by omega), Nat.le_refl _, _, [], [], [], hd6.blk hb5 (by omega), GrowT.nil, rfl, ⟨by rw [show Rose.cnt ([] : List Sx) = 0 from Rose.wtL_nil _]; omega, SmL.nil⟩⟩ ?_
    rintro k w7 ⟨hx7, hk, hbr, hz7, r, ts, O, cs, hbx, hgt, hlen, hcnt, hsl⟩
    refine Cm.s (fun hlt => ?_) (fun hge => ?_)
    · have hlt : k < 898 + m := by have : (k : Int) < (898 + m : Nat) := hlt; omega
      refine Dr.x [0, 1, 2, 3, 4, 5, 6] ttOkD ?_
      refine GoS.fl 1 (LdS.x1 hbx.at1 ?_)
      refine ⟨fun wa hxa => ?_⟩
      refine (c_l2AtomD ⟨#[97]⟩).mono ?_
      rintro _ wb ⟨hxb, rfl⟩
      refine Af.ext (hxa.trans hxb) ?_
      refine ⟨fun wc hxc => ?_⟩
      refine Go1.bs 39 [.string ⟨#[97]⟩, .slice none 0 0] (size := 2) (bytes := 40) Try.underlying37 tiSx (by decide) (by decide) (by kernel_rfl) ?_
      intro wd hxd hbd
      have h7d := ((hxa.trans hxb).trans hxc).trans hxd
      refine Af.ext (hxc.trans hxd) ?_
      refine ⟨fun we hxe => ?_⟩
      have h7e := h7d.trans hxe
      have sz7e := h7e.size
      obtain ⟨vsT, hgrT, hklT, hfrT⟩ := hgt.ext h7e
      refine Go1.app (size := 2) (bytes := 40) Try.underlying37 tiSx (by rfl) (by decide) hgrT (m := 1) (news := [.string ⟨#[97]⟩, .slice none 0 0]) (Blk.lc0 (post := []) (hbd.ext hxe)) (by simp) (by simp [Value.oneCell']) (by omega) (by decide) ?_
      intro rf wf Of hcf hgf hOf
      have hgF := GrowT.snocE (t := at_D ⟨#[97]⟩) (v := .slice none 0 0) (c1 := []) (m := w6.heap.size) hklT hfrT Kids.nil (Fresh.nil _ _) (by simp) hcf hgf hOf (by omega) (Nat.le_refl _)
      have hloT : ∀ b ∈ O, w6.heap.size ≤ b := fun b hb => hfrT.lo b (List.mem_append_left _ hb)
      obtain ⟨dsF, hkF, _⟩ := hgF.kids (by simp; omega)
      obtain ⟨aof, capf, hrf, _, _⟩ := hkF.form
      generalize hmm : (ts ++ [at_D ⟨#[97]⟩]).length = q at hrf
      subst hrf
      refine Af.nw ?_
      refine GoS.fl 1 ?_
      refine ⟨fun wg hxg => ?_⟩
      have hnT : ∀ b ∈ O, w3.heap.size ≠ b := fun b hb => by have := hloT b hb; omega
      have hnR : ∀ b ∈ O, w.heap.size ≠ b := fun b hb => by have := hloT b hb; omega
      refine Go0.st (off := 1) (vs := [.slice aof q capf]) (((hbx.ext h7e).chg hcf fun h => hnT _ h rfl).ext hxg) (by rw [Addr.add_lit]) rfl (by simp [Value.cells]) (by simp [Value.oneCell']) ?_
      intro wh hch hbh _
      have hbh : Blk wh w3.heap.size 39 [.string em, .slice aof q capf] := hbh
      refine Af.nw ?_
      intro wi hxi
      refine Wr.n (k + 1) (by simp) (by omega) ?_
      have szf := hcf.size
      have szg := hxg.size
      have szh := hch.size
      have szi := hxi.size
      have hxI : Ext w wi := ((((hx7.trans h7e).chg hcf (fun x hx => by have := hloT x hx; omega)).trans hxg).chg hch (fun x hx => by omega)).trans hxi
      refine ⟨k + 1, ⟨rfl, rfl, rfl, rfl, trivial⟩, ⟨hxI, hlt, ((((hbr.ext h7e).chg hcf fun h => hnR _ h rfl).ext hxg).chg hch (by omega)).ext hxi, by omega, _, ts ++ [at_D ⟨#[97]⟩], Of, cs ++ [], hbh.ext hxi, ((hgF.ext hxg).chg hch fun b hb => by have := hgF.lo b hb; omega).ext hxi, by simp; omega, ?_, hsl.snoc (Sm.atom (by decide))⟩, by omega⟩
      rw [cntWx]
      show Rose.cnt ts + (1 + Rose.cnt ([] : List Sx)) ≤ _
      rw [show Rose.cnt ([] : List Sx) = 0 from Rose.wtL_nil _]
      omega
    · have hke : k = 898 + m := by have : ¬ (k : Int) < (898 + m : Nat) := hge; omega
      obtain ⟨dsF, hkF, hfF⟩ := hgt.kids (by omega)
      obtain ⟨aof, capf, rfl, _, _⟩ := hkF.form
      refine Ld.agg (vs := [.string em, .slice aof ts.length capf]) (Blk.lc0 (post := []) hbx) ?_
      refine Go0.st (off := 0) (vs := [.string em, .slice aof ts.length capf]) hbr rfl rfl (by simp [Value.cells]) (by simp [Value.oneCell']) ?_
      intro w8 hc8 hb8 _
      have hb8 : Blk w8 w.heap.size 39 [.string em, .slice aof ts.length capf] := hb8
      refine Ld.agg (vs := [.string em, .slice aof ts.length capf]) (Blk.lc0 (post := []) hb8) ?_
      exact ⟨hx7.chg hc8 (fun x hx => by omega), .mk em ts, _, dsF, rfl, hkF.chg hc8 (fun b hb => by have := hfF.lo b hb; omega), (hfF.chg hc8 (fun b hb => by have := hfF.lo b hb; omega)).mono (by omega), by show 1 + Rose.cnt ts ≤ _; omega, Sm.node hsl (by decide)⟩
  · refine (c_l2Bent hd3.2).mono ?_
    rintro _ w4 ⟨t, u, O, cs, rfl, hgt, hcn, hd⟩
    obtain ⟨bs, hk, hf⟩ := hgt.kids (by have : t.kids.length ≤ Rose.cnt t.kids := Rose.wtL_length _ _; omega)
    obtain ⟨ao, cap, rfl, _, _⟩ := hk.form
    have hx4 : Ext w w4 := ((hx1.trans hx2).chg hd3.1 (fun x hx => by omega)).chg hd.1 (fun x hx => by omega)
    have szd := hd.size
    refine Go0.st (off := 0) (vs := [.string t.lab, .slice ao t.kids.length cap]) (hd.blk hb3 (by omega)) rfl rfl (by simp [Value.cells]) (by simp [Value.oneCell']) ?_
    intro w5 hc5 hb5 _
    have hb5 : Blk w5 w.heap.size 39 [.string t.lab, .slice ao t.kids.length cap] := hb5
    refine Ld.agg (vs := [.string t.lab, .slice ao t.kids.length cap]) (Blk.lc0 (post := []) hb5) ?_
    exact ⟨hx4.chg hc5 (by omega), t, _, bs, rfl, hk.chg hc5 (fun b hb => by have := hf.lo b hb; omega), (hf.chg hc5 (fun b hb => by have := hf.lo b hb; omega)).mono (by omega), by omega, hcn.2⟩
/-- spec.DrawFormatSExpr -/
theorem c_DrawFormatSExpr {w : World} {v : Value} (hv : OCode w v) : Ret Try.prog 49 [v] w (DrOut w) := by
  obtain ⟨zs0, bs0, hr0⟩ := hv
  refine ret_of_vc ttOkD Try.func49 rfl (by kernel_rfl) (by kernel_rfl) ?_
  refine Go1.al tiSx ?_
  intro w1 hx1 hb1
  have lt1 := hb1.lt
  refine (c_DrawIsValidSExpr ⟨zs0, bs0, hr0.ext hx1⟩).mono ?_
  rintro _ w2 ⟨hx2, t, u, bs, rfl, hk, hf, hcn⟩
  obtain ⟨ao, cap, rfl, _, _⟩ := hk.form
  have hn : ∀ b ∈ bs, ¬ b = w.heap.size := fun b hb => by have := hf.lo b hb; omega
  refine Go0.st (off := 0) (vs := [.string t.lab, .slice ao t.kids.length cap]) (hb1.ext hx2) rfl rfl (by simp [Value.cells]) (by simp [Value.oneCell']) ?_
  intro w3 hc3 hb3 _
  have hb3 : Blk w3 w.heap.size 39 [.string t.lab, .slice ao t.kids.length cap] := hb3
  refine Ld.agg (vs := [.string t.lab, .slice ao t.kids.length cap]) (Blk.lc0 (post := []) hb3) ?_
  exact ⟨(hx1.trans hx2).chg hc3 (by omega), t, _, bs, rfl, hk.chg hc3 hn, (hf.chg hc3 hn).mono (by have := hx1.size; omega), hcn⟩
end Go.Proofs.Ytdoanmhiedemaaa
