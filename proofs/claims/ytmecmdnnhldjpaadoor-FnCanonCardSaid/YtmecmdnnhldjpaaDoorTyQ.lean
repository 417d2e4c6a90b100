/- Draws: a Type, free of faults; a Type, bent. Conditions: none. -/
import Derived.Test.YtmecmdnnhldjpaaDoorTyP
namespace Go.Proofs.YtmecmdnnhldjpaaDoor
open Go.RowKit

abbrev sList : ByteArray := ⟨#[108, 105, 115, 116]⟩
abbrev sAdd : ByteArray := ⟨#[97, 100, 100]⟩
abbrev sShow : ByteArray := ⟨#[115, 104, 111, 119]⟩
theorem cntZ : Rose.cnt ([] : List Tp) = 0 := Rose.wtL_nil _
theorem Strs.lit2 {w : World} {g : Nat} (h : Blk w g 9 ([⟨#[97]⟩, ⟨#[98]⟩].map Value.string)) : Strs w (.slice (some ⟨g, 0, none⟩) 2 2) [⟨#[97]⟩, ⟨#[98]⟩] [g] := by
  exact ⟨some ⟨g, 0, none⟩, 2, rfl, ⟨by decide, by decide⟩, .inr ⟨⟨g, 0, none⟩, by simp, rfl, rfl, Blk.lc0 (post := []) (by simpa using h)⟩⟩

/-- spec.l4Proj -/
theorem c_l4Proj {s : ByteArray} {t : Tp} (hs : Rose.cnt t.kids ≤ 4294967296) {w : World} {v : Value} {bs : List Nat} (hk : Kids encT w v t.kids bs) :
    Ret Tryd.prog 62 [.string s, .agg #[.int .i64 t.lab.1, .string t.lab.2, v]] w fun r w' => Ext w w' ∧ ∃ (v' : Value) (O cs : List Nat), r = .agg #[.int .i64 3, .string s, v'] ∧ GrowT encT 38 3 w.heap.size w' v' [t] O cs := by
  obtain ⟨ao, cap, rfl, _, _⟩ := hk.form
  refine ret_of_vc ttOkD Tryd.func62 rfl (by kernel_rfl) (by kernel_rfl) ?_
  refine Go1.bx ?_
  intro w1 hx1 hb1
  refine Go1.al tiTy ?_
  intro w2 hx2 hb2
  have lt1 := hb1.lt
  have lt2 := hb2.lt
  have sz1 := hx1.size
  have sz2 := hx2.size
  have hx02 := hx1.trans hx2
  refine Ld.agg (vs := [.int .i64 t.lab.1, .string t.lab.2, .slice ao t.kids.length cap]) (Blk.lc0 (post := []) (hb1.ext hx2)) ?_
  refine (c_l4Copy hs (hk.ext hx02)).mono ?_
  rintro _ w3 ⟨hx3, v3, cs, rfl, hk3, hf3⟩
  obtain ⟨ao3, cap3, rfl, _, _⟩ := hk3.form
  refine Go1.bs 38 [.int .i64 t.lab.1, .string t.lab.2, .slice ao3 t.kids.length cap3] (size := 3) (bytes := 48) Tryd.underlying26 tiTy (by decide) (by decide) (by kernel_rfl) ?_
  intro w4 hx4 hb4
  have sz3 := hx3.size
  have sz4 := hx4.size
  have lt3 := hf3.lt
  have hgt : GrowT encT 38 3 w2.heap.size w4 (.slice (some ⟨w3.heap.size, 0, none⟩) 1 1) [t] [w3.heap.size] cs := GrowT.lit (vs := [.slice ao3 t.kids.length cap3]) encT_sz (by simpa [fl, encT] using hb4) ⟨cs, [], by simp, hk3.ext hx4, rfl⟩ (hf3.ext hx4) sz3 (fun h => by have := lt3 _ h; omega) rfl (by simp; decide)
  refine Go1.bd [.int .i64 3, .string s, .slice (some ⟨w3.heap.size, 0, none⟩) 1 1] ?_
  refine Go0.st (off := 0) (vs := [.int .i64 3, .string s, .slice (some ⟨w3.heap.size, 0, none⟩) 1 1]) ((hb2.ext hx3).ext hx4) rfl rfl (by simp [Value.cells]) (by simp [Value.oneCell']) ?_
  intro w5 hc5 hb5 _
  have hb5 : Blk w5 w1.heap.size 38 [.int .i64 3, .string s, .slice (some ⟨w3.heap.size, 0, none⟩) 1 1] := hb5
  refine Ld.agg (vs := [.int .i64 3, .string s, .slice (some ⟨w3.heap.size, 0, none⟩) 1 1]) (Blk.lc0 (post := []) hb5) ?_
  exact ⟨((hx02.trans hx3).trans hx4).chg hc5 (by omega), _, _, cs, rfl, (hgt.chg hc5 (fun b hb => by have := hgt.lo b hb; omega)).mono (by omega)⟩
/-- spec.l4Free -/
theorem c_l4Free (n : Nat) (hn : n ≤ 6) {w : World} {g : Nat} (hc : Cu w g) : Ret Tryd.prog 47 [.pointer (some ⟨g, 0, none⟩), .int .i64 n] w (DrT (Qt (4 ^ n + 2)) g w) := by
  have hgw := hc.lt
  have hM : maxLen = 9223372036854775807 := rfl
  have hpk : 4 ^ n ≤ 4096 := Nat.le_trans (Nat.pow_le_pow_right (by decide) hn) (by decide)
  refine ret_of_vc ttOkD Tryd.func47 rfl (by kernel_rfl) (by kernel_rfl) ?_
  refine Go1.al tiTy ?_
  intro w1 hx1 hb1
  have lt1 := hb1.lt
  have sz1 := hx1.size
  have hd1 : Dw g w w1 := (Dw.refl hc).ext hx1
  refine Go1.bs 9 ([⟨#[97]⟩, ⟨#[98]⟩].map Value.string) (size := 1) (bytes := 16) Tryd.underlying49 tiStr (by decide) (by decide) (by kernel_rfl) ?_
  intro w2 hx2 hb2
  have sz2 := hx2.size
  have lt2 := hb2.lt
  refine (c_l4Ty n hn (hd1.2.ext hx2) (Strs.lit2 hb2) (by simp; omega) (by simpa using lt2) (by decide) (by decide) (by decide)).mono ?_
  rintro _ w3 ⟨⟨T, v, O, cs, rfl, hg3, hq⟩, hd23⟩
  have hd3 := (hd1.ext hx2).trans hd23
  have sz3 := hd23.size
  obtain ⟨ao, cap, ds, rfl, hk3, hf3, _⟩ := kidsN hg3 hq.1 (by omega)
  refine Go1.al tiTy ?_
  intro w4 hx4 hb4
  have lt4 := hb4.lt
  refine Go0.st (off := 0) (vs := [.int .i64 T.lab.1, .string T.lab.2, .slice ao T.kids.length cap]) hb4 rfl rfl (by simp [Value.cells]) (by simp [Value.oneCell']) ?_
  intro w5 hc5 hb5 _
  have hb5 : Blk w5 w3.heap.size 38 [.int .i64 T.lab.1, .string T.lab.2, .slice ao T.kids.length cap] := hb5
  have hx35 : Ext w3 w5 := hx4.chg hc5 (by omega)
  have lt5 := hb5.lt
  have hd5 := hd3.ext hx35
  have hbr5 := Blk.ext hx35 (hd23.blk (hb1.ext hx2) (by omega))
  have hg5 := hg3.ext hx35
  have hlo3 := hg3.lo
  refine (c_l1Below hd5.2 8 (by decide) (by decide)).mono ?_
  rintro _ w6 ⟨⟨m, rfl, hm⟩, hd56⟩
  have hd6 := hd5.trans hd56
  have sz6 := hd56.size
  have hb6 := hd56.blk hb5 (by omega)
  have hbr6 := hd56.blk hbr5 (by omega)
  have hg6 := hg5.chg hd56.1 (fun b hb h => by have := hlo3 b hb; omega)
  have hk6 : Kids encT w6 (.slice ao T.kids.length cap) T.kids ds := (hk3.ext hx35).chg hd56.1 (fun b hb h => by have := hf3.lo b hb; omega)
  have hcT : Rose.cnt T.kids ≤ 4294967296 := by have := hq.1; omega
  refine Cm.s (fun h0 => ?_) (fun h0 => ?_)
  · refine Dr.d hd6.2 [0, 3, 1, 2, 4, 5] ttOkD ?_
    refine LdS.agg (vs := [.int .i64 T.lab.1, .string T.lab.2, .slice ao T.kids.length cap]) (fun u hu => Blk.lc0 (post := []) (hu.blk hb6 (by omega))) ?_
    refine ⟨fun wa hda => ?_⟩
    refine Go1.bs 9 ([⟨#[97, 100, 100]⟩, ⟨#[115, 104, 111, 119]⟩].map Value.string) (size := 1) (bytes := 16) Tryd.underlying49 tiStr (by decide) (by decide) (by kernel_rfl) ?_
    intro wb hxb hbb
    refine Af.dw (hda.ext hxb) ?_
    refine ⟨fun wc hdc => ?_⟩
    have sza := hda.size
    have szb := hxb.size
    have szc := hdc.size
    refine (c_l1Pick hdc.2 (lit_strs (hdc.blk hbb (by omega)) (by decide) rfl) (by simp; omega) (by decide) (by decide)).mono ?_
    rintro _ wd ⟨⟨s, rfl, hsm⟩, hdd⟩
    have hsz : s.size ≤ 16 := (by decide : ∀ s ∈ ([⟨#[97, 100, 100]⟩, ⟨#[115, 104, 111, 119]⟩] : List ByteArray), s.size ≤ 16) s hsm
    have hsa : abc s = false := (by decide : ∀ s ∈ ([⟨#[97, 100, 100]⟩, ⟨#[115, 104, 111, 119]⟩] : List ByteArray), abc s = false) s hsm
    refine Af.dw (hdc.trans hdd) ?_
    refine ⟨fun we hde => ?_⟩
    have h6e := (((hda.ext hxb).trans hdc).trans hdd).trans hde
    have szd := hdd.size
    have sze := hde.size
    refine (c_l4Proj (t := T) hcT (hk6.chg h6e.1 (fun b hb h => by have := hf3.lo b hb; omega))).mono ?_
    rintro _ wf ⟨hxf, v7, O7, c7, rfl, hg7⟩
    obtain ⟨d7, hk7, _⟩ := hg7.kids (by simp; decide)
    obtain ⟨ao7, cap7, rfl, _, _⟩ := hk7.form
    have hlo7 := hg7.lo
    refine Af.dw (hde.ext hxf) ?_
    refine ⟨fun wg hdg => ?_⟩
    have h6g := (h6e.ext hxf).trans hdg
    have szf := hxf.size
    have hgg := hg7.chg hdg.1 (fun b hb h => by have := hlo7 b hb; omega)
    refine Go0.st (off := 0) (vs := [.int .i64 3, .string s, .slice ao7 [T].length cap7]) (h6g.blk hbr6 (by omega)) rfl rfl (by simp [Value.cells]) (by simp [Value.oneCell']) ?_
    intro wz hcz hbz _
    have hbz : Blk wz w.heap.size 38 [.int .i64 3, .string s, .slice ao7 [T].length cap7] := hbz
    refine Af.nw ?_
    intro wy hxy
    refine Ld.agg (vs := [.int .i64 3, .string s, .slice ao7 [T].length cap7]) (Blk.lc0 (post := []) (hbz.ext hxy)) ?_
    exact ⟨⟨.mk (3, s) [T], _, O7, c7, rfl, ((hgg.chg hcz (fun b hb => by have := hlo7 b hb; omega)).ext hxy).mono (by omega), Qt.node (N := 4 ^ n) (by decide) hsa hsz (by simpa using hq) (by simp; omega)⟩, ((hd6.trans h6g).big hcz (fun x hx => by omega) hgw).ext hxy⟩
  refine Cm.s (fun h1 => ?_) (fun h1 => ?_)
  · refine Ld.agg (vs := [.int .i64 T.lab.1, .string T.lab.2, .slice ao T.kids.length cap]) (Blk.lc0 (post := []) hb6) ?_
    refine (c_l4Proj (t := T) hcT hk6).mono ?_
    rintro _ w7 ⟨hx7, v7, O7, c7, rfl, hg7⟩
    obtain ⟨d7, hk7, hf7⟩ := hg7.kids (by simp; decide)
    obtain ⟨ao7, cap7, rfl, _, _⟩ := hk7.form
    refine Go1.bs 38 [.int .i64 3, .string sAdd, .slice ao7 [T].length cap7] (size := 3) (bytes := 48) Tryd.underlying26 tiTy (by decide) (by decide) (by kernel_rfl) ?_
    intro w8 hx8 hb8
    have sz7 := hx7.size
    have sz8 := hx8.size
    refine (c_l4ConL (s := sList) (ts := [.mk (3, sAdd) [T]]) (vs := [.slice ao7 [T].length cap7]) (n0 := w6.heap.size) (bs := d7) (by simpa [fl, encT, Rose.lab] using hb8) ⟨d7, [], by simp, hk7.ext hx8, rfl⟩ (hf7.ext hx8) (by omega) rfl (by simp)).mono ?_
    rintro _ w9 ⟨hx9, v9, O9, c9, rfl, hg9⟩
    obtain ⟨d9, hk9, _⟩ := hg9.kids (by simp; decide)
    obtain ⟨ao9, cap9, rfl, _, _⟩ := hk9.form
    have hlo9 := hg9.lo
    have hqp : Qt (4 ^ n + 1) (.mk (3, sAdd) [T]) := Qt.node (N := 4 ^ n) (by decide) (by decide) (by decide) (by simpa using hq) (by simp; omega)
    refine Go0.st (off := 0) (vs := [.int .i64 2, .string sList, .slice ao9 [Rose.mk ((3, sAdd) : TLab) [T]].length cap9]) (((hbr6.ext hx7).ext hx8).ext hx9) rfl rfl (by simp [Value.cells]) (by simp [Value.oneCell']) ?_
    intro wz hcz hbz _
    have hbz : Blk wz w.heap.size 38 [.int .i64 2, .string sList, .slice ao9 [Rose.mk ((3, sAdd) : TLab) [T]].length cap9] := hbz
    refine Ld.agg (vs := [.int .i64 2, .string sList, .slice ao9 [Rose.mk ((3, sAdd) : TLab) [T]].length cap9]) (Blk.lc0 (post := []) hbz) ?_
    exact ⟨⟨.mk (2, sList) [.mk (3, sAdd) [T]], _, O9, c9, rfl, (hg9.chg hcz (fun b hb => by have := hlo9 b hb; omega)).mono (by omega), Qt.node (N := 4 ^ n + 1) (by decide) (by decide) (by decide) (by simpa using hqp) (by simp; omega)⟩, (((hd6.ext hx7).ext hx8).ext hx9).big hcz (fun x hx => by omega) hgw⟩
  refine Cm.s (fun h2 => ?_) (fun h2 => ?_)
  · refine Go1.bd [.int .i64 4, .string sShow, .slice none 0 0] ?_
    refine Go0.st (off := 0) (vs := [.int .i64 4, .string sShow, .slice none 0 0]) (hbr6) rfl rfl (by simp [Value.cells]) (by simp [Value.oneCell']) ?_
    intro wz hcz hbz _
    have hbz : Blk wz w.heap.size 38 [.int .i64 4, .string sShow, .slice none 0 0] := hbz
    refine Ld.agg (vs := [.int .i64 4, .string sShow, .slice none 0 0]) (Blk.lc0 (post := []) hbz) ?_
    exact ⟨⟨.mk (4, sShow) [], _, [], [], rfl, GrowT.nil, (Qt.leaf (by decide)).mono (Nat.le_add_left 1 (4 ^ n + 1))⟩, (hd6).big hcz (fun x hx => by omega) hgw⟩
  · refine Ld.agg (vs := [.int .i64 T.lab.1, .string T.lab.2, .slice ao T.kids.length cap]) (Blk.lc0 (post := []) hb6) ?_
    refine Go0.st (off := 0) (vs := [.int .i64 T.lab.1, .string T.lab.2, .slice ao T.kids.length cap]) (hbr6) rfl rfl (by simp [Value.cells]) (by simp [Value.oneCell']) ?_
    intro wz hcz hbz _
    have hbz : Blk wz w.heap.size 38 [.int .i64 T.lab.1, .string T.lab.2, .slice ao T.kids.length cap] := hbz
    refine Ld.agg (vs := [.int .i64 T.lab.1, .string T.lab.2, .slice ao T.kids.length cap]) (Blk.lc0 (post := []) hbz) ?_
    exact ⟨⟨T, _, O, cs, rfl, (hg6.chg hcz (fun b hb => by have := hlo3 b hb; omega)).mono (by omega), hq.mono (by omega)⟩, (hd6).big hcz (fun x hx => by omega) hgw⟩
end Go.Proofs.YtmecmdnnhldjpaaDoor
