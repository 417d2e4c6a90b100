/- Draws: a Type, free of faults; a Type, bent. Conditions: none. -/
import Derived.Test.YtliigpmpeldebaaGreatTyP
namespace Go.Proofs.YtliigpmpeldebaaGreat
open Go.RowKit

abbrev sList : ByteArray := ⟨#[108, 105, 115, 116]⟩
abbrev sAdd : ByteArray := ⟨#[97, 100, 100]⟩
abbrev sShow : ByteArray := ⟨#[115, 104, 111, 119]⟩
theorem cntZ : Rose.cnt ([] : List Tp) = 0 := Rose.wtL_nil _
theorem Strs.lit2 {w : World} {g : Nat} (h : Blk w g 9 ([⟨#[97]⟩, ⟨#[98]⟩].map Value.string)) : Strs w (.slice (some ⟨g, 0, none⟩) 2 2) [⟨#[97]⟩, ⟨#[98]⟩] [g] := by
  exact ⟨some ⟨g, 0, none⟩, 2, rfl, ⟨by decide, by decide⟩, .inr ⟨⟨g, 0, none⟩, by simp, rfl, rfl, Blk.lc0 (post := []) (by simpa using h)⟩⟩

/-- spec.l4Proj -/
theorem c_l4Proj {s : ByteArray} {t : Tp} (hs : Rose.cnt t.kids ≤ 4294967296) {w : World} {v : Value} {bs : List Nat} (hk : Kids encT w v t.kids bs) :
    Ret Tryz.prog 56 [.string s, .agg #[.int .i64 t.lab.1, .string t.lab.2, v]] w fun r w' => Ext w w' ∧ ∃ (v' : Value) (O cs : List Nat), r = .agg #[.int .i64 3, .string s, v'] ∧ GrowT encT 26 3 w.heap.size w' v' [t] O cs := by
  obtain ⟨ao, cap, rfl, _, _⟩ := hk.form
  refine ret_of_vc ttOkD Tryz.func56 rfl (by kernel_rfl) (by kernel_rfl) ?_
  refine Go1.bx ?_
  intro w1 hx1 hb1
  refine Go1.al tiTy ?_
  intro w2 hx2 hb2
  have lt1 := hb1.lt
  have lt2 := hb2.lt
  have sz1 := hx1.size
  have sz2 := hx2.size
  have hx02 := hx1.trans hx2
  refine Ld.agg (vs := [.int .i64 t.lab.1, .string t.lab.2, .slice ao t.kids.length cap]) (Blk.lc0 (post := []) (hb1.ext hx2)) ?_
  refine (c_l4Copy hs (hk.ext hx02)).mono ?_
  rintro _ w3 ⟨hx3, v3, cs, rfl, hk3, hf3⟩
  obtain ⟨ao3, cap3, rfl, _, _⟩ := hk3.form
  refine Go1.bs 26 [.int .i64 t.lab.1, .string t.lab.2, .slice ao3 t.kids.length cap3] (size := 3) (bytes := 48) Tryz.underlying24 tiTy (by decide) (by decide) (by kernel_rfl) ?_
  intro w4 hx4 hb4
  have sz3 := hx3.size
  have sz4 := hx4.size
  have lt3 := hf3.lt
  have hgt : GrowT encT 26 3 w2.heap.size w4 (.slice (some ⟨w3.heap.size, 0, none⟩) 1 1) [t] [w3.heap.size] cs := GrowT.lit (vs := [.slice ao3 t.kids.length cap3]) encT_sz (by simpa [fl, encT] using hb4) ⟨cs, [], by simp, hk3.ext hx4, rfl⟩ (hf3.ext hx4) sz3 (fun h => by have := lt3 _ h; omega) rfl (by simp; decide)
  refine Go1.bd [.int .i64 3, .string s, .slice (some ⟨w3.heap.size, 0, none⟩) 1 1] ?_
  refine Go0.st (off := 0) (vs := [.int .i64 3, .string s, .slice (some ⟨w3.heap.size, 0, none⟩) 1 1]) ((hb2.ext hx3).ext hx4) rfl rfl (by simp [Value.cells]) (by simp [Value.oneCell']) ?_
  intro w5 hc5 hb5 _
  have hb5 : Blk w5 w1.heap.size 26 [.int .i64 3, .string s, .slice (some ⟨w3.heap.size, 0, none⟩) 1 1] := hb5
  refine Ld.agg (vs := [.int .i64 3, .string s, .slice (some ⟨w3.heap.size, 0, none⟩) 1 1]) (Blk.lc0 (post := []) hb5) ?_
  exact ⟨((hx02.trans hx3).trans hx4).chg hc5 (by omega), _, _, cs, rfl, (hgt.chg hc5 (fun b hb => by have := hgt.lo b hb; omega)).mono (by omega)⟩
/-- spec.l4Free -/
theorem c_l4Free (n : Nat) (hn : n ≤ 6) {w : World} {g : Nat} (hc : Cu w g) : Ret Tryz.prog 26 [.pointer (some ⟨g, 0, none⟩), .int .i64 n] w (DrT (Qt (4 ^ n + 2)) g w) := by
  have hgw := hc.lt
  have hM : maxLen = 9223372036854775807 := rfl
  have hpk : 4 ^ n ≤ 4096 := Nat.le_trans (Nat.pow_le_pow_right (by decide) hn) (by decide)
  refine ret_of_vc ttOkD Tryz.func26 rfl (by kernel_rfl) (by kernel_rfl) ?_
  refine Go1.al tiTy ?_
  intro w1 hx1 hb1
  have lt1 := hb1.lt
  have sz1 := hx1.size
  have hd1 : Dw g w w1 := (Dw.refl hc).ext hx1
  refine Go1.bs 9 ([⟨#[97]⟩, ⟨#[98]⟩].map Value.string) (size := 1) (bytes := 16) Tryz.underlying57 tiStr (by decide) (by decide) (by kernel_rfl) ?_
  intro w2 hx2 hb2
  have sz2 := hx2.size
  have lt2 := hb2.lt
  refine (c_l4Ty n hn (hd1.2.ext hx2) (Strs.lit2 hb2) (by simp; omega) (by simpa using lt2) (by decide) (by decide) (by decide)).mono ?_
  rintro _ w3 ⟨⟨T, v, O, cs, rfl, hg3, hq⟩, hd23⟩
  have hd3 := (hd1.ext hx2).trans hd23
  have sz3 := hd23.size
  obtain ⟨ao, cap, ds, rfl, hk3, hf3, _⟩ := kidsN hg3 hq.1 (by omega)
  refine Go1.al tiTy ?_
  intro w4 hx4 hb4
  have lt4 := hb4.lt
  refine Go0.st (off := 0) (vs := [.int .i64 T.lab.1, .string T.lab.2, .slice ao T.kids.length cap]) hb4 rfl rfl (by simp [Value.cells]) (by simp [Value.oneCell']) ?_
  intro w5 hc5 hb5 _
  have hb5 : Blk w5 w3.heap.size 26 [.int .i64 T.lab.1, .string T.lab.2, .slice ao T.kids.length cap] := hb5
  have hx35 : Ext w3 w5 := hx4.chg hc5 (by omega)
  have lt5 := hb5.lt
  have hd5 := hd3.ext hx35
  have hbr5 := Blk.ext hx35 (hd23.blk (hb1.ext hx2) (by omega))
  have hg5 := hg3.ext hx35
  have hlo3 := hg3.lo
  refine (c_l1Below hd5.2 8 (by decide) (by decide)).mono ?_
  rintro _ w6 ⟨⟨m, rfl, hm⟩, hd56⟩
  have hd6 := hd5.trans hd56
  have sz6 := hd56.size
  have hb6 := hd56.blk hb5 (by omega)
  have hbr6 := hd56.blk hbr5 (by omega)
  have hg6 := hg5.chg hd56.1 (fun b hb h => by have := hlo3 b hb; omega)
  have hk6 : Kids encT w6 (.slice ao T.kids.length cap) T.kids ds := (hk3.ext hx35).chg hd56.1 (fun b hb h => by have := hf3.lo b hb; omega)
  have hcT : Rose.cnt T.kids ≤ 4294967296 := by have := hq.1; omega
  refine Cm.s (fun h0 => ?_) (fun h0 => ?_)
  · refine Dr.d hd6.2 [0, 3, 1, 2, 4, 5] ttOkD ?_
    refine LdS.agg (vs := [.int .i64 T.lab.1, .string T.lab.2, .slice ao T.kids.length cap]) (fun u hu => Blk.lc0 (post := []) (hu.blk hb6 (by omega))) ?_
    refine ⟨fun wa hda => ?_⟩
    refine Go1.bs 9 ([⟨#[97, 100, 100]⟩, ⟨#[115, 104, 111, 119]⟩].map Value.string) (size := 1) (bytes := 16) Tryz.underlying57 tiStr (by decide) (by decide) (by kernel_rfl) ?_
    intro wb hxb hbb
    refine Af.dw (hda.ext hxb) ?_
    refine ⟨fun wc hdc => ?_⟩
    have sza := hda.size
    have szb := hxb.size
    have szc := hdc.size
    refine (c_l1Pick hdc.2 (lit_strs (hdc.blk hbb (by omega)) (by decide) rfl) (by simp; omega) (by decide) (by decide)).mono ?_
    rintro _ wd ⟨⟨s, rfl, hsm⟩, hdd⟩
    have hsz : s.size ≤ 16 := (by decide : ∀ s ∈ ([⟨#[97, 100, 100]⟩, ⟨#[115, 104, 111, 119]⟩] : List ByteArray), s.size ≤ 16) s hsm
    have hsa : abc s = false := (by decide : ∀ s ∈ ([⟨#[97, 100, 100]⟩, ⟨#[115, 104, 111, 119]⟩] : List ByteArray), abc s = false) s hsm
    refine Af.dw (hdc.trans hdd) ?_
    refine ⟨fun we hde => ?_⟩
    have h6e := (((hda.ext hxb).trans hdc).trans hdd).trans hde
    have szd := hdd.size
    have sze := hde.size
    refine (c_l4Proj (t := T) hcT (hk6.chg h6e.1 (fun b hb h => by have := hf3.lo b hb; omega))).mono ?_
    rintro _ wf ⟨hxf, v7, O7, c7, rfl, hg7⟩
    obtain ⟨d7, hk7, _⟩ := hg7.kids (by simp; decide)
    obtain ⟨ao7, cap7, rfl, _, _⟩ := hk7.form
    have hlo7 := hg7.lo
    refine Af.dw (hde.ext hxf) ?_
    refine ⟨fun wg hdg => ?_⟩
    have h6g := (h6e.ext hxf).trans hdg
    have szf := hxf.size
    have hgg := hg7.chg hdg.1 (fun b hb h => by have := hlo7 b hb; omega)
    refine Go0.st (off := 0) (vs := [.int .i64 3, .string s, .slice ao7 [T].length cap7]) (h6g.blk hbr6 (by omega)) rfl rfl (by simp [Value.cells]) (by simp [Value.oneCell']) ?_
    intro wz hcz hbz _
    have hbz : Blk wz w.heap.size 26 [.int .i64 3, .string s, .slice ao7 [T].length cap7] := hbz
    refine Af.nw ?_
    intro wy hxy
    refine Ld.agg (vs := [.int .i64 3, .string s, .slice ao7 [T].length cap7]) (Blk.lc0 (post := []) (hbz.ext hxy)) ?_
    exact ⟨⟨.mk (3, s) [T], _, O7, c7, rfl, ((hgg.chg hcz (fun b hb => by have := hlo7 b hb; omega)).ext hxy).mono (by omega), Qt.node (N := 4 ^ n) (by decide) hsa hsz (by simpa using hq) (by simp; omega)⟩, ((hd6.trans h6g).big hcz (fun x hx => by omega) hgw).ext hxy⟩
  refine Cm.s (fun h1 => ?_) (fun h1 => ?_)
  · refine Ld.agg (vs := [.int .i64 T.lab.1, .string T.lab.2, .slice ao T.kids.length cap]) (Blk.lc0 (post := []) hb6) ?_
    refine (c_l4Proj (t := T) hcT hk6).mono ?_
    rintro _ w7 ⟨hx7, v7, O7, c7, rfl, hg7⟩
    obtain ⟨d7, hk7, hf7⟩ := hg7.kids (by simp; decide)
    obtain ⟨ao7, cap7, rfl, _, _⟩ := hk7.form
    refine Go1.bs 26 [.int .i64 3, .string sAdd, .slice ao7 [T].length cap7] (size := 3) (bytes := 48) Tryz.underlying24 tiTy (by decide) (by decide) (by kernel_rfl) ?_
    intro w8 hx8 hb8
    have sz7 := hx7.size
    have sz8 := hx8.size
    refine (c_l4ConL (s := sList) (ts := [.mk (3, sAdd) [T]]) (vs := [.slice ao7 [T].length cap7]) (n0 := w6.heap.size) (bs := d7) (by simpa [fl, encT, Rose.lab] using hb8) ⟨d7, [], by simp, hk7.ext hx8, rfl⟩ (hf7.ext hx8) (by omega) rfl (by simp)).mono ?_
    rintro _ w9 ⟨hx9, v9, O9, c9, rfl, hg9⟩
    obtain ⟨d9, hk9, _⟩ := hg9.kids (by simp; decide)
    obtain ⟨ao9, cap9, rfl, _, _⟩ := hk9.form
    have hlo9 := hg9.lo
    have hqp : Qt (4 ^ n + 1) (.mk (3, sAdd) [T]) := Qt.node (N := 4 ^ n) (by decide) (by decide) (by decide) (by simpa using hq) (by simp; omega)
    refine Go0.st (off := 0) (vs := [.int .i64 2, .string sList, .slice ao9 [Rose.mk ((3, sAdd) : TLab) [T]].length cap9]) (((hbr6.ext hx7).ext hx8).ext hx9) rfl rfl (by simp [Value.cells]) (by simp [Value.oneCell']) ?_
    intro wz hcz hbz _
    have hbz : Blk wz w.heap.size 26 [.int .i64 2, .string sList, .slice ao9 [Rose.mk ((3, sAdd) : TLab) [T]].length cap9] := hbz
    refine Ld.agg (vs := [.int .i64 2, .string sList, .slice ao9 [Rose.mk ((3, sAdd) : TLab) [T]].length cap9]) (Blk.lc0 (post := []) hbz) ?_
    exact ⟨⟨.mk (2, sList) [.mk (3, sAdd) [T]], _, O9, c9, rfl, (hg9.chg hcz (fun b hb => by have := hlo9 b hb; omega)).mono (by omega), Qt.node (N := 4 ^ n + 1) (by decide) (by decide) (by decide) (by simpa using hqp) (by simp; omega)⟩, (((hd6.ext hx7).ext hx8).ext hx9).big hcz (fun x hx => by omega) hgw⟩
  refine Cm.s (fun h2 => ?_) (fun h2 => ?_)
  · refine Go1.bd [.int .i64 4, .string sShow, .slice none 0 0] ?_
    refine Go0.st (off := 0) (vs := [.int .i64 4, .string sShow, .slice none 0 0]) (hbr6) rfl rfl (by simp [Value.cells]) (by simp [Value.oneCell']) ?_
    intro wz hcz hbz _
    have hbz : Blk wz w.heap.size 26 [.int .i64 4, .string sShow, .slice none 0 0] := hbz
    refine Ld.agg (vs := [.int .i64 4, .string sShow, .slice none 0 0]) (Blk.lc0 (post := []) hbz) ?_
    exact ⟨⟨.mk (4, sShow) [], _, [], [], rfl, GrowT.nil, (Qt.leaf (by decide)).mono (Nat.le_add_left 1 (4 ^ n + 1))⟩, (hd6).big hcz (fun x hx => by omega) hgw⟩
  · refine Ld.agg (vs := [.int .i64 T.lab.1, .string T.lab.2, .slice ao T.kids.length cap]) (Blk.lc0 (post := []) hb6) ?_
    refine Go0.st (off := 0) (vs := [.int .i64 T.lab.1, .string T.lab.2, .slice ao T.kids.length cap]) (hbr6) rfl rfl (by simp [Value.cells]) (by simp [Value.oneCell']) ?_
    intro wz hcz hbz _
    have hbz : Blk wz w.heap.size 26 [.int .i64 T.lab.1, .string T.lab.2, .slice ao T.kids.length cap] := hbz
    refine Ld.agg (vs := [.int .i64 T.lab.1, .string T.lab.2, .slice ao T.kids.length cap]) (Blk.lc0 (post := []) hbz) ?_
    exact ⟨⟨T, _, O, cs, rfl, (hg6.chg hcz (fun b hb => by have := hlo3 b hb; omega)).mono (by omega), hq.mono (by omega)⟩, (hd6).big hcz (fun x hx => by omega) hgw⟩
/-- spec.l4Int, spec.l4Bool -/
theorem c_l4IntD {w : World} : Ret Tryz.prog 40 [] w fun r w' => Ext w w' ∧ ∃ v O, r = .agg #[.int .i64 2, .string ⟨#[105, 110, 116]⟩, v] ∧ GrowT encT 26 3 w.heap.size w' v [] O [] := by
  refine ret_of_vc ttOkD Tryz.func40 rfl (by kernel_rfl) (by kernel_rfl) ?_
  refine Go1.al tiTy ?_
  intro w1 hx1 hb1
  have lt1 := hb1.lt
  have sz1 := hx1.size
  refine (c_l4ConN _).mono ?_
  rintro _ w2 ⟨hx2, v, O, rfl, hg⟩
  obtain ⟨ao, cap, ds, rfl, _, _, _⟩ := kidsN (t := .mk (2, em) []) (N := 1) hg (by show 1 + Rose.cnt ([] : List Tp) ≤ 1; rw [cntZ]; omega) (by decide)
  refine Go0.st (off := 0) (vs := [.int .i64 2, .string ⟨#[105, 110, 116]⟩, .slice ao 0 cap]) (hb1.ext hx2) rfl rfl (by simp [Value.cells]) (by simp [Value.oneCell']) ?_
  intro w3 hc3 hb3 _
  have hb3 : Blk w3 w.heap.size 26 [.int .i64 2, .string ⟨#[105, 110, 116]⟩, .slice ao 0 cap] := hb3
  refine Ld.agg (vs := [.int .i64 2, .string ⟨#[105, 110, 116]⟩, .slice ao 0 cap]) (Blk.lc0 (post := []) hb3) ?_
  exact ⟨(hx1.trans hx2).chg hc3 (by omega), _, O, rfl, (hg.chg hc3 (fun b hb => by have := hg.lo b hb; omega)).mono sz1⟩
theorem c_l4BoolD {w : World} : Ret Tryz.prog 41 [] w fun r w' => Ext w w' ∧ ∃ v O, r = .agg #[.int .i64 2, .string ⟨#[98, 111, 111, 108]⟩, v] ∧ GrowT encT 26 3 w.heap.size w' v [] O [] := by
  refine ret_of_vc ttOkD Tryz.func41 rfl (by kernel_rfl) (by kernel_rfl) ?_
  refine Go1.al tiTy ?_
  intro w1 hx1 hb1
  have lt1 := hb1.lt
  have sz1 := hx1.size
  refine (c_l4ConN _).mono ?_
  rintro _ w2 ⟨hx2, v, O, rfl, hg⟩
  obtain ⟨ao, cap, ds, rfl, _, _, _⟩ := kidsN (t := .mk (2, em) []) (N := 1) hg (by show 1 + Rose.cnt ([] : List Tp) ≤ 1; rw [cntZ]; omega) (by decide)
  refine Go0.st (off := 0) (vs := [.int .i64 2, .string ⟨#[98, 111, 111, 108]⟩, .slice ao 0 cap]) (hb1.ext hx2) rfl rfl (by simp [Value.cells]) (by simp [Value.oneCell']) ?_
  intro w3 hc3 hb3 _
  have hb3 : Blk w3 w.heap.size 26 [.int .i64 2, .string ⟨#[98, 111, 111, 108]⟩, .slice ao 0 cap] := hb3
  refine Ld.agg (vs := [.int .i64 2, .string ⟨#[98, 111, 111, 108]⟩, .slice ao 0 cap]) (Blk.lc0 (post := []) hb3) ?_
  exact ⟨(hx1.trans hx2).chg hc3 (by omega), _, O, rfl, (hg.chg hc3 (fun b hb => by have := hg.lo b hb; omega)).mono sz1⟩

mutual
/-- A variable that may be bound holds no variable. -/
def bnT : Tp → Prop
  | .mk l ks => (l.1 = 1 → abc l.2 = true → ∀ x ∈ Rose.preL ks, x.1 ≠ 1) ∧ bnL ks
def bnL : List Tp → Prop
  | [] => True
  | k :: ks => bnT k ∧ bnL ks
end
theorem bnT_eq (l : TLab) (ks : List Tp) : bnT (.mk l ks) ↔ (l.1 = 1 → abc l.2 = true → ∀ x ∈ Rose.preL ks, x.1 ≠ 1) ∧ bnL ks := by rw [bnT]
theorem bnL_iff (ks : List Tp) : bnL ks ↔ ∀ t ∈ ks, bnT t := by
  induction ks with
  | nil => simp [bnL]
  | cons k ks ih => rw [bnL, ih]; simp
theorem wfL_bn (ks : List Tp) : wfL ks → bnL ks := by
  refine Rose.forest (p := fun ks => wfL ks → bnL ks) (fun ks ih h => (bnL_iff ks).2 fun t ht => ?_) ks
  have h1 := (wfL_iff ks).1 h t ht
  have h2 := ih t ht
  obtain ⟨l, ls⟩ := t
  rw [wfT_eq] at h1
  exact (bnT_eq _ _).2 ⟨fun e => by rw [h1.1.1 e]; simp [Rose.preL_nil], h2 h1.2⟩
theorem wfT_bn {t : Tp} (h : wfT t) : bnT t := by
  obtain ⟨l, ls⟩ := t
  rw [wfT_eq] at h
  exact (bnT_eq _ _).2 ⟨fun e => by rw [h.1.1 e]; simp [Rose.preL_nil], wfL_bn _ h.2⟩
theorem wfT_kind {t : Tp} (h : wfT t) (z : Int) : bnT (.mk (z, t.lab.2) t.kids) := by
  obtain ⟨l, ls⟩ := t
  rw [wfT_eq] at h
  exact (bnT_eq _ _).2 ⟨fun _ e => by rw [show (Rose.mk l ls).kids = [] from h.1.2 e]; simp [Rose.preL_nil], wfL_bn _ h.2⟩
theorem wfT_name {t : Tp} (h : wfT t) (s : ByteArray) : bnT (.mk (t.lab.1, s) t.kids) := by
  obtain ⟨l, ls⟩ := t
  rw [wfT_eq] at h
  exact (bnT_eq _ _).2 ⟨fun e _ => by rw [show (Rose.mk l ls).kids = [] from h.1.1 e]; simp [Rose.preL_nil], wfL_bn _ h.2⟩
theorem wfT_more {t : Tp} (h : wfT t) : bnT (.mk t.lab (t.kids ++ [.mk (2, ⟨#[105, 110, 116]⟩) [], .mk (2, ⟨#[98, 111, 111, 108]⟩) [], .mk (2, ⟨#[105, 110, 116]⟩) []])) := by
  obtain ⟨l, ls⟩ := t
  rw [wfT_eq] at h
  refine (bnT_eq _ _).2 ⟨fun e _ => ?_, (bnL_iff _).2 fun u hu => ?_⟩
  · rw [show (Rose.mk l ls).kids = [] from h.1.1 e]
    simp [Rose.preL_nil, Rose.preL_cons, Rose.kids, Rose.lab]
  · rcases List.mem_append.1 hu with hu | hu
    · exact (bnL_iff _).1 (wfL_bn _ h.2) u hu
    · simp at hu
      rcases hu with rfl | rfl | rfl <;> exact (bnT_eq _ _).2 ⟨by simp, by simp [bnL]⟩
/-- What a bent Type meets. -/
def Qb (N : Nat) (t : Tp) : Prop := 1 + Rose.cnt t.kids ≤ N ∧ Nm t ∧ bnT t
theorem Qb.con {s : ByteArray} {t : Tp} {k : Int} {N M : Nat} (h : s.size ≤ 16) (hk : k ≠ 1) (hq : Qb N t) (hM : 1 + N ≤ M) : Qb M (.mk (k, s) [t]) := by
  refine ⟨?_, ⟨h, Rose.AlL_of (fun u hu => by obtain rfl : u = t := by simpa [Rose.kids] using hu
                                              exact hq.2.1)⟩, (bnT_eq _ _).2 ⟨fun e => absurd e hk, (bnL_iff _).2 fun u hu => by
    obtain rfl : u = t := by simpa using hu
    exact hq.2.2⟩⟩
  show 1 + Rose.cnt [t] ≤ M
  rw [cnt_two, cntZ]
  have := hq.1
  omega

set_option maxHeartbeats 1000000 in
/-- spec.l4Bent -/
theorem c_l4Bent {w : World} {g : Nat} (hc : Cu w g) : Ret Tryz.prog 17 [.pointer (some ⟨g, 0, none⟩)] w (DrT (Qb 128) g w) := by
  have hgw := hc.lt
  have hM : maxLen = 9223372036854775807 := rfl
  have h43 : 4 ^ 3 + 2 = 66 := by decide
  refine ret_of_vc ttOkD Tryz.func17 rfl (by kernel_rfl) (by kernel_rfl) ?_
  refine Go1.al tiTy ?_
  intro w1 hx1 hb1
  have lt1 := hb1.lt
  have sz1 := hx1.size
  have hd1 : Dw g w w1 := (Dw.refl hc).ext hx1
  refine (c_l4Free 3 (by decide) hd1.2).mono ?_
  rintro _ w3 ⟨⟨T, v, O, cs, rfl, hg3, hq⟩, hd13⟩
  have hd3 := hd1.trans hd13
  have sz3 := hd13.size
  obtain ⟨ao, cap, ds, rfl, hk3, hf3, hs3⟩ := kidsN hg3 hq.1 (by decide)
  refine Go1.al tiTy ?_
  intro w4 hx4 hb4
  have lt4 := hb4.lt
  refine Go0.st (off := 0) (vs := [.int .i64 T.lab.1, .string T.lab.2, .slice ao T.kids.length cap]) hb4 rfl rfl (by simp [Value.cells]) (by simp [Value.oneCell']) ?_
  intro w5 hc5 hb5 _
  have hb5 : Blk w5 w3.heap.size 26 [.int .i64 T.lab.1, .string T.lab.2, .slice ao T.kids.length cap] := hb5
  have hx35 : Ext w3 w5 := hx4.chg hc5 (by omega)
  have lt5 := hb5.lt
  have hd5 := hd3.ext hx35
  have hbr5 := Blk.ext hx35 (hd13.blk hb1 (by omega))
  have hg5 := hg3.ext hx35
  have hlo3 := hg3.lo
  have hhi3 := hg3.lt
  refine (c_l1Below hd5.2 12 (by decide) (by decide)).mono ?_
  rintro _ w6 ⟨⟨m, rfl, hm⟩, hd56⟩
  have hd6 := hd5.trans hd56
  have sz6 := hd56.size
  have hb6 := hd56.blk hb5 (by omega)
  have hbr6 := hd56.blk hbr5 (by omega)
  have hg6 := hg5.chg hd56.1 (fun b hb h => by have := hlo3 b hb; omega)
  have hqb : Qb 66 T := ⟨hq.1, hq.2.1, wfT_bn hq.2.2⟩
  refine Cm.s (fun h0 => ?_) (fun h0 => ?_)
  · refine (c_l1Below hd6.2 7 (by decide) (by decide)).mono ?_
    rintro _ w7 ⟨⟨j, rfl, hj⟩, hd67⟩
    have hd7 := hd6.trans hd67
    have hb7 := hd67.blk hb6 (by omega)
    have hbr7 := hd67.blk hbr6 (by omega)
    have hg7 := hg6.chg hd67.1 (fun b hb h => by have := hlo3 b hb; omega)
    refine Wr.any fun z => ?_
    refine Go1.fl 0 ?_
    refine Go0.st (off := 0) (vs := [.int .i64 z]) hb7 (by rw [Addr.add_lit]) rfl (by simp [Value.cells]) (by simp [Value.oneCell']) ?_
    intro w8 hc8 hb8 _
    have hb8 : Blk w8 w3.heap.size 26 [.int .i64 z, .string T.lab.2, .slice ao T.kids.length cap] := hb8
    have hd8 : Dw g w w8 := hd7.big hc8 (fun x hx => by omega) hgw
    have hg8 := hg7.chg hc8 (fun b hb h => by have := hhi3 b hb; omega)
    refine Ld.agg (vs := [.int .i64 z, .string T.lab.2, .slice ao T.kids.length cap]) (Blk.lc0 (post := []) hb8) ?_
    refine Go0.st (off := 0) (vs := [.int .i64 z, .string T.lab.2, .slice ao T.kids.length cap]) (hbr7.chg hc8 (by omega)) rfl rfl (by simp [Value.cells]) (by simp [Value.oneCell']) ?_
    intro wz hcz hbz _
    have hbz : Blk wz w.heap.size 26 [.int .i64 z, .string T.lab.2, .slice ao T.kids.length cap] := hbz
    refine Ld.agg (vs := [.int .i64 z, .string T.lab.2, .slice ao T.kids.length cap]) (Blk.lc0 (post := []) hbz) ?_
    exact ⟨⟨.mk (z, T.lab.2) T.kids, _, O, cs, rfl, (hg8.chg hcz (fun b hb => by have := hlo3 b hb; omega)).mono (by omega), ⟨Nat.le_trans hqb.1 (by decide), hqb.2.1, wfT_kind hq.2.2 z⟩⟩, (hd8).big hcz (fun x hx => by omega) hgw⟩
  refine Cm.s (fun h1 => ?_) (fun h1 => ?_)
  · refine Go1.bs 9 ([⟨#[]⟩, ⟨#[105, 110, 116]⟩, ⟨#[65]⟩, ⟨#[97, 115, 115, 111, 99]⟩, ⟨#[97, 98, 99, 100, 101, 102, 103, 104, 105]⟩].map Value.string) (size := 1) (bytes := 16) Tryz.underlying57 tiStr (by decide) (by decide) (by kernel_rfl) ?_
    intro wa hxa hba
    have sza := hxa.size
    refine (c_l1Pick (hd6.2.ext hxa) (lit_strs hba (by decide) rfl) (by simp; omega) (by decide) (by decide)).mono ?_
    rintro _ w7 ⟨⟨s, rfl, hsm⟩, hd67'⟩
    have hsz : s.size ≤ 16 := (by decide : ∀ s ∈ ([⟨#[]⟩, ⟨#[105, 110, 116]⟩, ⟨#[65]⟩, ⟨#[97, 115, 115, 111, 99]⟩, ⟨#[97, 98, 99, 100, 101, 102, 103, 104, 105]⟩] : List ByteArray), s.size ≤ 16) s hsm
    have hd7 := (hd6.ext hxa).trans hd67'
    have hb7 := hd67'.blk (hb6.ext hxa) (by omega)
    have hbr7 := hd67'.blk (hbr6.ext hxa) (by omega)
    have hg7 := (hg6.ext hxa).chg hd67'.1 (fun b hb h => by have := hlo3 b hb; omega)
    refine Go1.fl 1 ?_
    refine Go0.st (off := 1) (vs := [.string s]) hb7 (by rw [Addr.add_lit]) rfl (by simp [Value.cells]) (by simp [Value.oneCell']) ?_
    intro w8 hc8 hb8 _
    have hb8 : Blk w8 w3.heap.size 26 [.int .i64 T.lab.1, .string s, .slice ao T.kids.length cap] := hb8
    have hd8 : Dw g w w8 := hd7.big hc8 (fun x hx => by omega) hgw
    have hg8 := hg7.chg hc8 (fun b hb h => by have := hhi3 b hb; omega)
    refine Ld.agg (vs := [.int .i64 T.lab.1, .string s, .slice ao T.kids.length cap]) (Blk.lc0 (post := []) hb8) ?_
    refine Go0.st (off := 0) (vs := [.int .i64 T.lab.1, .string s, .slice ao T.kids.length cap]) (hbr7.chg hc8 (by omega)) rfl rfl (by simp [Value.cells]) (by simp [Value.oneCell']) ?_
    intro wz hcz hbz _
    have hbz : Blk wz w.heap.size 26 [.int .i64 T.lab.1, .string s, .slice ao T.kids.length cap] := hbz
    refine Ld.agg (vs := [.int .i64 T.lab.1, .string s, .slice ao T.kids.length cap]) (Blk.lc0 (post := []) hbz) ?_
    exact ⟨⟨.mk (T.lab.1, s) T.kids, _, O, cs, rfl, (hg8.chg hcz (fun b hb => by have := hlo3 b hb; omega)).mono (by omega), ⟨Nat.le_trans hqb.1 (by decide), ⟨hsz, hqb.2.1.2⟩, wfT_name hq.2.2 s⟩⟩, (hd8).big hcz (fun x hx => by omega) hgw⟩
  refine Cm.s (fun h2 => ?_) (fun h2 => ?_)
  · have hd26 := hd6.2
    have hg2' : w3.heap.size ≠ g := by omega
    refine Dr.x [0, 1, 2, 3, 4, 5, 6, 7, 8] ttOkD ?_
    refine GoS.fl 2 (LdS.x1 hb6.at2 ?_)
    refine ⟨fun wa hxa => ?_⟩
    refine c_l4IntD.mono ?_
    rintro _ wb ⟨hxb, va, Oa, rfl, hga⟩
    obtain ⟨aoa, capa, dsa, rfl, hka, _, _⟩ := kidsN (t := .mk (2, em) []) (N := 1) hga (by show 1 + Rose.cnt ([] : List Tp) ≤ 1; rw [cntZ]; omega) (by decide)
    refine Af.ext (hxa.trans hxb) ?_
    refine ⟨fun wc hxc => ?_⟩
    refine c_l4BoolD.mono ?_
    rintro _ wd ⟨hxd, vb, Ob, rfl, hgb⟩
    obtain ⟨aob, capb, dsb, rfl, hkb, _, _⟩ := kidsN (t := .mk (2, em) []) (N := 1) hgb (by show 1 + Rose.cnt ([] : List Tp) ≤ 1; rw [cntZ]; omega) (by decide)
    refine Af.ext (hxc.trans hxd) ?_
    refine ⟨fun we hxe => ?_⟩
    refine c_l4IntD.mono ?_
    rintro _ wf ⟨hxf, vc, Oc, rfl, hgc⟩
    obtain ⟨aoc, capc, dsc, rfl, hkc, _, _⟩ := kidsN (t := .mk (2, em) []) (N := 1) hgc (by show 1 + Rose.cnt ([] : List Tp) ≤ 1; rw [cntZ]; omega) (by decide)
    refine Af.ext (hxe.trans hxf) ?_
    refine ⟨fun wg hxg => ?_⟩
    refine Go1.bs 26 [.int .i64 2, .string ⟨#[105, 110, 116]⟩, .slice aoa 0 capa, .int .i64 2, .string ⟨#[98, 111, 111, 108]⟩, .slice aob 0 capb, .int .i64 2, .string ⟨#[105, 110, 116]⟩, .slice aoc 0 capc] (size := 3) (bytes := 48) Tryz.underlying24 tiTy (by decide) (by decide) (by kernel_rfl) ?_
    intro wh hxh hbh
    refine Af.ext (hxg.trans hxh) ?_
    refine ⟨fun wi hxi => ?_⟩
    have h6i := ((((((hxa.trans hxb).trans hxc).trans hxd).trans hxe).trans hxf).trans (hxg.trans hxh)).trans hxi
    have szi := h6i.size
    have hlk : T.kids.length ≤ Rose.cnt T.kids := Rose.wtL_length _ _
    obtain ⟨vsT, hgrT, hklT, hfrT⟩ := hg6.ext h6i
    have hcn := hqb.1
    refine Go1.app (size := 3) (bytes := 48) Tryz.underlying24 tiTy (by rfl) (by decide) hgrT (m := 3) (news := [.int .i64 2, .string ⟨#[105, 110, 116]⟩, .slice aoa 0 capa, .int .i64 2, .string ⟨#[98, 111, 111, 108]⟩, .slice aob 0 capb, .int .i64 2, .string ⟨#[105, 110, 116]⟩, .slice aoc 0 capc]) (Blk.lc0 (post := []) (hbh.ext hxi)) (by simp) (by simp [Value.oneCell']) (by omega) (by decide) ?_
    intro rf wj Of hcf hgf hOf
    have hgF := GrowT.appE (us := [.mk (2, ⟨#[105, 110, 116]⟩) [], .mk (2, ⟨#[98, 111, 111, 108]⟩) [], .mk (2, ⟨#[105, 110, 116]⟩) []]) (xs := [.slice aoa 0 capa, .slice aob 0 capb, .slice aoc 0 capc]) (c1 := []) (m := wi.heap.size) (enc := encT) hklT hfrT ⟨[], [], rfl, Kids.nil, ⟨[], [], rfl, Kids.nil, ⟨[], [], rfl, Kids.nil, rfl⟩⟩⟩ (Fresh.nil _ _) (by simp) hcf (by simpa [fl, encT, Rose.lab] using hgf) hOf (by omega) (by omega)
    have hloT : ∀ b ∈ O, w1.heap.size ≤ b := fun b hb => hfrT.lo b (List.mem_append_left _ hb)
    obtain ⟨dsF, hkF, _⟩ := hgF.kids (by simp; omega)
    obtain ⟨aof, capf, hrf, _, _⟩ := hkF.form
    generalize hmm : (T.kids ++ [Rose.mk ((2, ⟨#[105, 110, 116]⟩) : TLab) [], .mk (2, ⟨#[98, 111, 111, 108]⟩) [], .mk (2, ⟨#[105, 110, 116]⟩) []]).length = q at hrf
    subst hrf
    refine Af.nw ?_
    refine GoS.fl 2 ?_
    refine ⟨fun wk hxk => ?_⟩
    have hnT : ∀ b ∈ O, w3.heap.size ≠ b := fun b hb => by have := hhi3 b (List.mem_append_left _ hb); omega
    have hnR : ∀ b ∈ O, w.heap.size ≠ b := fun b hb => by have := hloT b hb; omega
    refine Go0.st (off := 2) (vs := [.slice aof q capf]) (((hb6.ext h6i).chg hcf fun h => hnT _ h rfl).ext hxk) (by rw [Addr.add_lit]) rfl (by simp [Value.cells]) (by simp [Value.oneCell']) ?_
    intro wl hcl hbl _
    have hbl : Blk wl w3.heap.size 26 [.int .i64 T.lab.1, .string T.lab.2, .slice aof q capf] := hbl
    refine Af.nw ?_
    intro wm hxm
    have hdJ : Dw g w wj := (hd6.ext h6i).big hcf (fun x hx => by have := hloT x hx; omega) hgw
    have hdM : Dw g w wm := ((hdJ.ext hxk).big hcl (fun x hx => by omega) hgw).ext hxm
    have hg2s : ∀ b ∈ Of ++ (cs ++ []), b ≠ w3.heap.size := fun b hb h => by
      rcases List.mem_append.1 hb with h' | h'
      · rcases hOf b h' with h2 | h2
        · exact hnT b h2 h.symm
        · omega
      · have := hhi3 b (List.mem_append_right _ (by simpa using h'))
        omega
    have hgM := ((hgF.ext hxk).chg hcl fun b hb h => hg2s b hb h).ext hxm
    have hbrM := ((((hbr6.ext h6i).chg hcf fun h => hnR _ h rfl).ext hxk).chg hcl (by omega)).ext hxm
    have hcnt : Rose.cnt (T.kids ++ [Rose.mk ((2, ⟨#[105, 110, 116]⟩) : TLab) [], .mk (2, ⟨#[98, 111, 111, 108]⟩) [], .mk (2, ⟨#[105, 110, 116]⟩) []]) = Rose.cnt T.kids + 3 := by
      show Rose.wtL _ _ = Rose.wtL _ _ + 3
      rw [Rose.wtL_append, Rose.wtL_cons, Rose.wtL_cons, Rose.wtL_cons, Rose.wtL_nil]
      simp [Rose.kids, Rose.wtL_nil]
    have hlM := hgM.lo
    refine Ld.agg (vs := [.int .i64 T.lab.1, .string T.lab.2, .slice aof q capf]) (Blk.lc0 (post := []) (hbl.ext hxm)) ?_
    refine Go0.st (off := 0) (vs := [.int .i64 T.lab.1, .string T.lab.2, .slice aof q capf]) (hbrM) rfl rfl (by simp [Value.cells]) (by simp [Value.oneCell']) ?_
    intro wz hcz hbz _
    have hbz : Blk wz w.heap.size 26 [.int .i64 T.lab.1, .string T.lab.2, .slice aof q capf] := hbz
    refine Ld.agg (vs := [.int .i64 T.lab.1, .string T.lab.2, .slice aof q capf]) (Blk.lc0 (post := []) hbz) ?_
    exact ⟨⟨.mk T.lab (T.kids ++ [.mk (2, ⟨#[105, 110, 116]⟩) [], .mk (2, ⟨#[98, 111, 111, 108]⟩) [], .mk (2, ⟨#[105, 110, 116]⟩) []]), _, _, _, rfl, (hgM.chg hcz (fun b hb => by have := hlM b hb; omega)).mono (by omega), ⟨by show 1 + Rose.cnt (T.kids ++ _) ≤ _; rw [hcnt]; omega, ⟨hqb.2.1.1, Rose.AlL_of (fun t ht => by
          rcases List.mem_append.1 ht with h | h
          · exact Rose.AlL_mem hqb.2.1.2 h
          · simp at h
            rcases h with rfl | rfl | rfl <;> exact ⟨by decide, Rose.AlL_of (by simp [Rose.kids])⟩)⟩, wfT_more hq.2.2⟩⟩, (hdM).big hcz (fun x hx => by omega) hgw⟩
  refine Cm.s (fun h3 => ?_) (fun h3 => ?_)
  · refine Lp.go ttOkD (by kernel_rfl) (fun k : Nat => [(2, .pointer (some ⟨w.heap.size, 0, none⟩)), (3, .pointer (some ⟨w3.heap.size, 0, none⟩)), (4, .int .i64 k)])
      (fun k w' => Dw g w w' ∧ k ≤ 6 ∧ w6.heap.size ≤ w'.heap.size ∧ Blk w' w.heap.size 26 [.int .i64 0, .string ⟨#[]⟩, .slice none 0 0] ∧ ∃ (t : Tp) (v : Value) (O cs : List Nat), Blk w' w3.heap.size 26 [.int .i64 t.lab.1, .string t.lab.2, v] ∧ GrowT encT 26 3 w1.heap.size w' v t.kids O cs ∧ (∀ b ∈ O ++ cs, b ≠ w3.heap.size) ∧ Qb (66 + k) t) (fun k => 6 - k) 0
      ⟨rfl, rfl, rfl, trivial⟩ ⟨hd6, Nat.zero_le _, Nat.le_refl _, hbr6, T, _, O, cs, hb6, hg6, fun b hb h => by have := hhi3 b hb; omega, hqb⟩ ?_
    rintro k w7 ⟨hd7, hk, hz7, hbr7, t, v, O, cs, hb7, hg7, hne7, hq7⟩
    obtain ⟨ao7, cap7, ds7, rfl, hk7, hf7, hs7⟩ := kidsN hg7 hq7.1 (by omega)
    have sz7 := hd7.size
    refine Cm.s (fun hlt => ?_) (fun hge => ?_)
    · have hlt : k < 6 := by omega
      refine Ld.agg (vs := [.int .i64 t.lab.1, .string t.lab.2, .slice ao7 t.kids.length cap7]) (Blk.lc0 (post := []) hb7) ?_
      refine Go1.bs 26 [.int .i64 t.lab.1, .string t.lab.2, .slice ao7 t.kids.length cap7] (size := 3) (bytes := 48) Tryz.underlying24 tiTy (by decide) (by decide) (by kernel_rfl) ?_
      intro w8 hx8 hb8
      have sz8 := hx8.size
      refine (c_l4ConI (s := sList) (ts := [t]) (vs := [.slice ao7 t.kids.length cap7]) (n0 := w1.heap.size) (bs := ds7) (by simpa [fl, encT] using hb8) ⟨ds7, [], by simp, hk7.ext hx8, rfl⟩ (hf7.ext hx8) (by omega) rfl (by simp)).mono ?_
      rintro _ w9 ⟨hx9, v9, O9, c9, rfl, hg9, hin9⟩
      obtain ⟨d9, hk9, _⟩ := hg9.kids (by simp; decide)
      obtain ⟨ao9, cap9, rfl, _, _⟩ := hk9.form
      have hx79 := hx8.trans hx9
      refine Go0.st (off := 0) (vs := [.int .i64 2, .string sList, .slice ao9 [t].length cap9]) (hb7.ext hx79) rfl rfl (by simp [Value.cells]) (by simp [Value.oneCell']) ?_
      intro wa hca hba _
      have hba : Blk wa w3.heap.size 26 [.int .i64 2, .string sList, .slice ao9 [t].length cap9] := hba
      have hne9 : ∀ b ∈ O9 ++ c9, b ≠ w3.heap.size := fun b hb h => by
        rcases hin9 b hb with h' | h'
        · exact hne7 b (hs7 b h') h
        · omega
      have szx := hx79.size
      have sza := hca.size
      refine Wr.n (k + 1) (by simp) (by omega) ?_
      exact ⟨k + 1, ⟨rfl, rfl, rfl, trivial⟩, ⟨(hd7.ext hx79).big hca (fun x hx => by omega) hgw, by omega, by omega, (hbr7.ext hx79).chg hca (by omega), .mk (2, sList) [t], _, O9, c9, hba, hg9.chg hca (fun b hb h => hne9 b hb h), hne9, Qb.con (by decide) (by decide) hq7 (by omega)⟩, by omega⟩
    · have hlo7 := hg7.lo
      refine Ld.agg (vs := [.int .i64 t.lab.1, .string t.lab.2, .slice ao7 t.kids.length cap7]) (Blk.lc0 (post := []) hb7) ?_
      refine Go0.st (off := 0) (vs := [.int .i64 t.lab.1, .string t.lab.2, .slice ao7 t.kids.length cap7]) (hbr7) rfl rfl (by simp [Value.cells]) (by simp [Value.oneCell']) ?_
      intro wz hcz hbz _
      have hbz : Blk wz w.heap.size 26 [.int .i64 t.lab.1, .string t.lab.2, .slice ao7 t.kids.length cap7] := hbz
      refine Ld.agg (vs := [.int .i64 t.lab.1, .string t.lab.2, .slice ao7 t.kids.length cap7]) (Blk.lc0 (post := []) hbz) ?_
      exact ⟨⟨t, _, O, cs, rfl, (hg7.chg hcz (fun b hb => by have := hlo7 b hb; omega)).mono (by omega), ⟨Nat.le_trans hq7.1 (by omega), hq7.2⟩⟩, (hd7).big hcz (fun x hx => by omega) hgw⟩
  · refine Ld.agg (vs := [.int .i64 T.lab.1, .string T.lab.2, .slice ao T.kids.length cap]) (Blk.lc0 (post := []) hb6) ?_
    refine Go0.st (off := 0) (vs := [.int .i64 T.lab.1, .string T.lab.2, .slice ao T.kids.length cap]) (hbr6) rfl rfl (by simp [Value.cells]) (by simp [Value.oneCell']) ?_
    intro wz hcz hbz _
    have hbz : Blk wz w.heap.size 26 [.int .i64 T.lab.1, .string T.lab.2, .slice ao T.kids.length cap] := hbz
    refine Ld.agg (vs := [.int .i64 T.lab.1, .string T.lab.2, .slice ao T.kids.length cap]) (Blk.lc0 (post := []) hbz) ?_
    exact ⟨⟨T, _, O, cs, rfl, (hg6.chg hcz (fun b hb => by have := hlo3 b hb; omega)).mono (by omega), ⟨Nat.le_trans hqb.1 (by decide), hqb.2⟩⟩, (hd6).big hcz (fun x hx => by omega) hgw⟩
end Go.Proofs.YtliigpmpeldebaaGreat
