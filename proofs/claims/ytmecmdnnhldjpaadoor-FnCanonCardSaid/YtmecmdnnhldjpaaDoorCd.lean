/- Draws: two Types, alike or not. Conditions: none. -/
import Derived.Test.YtmecmdnnhldjpaaDoorBdN
import Derived.Test.YtmecmdnnhldjpaaDoorCnB
namespace Go.Proofs.YtmecmdnnhldjpaaDoor
open Go.RowKit

theorem wf_vwL (ks : List Tp) : wfL ks → vwL ks := by
  refine Rose.forest (p := fun ks => wfL ks → vwL ks) (fun ks ih h => (vwL_iff ks).2 fun t ht => ?_) ks
  have h1 := (wfL_iff ks).1 h t ht
  have h2 := ih t ht
  obtain ⟨l, ls⟩ := t
  rw [wfT_eq] at h1
  exact (vwT_eq _ _).2 ⟨h1.1.1, h2 h1.2⟩
theorem wf_vw {t : Tp} (h : wfT t) : vwT t := by
  have := wf_vwL [t] ((wfL_iff _).2 (by simpa using h))
  rw [vwL_cons] at this
  exact this.1
mutual
theorem vw_ap {xs : List Bi} (hv : ∀ s u, lookO s xs = some u → u.lab.1 = 1 ∧ u.kids = []) : ∀ (t : Tp), vwT t → vwT (apT xs t)
  | .mk l ks, h => by
    rw [vwT_eq] at h
    rw [apT_eq]
    by_cases hl : l.1 = 1
    · rw [if_pos hl]
      cases hk : lookO l.2 xs with
      | none =>
        rw [h.1 hl]
        exact (vwT_eq _ _).2 ⟨fun _ => apL_nil xs, by rw [apL_nil]; exact vwL_nil⟩
      | some u =>
        obtain ⟨h1, h2⟩ := hv _ _ hk
        rw [Option.getD_some, ← u.eta, h2]
        exact (vwT_eq _ _).2 ⟨fun _ => rfl, vwL_nil⟩
    · rw [if_neg hl]
      exact (vwT_eq _ _).2 ⟨fun e => absurd e hl, vw_apL hv ks h.2⟩
theorem vw_apL {xs : List Bi} (hv : ∀ s u, lookO s xs = some u → u.lab.1 = 1 ∧ u.kids = []) : ∀ (ks : List Tp), vwL ks → vwL (apL xs ks)
  | [], _ => by rw [apL_nil]; exact vwL_nil
  | k :: ks, h => by
    rw [vwL_cons] at h
    rw [apL_cons, vwL_cons]
    exact ⟨vw_ap hv k h.1, vw_apL hv ks h.2⟩
end
theorem two_var (x y a b : ByteArray) : ∀ s u, lookO s [(x, .mk (1, a) []), (y, .mk (1, b) [])] = some u → u.lab.1 = 1 ∧ u.kids = [] := fun s u h => by
  simp only [lookO] at h
  split at h
  · obtain rfl := Option.some.inj h
    exact ⟨rfl, rfl⟩
  · split at h
    · obtain rfl := Option.some.inj h
      exact ⟨rfl, rfl⟩
    · cases h
theorem two_cnt (x y a b : ByteArray) : cntB [(x, .mk (1, a) []), (y, .mk (1, b) [])] = 2 := by
  have e : ∀ c : ByteArray, Rose.cnt (Rose.mk ((1 : Int), c) ([] : List Tp)).kids = 0 := fun _ => Rose.wtL_nil _
  simp only [cntB, e]

theorem apT_two' {xs : List Bi} {p : Tp} {a b : Nat} (h1 : 1 + Rose.cnt p.kids ≤ a) (h2 : 1 + cntB xs ≤ b) : 1 + Rose.cnt (apT xs (.mk p.lab p.kids)).kids ≤ a * b :=
  Nat.le_trans (apT_cnt xs p.lab p.kids) (Nat.mul_le_mul h1 h2)
set_option maxHeartbeats 1000000 in
/-- spec.DrawAlphaEquivalent -/
theorem c_DrawAlpha {w : World} {v : Value} (hv : OCode w v) : Ret Tryd.prog 30 [v] w fun r w' => Ext w w' ∧ ∃ (p t : Tp) (vp vt : Value) (bp bt : List Nat), r = .tuple #[.agg #[.int .i64 p.lab.1, .string p.lab.2, vp], .agg #[.int .i64 t.lab.1, .string t.lab.2, vt]] ∧ Kids encT w' vp p.kids bp ∧ Kids encT w' vt t.kids bt ∧ vwT p ∧ vwT t ∧ 1 + Rose.cnt p.kids ≤ 66 ∧ 1 + Rose.cnt t.kids ≤ 1000000 := by
  have hM : maxLen = 9223372036854775807 := rfl
  have h43 : 4 ^ 3 + 2 = 66 := by decide
  obtain ⟨zs0, bs0, hr0⟩ := hv
  refine ret_of_vc ttOkD Tryd.func30 rfl (by kernel_rfl) (by kernel_rfl) ?_
  refine Go1.al tiTy ?_
  intro w1 hx1 hb1
  have lt1 := hb1.lt
  have sz1 := hx1.size
  refine Go1.al tiTy ?_
  intro w2 hx2 hb2
  have lt2 := hb2.lt
  have sz2 := hx2.size
  refine (c_l1New ⟨zs0, bs0, (hr0.ext hx1).ext hx2⟩).mono ?_
  rintro _ w3 ⟨hx3, g, rfl, hg, hc3⟩
  have hg3 := hc3.lt
  have sz3 := hx3.size
  refine (c_l4Free 3 (by decide) hc3).mono ?_
  rintro _ w4 ⟨⟨p, v, Op, cp', rfl, hgp, hqp⟩, hd34⟩
  have sz4 := hd34.size
  obtain ⟨ap, cp, dp, rfl, hkp4, hfp4, _⟩ := kidsN hgp hqp.1 (by decide)
  have hlp : ∀ b ∈ dp, w3.heap.size ≤ b := hfp4.lo
  have hlp2 : ∀ b ∈ dp, b < w4.heap.size := hfp4.lt
  refine Go1.al tiTy ?_
  intro w5 hx5 hb5
  have lt5 := hb5.lt
  refine Go0.st (off := 0) (vs := [.int .i64 p.lab.1, .string p.lab.2, .slice ap p.kids.length cp]) hb5 rfl rfl (by simp [Value.cells]) (by simp [Value.oneCell']) ?_
  intro w6 hc6 hb5 _
  have hb5 : Blk w6 w4.heap.size 38 [.int .i64 p.lab.1, .string p.lab.2, .slice ap p.kids.length cp] := hb5
  have hx46 : Ext w4 w6 := hx5.chg hc6 (by omega)
  have sz6 := hx46.size
  have hd36 := hd34.ext hx46
  have hx03 := (hx1.trans hx2).trans hx3
  refine (c_l1Once hd36.2 3 (by decide) (by decide)).mono ?_
  rintro _ w7 ⟨⟨q, rfl⟩, hd67⟩
  have sz7 := hd67.size
  have hd37 := hd36.trans hd67
  have hb5 := hd67.blk hb5 (by omega)
  have hbo := hd37.blk ((hb1.ext hx2).ext hx3) (by omega)
  have hbt := hd37.blk (hb2.ext hx3) (by omega)
  have hkp := (hkp4.ext hx46).chg hd67.1 (fun b hb h => by have := hlp b hb; omega)
  have hqp : Qt 66 p := hqp
  have hcp := hqp.1
  cases q with
  | true =>
    refine Dr.d hd37.2 [0, 1, 2, 3, 4] ttOkD ?_
    refine LdS.agg (vs := [.int .i64 p.lab.1, .string p.lab.2, .slice ap p.kids.length cp]) (fun u hu => Blk.lc0 (post := []) (hu.blk hb5 (by omega))) ?_
    refine ⟨fun u1 hu1 => ?_⟩
    have su1 := hu1.size
    refine (c_l4Free 3 (by decide) hu1.2).mono ?_
    rintro _ u2 ⟨⟨t, v, Ot, ct', rfl, hgt, hqt⟩, hu2⟩
    have su2 := hu2.size
    obtain ⟨at_, ct, dt, rfl, hkt2, hft2, _⟩ := kidsN hgt hqt.1 (by decide)
    have hlt : ∀ b ∈ dt, u1.heap.size ≤ b := hft2.lo
    refine Af.dw (hu1.trans hu2) ?_
    refine ⟨fun u3 hu3 => ?_⟩
    have h7u := (hu1.trans hu2).trans hu3
    refine Go0.st (off := 0) (vs := [.int .i64 p.lab.1, .string p.lab.2, .slice ap p.kids.length cp]) (h7u.blk hbo (by omega)) rfl rfl (by simp [Value.cells]) (by simp [Value.oneCell']) ?_
    intro y1 hy1 hbo1 _
    have hbo1 : Blk y1 w.heap.size 38 [.int .i64 p.lab.1, .string p.lab.2, .slice ap p.kids.length cp] := hbo1
    refine Af.nw ?_
    refine ⟨fun y2 hy2 => ?_⟩
    refine Go0.st (off := 0) (vs := [.int .i64 t.lab.1, .string t.lab.2, .slice at_ t.kids.length ct]) (((h7u.blk hbt (by omega)).chg hy1 (by omega)).ext hy2) rfl rfl (by simp [Value.cells]) (by simp [Value.oneCell']) ?_
    intro y3 hy3 hbt3 _
    have hbt3 : Blk y3 w1.heap.size 38 [.int .i64 t.lab.1, .string t.lab.2, .slice at_ t.kids.length ct] := hbt3
    refine Af.nw ?_
    intro y4 hy4
    refine Ld.agg (vs := [.int .i64 p.lab.1, .string p.lab.2, .slice ap p.kids.length cp]) (Blk.lc0 (post := []) (((hbo1.ext hy2).chg hy3 (by omega)).ext hy4)) ?_
    refine Ld.agg (vs := [.int .i64 t.lab.1, .string t.lab.2, .slice at_ t.kids.length ct]) (Blk.lc0 (post := []) (hbt3.ext hy4)) ?_
    have hE : Ext w y4 := ((((hx03.chg (hd37.trans h7u).1 (fun x hx => by omega)).chg hy1 (fun x hx => by omega)).trans hy2).chg hy3 (fun x hx => by omega)).trans hy4
    exact ⟨hE, p, t, _, _, dp, dt, rfl, ((((hkp.chg h7u.1 (fun b hb h => by have := hlp b hb; omega)).chg hy1 (fun b hb h => by have := hlp b hb; omega)).ext hy2).chg hy3 (fun b hb h => by have := hlp b hb; omega)).ext hy4, ((((hkt2.chg hu3.1 (fun b hb h => by have := hlt b hb; omega)).chg hy1 (fun b hb h => by have := hlt b hb; omega)).ext hy2).chg hy3 (fun b hb h => by have := hlt b hb; omega)).ext hy4, wf_vw hqp.2.2, wf_vw hqt.2.2, hqp.1, by have := hqt.1; omega⟩
  | false =>
    refine Dr.eD hd37.2 [0, 9, 3, 1, 2, 4, 5, 6, 7, 8, 10, 11, 12] [(1, 4)] ttOkD ?_
    refine LdS.agg (vs := [.int .i64 p.lab.1, .string p.lab.2, .slice ap p.kids.length cp]) (fun u hu => Blk.lc0 (post := []) (hu.blk hb5 (by omega))) ?_
    refine LdS.agg (vs := [.int .i64 p.lab.1, .string p.lab.2, .slice ap p.kids.length cp]) (fun u hu => Blk.lc0 (post := []) (hu.blk hb5 (by omega))) ?_
    refine ⟨?_, ?_⟩
    · refine ⟨fun u1 hu1 => ?_⟩
      refine (c_l4VarD _).mono ?_
      rintro _ u2 ⟨hu2, rfl⟩
      refine Af.dw (hu1.ext hu2) ?_
      refine GoS.bd [.string ⟨#[97]⟩, .int .i64 1, .string ⟨#[98]⟩, .slice none 0 0] ?_
      refine ⟨fun u3 hu3 => ?_⟩
      have sx1 := hu1.size
      have sx2 := hu2.size
      have sx3 := hu3.size
      refine Go1.bs 9 ([⟨#[97]⟩, ⟨#[98]⟩, ⟨#[118, 48]⟩].map Value.string) (size := 1) (bytes := 16) Tryd.underlying49 tiStr (by decide) (by decide) (by kernel_rfl) ?_
      intro u4 hu4 hbS
      have sx4 := hu4.size
      refine Af.dw (hu3.ext hu4) ?_
      have qA : Dw g w7 u4 := (hu1.ext hu2).trans (hu3.ext hu4)
      have sq4 := qA.size
      refine ⟨fun u5 hu5 => ?_⟩
      have sq5 := hu5.size
      refine (c_l1Pick hu5.2 (lit_strs (hu5.blk hbS (by omega)) (by decide) rfl) (by simp; omega) (by decide) (by decide)).mono ?_
      rintro _ u6 ⟨⟨s, rfl, hsm⟩, hu6⟩
      refine Af.dw (hu5.trans hu6) ?_
      refine ⟨fun u7 hu7 => ?_⟩
      refine (c_l4VarD s).mono ?_
      rintro _ u8 ⟨hu8, rfl⟩
      refine Af.dw (hu7.ext hu8) ?_
      have q8 : Dw g w7 u8 := (qA.trans (hu5.trans hu6)).trans (hu7.ext hu8)
      have sq8 := q8.size
      refine GoS.bd [.string ⟨#[98]⟩, .int .i64 1, .string s, .slice none 0 0] ?_
      refine ⟨fun u9 hu9 => ?_⟩
      have sq9 := hu9.size
      refine Go1.bs 54 [.string ⟨#[97]⟩, .int .i64 1, .string ⟨#[98]⟩, .slice none 0 0, .string ⟨#[98]⟩, .int .i64 1, .string s, .slice none 0 0] (size := 4) (bytes := 64) Tryd.underlying24 tiBd (by decide) (by decide) (by kernel_rfl) ?_
      intro ua hua hba
      refine Af.dw (hu9.ext hua) ?_
      refine ⟨fun ub hub => ?_⟩
      have sqa := hua.size
      have qb : Dw g w7 ub := (q8.trans (hu9.ext hua)).trans hub
      have sqb := qb.size
      obtain ⟨cs, hbd, _⟩ := Bds.of_blk (xs := [(⟨#[97]⟩, .mk (1, ⟨#[98]⟩) []), (⟨#[98]⟩, .mk (1, s) [])]) (vs := [.slice none 0 0, .slice none 0 0]) (rest := []) (bs := []) (n := 2) (cap := 2) (by simpa [flB, encB, Rose.lab] using hub.blk hba (by omega)) ⟨[], [], rfl, Kids.nil, [], [], rfl, Kids.nil, rfl⟩ rfl ⟨by decide, Nat.le_refl _⟩
      have hcB : cntB [((⟨#[97]⟩ : ByteArray), (Rose.mk ((1 : Int), (⟨#[98]⟩ : ByteArray)) [] : Tp)), (⟨#[98]⟩, .mk (1, s) [])] = 2 := two_cnt _ _ _ _
      have hkb := hkp.chg qb.1 (fun b hb h => by have := hlp b hb; omega)
      refine (c_sApply (l := p.lab) (ks := p.kids) (by omega) (by omega) hbd hkb).mono ?_
      have hvt := vw_ap (two_var ⟨#[97]⟩ ⟨#[98]⟩ ⟨#[98]⟩ s) p (wf_vw hqp.2.2)
      have hct := apT_two' (xs := [((⟨#[97]⟩ : ByteArray), (Rose.mk ((1 : Int), (⟨#[98]⟩ : ByteArray)) [] : Tp)), (⟨#[98]⟩, .mk (1, s) [])]) (p := p) (a := 66) (b := 3) hcp (by omega)
      rw [p.eta] at hct ⊢
      generalize apT [((⟨#[97]⟩ : ByteArray), (Rose.mk ((1 : Int), (⟨#[98]⟩ : ByteArray)) [] : Tp)), (⟨#[98]⟩, .mk (1, s) [])] p = t at hvt hct ⊢
      rintro _ uc ⟨huc, vt, bt, rfl, hkt, hft⟩
      obtain ⟨at_, ct, rfl, _, _⟩ := hkt.form
      refine Af.dw (hub.ext huc) ?_
      refine ⟨fun ud hud => ?_⟩
      have q3 : Dw g uc ud := hud
      have hqd : Dw g w7 ud := (qb.ext huc).trans hud
      have hlt := hft.lo
      refine Go0.st (off := 0) (vs := [.int .i64 p.lab.1, .string p.lab.2, .slice ap p.kids.length cp]) (hqd.blk hbo (by omega)) rfl rfl (by simp [Value.cells]) (by simp [Value.oneCell']) ?_
      intro y1 hy1 hbo1 _
      have hbo1 : Blk y1 w.heap.size 38 [.int .i64 p.lab.1, .string p.lab.2, .slice ap p.kids.length cp] := hbo1
      refine Af.nw ?_
      refine ⟨fun y2 hy2 => ?_⟩
      refine Go0.st (off := 0) (vs := [.int .i64 t.lab.1, .string t.lab.2, .slice at_ t.kids.length ct]) (((hqd.blk hbt (by omega)).chg hy1 (by omega)).ext hy2) rfl rfl (by simp [Value.cells]) (by simp [Value.oneCell']) ?_
      intro y3 hy3 hbt3 _
      have hbt3 : Blk y3 w1.heap.size 38 [.int .i64 t.lab.1, .string t.lab.2, .slice at_ t.kids.length ct] := hbt3
      refine Af.nw ?_
      intro y4 hy4
      refine Ld.agg (vs := [.int .i64 p.lab.1, .string p.lab.2, .slice ap p.kids.length cp]) (Blk.lc0 (post := []) (((hbo1.ext hy2).chg hy3 (by omega)).ext hy4)) ?_
      refine Ld.agg (vs := [.int .i64 t.lab.1, .string t.lab.2, .slice at_ t.kids.length ct]) (Blk.lc0 (post := []) (hbt3.ext hy4)) ?_
      have hE : Ext w y4 := ((((hx03.chg (hd37.trans hqd).1 (fun x hx => by omega)).chg hy1 (fun x hx => by omega)).trans hy2).chg hy3 (fun x hx => by omega)).trans hy4
      exact ⟨hE, p, t, _, _, dp, bt, rfl, ((((hkp.chg hqd.1 (fun b hb h => by have := hlp b hb; omega)).chg hy1 (fun b hb h => by have := hlp b hb; omega)).ext hy2).chg hy3 (fun b hb h => by have := hlp b hb; omega)).ext hy4, ((((hkt.chg hud.1 (fun b hb h => by have := hlt b hb; omega)).chg hy1 (fun b hb h => by have := hlt b hb; omega)).ext hy2).chg hy3 (fun b hb h => by have := hlt b hb; omega)).ext hy4, wf_vw hqp.2.2, hvt, hqp.1, by omega⟩
    · refine ⟨fun u1 hu1 => ?_⟩
      have sx1 := hu1.size
      refine Go1.bs 9 ([⟨#[97]⟩, ⟨#[98]⟩, ⟨#[118, 48]⟩].map Value.string) (size := 1) (bytes := 16) Tryd.underlying49 tiStr (by decide) (by decide) (by kernel_rfl) ?_
      intro u2 hu2 hbS
      have sx2 := hu2.size
      refine Af.dw (hu1.ext hu2) ?_
      refine ⟨fun u3 hu3 => ?_⟩
      have sx3 := hu3.size
      refine (c_l4VarD _).mono ?_
      rintro _ u4 ⟨hu4, rfl⟩
      have sx4 := hu4.size
      refine Af.dw (hu3.ext hu4) ?_
      refine GoS.bd [.string ⟨#[97]⟩, .int .i64 1, .string ⟨#[98]⟩, .slice none 0 0] ?_
      have qA : Dw g w7 u4 := (hu1.ext hu2).trans (hu3.ext hu4)
      replace hbS := (hu3.blk hbS (by omega)).ext hu4
      have sq4 := qA.size
      refine ⟨fun u5 hu5 => ?_⟩
      have sq5 := hu5.size
      refine (c_l1Pick hu5.2 (lit_strs (hu5.blk hbS (by omega)) (by decide) rfl) (by simp; omega) (by decide) (by decide)).mono ?_
      rintro _ u6 ⟨⟨s, rfl, hsm⟩, hu6⟩
      refine Af.dw (hu5.trans hu6) ?_
      refine ⟨fun u7 hu7 => ?_⟩
      refine (c_l4VarD s).mono ?_
      rintro _ u8 ⟨hu8, rfl⟩
      refine Af.dw (hu7.ext hu8) ?_
      have q8 : Dw g w7 u8 := (qA.trans (hu5.trans hu6)).trans (hu7.ext hu8)
      have sq8 := q8.size
      refine GoS.bd [.string ⟨#[98]⟩, .int .i64 1, .string s, .slice none 0 0] ?_
      refine ⟨fun u9 hu9 => ?_⟩
      have sq9 := hu9.size
      refine Go1.bs 54 [.string ⟨#[97]⟩, .int .i64 1, .string ⟨#[98]⟩, .slice none 0 0, .string ⟨#[98]⟩, .int .i64 1, .string s, .slice none 0 0] (size := 4) (bytes := 64) Tryd.underlying24 tiBd (by decide) (by decide) (by kernel_rfl) ?_
      intro ua hua hba
      refine Af.dw (hu9.ext hua) ?_
      refine ⟨fun ub hub => ?_⟩
      have sqa := hua.size
      have qb : Dw g w7 ub := (q8.trans (hu9.ext hua)).trans hub
      have sqb := qb.size
      obtain ⟨cs, hbd, _⟩ := Bds.of_blk (xs := [(⟨#[97]⟩, .mk (1, ⟨#[98]⟩) []), (⟨#[98]⟩, .mk (1, s) [])]) (vs := [.slice none 0 0, .slice none 0 0]) (rest := []) (bs := []) (n := 2) (cap := 2) (by simpa [flB, encB, Rose.lab] using hub.blk hba (by omega)) ⟨[], [], rfl, Kids.nil, [], [], rfl, Kids.nil, rfl⟩ rfl ⟨by decide, Nat.le_refl _⟩
      have hcB : cntB [((⟨#[97]⟩ : ByteArray), (Rose.mk ((1 : Int), (⟨#[98]⟩ : ByteArray)) [] : Tp)), (⟨#[98]⟩, .mk (1, s) [])] = 2 := two_cnt _ _ _ _
      have hkb := hkp.chg qb.1 (fun b hb h => by have := hlp b hb; omega)
      refine (c_sApply (l := p.lab) (ks := p.kids) (by omega) (by omega) hbd hkb).mono ?_
      have hvt := vw_ap (two_var ⟨#[97]⟩ ⟨#[98]⟩ ⟨#[98]⟩ s) p (wf_vw hqp.2.2)
      have hct := apT_two' (xs := [((⟨#[97]⟩ : ByteArray), (Rose.mk ((1 : Int), (⟨#[98]⟩ : ByteArray)) [] : Tp)), (⟨#[98]⟩, .mk (1, s) [])]) (p := p) (a := 66) (b := 3) hcp (by omega)
      rw [p.eta] at hct ⊢
      generalize apT [((⟨#[97]⟩ : ByteArray), (Rose.mk ((1 : Int), (⟨#[98]⟩ : ByteArray)) [] : Tp)), (⟨#[98]⟩, .mk (1, s) [])] p = t at hvt hct ⊢
      rintro _ uc ⟨huc, vt, bt, rfl, hkt, hft⟩
      obtain ⟨at_, ct, rfl, _, _⟩ := hkt.form
      refine Af.dw (hub.ext huc) ?_
      refine ⟨fun ud hud => ?_⟩
      have q3 : Dw g uc ud := hud
      have hqd : Dw g w7 ud := (qb.ext huc).trans hud
      have hlt := hft.lo
      refine Go0.st (off := 0) (vs := [.int .i64 p.lab.1, .string p.lab.2, .slice ap p.kids.length cp]) (hqd.blk hbo (by omega)) rfl rfl (by simp [Value.cells]) (by simp [Value.oneCell']) ?_
      intro y1 hy1 hbo1 _
      have hbo1 : Blk y1 w.heap.size 38 [.int .i64 p.lab.1, .string p.lab.2, .slice ap p.kids.length cp] := hbo1
      refine Af.nw ?_
      refine ⟨fun y2 hy2 => ?_⟩
      refine Go0.st (off := 0) (vs := [.int .i64 t.lab.1, .string t.lab.2, .slice at_ t.kids.length ct]) (((hqd.blk hbt (by omega)).chg hy1 (by omega)).ext hy2) rfl rfl (by simp [Value.cells]) (by simp [Value.oneCell']) ?_
      intro y3 hy3 hbt3 _
      have hbt3 : Blk y3 w1.heap.size 38 [.int .i64 t.lab.1, .string t.lab.2, .slice at_ t.kids.length ct] := hbt3
      refine Af.nw ?_
      intro y4 hy4
      refine Ld.agg (vs := [.int .i64 p.lab.1, .string p.lab.2, .slice ap p.kids.length cp]) (Blk.lc0 (post := []) (((hbo1.ext hy2).chg hy3 (by omega)).ext hy4)) ?_
      refine Ld.agg (vs := [.int .i64 t.lab.1, .string t.lab.2, .slice at_ t.kids.length ct]) (Blk.lc0 (post := []) (hbt3.ext hy4)) ?_
      have hE : Ext w y4 := ((((hx03.chg (hd37.trans hqd).1 (fun x hx => by omega)).chg hy1 (fun x hx => by omega)).trans hy2).chg hy3 (fun x hx => by omega)).trans hy4
      exact ⟨hE, p, t, _, _, dp, bt, rfl, ((((hkp.chg hqd.1 (fun b hb h => by have := hlp b hb; omega)).chg hy1 (fun b hb h => by have := hlp b hb; omega)).ext hy2).chg hy3 (fun b hb h => by have := hlp b hb; omega)).ext hy4, ((((hkt.chg hud.1 (fun b hb h => by have := hlt b hb; omega)).chg hy1 (fun b hb h => by have := hlt b hb; omega)).ext hy2).chg hy3 (fun b hb h => by have := hlt b hb; omega)).ext hy4, wf_vw hqp.2.2, hvt, hqp.1, by omega⟩
end Go.Proofs.YtmecmdnnhldjpaaDoor
