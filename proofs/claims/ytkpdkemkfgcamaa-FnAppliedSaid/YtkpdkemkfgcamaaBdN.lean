/- Draws: a pattern and a Type. Conditions: none. -/
import Derived.Test.YtkpdkemkfgcamaaBdM
namespace Go.Proofs.Ytkpdkemkfgcamaa
open Go.RowKit

/-- The rule for a region whose calls move the cursor, and that draws its order among effects too. -/
theorem Dr.eD {P : Program} {n : Nat} {T : TT} {ops : Array Oper} {F : Fr} {w : World} {K : Fr → World → Prop} {g : Nat} (hc : Cu w g) (l : List Nat) (fr : List (Nat × Nat)) (hT : TOk P T) (hv : vce P T ops.toList fr (lateB ops l) K l l F (fun u => Dw g w u))
    (hm : P.follows .mixedOrders = true := by kernel_rfl) (hok : opsOk n ops.toList = true := by kernel_rfl) (hl : eagerF ops fr l = true := by kernel_rfl) (hle : Nat.ble l.length ops.size = true := by kernel_rfl) : Dr P n T ops F w K := by
  refine ⟨fun a id Q h hq => ?_⟩
  have hl' := hl
  simp only [eagerF, Bool.and_eq_true] at hl'
  have hall := hl'.1.1.2
  have hlen : l.length ≤ ops.size := Nat.ble_eq ▸ hle
  refine Code.wp_mono (Q := QN (fun a w => Q .normal a w)) (fun e a w hx => by cases e <;> first | exact hx | exact hx.elim) (wp_region_any hm ?_)
  refine VE_any (Q := fun a w => Q .normal a w) l hl ops.size _ l l _ a _ (List.Sublist.refl l) (by simp) (fun j hj => ?_) (down_none ops) hlen (Nat.le_refl _) (vce_sound hT ops hok (fun F' a' w' h' hk => hq F' a' w' h' hk) l l F _ a h hv) ((Dw.refl hc).ext (chg_drawn w _))
  have h1 := List.all_eq_true.1 hall j (List.mem_range.2 hj)
  simp [hj]
  simpa using h1

theorem apT_two {xs : List Bi} {p : Tp} {a b : Nat} (h1 : 1 + Rose.cnt p.kids ≤ a) (h2 : 1 + cntB xs ≤ b) : 1 + Rose.cnt (apT xs (.mk p.lab p.kids)).kids ≤ a * b :=
  Nat.le_trans (apT_cnt xs p.lab p.kids) (Nat.mul_le_mul h1 h2)

/-- spec.l7Two -/
theorem c_l7Two {w : World} {v : Value} (hv : OCode w v) : Ret Try.prog 58 [v] w fun r w' => Ext w w' ∧ ∃ (p t : Tp) (vp vt : Value) (bp bt : List Nat), r = .tuple #[.agg #[.int .i64 p.lab.1, .string p.lab.2, vp], .agg #[.int .i64 t.lab.1, .string t.lab.2, vt]] ∧ Kids encT w' vp p.kids bp ∧ Kids encT w' vt t.kids bt ∧ Qt 66 p ∧ 1 + Rose.cnt t.kids ≤ 1000000 ∧ ∀ b ∈ bp ++ bt, w.heap.size ≤ b := by
  have hM : maxLen = 9223372036854775807 := rfl
  have h43 : 4 ^ 3 + 2 = 66 := by decide
  obtain ⟨zs0, bs0, hr0⟩ := hv
  refine ret_of_vc ttOkD Try.func58 rfl (by kernel_rfl) (by kernel_rfl) ?_
  refine Go1.al tiTy ?_
  intro w1 hx1 hb1
  have lt1 := hb1.lt
  have sz1 := hx1.size
  refine Go1.al tiTy ?_
  intro w2 hx2 hb2
  have lt2 := hb2.lt
  have sz2 := hx2.size
  refine (c_l1New ⟨zs0, bs0, (hr0.ext hx1).ext hx2⟩).mono ?_
  rintro _ w3 ⟨hx3, g, rfl, hg, hc3⟩
  have hg3 := hc3.lt
  have sz3 := hx3.size
  refine (c_l4Free 3 (by decide) hc3).mono ?_
  rintro _ w4 ⟨⟨p, v, Op, cp', rfl, hgp, hqp⟩, hd34⟩
  have sz4 := hd34.size
  obtain ⟨ap, cp, dp, rfl, hkp4, hfp4, _⟩ := kidsN hgp hqp.1 (by decide)
  have hlp : ∀ b ∈ dp, w3.heap.size ≤ b := hfp4.lo
  have hlp2 : ∀ b ∈ dp, b < w4.heap.size := hfp4.lt
  refine Go1.al tiTy ?_
  intro w5 hx5 hb5
  have lt5 := hb5.lt
  refine Go0.st (off := 0) (vs := [.int .i64 p.lab.1, .string p.lab.2, .slice ap p.kids.length cp]) hb5 rfl rfl (by simp [Value.cells]) (by simp [Value.oneCell']) ?_
  intro w6 hc6 hb5 _
  have hb5 : Blk w6 w4.heap.size 40 [.int .i64 p.lab.1, .string p.lab.2, .slice ap p.kids.length cp] := hb5
  have hx46 : Ext w4 w6 := hx5.chg hc6 (by omega)
  have sz6 := hx46.size
  have hd36 := hd34.ext hx46
  have hx03 := (hx1.trans hx2).trans hx3
  refine (c_l1Once hd36.2 4 (by decide) (by decide)).mono ?_
  rintro _ w7 ⟨⟨q, rfl⟩, hd67⟩
  have sz7 := hd67.size
  have hd37 := hd36.trans hd67
  have hb5 := hd67.blk hb5 (by omega)
  have hbo := hd37.blk ((hb1.ext hx2).ext hx3) (by omega)
  have hbt := hd37.blk (hb2.ext hx3) (by omega)
  have hkp := (hkp4.ext hx46).chg hd67.1 (fun b hb h => by have := hlp b hb; omega)
  have hqp : Qt 66 p := hqp
  have hcp := hqp.1
  cases q with
  | true =>
    refine Dr.d hd37.2 [0, 1, 2, 3, 4] ttOkD ?_
    refine LdS.agg (vs := [.int .i64 p.lab.1, .string p.lab.2, .slice ap p.kids.length cp]) (fun u hu => Blk.lc0 (post := []) (hu.blk hb5 (by omega))) ?_
    refine ⟨fun u1 hu1 => ?_⟩
    have su1 := hu1.size
    refine (c_l4Free 3 (by decide) hu1.2).mono ?_
    rintro _ u2 ⟨⟨t, v, Ot, ct', rfl, hgt, hqt⟩, hu2⟩
    have su2 := hu2.size
    obtain ⟨at_, ct, dt, rfl, hkt2, hft2, _⟩ := kidsN hgt hqt.1 (by decide)
    have hlt : ∀ b ∈ dt, u1.heap.size ≤ b := hft2.lo
    refine Af.dw (hu1.trans hu2) ?_
    refine ⟨fun u3 hu3 => ?_⟩
    have h7u := (hu1.trans hu2).trans hu3
    refine Go0.st (off := 0) (vs := [.int .i64 p.lab.1, .string p.lab.2, .slice ap p.kids.length cp]) (h7u.blk hbo (by omega)) rfl rfl (by simp [Value.cells]) (by simp [Value.oneCell']) ?_
    intro y1 hy1 hbo1 _
    have hbo1 : Blk y1 w.heap.size 40 [.int .i64 p.lab.1, .string p.lab.2, .slice ap p.kids.length cp] := hbo1
    refine Af.nw ?_
    refine ⟨fun y2 hy2 => ?_⟩
    refine Go0.st (off := 0) (vs := [.int .i64 t.lab.1, .string t.lab.2, .slice at_ t.kids.length ct]) (((h7u.blk hbt (by omega)).chg hy1 (by omega)).ext hy2) rfl rfl (by simp [Value.cells]) (by simp [Value.oneCell']) ?_
    intro y3 hy3 hbt3 _
    have hbt3 : Blk y3 w1.heap.size 40 [.int .i64 t.lab.1, .string t.lab.2, .slice at_ t.kids.length ct] := hbt3
    refine Af.nw ?_
    intro y4 hy4
    refine Ld.agg (vs := [.int .i64 p.lab.1, .string p.lab.2, .slice ap p.kids.length cp]) (Blk.lc0 (post := []) (((hbo1.ext hy2).chg hy3 (by omega)).ext hy4)) ?_
    refine Ld.agg (vs := [.int .i64 t.lab.1, .string t.lab.2, .slice at_ t.kids.length ct]) (Blk.lc0 (post := []) (hbt3.ext hy4)) ?_
    have hE : Ext w y4 := ((((hx03.chg (hd37.trans h7u).1 (fun x hx => by omega)).chg hy1 (fun x hx => by omega)).trans hy2).chg hy3 (fun x hx => by omega)).trans hy4
    exact ⟨hE, p, t, _, _, dp, dt, rfl, ((((hkp.chg h7u.1 (fun b hb h => by have := hlp b hb; omega)).chg hy1 (fun b hb h => by have := hlp b hb; omega)).ext hy2).chg hy3 (fun b hb h => by have := hlp b hb; omega)).ext hy4, ((((hkt2.chg hu3.1 (fun b hb h => by have := hlt b hb; omega)).chg hy1 (fun b hb h => by have := hlt b hb; omega)).ext hy2).chg hy3 (fun b hb h => by have := hlt b hb; omega)).ext hy4, hqp, by have := hqt.1; omega, fun b hb => (List.mem_append.1 hb).elim (fun h => by have := hlp b h; omega) (fun h => by have := hlt b h; omega)⟩
  | false =>
    refine Dr.cut (β := Nat × Tp × Value × List Nat) (fun b => [(2, .pointer (some ⟨w.heap.size, 0, none⟩)), (3, .pointer (some ⟨w1.heap.size, 0, none⟩)), (4, .pointer (some ⟨g, 0, none⟩)), (5, .pointer (some ⟨w4.heap.size, 0, none⟩)), (6, .pointer (some ⟨b.1, 0, none⟩))])
      (fun b w' => Dw g w7 w' ∧ w7.heap.size ≤ b.1 ∧ (∃ at_ ct, b.2.2.1 = .slice at_ b.2.1.kids.length ct ∧ Blk w' b.1 40 [.int .i64 b.2.1.lab.1, .string b.2.1.lab.2, .slice at_ b.2.1.kids.length ct]) ∧ Kids encT w' b.2.2.1 b.2.1.kids b.2.2.2 ∧ (∀ x ∈ b.2.2.2, w7.heap.size ≤ x ∧ x ≠ b.1) ∧ 1 + Rose.cnt b.2.1.kids ≤ 70000) ?_ ?_
    · refine Dr.eD hd37.2 [0, 2, 1, 3, 4, 5] [(1, 4), (3, 4)] ttOkD ?_
      refine LdS.agg (vs := [.int .i64 p.lab.1, .string p.lab.2, .slice ap p.kids.length cp]) (fun u hu => Blk.lc0 (post := []) (hu.blk hb5 (by omega))) ?_
      refine ⟨?_, ?_⟩
      · have q0 : Dw g w7 w7 := Dw.refl hd37.2
        refine ⟨fun u1 hu1 => ?_⟩
        have q1 : Dw g w7 u1 := q0.trans hu1
        have sq1 := q1.size
        have szu1 := hu1.size
        refine (c_l6Binds q1.2).mono ?_
        rintro vx u2 ⟨⟨xs, bx, hbx, hfx, hqx⟩, hu2⟩
        have q2 : Dw g w7 u2 := q1.trans hu2
        have sq2 := q2.size
        have szu2 := hu2.size
        refine Af.dw (hu1.trans hu2) ?_
        refine ⟨?_, ?_⟩
        · refine ⟨fun u3 hu3 => ?_⟩
          have q3 : Dw g w7 u3 := q2.trans hu3
          have sq3 := q3.size
          have szu3 := hu3.size
          refine (c_sApply (by have := hqx.1; omega) (by omega) (hbx.chg hu3.1 (fun b hb h => by have := hfx.lo b hb; omega)) (hkp.chg q3.1 (fun b hb h => by have := hlp b hb; omega))).mono ?_
          rintro _ u4 ⟨hu4, vt, bt, rfl, hkt, hft⟩
          obtain ⟨at_, ct, rfl, _, _⟩ := hkt.form
          have q4 : Dw g w7 u4 := q3.ext hu4
          have sq4 := q4.size
          have szu4 := hu4.size
          refine Af.dw (hu3.ext hu4) ?_
          refine ⟨fun u5 hu5 => ?_⟩
          have q5 : Dw g w7 u5 := q4.trans hu5
          have sq5 := q5.size
          have szu5 := hu5.size
          refine Go1.al tiTy ?_
          intro u6 hu6 hb6
          have lt6 := hb6.lt
          have q6 : Dw g w7 u6 := q5.ext hu6
          have sq6 := q6.size
          have szu6 := hu6.size
          refine Af.dw (hu5.ext hu6) ?_
          refine ⟨fun u7 hu7 => ?_⟩
          have q7 : Dw g w7 u7 := q6.trans hu7
          have sq7 := q7.size
          have szu7 := hu7.size
          refine Go0.st (off := 0) (vs := [.int .i64 (apT xs (.mk p.lab p.kids)).lab.1, .string (apT xs (.mk p.lab p.kids)).lab.2, .slice at_ (apT xs (.mk p.lab p.kids)).kids.length ct]) ((hu7.blk hb6 (by omega))) rfl rfl (by simp [Value.cells]) (by simp [Value.oneCell']) ?_
          intro z1 hcz hbz _
          have hbz : Blk z1 u5.heap.size 40 [.int .i64 (apT xs (.mk p.lab p.kids)).lab.1, .string (apT xs (.mk p.lab p.kids)).lab.2, .slice at_ (apT xs (.mk p.lab p.kids)).kids.length ct] := hbz
          refine Af.nw ?_
          intro z2 hz2
          have q9 : Dw g w7 z2 := (q7.big hcz (fun x hx => by omega) (by omega)).ext hz2
          exact ⟨(u5.heap.size, apT xs (.mk p.lab p.kids), _, bt), ⟨rfl, rfl, rfl, rfl, rfl, trivial⟩, q9, by omega, ⟨_, _, rfl, hbz.ext hz2⟩, ((hkt.chg ((hu5.ext hu6).trans hu7).1 (fun b hb h => by have := hft.lo b hb; omega)).chg hcz (fun b hb h => by have := hft.lo b hb; have := hft.lt b hb; omega)).ext hz2, fun b hb => ⟨by have := hft.lo b hb; omega, by have := hft.lo b hb; have := hft.lt b hb; omega⟩, Nat.le_trans (apT_two (a := 66) (b := 1025) hcp (by have := hqx.1; omega)) (by decide)⟩
        · refine ⟨fun u3 hu3 => ?_⟩
          have q3 : Dw g w7 u3 := q2.trans hu3
          have sq3 := q3.size
          have szu3 := hu3.size
          refine Go1.al tiTy ?_
          intro u4 hu4 hb6
          have lt6 := hb6.lt
          have q4 : Dw g w7 u4 := q3.ext hu4
          have sq4 := q4.size
          have szu4 := hu4.size
          refine Af.dw (hu3.ext hu4) ?_
          refine ⟨fun u5 hu5 => ?_⟩
          have q5 : Dw g w7 u5 := q4.trans hu5
          have sq5 := q5.size
          have szu5 := hu5.size
          refine (c_sApply (by have := hqx.1; omega) (by omega) (hbx.chg ((hu3.ext hu4).trans hu5).1 (fun b hb h => by have := hfx.lo b hb; omega)) (hkp.chg q5.1 (fun b hb h => by have := hlp b hb; omega))).mono ?_
          rintro _ u6 ⟨hu6, vt, bt, rfl, hkt, hft⟩
          obtain ⟨at_, ct, rfl, _, _⟩ := hkt.form
          have q6 : Dw g w7 u6 := q5.ext hu6
          have sq6 := q6.size
          have szu6 := hu6.size
          refine Af.dw (hu5.ext hu6) ?_
          refine ⟨fun u7 hu7 => ?_⟩
          have q7 : Dw g w7 u7 := q6.trans hu7
          have sq7 := q7.size
          have szu7 := hu7.size
          refine Go0.st (off := 0) (vs := [.int .i64 (apT xs (.mk p.lab p.kids)).lab.1, .string (apT xs (.mk p.lab p.kids)).lab.2, .slice at_ (apT xs (.mk p.lab p.kids)).kids.length ct]) ((((hu5.ext hu6).trans hu7).blk hb6 (by omega))) rfl rfl (by simp [Value.cells]) (by simp [Value.oneCell']) ?_
          intro z1 hcz hbz _
          have hbz : Blk z1 u3.heap.size 40 [.int .i64 (apT xs (.mk p.lab p.kids)).lab.1, .string (apT xs (.mk p.lab p.kids)).lab.2, .slice at_ (apT xs (.mk p.lab p.kids)).kids.length ct] := hbz
          refine Af.nw ?_
          intro z2 hz2
          have q9 : Dw g w7 z2 := (q7.big hcz (fun x hx => by omega) (by omega)).ext hz2
          exact ⟨(u3.heap.size, apT xs (.mk p.lab p.kids), _, bt), ⟨rfl, rfl, rfl, rfl, rfl, trivial⟩, q9, by omega, ⟨_, _, rfl, hbz.ext hz2⟩, ((hkt.chg hu7.1 (fun b hb h => by have := hft.lo b hb; omega)).chg hcz (fun b hb h => by have := hft.lo b hb; have := hft.lt b hb; omega)).ext hz2, fun b hb => ⟨by have := hft.lo b hb; omega, by have := hft.lo b hb; have := hft.lt b hb; omega⟩, Nat.le_trans (apT_two (a := 66) (b := 1025) hcp (by have := hqx.1; omega)) (by decide)⟩
      · have q0 : Dw g w7 w7 := Dw.refl hd37.2
        refine ⟨fun u1 hu1 => ?_⟩
        have q1 : Dw g w7 u1 := q0.trans hu1
        have sq1 := q1.size
        have szu1 := hu1.size
        refine Go1.al tiTy ?_
        intro u2 hu2 hb6
        have lt6 := hb6.lt
        have q2 : Dw g w7 u2 := q1.ext hu2
        have sq2 := q2.size
        have szu2 := hu2.size
        refine Af.dw (hu1.ext hu2) ?_
        refine ⟨fun u3 hu3 => ?_⟩
        have q3 : Dw g w7 u3 := q2.trans hu3
        have sq3 := q3.size
        have szu3 := hu3.size
        refine (c_l6Binds q3.2).mono ?_
        rintro vx u4 ⟨⟨xs, bx, hbx, hfx, hqx⟩, hu4⟩
        have q4 : Dw g w7 u4 := q3.trans hu4
        have sq4 := q4.size
        have szu4 := hu4.size
        refine Af.dw (hu3.trans hu4) ?_
        refine ⟨fun u5 hu5 => ?_⟩
        have q5 : Dw g w7 u5 := q4.trans hu5
        have sq5 := q5.size
        have szu5 := hu5.size
        refine (c_sApply (by have := hqx.1; omega) (by omega) (hbx.chg hu5.1 (fun b hb h => by have := hfx.lo b hb; omega)) (hkp.chg q5.1 (fun b hb h => by have := hlp b hb; omega))).mono ?_
        rintro _ u6 ⟨hu6, vt, bt, rfl, hkt, hft⟩
        obtain ⟨at_, ct, rfl, _, _⟩ := hkt.form
        have q6 : Dw g w7 u6 := q5.ext hu6
        have sq6 := q6.size
        have szu6 := hu6.size
        refine Af.dw (hu5.ext hu6) ?_
        refine ⟨fun u7 hu7 => ?_⟩
        have q7 : Dw g w7 u7 := q6.trans hu7
        have sq7 := q7.size
        have szu7 := hu7.size
        refine Go0.st (off := 0) (vs := [.int .i64 (apT xs (.mk p.lab p.kids)).lab.1, .string (apT xs (.mk p.lab p.kids)).lab.2, .slice at_ (apT xs (.mk p.lab p.kids)).kids.length ct]) ((((((hu3.trans hu4).trans hu5).ext hu6).trans hu7).blk hb6 (by omega))) rfl rfl (by simp [Value.cells]) (by simp [Value.oneCell']) ?_
        intro z1 hcz hbz _
        have hbz : Blk z1 u1.heap.size 40 [.int .i64 (apT xs (.mk p.lab p.kids)).lab.1, .string (apT xs (.mk p.lab p.kids)).lab.2, .slice at_ (apT xs (.mk p.lab p.kids)).kids.length ct] := hbz
        refine Af.nw ?_
        intro z2 hz2
        have q9 : Dw g w7 z2 := (q7.big hcz (fun x hx => by omega) (by omega)).ext hz2
        exact ⟨(u1.heap.size, apT xs (.mk p.lab p.kids), _, bt), ⟨rfl, rfl, rfl, rfl, rfl, trivial⟩, q9, by omega, ⟨_, _, rfl, hbz.ext hz2⟩, ((hkt.chg hu7.1 (fun b hb h => by have := hft.lo b hb; omega)).chg hcz (fun b hb h => by have := hft.lo b hb; have := hft.lt b hb; omega)).ext hz2, fun b hb => ⟨by have := hft.lo b hb; omega, by have := hft.lo b hb; have := hft.lt b hb; omega⟩, Nat.le_trans (apT_two (a := 66) (b := 1025) hcp (by have := hqx.1; omega)) (by decide)⟩
    · rintro ⟨b6, t, vt, bt⟩ w8 ⟨hd78, hb6lo, ⟨at_, ct, ev, hb6⟩, hkt, hblt, hct⟩
      dsimp only at hb6lo ev hb6 hkt hblt hct ⊢
      subst ev
      have sz8 := hd78.size
      have hd38 := hd37.trans hd78
      have hb5 := hd78.blk hb5 (by omega)
      have hbo := hd78.blk hbo (by omega)
      have hbt := hd78.blk hbt (by omega)
      have hkp := hkp.chg hd78.1 (fun b hb h => by have := hlp b hb; omega)
      have hlt : ∀ b ∈ bt, w7.heap.size ≤ b := fun b hb => (hblt b hb).1
      have lt6 := hb6.lt
      refine (c_l1Once hd38.2 6 (by decide) (by decide)).mono ?_
      rintro _ w9 ⟨⟨q, rfl⟩, hd89⟩
      have sz9 := hd89.size
      have hd39 := hd38.trans hd89
      have hb5 := hd89.blk hb5 (by omega)
      have hbo := hd89.blk hbo (by omega)
      have hbt := hd89.blk hbt (by omega)
      have hb6 := hd89.blk hb6 (by omega)
      have hkp := hkp.chg hd89.1 (fun b hb h => by have := hlp b hb; omega)
      have hkt := hkt.chg hd89.1 (fun b hb h => by have := hlt b hb; omega)
      have hE : Ext w w9 := hx03.chg hd39.1 (fun x hx => by omega)
      cases q with
      | false =>
        have hct : 1 + Rose.cnt t.kids ≤ 1000000 := by omega
        refine Dr.go [0, 1, 2, 3] (fun u => Chg (fun x => x = w.heap.size) w9 u ∧ ∃ a b c, Blk u w.heap.size 40 [a, b, c]) ttOkD ⟨(chg_drawn _ _).mono (fun _ _ h => h.elim), _, _, _, hbo.ext (chg_drawn _ _)⟩ ?_
        refine LdS.agg (vs := [.int .i64 p.lab.1, .string p.lab.2, .slice ap p.kids.length cp]) (fun u hu => Blk.lc0 (post := []) (hb5.chg hu.1 (by omega))) ?_
        refine LdS.agg (vs := [.int .i64 t.lab.1, .string t.lab.2, .slice at_ t.kids.length ct]) (fun u hu => Blk.lc0 (post := []) (hb6.chg hu.1 (by omega))) ?_
        refine ⟨fun y1 hy1 => ?_⟩
        obtain ⟨hy1, o1, o2, o3, hbo1⟩ := hy1
        refine Go0.st (off := 0) (vs := [.int .i64 p.lab.1, .string p.lab.2, .slice ap p.kids.length cp]) hbo1 rfl rfl (by simp [Value.cells]) (by simp [Value.oneCell']) ?_
        intro y2 hc2 hbo2 _
        have hbo2 : Blk y2 w.heap.size 40 [.int .i64 p.lab.1, .string p.lab.2, .slice ap p.kids.length cp] := hbo2
        refine ⟨⟨fun u => Chg (fun x => x = w.heap.size) w9 u ∧ Blk u w.heap.size 40 [.int .i64 p.lab.1, .string p.lab.2, .slice ap p.kids.length cp], ⟨hy1.trans' hc2, hbo2⟩, fun _ u hu => ⟨hu.1, _, _, _, hu.2⟩, ?_⟩⟩
        refine ⟨fun y3 hy3 => ?_⟩
        refine Go0.st (off := 0) (vs := [.int .i64 t.lab.1, .string t.lab.2, .slice at_ t.kids.length ct]) (hbt.chg hy3.1 (by omega)) rfl rfl (by simp [Value.cells]) (by simp [Value.oneCell']) ?_
        intro y4 hc4 hbt4 _
        have hbt4 : Blk y4 w1.heap.size 40 [.int .i64 t.lab.1, .string t.lab.2, .slice at_ t.kids.length ct] := hbt4
        refine Af.nw ?_
        intro y5 hy5
        refine Ld.agg (vs := [.int .i64 p.lab.1, .string p.lab.2, .slice ap p.kids.length cp]) (Blk.lc0 (post := []) ((hy3.2.chg hc4 (by omega)).ext hy5)) ?_
        refine Ld.agg (vs := [.int .i64 t.lab.1, .string t.lab.2, .slice at_ t.kids.length ct]) (Blk.lc0 (post := []) (hbt4.ext hy5)) ?_
        exact ⟨((hE.chg hy3.1 (fun x hx => by omega)).chg hc4 (fun x hx => by omega)).ext hy5, p, t, _, _, dp, bt, rfl, ((hkp.chg hy3.1 (fun b hb h => by have := hlp b hb; omega)).chg hc4 (fun b hb h => by have := hlp b hb; omega)).ext hy5, ((hkt.chg hy3.1 (fun b hb h => by have := hlt b hb; omega)).chg hc4 (fun b hb h => by have := hlt b hb; omega)).ext hy5, hqp, hct, fun b hb => (List.mem_append.1 hb).elim (fun h => by have := hlp b h; omega) (fun h => by have := hlt b h; omega)⟩
      | true =>
        refine Dr.x [3, 0, 1, 2, 4, 5] ttOkD ?_
        refine LdS.xn (vs := [.int .i64 t.lab.1, .string t.lab.2, .slice at_ t.kids.length ct]) (Blk.lc0 (post := []) hb6) ?_
        refine ⟨fun u1 hu1 => ?_⟩
        refine c_l4IntD.mono ?_
        rintro _ u2 ⟨hu2, vi, Oi, rfl, hgi⟩
        obtain ⟨aoi, capi, di, rfl, hki, _, _⟩ := kidsN (t := .mk (2, em) []) (N := 1) hgi (by show 1 + Rose.cnt ([] : List Tp) ≤ 1; rw [cntZ]; omega) (by decide)
        refine Af.ext (hu1.trans hu2) ?_
        refine GoS.bd [.string ⟨#[98]⟩, .int .i64 2, .string ⟨#[105, 110, 116]⟩, .slice aoi 0 capi] ?_
        refine ⟨fun u3 hu3 => ?_⟩
        refine Go1.bs 72 [.string ⟨#[98]⟩, .int .i64 2, .string ⟨#[105, 110, 116]⟩, .slice aoi 0 capi] (size := 4) (bytes := 64) Try.underlying28 tiBd (by decide) (by decide) (by kernel_rfl) ?_
        intro u4 hu4 hbl
        refine Af.ext (hu3.trans hu4) ?_
        refine ⟨fun u5 hu5 => ?_⟩
        have h9u := (((hu1.trans hu2).trans hu3).trans hu4).trans hu5
        have su5 := h9u.size
        obtain ⟨cx, hbx, _⟩ := Bds.of_blk (w := u5) (xs := [((⟨#[98]⟩ : ByteArray), (Rose.mk (2, ⟨#[105, 110, 116]⟩) [] : Tp))]) (vs := [.slice aoi 0 capi]) (rest := []) (bs := di) (n := 1) (cap := 1) (hbl.ext hu5) ⟨di, [], by simp, (hki.ext ((hu3.trans hu4).trans hu5)), rfl⟩ rfl ⟨by decide, Nat.le_refl _⟩
        refine (c_sApply (l := t.lab) (ks := t.kids) (by decide) (by omega) hbx (hkt.ext h9u)).mono ?_
        rintro _ u6 ⟨hu6, vt, bt', rfl, hkt', hft'⟩
        have su6 := hu6.size
        have hct' : 1 + Rose.cnt (apT [((⟨#[98]⟩ : ByteArray), (Rose.mk (2, ⟨#[105, 110, 116]⟩) [] : Tp))] (.mk t.lab t.kids)).kids ≤ 1000000 := Nat.le_trans (apT_two (a := 70000) (b := 2) hct (by decide)) (by decide)
        generalize apT [((⟨#[98]⟩ : ByteArray), (Rose.mk (2, ⟨#[105, 110, 116]⟩) [] : Tp))] (.mk t.lab t.kids) = t' at hkt' hct'
        obtain ⟨at', ct', rfl, _, _⟩ := hkt'.form
        refine Af.ext (hu5.trans hu6) ?_
        refine ⟨fun u7 hu7 => ?_⟩
        have h9w := (h9u.trans hu6).trans hu7
        refine Go0.st (off := 0) (vs := [.int .i64 t'.lab.1, .string t'.lab.2, .slice at' t'.kids.length ct']) (hb6.ext h9w) rfl rfl (by simp [Value.cells]) (by simp [Value.oneCell']) ?_
        intro u8 hc8 hb8 _
        have hb8 : Blk u8 b6 40 [.int .i64 t'.lab.1, .string t'.lab.2, .slice at' t'.kids.length ct'] := hb8
        refine Af.nw ?_
        intro u9 hu9
        have hb6 := hb8.ext hu9
        have hb5 := ((hb5.ext h9w).chg hc8 (by omega)).ext hu9
        have hbo := ((hbo.ext h9w).chg hc8 (by omega)).ext hu9
        have hbt := ((hbt.ext h9w).chg hc8 (by omega)).ext hu9
        have hkp := ((hkp.ext h9w).chg hc8 (fun b hb h => by have := hlp2 b hb; omega)).ext hu9
        have hlt : ∀ b ∈ bt', w7.heap.size ≤ b := fun b hb => by have := hft'.lo b hb; omega
        have hkt := ((hkt'.ext hu7).chg hc8 (fun b hb h => by have := hft'.lo b hb; omega)).ext hu9
        have hE := ((hE.trans h9w).chg hc8 (fun x hx => by omega)).trans hu9
        have hct := hct'
        refine Dr.go [0, 1, 2, 3] (fun u => Chg (fun x => x = w.heap.size) u9 u ∧ ∃ a b c, Blk u w.heap.size 40 [a, b, c]) ttOkD ⟨(chg_drawn _ _).mono (fun _ _ h => h.elim), _, _, _, hbo.ext (chg_drawn _ _)⟩ ?_
        refine LdS.agg (vs := [.int .i64 p.lab.1, .string p.lab.2, .slice ap p.kids.length cp]) (fun u hu => Blk.lc0 (post := []) (hb5.chg hu.1 (by omega))) ?_
        refine LdS.agg (vs := [.int .i64 t'.lab.1, .string t'.lab.2, .slice at' t'.kids.length ct']) (fun u hu => Blk.lc0 (post := []) (hb6.chg hu.1 (by omega))) ?_
        refine ⟨fun y1 hy1 => ?_⟩
        obtain ⟨hy1, o1, o2, o3, hbo1⟩ := hy1
        refine Go0.st (off := 0) (vs := [.int .i64 p.lab.1, .string p.lab.2, .slice ap p.kids.length cp]) hbo1 rfl rfl (by simp [Value.cells]) (by simp [Value.oneCell']) ?_
        intro y2 hc2 hbo2 _
        have hbo2 : Blk y2 w.heap.size 40 [.int .i64 p.lab.1, .string p.lab.2, .slice ap p.kids.length cp] := hbo2
        refine ⟨⟨fun u => Chg (fun x => x = w.heap.size) u9 u ∧ Blk u w.heap.size 40 [.int .i64 p.lab.1, .string p.lab.2, .slice ap p.kids.length cp], ⟨hy1.trans' hc2, hbo2⟩, fun _ u hu => ⟨hu.1, _, _, _, hu.2⟩, ?_⟩⟩
        refine ⟨fun y3 hy3 => ?_⟩
        refine Go0.st (off := 0) (vs := [.int .i64 t'.lab.1, .string t'.lab.2, .slice at' t'.kids.length ct']) (hbt.chg hy3.1 (by omega)) rfl rfl (by simp [Value.cells]) (by simp [Value.oneCell']) ?_
        intro y4 hc4 hbt4 _
        have hbt4 : Blk y4 w1.heap.size 40 [.int .i64 t'.lab.1, .string t'.lab.2, .slice at' t'.kids.length ct'] := hbt4
        refine Af.nw ?_
        intro y5 hy5
        refine Ld.agg (vs := [.int .i64 p.lab.1, .string p.lab.2, .slice ap p.kids.length cp]) (Blk.lc0 (post := []) ((hy3.2.chg hc4 (by omega)).ext hy5)) ?_
        refine Ld.agg (vs := [.int .i64 t'.lab.1, .string t'.lab.2, .slice at' t'.kids.length ct']) (Blk.lc0 (post := []) (hbt4.ext hy5)) ?_
        exact ⟨((hE.chg hy3.1 (fun x hx => by omega)).chg hc4 (fun x hx => by omega)).ext hy5, p, t', _, _, dp, bt', rfl, ((hkp.chg hy3.1 (fun b hb h => by have := hlp b hb; omega)).chg hc4 (fun b hb h => by have := hlp b hb; omega)).ext hy5, ((hkt.chg hy3.1 (fun b hb h => by have := hlt b hb; omega)).chg hc4 (fun b hb h => by have := hlt b hb; omega)).ext hy5, hqp, hct, fun b hb => (List.mem_append.1 hb).elim (fun h => by have := hlp b h; omega) (fun h => by have := hlt b h; omega)⟩
end Go.Proofs.Ytkpdkemkfgcamaa
