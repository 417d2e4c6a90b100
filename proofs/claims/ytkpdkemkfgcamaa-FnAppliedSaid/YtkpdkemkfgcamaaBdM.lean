/- Draws: bindings; a pair of a pattern and a Type; a substitution and a Type. Conditions: none. -/
import Derived.Test.YtkpdkemkfgcamaaTyQ
import Derived.Test.YtkpdkemkfgcamaaJBdE
import Derived.Test.YtkpdkemkfgcamaaBdK
namespace Go.Proofs.Ytkpdkemkfgcamaa
open Go.RowKit

theorem GrowB.snocE {n0 m : Nat} {w1 w' : World} {r' : Value} {xs : List Bi} {x : Bi} {v : Value} {O O' cs c1 : List Nat} {vs : List Value}
    (hk : BdL w1 vs xs cs) (hf : Fresh n0 w1 (O ++ cs)) (hk1 : Kids encT w1 v x.2.kids c1) (hf1 : Fresh m w1 c1) (hdis : ∀ b ∈ c1, b ∉ O ++ cs)
    (hc : Chg (· ∈ O) w1 w') (hg : Grow w' 72 4 r' (xs.length + 1) (flB xs vs ++ (encB x ++ [v])) O') (hO : ∀ b ∈ O', b ∈ O ∨ w1.heap.size ≤ b) (hn : n0 ≤ w1.heap.size) (hm : n0 ≤ m) :
    GrowB n0 w' r' (xs ++ [x]) O' (cs ++ c1) := by
  have hnd := List.nodup_append.1 hf.nodup
  have hOcs : ∀ b ∈ cs, b ∉ O := fun b hb hb' => hnd.2.2 b hb' b hb rfl
  have hO1 : ∀ b ∈ c1, b ∉ O := fun b hb hb' => hdis b hb (List.mem_append_left _ hb')
  have hOlo : ∀ b ∈ O, n0 ≤ b := fun b hb => hf.lo b (List.mem_append_left _ hb)
  have hcs' : Fresh n0 w' cs := (hf.sub (List.sublist_append_right _ _)).chg hc hOcs
  have hc1' : Fresh n0 w' c1 := (hf1.chg hc hO1).mono hm
  have hO'f : Fresh n0 w' O' := hg.fresh fun b hb => by
    rcases hO b hb with h | h
    · exact hOlo b h
    · omega
  refine ⟨vs ++ [v], by rw [List.length_append, flB_snoc hk.length]; exact hg, BdL.snoc (hk1.chg hc hO1) (hk.chg hc hOcs), ⟨List.nodup_append.2 ⟨hO'f.nodup, List.nodup_append.2 ⟨hcs'.nodup, hc1'.nodup, fun a ha b hb e => ?_⟩, fun a ha b hb e => ?_⟩, fun b hb => ?_, fun b hb => ?_⟩⟩
  · subst e
    exact hdis a hb (List.mem_append_right _ ha)
  · subst e
    rcases hO a ha with h | h
    · rcases List.mem_append.1 hb with hb | hb
      · exact hOcs a hb h
      · exact hO1 a hb h
    · rcases List.mem_append.1 hb with hb | hb
      · have := hf.lt a (List.mem_append_right _ hb)
        omega
      · have := hf1.lt a hb
        omega
  · rcases List.mem_append.1 hb with hb | hb
    · exact hO'f.lo b hb
    · rcases List.mem_append.1 hb with hb | hb
      · exact hcs'.lo b hb
      · exact hc1'.lo b hb
  · rcases List.mem_append.1 hb with hb | hb
    · exact hO'f.blk b hb
    · rcases List.mem_append.1 hb with hb | hb
      · exact hcs'.blk b hb
      · exact hc1'.blk b hb
theorem cntB_snoc (xs : List Bi) (x : Bi) : cntB (xs ++ [x]) = cntB xs + (1 + Rose.cnt x.2.kids) := by
  induction xs with
  | nil => simp [cntB]
  | cons y ys ih => simp only [List.cons_append, cntB, ih]; omega

theorem abc_mem : ∀ s ∈ ([⟨#[97]⟩, ⟨#[98]⟩, ⟨#[99]⟩] : List ByteArray), abc s = true := by decide
/-- What drawn bindings meet. -/
def Qx (xs : List Bi) : Prop := cntB xs ≤ 1024 ∧ ∀ x ∈ xs, abc x.1 = true ∧ Nm x.2
/-- spec.l6Binds -/
theorem c_l6Binds {w : World} {g : Nat} (hc : Cu w g) : Ret Try.prog 70 [.pointer (some ⟨g, 0, none⟩)] w fun r w' => (∃ xs bs, Bds w' r xs bs ∧ Fresh w.heap.size w' bs ∧ Qx xs) ∧ Dw g w w' := by
  have hgw := hc.lt
  have hM : maxLen = 9223372036854775807 := rfl
  refine ret_of_vc ttOkD Try.func70 rfl (by kernel_rfl) (by kernel_rfl) ?_
  refine Go1.b0 72 (size := 4) (bytes := 64) Try.underlying28 tiBd ?_
  intro w1 u1 hx1 hg1 hu
  subst hu
  have sz1 := hx1.size
  have hd1 : Dw g w w1 := (Dw.refl hc).ext hx1
  have hg1' : GrowB w.heap.size w1 (.slice (some ⟨w.heap.size, 0, none⟩) 0 0) [] [w.heap.size] [] := ⟨[], hg1, rfl, by simpa using hg1.fresh (by simp)⟩
  refine (c_l1Below hd1.2 4 (by decide) (by decide)).mono ?_
  rintro _ w2 ⟨⟨m, rfl, hm⟩, hd12⟩
  have hd2 := hd1.trans hd12
  have sz2 := hd12.size
  refine Lp.go ttOkD (by kernel_rfl) (fun q : Nat × Value => [(0, .pointer (some ⟨g, 0, none⟩)), (3, q.2), (4, .int .i64 m), (5, .int .i64 q.1)])
    (fun q w' => Dw g w w' ∧ q.1 ≤ m ∧ ∃ xs O cs, GrowB w.heap.size w' q.2 xs O cs ∧ xs.length ≤ q.1 ∧ cntB xs ≤ 18 * q.1 ∧ ∀ x ∈ xs, abc x.1 = true ∧ Nm x.2) (fun q => m - q.1) (0, .slice (some ⟨w.heap.size, 0, none⟩) 0 0)
    ⟨rfl, rfl, rfl, rfl, trivial⟩ ⟨hd2, Nat.zero_le _, [], _, _, hg1'.chg hd12.1 (by simp; omega), by simp, by simp [cntB], by simp⟩ ?_
  rintro ⟨k, r⟩ w5 ⟨hd5, hk, xs, O, cs, hg5, hxl, hcb5, hq6⟩
  dsimp only at hk hg5 hxl hcb5
  have sz5 := hd5.size
  have hlo5 : ∀ b ∈ O ++ cs, w.heap.size ≤ b := by
    obtain ⟨_, _, _, hf⟩ := hg5
    exact hf.lo
  refine Cm.s (fun hlt => ?_) (fun hge => ?_)
  · have hlt : k < m := by omega
    refine Go1.bs 9 ([⟨#[97]⟩, ⟨#[98]⟩, ⟨#[99]⟩].map Value.string) (size := 1) (bytes := 16) Try.underlying55 tiStr (by decide) (by decide) (by kernel_rfl) ?_
    intro w6 hx6 hb6
    have sz6 := hx6.size
    refine (c_l1Pick (hd5.2.ext hx6) (lit_strs hb6 (by decide) rfl) (by simp; omega) (by decide) (by decide)).mono ?_
    rintro _ w7 ⟨⟨s, rfl, hsm⟩, hd67⟩
    have hd7 := (hd5.ext hx6).trans hd67
    have sz7 := hd67.size
    have hg7 := (hg5.ext hx6).chg hd67.1 (fun b hb h => by have := hlo5 b hb; omega)
    refine (c_l4Free 2 (by decide) hd7.2).mono ?_
    rintro _ w8 ⟨⟨T, v, OT, cT, rfl, hgT, hq⟩, hd78⟩
    have hd8 := hd7.trans hd78
    have sz8 := hd78.size
    obtain ⟨ao, cap, ds, rfl, hkT, hfT, _⟩ := kidsN hgT hq.1 (by decide)
    have hcT : 1 + Rose.cnt T.kids ≤ 18 := hq.1
    have hg6 := hg7
    have hg8 := hg7.chg hd78.1 (fun b hb h => by have := hlo5 b hb; omega)
    refine Go1.bd [.string s, .int .i64 T.lab.1, .string T.lab.2, .slice ao T.kids.length cap] ?_
    refine Go1.al tiBd ?_
    intro w9 hx9 hb9
    have lt9 := hb9.lt
    refine Go0.st (off := 0) (vs := [.string s, .int .i64 T.lab.1, .string T.lab.2, .slice ao T.kids.length cap]) hb9 rfl rfl (by simp [Value.cells]) (by simp [Value.oneCell']) ?_
    intro w10 hc10 hb10 _
    have hb10 : Blk w10 w8.heap.size 72 [.string s, .int .i64 T.lab.1, .string T.lab.2, .slice ao T.kids.length cap] := hb10
    have hx810 : Ext w8 w10 := hx9.chg hc10 (by omega)
    have sz10 := hx810.size
    refine Go1.fl 0 (Ld.one hb10.at0 ?_)
    have hg10 := hg8.ext hx810
    obtain ⟨bx, hbx, _⟩ := hg10.bds (by omega)
    refine (c_sLookup (by omega) s hbx).mono ?_
    rintro _ w11 ⟨hx11, vL, bL, rfl, hkL, _⟩
    refine Go1.al tiTy ?_
    intro w12 hx12 hb12
    have lt12 := hb12.lt
    obtain ⟨aL, capL, rfl, _, _⟩ := hkL.form
    refine Go0.st (off := 0) (vs := [.int .i64 (lookT s xs).lab.1, .string (lookT s xs).lab.2, .slice aL (lookT s xs).kids.length capL]) hb12 rfl rfl (by simp [Value.cells]) (by simp [Value.oneCell']) ?_
    intro w13 hc13 hb13 _
    have hx1013 : Ext w10 w13 := hx11.trans (hx12.chg hc13 (by omega))
    have hx813 := hx810.trans hx1013
    have sz13 := hx1013.size
    have hb13 := hb10.ext hx1013
    have hd13 := hd8.ext hx813
    have hg13 := hg8.ext hx813
    have hk13 := hkT.ext hx813
    have hf13 := hfT.ext hx813
    cases (lookO s xs).isSome with
    | false =>
      refine Ld.agg (vs := [.string s, .int .i64 T.lab.1, .string T.lab.2, .slice ao T.kids.length cap]) (Blk.lc0 (post := []) hb13) ?_
      refine Go1.bs 72 [.string s, .int .i64 T.lab.1, .string T.lab.2, .slice ao T.kids.length cap] (size := 4) (bytes := 64) Try.underlying28 tiBd (by decide) (by decide) (by kernel_rfl) ?_
      intro wa hxa hba
      obtain ⟨vs, hgr, hbl, hfr⟩ := hg13.ext hxa
      have hlo := fun b hb => hfr.lo b hb
      refine Go1.app (size := 4) (bytes := 64) Try.underlying28 tiBd (by rfl) (by decide) hgr (m := 1) (news := [.string s, .int .i64 T.lab.1, .string T.lab.2, .slice ao T.kids.length cap]) (Blk.lc0 (post := []) hba) (by simp) (by simp [Value.oneCell']) (by omega) (by decide) ?_
      intro rb wb Ob hcb hgb hOb
      have sza := hxa.size
      have hds : Fresh w7.heap.size wa ds := hf13.ext hxa
      have hsn := GrowB.snocE (x := (s, T)) hbl hfr (hk13.ext hxa) hds (fun b hb h => by have := hg6.lt b h; have := hds.lo b hb; omega) hcb hgb hOb (by omega) (by omega)
      have hdb : Dw g w wb := (hd13.ext hxa).big hcb (fun x hx => hlo x (List.mem_append_left _ hx)) hgw
      have szb := hcb.size
      refine Wr.n (k + 1) (by omega) (by omega) ?_
      exact ⟨(k + 1, rb), ⟨rfl, rfl, rfl, rfl, trivial⟩, ⟨hdb, by omega, xs ++ [(s, T)], Ob, _, hsn, by rw [List.length_append]; show xs.length + 1 ≤ k + 1; omega, by rw [cntB_snoc]; show cntB xs + (1 + Rose.cnt T.kids) ≤ 18 * (k + 1); omega, fun y hy => (List.mem_append.1 hy).elim (hq6 y) fun h => by
        obtain rfl : y = (s, T) := by simpa using h
        exact ⟨abc_mem s hsm, hq.2.1⟩⟩, by simp only; omega⟩
    | true =>
      refine (c_l1Once hd13.2 4 (by decide) (by decide)).mono ?_
      rintro _ w14 ⟨⟨q, rfl⟩, hd1314⟩
      have hd14 := hd13.trans hd1314
      have sz14 := hd1314.size
      have hg14 := hg13.chg hd1314.1 (fun b hb h => by have := hlo5 b hb; omega)
      cases q with
      | true =>
        have hb14 := hd1314.blk hb13 (by omega)
        have hk14 : Kids encT w14 (.slice ao T.kids.length cap) T.kids ds := hk13.chg hd1314.1 (fun b hb h => by have := hfT.lo b hb; omega)
        have hf14 := hf13.chg hd1314.1 (fun b hb h => by have := hfT.lo b hb; omega)
        refine Ld.agg (vs := [.string s, .int .i64 T.lab.1, .string T.lab.2, .slice ao T.kids.length cap]) (Blk.lc0 (post := []) hb14) ?_
        refine Go1.bs 72 [.string s, .int .i64 T.lab.1, .string T.lab.2, .slice ao T.kids.length cap] (size := 4) (bytes := 64) Try.underlying28 tiBd (by decide) (by decide) (by kernel_rfl) ?_
        intro wa hxa hba
        obtain ⟨vs, hgr, hbl, hfr⟩ := hg14.ext hxa
        have hlo := fun b hb => hfr.lo b hb
        refine Go1.app (size := 4) (bytes := 64) Try.underlying28 tiBd (by rfl) (by decide) hgr (m := 1) (news := [.string s, .int .i64 T.lab.1, .string T.lab.2, .slice ao T.kids.length cap]) (Blk.lc0 (post := []) hba) (by simp) (by simp [Value.oneCell']) (by omega) (by decide) ?_
        intro rb wb Ob hcb hgb hOb
        have sza := hxa.size
        have hds : Fresh w7.heap.size wa ds := hf14.ext hxa
        have hsn := GrowB.snocE (x := (s, T)) hbl hfr (hk14.ext hxa) hds (fun b hb h => by have := hg6.lt b h; have := hds.lo b hb; omega) hcb hgb hOb (by omega) (by omega)
        have hdb : Dw g w wb := (hd14.ext hxa).big hcb (fun x hx => hlo x (List.mem_append_left _ hx)) hgw
        have szb := hcb.size
        refine Wr.n (k + 1) (by omega) (by omega) ?_
        exact ⟨(k + 1, rb), ⟨rfl, rfl, rfl, rfl, trivial⟩, ⟨hdb, by omega, xs ++ [(s, T)], Ob, _, hsn, by rw [List.length_append]; show xs.length + 1 ≤ k + 1; omega, by rw [cntB_snoc]; show cntB xs + (1 + Rose.cnt T.kids) ≤ 18 * (k + 1); omega, fun y hy => (List.mem_append.1 hy).elim (hq6 y) fun h => by
          obtain rfl : y = (s, T) := by simpa using h
          exact ⟨abc_mem s hsm, hq.2.1⟩⟩, by simp only; omega⟩
      | false =>
        refine Wr.n (k + 1) (by omega) (by omega) ?_
        exact ⟨(k + 1, r), ⟨rfl, rfl, rfl, rfl, trivial⟩, ⟨hd14, hlt, xs, O, cs, hg14, by simp only; omega, by simp only; omega, hq6⟩, by simp only; omega⟩
  · have fin : ∀ w', Dw g w w' → GrowB w.heap.size w' r xs O cs → (∃ ys bs, Bds w' r ys bs ∧ Fresh w.heap.size w' bs ∧ Qx ys) ∧ Dw g w w' := fun w' h1 h2 => by
      obtain ⟨bx, hbx, hsx⟩ := h2.bds (by omega)
      obtain ⟨_, _, _, hf⟩ := h2
      exact ⟨⟨xs, bx, hbx, hf.sub hsx, by omega, hq6⟩, h1⟩
    obtain ⟨bx, hbx, _⟩ := hg5.bds (by omega)
    obtain ⟨ax, capx, rfl, _, _⟩ := hbx.form
    refine Cm.s (fun h0 => ?_) (fun h0 => fin _ hd5 hg5)
    refine Cm.s (fun h1 => ?_) (fun h1 => fin _ hd5 hg5)
    refine (c_l1Once hd5.2 8 (by decide) (by decide)).mono ?_
    rintro _ w6 ⟨⟨q, rfl⟩, hd56⟩
    have hd6 := hd5.trans hd56
    have sz6 := hd56.size
    have hg6 := hg5.chg hd56.1 (fun b hb h => by have := hlo5 b hb; omega)
    cases q with
    | false => exact fin _ hd6 hg6
    | true =>
      refine (c_l4Bent hd6.2).mono ?_
      rintro _ w7 ⟨⟨T, v, OT, cT, rfl, hgT, hq⟩, hd67⟩
      have hd7 := hd6.trans hd67
      obtain ⟨ao, cap, ds, rfl, hkT, hfT, _⟩ := kidsN hgT hq.1 (by decide)
      have hcT : 1 + Rose.cnt T.kids ≤ 128 := hq.1
      have hg7 := hg6.chg hd67.1 (fun b hb h => by have := hlo5 b hb; omega)
      obtain ⟨vs, ⟨hfl, hgr⟩, hbl, hfr⟩ := hg7
      rcases hgr with ⟨_, h0', _⟩ | ⟨gx, capy, rest, e1, rfl, hb7, hle, _⟩
      · omega
      cases e1
      cases xs with
      | nil => simp at h1
      | cons x ys =>
        cases vs with
        | nil => exact hbl.elim
        | cons y vs =>
          have hgx := hfr.lo gx (by simp)
          refine Go1.ix 4 (by simp) (Go1.fl 1 ?_)
          refine Go0.st (off := 1) (vs := [.int .i64 T.lab.1, .string T.lab.2, .slice ao T.kids.length cap]) hb7 (by rw [Addr.add_lit, Addr.add_lit]) rfl (by simp [flB] <;> omega) (by simp [Value.oneCell']) ?_
          intro w8 hc8 hb8 _
          have hb8 : Blk w8 gx 72 (flB ((x.1, T) :: ys) (.slice ao T.kids.length cap :: vs) ++ rest) := hb8
          obtain ⟨b1, b2, rfl, hk1, hk2⟩ := hbl
          have hnd : (gx :: (b1 ++ b2)).Nodup := hfr.nodup
          rw [List.nodup_cons] at hnd
          have hlt7 := fun b hb => hfr.lt b hb
          have sz7 := hd67.size
          have hgd : gx ∉ ds := fun h => by
            obtain ⟨_, _, _, hf6⟩ := hg6
            have := hf6.lt gx (by simp)
            have := hfT.lo gx h
            omega
          have hb2d : ∀ b ∈ b2, b ∉ ds := fun b hb h => by
            have h6 := hg6.lt b (by simp [hb])
            have := hfT.lo b h
            omega
          have hnd2 : (ds ++ b2).Nodup := List.nodup_append.2 ⟨hfT.nodup, (List.nodup_append.1 hnd.2).2.1, fun a ha b hb e => hb2d b hb (e ▸ ha)⟩
          have hf8 : Fresh w.heap.size w8 (gx :: (ds ++ b2)) := by
            refine ⟨List.nodup_cons.2 ⟨fun h => ?_, hnd2⟩, fun b hb => ?_, fun b hb => ?_⟩
            · rcases List.mem_append.1 h with h | h
              · exact hgd h
              · exact hnd.1 (List.mem_append_right _ h)
            · rcases List.mem_cons.1 hb with rfl | hb
              · exact hgx
              · rcases List.mem_append.1 hb with hb | hb
                · have := hfT.lo b hb
                  have := hd6.size
                  omega
                · exact hfr.lo b (by simp [hb])
            · rcases List.mem_cons.1 hb with rfl | hb
              · exact ⟨_, _, hb8⟩
              · rcases List.mem_append.1 hb with hb | hb
                · obtain ⟨c, e, h⟩ := hfT.blk b hb
                  exact ⟨c, e, h.chg hc8 fun h => hgd (h ▸ hb)⟩
                · obtain ⟨c, e, h⟩ := hfr.blk b (by simp [hb])
                  exact ⟨c, e, h.chg hc8 fun h => hnd.1 (h ▸ List.mem_append_right _ hb)⟩
          have hk8 : BdL w8 (.slice ao T.kids.length cap :: vs) ((x.1, T) :: ys) (ds ++ b2) := ⟨ds, b2, rfl, hkT.chg hc8 (fun b hb h => hgd (h ▸ hb)), hk2.chg hc8 (fun b hb h => hnd.1 (h ▸ List.mem_append_right _ hb))⟩
          have hle2 : (x :: ys).length ≤ capx := by assumption
          have hle3 : (x :: ys).length ≤ maxLen := by assumption
          obtain ⟨bz, h1z, h2z⟩ := Bds.of_blk hb8 hk8 (n := ys.length + 1) (cap := capx) rfl ⟨hle3, hle2⟩
          refine ⟨⟨(x.1, T) :: ys, bz, h1z, hf8.sub h2z, ?_, ?_⟩, hd7.big hc8 (fun b hb => by subst hb; exact hgx) hgw⟩
          · simp only [cntB] at hcb5 ⊢
            omega
          · intro z hz
            rcases List.mem_cons.1 hz with rfl | hz
            · exact ⟨(hq6 x (by simp)).1, hq.2.1⟩
            · exact hq6 z (by simp [hz])
end Go.Proofs.Ytkpdkemkfgcamaa
