/- Draws: an SExpr. Conditions: none. -/
import Derived.Test.YtliigpmpeldebaaGreatJStrH
import Derived.Test.YtliigpmpeldebaaGreatJGrowT
import Derived.Test.YtliigpmpeldebaaGreatDrawC
namespace Go.Proofs.YtliigpmpeldebaaGreat
open Go.RowKit

theorem Af.dw {late : Bool} {g : Nat} {w0 w1 : World} {p : (World → Prop) → Prop} (h : Dw g w0 w1) (k : p (fun u => Dw g w1 u)) : Af late (fun u => Dw g w0 u) w1 p :=
  ⟨fun u => Dw g w1 u, Dw.refl h.2, fun _ _ hu => h.trans hu, k⟩
theorem Af.nw' {late : Bool} {S : World → Prop} {w1 : World} {p : (World → Prop) → Prop} (k : p (fun u => Ext w1 u)) (hl : late = false := by kernel_rfl) : Af late S w1 p := Af.nw k hl
/-- The rule for a region whose calls move the cursor. -/
theorem Dr.d {P : Program} {n : Nat} {T : TT} {ops : Array Oper} {F : Fr} {w : World} {K : Fr → World → Prop} {g : Nat} (hc : Cu w g) (l : List Nat) (hT : TOk P T) (hv : vcd P T ops.toList (lateB ops l) K l F (fun u => Dw g w u))
    (hm : P.follows .mixedOrders = true := by kernel_rfl) (hok : opsOk n ops.toList = true := by kernel_rfl) (hl : eagerB ops l = true := by kernel_rfl) (hle : Nat.ble l.length ops.size = true := by kernel_rfl) : Dr P n T ops F w K :=
  Dr.go l _ hT ((Dw.refl hc).ext (chg_drawn w _)) hv hm hok hl hle
theorem Dw.blk {g : Nat} {w w' : World} (h : Dw g w w') {b : Nat} {e : TypeId} {cs : List Value} (hb : Blk w b e cs) (hn : b ≠ g) : Blk w' b e cs := hb.chg h.1 hn
theorem Dw.cell {g : Nat} {w w' : World} (h : Dw g w w') {b : Nat} {e : TypeId} {cs : List Value} (hb : Blk w b e cs) (hn : b ≠ g) {i : Nat} {v : Value} (hc : w.cell? ((⟨b, 0, none⟩ : Addr).add i) = some v) : w'.cell? ((⟨b, 0, none⟩ : Addr).add i) = some v :=
  Chg.cell h.1 (by
    have : ((⟨b, 0, none⟩ : Addr).add i).block = b := by unfold Addr.add; split <;> rfl
    rw [this]
    exact hn) hc

/-- Short labels. -/
abbrev SmL (ts : List Sx) : Prop := Rose.AlL (fun s : ByteArray => s.size ≤ 16) ts
def Sm (t : Sx) : Prop := t.lab.size ≤ 16 ∧ SmL t.kids
theorem SmL.nil : SmL [] := Rose.AlL_of (by simp)
theorem Sm.atom {s : ByteArray} (h : s.size ≤ 16) : Sm (.mk s []) := ⟨h, SmL.nil⟩
theorem Sm.node {ts : List Sx} (h : SmL ts) {l : ByteArray} (hl : l.size ≤ 16) : Sm (.mk l ts) := ⟨hl, h⟩
theorem SmL.snoc {ts : List Sx} (h : SmL ts) {t : Sx} (k : Sm t) : SmL (ts ++ [t]) := Rose.AlL_of fun u hu => by
  rcases List.mem_append.1 hu with hu | hu
  · exact Rose.AlL_mem h hu
  · obtain rfl : u = t := by simpa using hu
    exact k
theorem pickSx : ∀ s ∈ ([⟨#[97]⟩, ⟨#[105, 110, 116]⟩, ⟨#[39, 98]⟩, ⟨#[48]⟩, ⟨#[45, 53]⟩, ⟨#[120, 46, 121]⟩] : List ByteArray), s.size ≤ 16 := by decide
/-- An SExpr that a draw made. -/
def DrX (g N : Nat) (w : World) (r : Value) (w' : World) : Prop := ∃ (t : Sx) (v : Value) (O cs : List Nat), r = .agg #[.string t.lab, v] ∧ GrowT encS 33 2 w.heap.size w' v t.kids O cs ∧ (1 + Rose.cnt t.kids ≤ N ∧ Sm t) ∧ Dw g w w'

theorem c_l2AtomD (s : ByteArray) {w : World} : Ret Tryz.prog 53 [.string s] w fun r w' => Ext w w' ∧ r = .agg #[.string s, .slice none 0 0] := by
  refine ret_of_vc ttOkD Tryz.func53 rfl (by kernel_rfl) (by kernel_rfl) ?_
  refine Go1.al tiSx ?_
  intro w1 hx1 hb1
  have lt1 := hb1.lt
  refine Go1.bd [.string s, .slice none 0 0] ?_
  refine Go0.st (off := 0) (vs := [.string s, .slice none 0 0]) hb1 rfl rfl (by simp [Value.cells]) (by simp [Value.oneCell']) ?_
  intro w2 hx2 hb2 _
  have hb2 : Blk w2 w.heap.size 33 [.string s, .slice none 0 0] := hb2
  refine Ld.agg (vs := [.string s, .slice none 0 0]) (Blk.lc0 (post := []) hb2) ?_
  exact ⟨hx1.chg hx2 (by omega), rfl⟩
theorem kids_nilD {α : Type} {enc : α → List Value} {w : World} {v : Value} {bs : List Nat} (h : Kids enc w v ([] : List (Rose α)) bs) : bs = [] := by
  obtain ⟨ao, cap, _, _, ⟨_, h⟩ | ⟨a, bs', h, _⟩⟩ := h
  · exact h
  · exact absurd rfl h
theorem cntWx {α : Type} (ts : List (Rose α)) (t : Rose α) : Rose.cnt (ts ++ [t]) = Rose.cnt ts + (1 + Rose.cnt t.kids) := by
  show Rose.wtL _ _ = Rose.wtL _ _ + _
  rw [Rose.wtL_append, Rose.wtL_cons, Rose.wtL_nil]
  simp

abbrev at_D (s : ByteArray) : Sx := .mk s []
/-- spec.l2Sx -/
theorem c_l2Sx (n : Nat) (hn : n ≤ 8) : ∀ {w : World} {g : Nat}, Cu w g → Ret Tryz.prog 27 [.pointer (some ⟨g, 0, none⟩), .int .i64 n] w (DrX g (4 ^ n) w) := by
  induction n with
  | zero =>
    intro w g hc
    have hg := hc.lt
    refine ret_of_vc ttOkD Tryz.func27 rfl (by kernel_rfl) (by kernel_rfl) ?_
    refine Go1.al tiSx ?_
    intro w1 hx1 hb1
    have lt1 := hb1.lt
    have hd1 : Dw g w w1 := (Dw.refl hc).ext hx1
    refine Cm.t (by omega) ?_
    refine Go1.bs 9 ([⟨#[97]⟩, ⟨#[105, 110, 116]⟩, ⟨#[39, 98]⟩, ⟨#[48]⟩, ⟨#[45, 53]⟩, ⟨#[120, 46, 121]⟩].map Value.string) (size := 1) (bytes := 16) Tryz.underlying57 tiStr (by decide) (by decide) (by kernel_rfl) ?_
    intro w4 hx4 hb4
    have sz4 := hx4.size
    refine (c_l1Pick (hd1.2.ext hx4) (lit_strs hb4 (by decide) rfl) (by simp; omega) (by decide) (by decide)).mono ?_
    rintro _ w5 ⟨⟨s, rfl, hsm⟩, hd5⟩
    refine (c_l2AtomD s).mono ?_
    rintro _ w6 ⟨hx6, rfl⟩
    have hd6 := ((hd1.ext hx4).trans hd5).ext hx6
    have hb6 := Blk.ext hx6 (hd5.blk (hb1.ext hx4) (by omega))
    refine Go0.st (off := 0) (vs := [.string s, .slice none 0 0]) hb6 rfl rfl (by simp [Value.cells]) (by simp [Value.oneCell']) ?_
    intro w7 hc7 hb7 _
    have hb7 : Blk w7 w.heap.size 33 [.string s, .slice none 0 0] := hb7
    refine Ld.agg (vs := [.string s, .slice none 0 0]) (Blk.lc0 (post := []) hb7) ?_
    have hone : 1 ≤ 4 ^ 0 := Nat.pow_pos (by decide)
    exact ⟨at_D s, _, [], [], rfl, GrowT.nil, ⟨by show 1 + Rose.cnt ([] : List Sx) ≤ _; rw [show Rose.cnt ([] : List Sx) = 0 from Rose.wtL_nil _]; exact hone, Sm.atom (pickSx s hsm)⟩, hd6.big hc7 (fun x hx => by omega) hg⟩
  | succ n ih =>
    intro w g hc
    have hg := hc.lt
    have hM : maxLen = 9223372036854775807 := rfl
    have hpow : 4 ^ (n + 1) = 4 * 4 ^ n := by rw [Nat.pow_succ, Nat.mul_comm]
    have hpos : 1 ≤ 4 ^ n := Nat.pow_pos (by decide)
    have hbig : 4 ^ (n + 1) ≤ 4 ^ 8 := Nat.pow_le_pow_right (by omega) hn
    have h48 : 4 ^ 8 = 65536 := by decide
    refine ret_of_vc ttOkD Tryz.func27 rfl (by kernel_rfl) (by kernel_rfl) ?_
    refine Go1.al tiSx ?_
    intro w1 hx1 hb1
    have lt1 := hb1.lt
    have sz1 := hx1.size
    have hd1 : Dw g w w1 := (Dw.refl hc).ext hx1
    refine Cm.f (by omega) ?_
    refine (c_l1Once hd1.2 2 (by decide) (by decide)).mono ?_
    rintro _ w2 ⟨⟨b, rfl⟩, hd12⟩
    have hd2 := hd1.trans hd12
    have hb2 := hd12.blk hb1 (by omega)
    have szd := hd2.size
    obtain rfl | rfl : b = true ∨ b = false := by cases b <;> simp
    · refine Go1.bs 9 ([⟨#[97]⟩, ⟨#[105, 110, 116]⟩, ⟨#[39, 98]⟩, ⟨#[48]⟩, ⟨#[45, 53]⟩, ⟨#[120, 46, 121]⟩].map Value.string) (size := 1) (bytes := 16) Tryz.underlying57 tiStr (by decide) (by decide) (by kernel_rfl) ?_
      intro w4 hx4 hb4
      have sz4 := hx4.size
      refine (c_l1Pick (hd2.2.ext hx4) (lit_strs hb4 (by decide) rfl) (by simp; omega) (by decide) (by decide)).mono ?_
      rintro _ w5 ⟨⟨s, rfl, hsm⟩, hd5⟩
      refine (c_l2AtomD s).mono ?_
      rintro _ w6 ⟨hx6, rfl⟩
      have hd6 := ((hd2.ext hx4).trans hd5).ext hx6
      have hb6 := Blk.ext hx6 (hd5.blk (hb2.ext hx4) (by omega))
      refine Go0.st (off := 0) (vs := [.string s, .slice none 0 0]) hb6 rfl rfl (by simp [Value.cells]) (by simp [Value.oneCell']) ?_
      intro w7 hc7 hb7 _
      have hb7 : Blk w7 w.heap.size 33 [.string s, .slice none 0 0] := hb7
      refine Ld.agg (vs := [.string s, .slice none 0 0]) (Blk.lc0 (post := []) hb7) ?_
      have hone : 1 ≤ 4 ^ (n + 1) := Nat.pow_pos (by decide)
      exact ⟨at_D s, _, [], [], rfl, GrowT.nil, ⟨by show 1 + Rose.cnt ([] : List Sx) ≤ _; rw [show Rose.cnt ([] : List Sx) = 0 from Rose.wtL_nil _]; exact hone, Sm.atom (pickSx s hsm)⟩, hd6.big hc7 (fun x hx => by omega) hg⟩
    · refine Go1.bd [.string em, .slice none 0 0] ?_
      refine Go1.al tiSx ?_
      intro w3 hx3 hb3
      have lt3 := hb3.lt
      have sz2 := hd2.size
      have sz3 := hx3.size
      refine Go0.st (off := 0) (vs := [.string em, .slice none 0 0]) hb3 rfl rfl (by simp [Value.cells]) (by simp [Value.oneCell']) ?_
      intro w4 hc4 hb4 hs4
      have hb4 : Blk w4 w2.heap.size 33 [.string em, .slice none 0 0] := hb4
      have hx24 : Ext w2 w4 := hx3.chg hc4 (by omega)
      have hd4 := hd2.ext hx24
      have lt4 := hb4.lt
      have szb := hd12.size
      refine (c_l1Below hd4.2 4 (by decide) (by decide)).mono ?_
      rintro _ w5 ⟨⟨m, rfl, hm⟩, hd45⟩
      have hd5 := hd4.trans hd45
      have sz45 := hd45.size
      refine Lp.go ttOkD (by kernel_rfl) (fun k : Nat => [(0, .pointer (some ⟨g, 0, none⟩)), (1, .int .i64 (n + 1 : Nat)), (4, .pointer (some ⟨w.heap.size, 0, none⟩)), (5, .pointer (some ⟨w2.heap.size, 0, none⟩)), (6, .int .i64 m), (7, .int .i64 k)])
        (fun k w' => Dw g w w' ∧ k ≤ m ∧ Blk w' w.heap.size 33 [.string em, .slice none 0 0] ∧ ∃ r ts O cs, Blk w' w2.heap.size 33 [.string em, r] ∧ GrowT encS 33 2 w4.heap.size w' r ts O cs ∧ ts.length = k ∧ (Rose.cnt ts ≤ k * 4 ^ n ∧ SmL ts) ∧ w4.heap.size ≤ w'.heap.size) (fun k => m - k) 0
        ⟨rfl, rfl, rfl, rfl, rfl, rfl, trivial⟩ ⟨hd5, Nat.zero_le _, hd45.blk (Blk.ext hx24 hb2) (by omega), _, [], [], [], hd45.blk hb4 (by omega), GrowT.nil, rfl, ⟨by rw [show Rose.cnt ([] : List Sx) = 0 from Rose.wtL_nil _]; omega, SmL.nil⟩, sz45⟩ ?_
      rintro k w6 ⟨hd6, hk, hbr, r, ts, O, cs, hbx, hgt, hlen, ⟨hcnt, hsl⟩, hz6⟩
      have sz6 := hd6.size
      refine Cm.s (fun hlt => ?_) (fun hge => ?_)
      · have hlt : k < m := by omega
        have hg2 : w2.heap.size ≠ g := by omega
        refine Dr.d hd6.2 [0, 1, 2, 3, 4, 5, 6, 7, 8, 9] ttOkD ?_
        refine GoS.fl 1 (LdS.one (fun u hu => (Dw.blk hu hbx hg2).at1) ?_)
        refine Wr.n n (by simp) (by omega) ?_
        refine ⟨fun wa hda => ?_⟩
        refine (ih (by omega) hda.2).mono ?_
        rintro _ wb ⟨T, vb, Ob, cb0, rfl, hgb, ⟨hcb, hsT⟩, hdb⟩
        obtain ⟨cb, hkb, hfb⟩ := hgb.kids (by have : T.kids.length ≤ Rose.cnt T.kids := Rose.wtL_length _ _; omega)
        obtain ⟨aob, capb, rfl, _, _⟩ := hkb.form
        refine Af.dw (hda.trans hdb) ?_
        have hd6b := hda.trans hdb
        refine ⟨fun wc hdc => ?_⟩
        have sza := hda.size
        have szb' := hdb.size
        have hfc : Fresh wa.heap.size wc cb := hfb.chg hdc.1 fun b hb h => by have := hfb.lo b hb; omega
        have hkc : Kids encS wc (.slice aob T.kids.length capb) T.kids cb := hkb.chg hdc.1 fun b hb h => by have := hfb.lo b hb; omega
        refine Go1.bs 33 [.string T.lab, .slice aob T.kids.length capb] (size := 2) (bytes := 40) Tryz.underlying31 tiSx (by decide) (by decide) (by kernel_rfl) ?_
        intro wd hxd hbd
        refine Af.dw (hdc.ext hxd) ?_
        refine ⟨fun we hde => ?_⟩
        have hd6e := ((hd6b.trans hdc).ext hxd).trans hde
        have szc := hdc.size
        have szd := hxd.size
        have sze := hde.size
        have hd6c := hd6b.trans hdc
        have hda6 := hd6b.size
        have hgO : ∀ b ∈ O ++ cs, ¬ b = g := fun b hb h => by have := hgt.lo b hb; omega
        have hgt6 := hgt.chg hd6e.1 hgO
        obtain ⟨vsT, hgrT, hklT, hfrT⟩ := hgt6
        refine Go1.app (size := 2) (bytes := 40) Tryz.underlying31 tiSx (by rfl) (by decide) hgrT (m := 1) (news := [.string T.lab, .slice aob T.kids.length capb]) (Blk.lc0 (post := []) (hde.blk hbd (by omega))) (by simp) (by simp [Value.oneCell']) (by omega) (by decide) ?_
        intro rf wf Of hcf hgf hOf
        have hkE : Kids encS we (.slice aob T.kids.length capb) T.kids cb := (hkc.ext hxd).chg hde.1 fun b hb h => by have := hfc.lo b hb; omega
        have hfE : Fresh wa.heap.size we cb := (hfc.ext hxd).chg hde.1 fun b hb h => by have := hfc.lo b hb; omega
        have hgF := GrowT.snocE (t := T) (v := .slice aob T.kids.length capb) hklT hfrT hkE hfE (fun b hb h => by have := hgt.lt b h; have := hfE.lo b hb; omega) hcf hgf hOf (by omega) (by omega)
        have hloT : ∀ b ∈ O, w4.heap.size ≤ b := fun b hb => hfrT.lo b (List.mem_append_left _ hb)
        obtain ⟨dsF, hkF, _⟩ := hgF.kids (by simp; omega)
        obtain ⟨aof, capf, hrf, _, _⟩ := hkF.form
        generalize hmm : (ts ++ [T]).length = q at hrf
        subst hrf
        refine Af.nw' ?_
        refine GoS.fl 1 ?_
        refine ⟨fun wg hxg => ?_⟩
        have hnT : ∀ b ∈ O, w2.heap.size ≠ b := fun b hb => by have := hloT b hb; omega
        have hnR : ∀ b ∈ O, w.heap.size ≠ b := fun b hb => by have := hloT b hb; omega
        refine Go0.st (off := 1) (vs := [.slice aof q capf]) (((hd6e.blk hbx hg2).chg hcf fun h => hnT _ h rfl).ext hxg) (by rw [Addr.add_lit]) rfl (by simp [Value.cells]) (by simp [Value.oneCell']) ?_
        intro wh hch hbh _
        have hbh : Blk wh w2.heap.size 33 [.string em, .slice aof q capf] := hbh
        refine Af.nw ?_
        intro wi hxi
        refine Wr.n (k + 1) (by omega) (by omega) ?_
        have hdF : Dw g w wf := (hd6.trans hd6e).big hcf (fun x hx => by have := hloT x hx; omega) hg
        have hdI : Dw g w wi := ((hdF.ext hxg).big hch (fun x hx => by omega) hg).ext hxi
        refine ⟨k + 1, ⟨rfl, rfl, rfl, rfl, rfl, rfl, trivial⟩, ⟨hdI, hlt, ?_, _, ts ++ [T], Of, cs ++ cb, hbh.ext hxi, ((hgF.ext hxg).chg hch fun b hb => by have := hgF.lo b hb; omega).ext hxi, by simp; omega, ⟨?_, hsl.snoc hsT⟩, ?_⟩, by omega⟩
        · exact ((((hd6e.blk hbr (by omega)).chg hcf fun h => hnR _ h rfl).ext hxg).chg hch (by omega)).ext hxi
        · rw [cntWx, Nat.add_mul, Nat.one_mul]
          omega
        · have h1 := hcf.size
          have h2 := hxg.size
          have h3 := hch.size
          have h4 := hxi.size
          omega
      · have : k = m := by omega
        subst this
        obtain ⟨dsF, hkF, _⟩ := hgt.kids (by omega)
        obtain ⟨aof, capf, rfl, _, _⟩ := hkF.form
        refine Ld.agg (vs := [.string em, .slice aof ts.length capf]) (Blk.lc0 (post := []) hbx) ?_
        refine Go0.st (off := 0) (vs := [.string em, .slice aof ts.length capf]) hbr rfl rfl (by simp [Value.cells]) (by simp [Value.oneCell']) ?_
        intro w7 hc7 hb7 _
        have hb7 : Blk w7 w.heap.size 33 [.string em, .slice aof ts.length capf] := hb7
        refine Ld.agg (vs := [.string em, .slice aof ts.length capf]) (Blk.lc0 (post := []) hb7) ?_
        have hn7 : ∀ b ∈ O ++ cs, ¬ b = w.heap.size := fun b hb => by have := hgt.lo b hb; omega
        refine ⟨.mk em ts, _, O, cs, rfl, (hgt.chg hc7 hn7).mono (by omega), ⟨?_, Sm.node hsl (by decide)⟩, hd6.big hc7 (fun x hx => by omega) hg⟩
        show 1 + Rose.cnt ts ≤ _
        have : k * 4 ^ n ≤ 3 * 4 ^ n := Nat.mul_le_mul_right _ (by omega)
        omega
end Go.Proofs.YtliigpmpeldebaaGreat
