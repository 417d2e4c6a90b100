/- Draws: a cursor over the bytes of a draw; what comes out of it lies in its bounds; Draws: below a bound, once in so often, out of a list; a list of names. Conditions: none. -/
import Derived.Test.YtmecmdnnhldjpaaDoorJLaw
import Derived.ChangeSlices
namespace Go.Proofs.YtmecmdnnhldjpaaDoor
open Go.ChangeShapes Go.WideShapes Go.ChangeAt Go.RowKit

def ttd : TT := [(9, .str), (4, .boo), (49, .slc 9), (45, .slc 5)
  , (26, .slc 38)
  , (24, .slc 54)
  ]
theorem ttOkD : TOk Tryd.prog ttd := ttB_ok (by kernel_rfl)

/-- Bytes among a law's arguments. -/
def OCode (w : World) (v : Value) : Prop := ∃ (zs : List Int) (bs : List Nat), Row w v (zs.map (Value.int .u8)) bs

section
variable {H : Type} {enc : TypeId × Value → H} {P : Program} {W : World} {r : Reach} {b0 : Nat} {held : Bool} {t : TypeId} {v : Value} {d : DataW H} {p : List MemPlace}
theorem oCode {e : TypeId} (ht : P.underlying t = some (.slice e)) (he : P.underlying e = some (.int .u8)) (hc : P.cellsOf e = 1) (hval : Value.okWide P W r b0 t v) (h : DataW.Trod enc P W 0 (fun _ => true) held t v d p) : OCode W v := by
  obtain ⟨a0, len, cap, rfl⟩ := okWide_slice ht hval
  obtain ⟨fuel, hf⟩ := h
  rcases open_ints ht he hc hf with ⟨hcs, _⟩ | ⟨a, len', cap', zs, hcs, _, hl, hm, hz, _, hcell, _⟩
  · have hcs' : [Value.slice a0 len cap] = [Value.slice none 0 0] := hcs
    simp only [List.cons.injEq, Value.slice.injEq, and_true] at hcs'
    obtain ⟨rfl, rfl, rfl⟩ := hcs'
    exact ⟨[], [], ⟨none, 0, rfl, ⟨Nat.zero_le _, Nat.zero_le _⟩, .inl ⟨rfl, rfl⟩⟩⟩
  · have hcs' : [Value.slice a0 len cap] = [Value.slice (some a) len' cap'] := hcs
    simp only [List.cons.injEq, Value.slice.injEq, and_true] at hcs'
    obtain ⟨rfl, rfl, rfl⟩ := hcs'
    simp only [if_true] at hz
    have hlen : (zs.take len).length = len := by simp; omega
    by_cases h0 : zs.take len = []
    · have : len = 0 := by rw [← hlen, h0]; rfl
      subst this
      exact ⟨[], [], ⟨some a, cap, rfl, ⟨Nat.zero_le _, Nat.zero_le _⟩, .inl ⟨rfl, rfl⟩⟩⟩
    · refine ⟨zs.take len, [a.block], ⟨some a, cap, by rw [List.length_map, hlen], ⟨by rw [List.length_map, hlen]; omega, by rw [List.length_map, hlen]; omega⟩, .inr ⟨a, by simpa using h0, rfl, rfl, ?_⟩⟩⟩
      intro i u hu
      rw [List.map_take, List.getElem?_take] at hu
      split at hu
      · rw [List.getElem?_map] at hu
        cases hx : zs[i]? with
        | none => rw [hx] at hu; simp at hu
        | some x =>
          rw [hx] at hu
          simp at hu
          subst hu
          have hi := (List.getElem?_eq_some_iff.1 hx).1
          have := hcell i hi
          rw [List.getD_eq_getElem?_getD, hx] at this
          exact this
      · cases hu
end

section
variable {P : Program} {w : World} {K : Value → World → Prop} {S : World → Prop}
theorem Go1.nc {v : Value} (k : K v w) : Go1 P (pure v) w K := Go1.go (by simp) k
theorem GoS.nc {v : Value} {K : Value → Prop} (k : K v) : GoS P (pure v) S K := GoS.of1 (fun w => by simp) k
theorem Wr.any {k : IntKind} {z : Int} {K : Int → Prop} (h : ∀ r, K r) : Wr k z K := ⟨h _⟩
theorem run_and {t : TypeId} {ox oy : Operand} {x y : Int} (hy : 0 ≤ y ∧ y < 9223372036854775808) : ∃ n : Nat, (n : Int) ≤ y ∧ ∀ w, (do eqGuard .and t ox oy (.int .i64 x) (.int .i64 y); binOp .and t (.int .i64 x) (.int .i64 y)).run P w = .ok (.int .i64 n) w := by
  have hb : (BitVec.ofInt 64 y).toNat = y.toNat := by
    rw [BitVec.toNat_ofInt]
    omega
  have hle : (BitVec.ofInt 64 x &&& BitVec.ofInt 64 y).toNat ≤ y.toNat := by
    rw [BitVec.toNat_and, hb]
    exact Nat.and_le_right
  refine ⟨(BitVec.ofInt 64 x &&& BitVec.ofInt 64 y).toNat, by omega, fun w => ?_⟩
  have hw : IntKind.i64.wrap (((BitVec.ofInt 64 x &&& BitVec.ofInt 64 y).toNat : Nat) : Int) = ((BitVec.ofInt 64 x &&& BitVec.ofInt 64 y).toNat : Int) := by
    rw [IntKind.wrap_i64]
    omega
  simp only [eqGuard, binOp, Op.intBits]
  simp
  exact hw
theorem run_xor {t : TypeId} {ox oy : Operand} {x y : Int} : ∃ z : Int, ∀ w, (do eqGuard .xor t ox oy (.int .i64 x) (.int .i64 y); binOp .xor t (.int .i64 x) (.int .i64 y)).run P w = .ok (.int .i64 z) w := by
  refine ⟨IntKind.i64.wrap ((BitVec.ofInt 64 x ^^^ BitVec.ofInt 64 y).toNat), fun w => ?_⟩
  simp only [eqGuard, binOp, Op.intBits]
  simp
  rfl
theorem run_shr {t : TypeId} {ox oy : Operand} {x : Int} {n : Nat} : ∃ z : Int, ∀ w, (do eqGuard .shr t ox oy (.int .i64 x) (.int .u64 n); binOp .shr t (.int .i64 x) (.int .u64 n)).run P w = .ok (.int .i64 z) w := by
  refine ⟨x.fdiv (2 ^ min n IntKind.i64.bits), fun w => ?_⟩
  have : ¬ ((n : Int) < 0) := by omega
  simp [eqGuard, binOp, Op.shift, this]
theorem run_cvi {s d : TypeId} {j k : IntKind} {n : Int} (hs : P.underlying s = some (.int j)) (hd : P.underlying d = some (.int k)) (w : World) : (convert s d (.int j n)).run P w = .ok (.int k (k.wrap n)) w := by
  simp [convert, run_underlying hs, run_underlying hd, Conv.intToInt]
end

/-- The cursor at g: a draw's bytes, older than it; how far it is; a number. -/
def Cu (w : World) (g : Nat) : Prop := ∃ (v : Value) (zs : List Int) (bs : List Nat) (i : Nat) (h : Int), Blk w g 73 [v, .int .i64 i, .int .i64 h] ∧ Row w v (zs.map (Value.int .u8)) bs ∧ (∀ b ∈ bs, b < g) ∧ i ≤ zs.length
theorem Cu.lt {w : World} {g : Nat} (h : Cu w g) : g < w.heap.size := by
  obtain ⟨_, _, _, _, _, h, _⟩ := h
  exact h.lt
theorem Cu.chg {M : Nat → Prop} {w w' : World} {g : Nat} (hc : Chg M w w') (hM : ∀ x, M x → g < x) (h : Cu w g) : Cu w' g := by
  obtain ⟨v, zs, bs, i, n, h1, h2, h3, h4⟩ := h
  exact ⟨v, zs, bs, i, n, h1.chg hc fun h => Nat.lt_irrefl _ (hM _ h), h2.chg hc fun b hb h => by have := h3 b hb; have := hM b h; omega, h3, h4⟩
theorem Cu.ext {w w' : World} {g : Nat} (hc : Ext w w') (h : Cu w g) : Cu w' g := h.chg hc fun _ h => h.elim
/-- From w to w' nothing old changes but the cursor g, which is one still. -/
def Dw (g : Nat) (w w' : World) : Prop := Chg (fun x => x = g) w w' ∧ Cu w' g
theorem Dw.trans {g : Nat} {a b c : World} (h : Dw g a b) (k : Dw g b c) : Dw g a c := ⟨h.1.trans' k.1, k.2⟩
theorem Dw.ext {g : Nat} {a b c : World} (h : Dw g a b) (k : Ext b c) : Dw g a c := ⟨h.1.ext k, h.2.ext k⟩
theorem Dw.big {g : Nat} {M : Nat → Prop} {a b c : World} (h : Dw g a b) (k : Chg M b c) (hM : ∀ x, M x → a.heap.size ≤ x) (hg : g < a.heap.size) : Dw g a c :=
  ⟨h.1.comp k fun x hx => .inr (hM x hx), h.2.chg k fun x hx => by have := hM x hx; omega⟩
theorem Dw.refl {g : Nat} {w : World} (h : Cu w g) : Dw g w w := ⟨Chg.refl _ _, h⟩
theorem Dw.size {g : Nat} {a b : World} (h : Dw g a b) : a.heap.size ≤ b.heap.size := h.1.size

/-- spec.l1Byte -/
theorem c_l1Byte {w : World} {g : Nat} (hc : Cu w g) : Ret Tryd.prog 69 [.pointer (some ⟨g, 0, none⟩)] w fun r w' => (∃ n : Nat, r = .int .i64 n ∧ n < 256) ∧ Dw g w w' := by
  obtain ⟨v, zs, bs, i, h, hb, hr, hlt, hi⟩ := hc
  obtain ⟨ao, cap, rfl, hm, hcap⟩ := hr.form
  rw [List.length_map] at hm hcap hb hr
  have hM : maxLen = 9223372036854775807 := rfl
  refine ret_of_vc ttOkD Tryd.func69 rfl (by kernel_rfl) (by kernel_rfl) ?_
  refine Go1.nc (Go1.fl 2 (Ld.one hb.at2 (Wr.any fun h1 => Wr.any fun h2 => Go1.nc (Go1.fl 2 ?_))))
  refine Go0.st (off := 2) (vs := [.int .i64 h2]) hb (by rw [Addr.add_lit]) rfl (by simp) (by simp [Value.oneCell']) ?_
  intro w1 hc1 hb1 _
  have hb1 : Blk w1 g 73 [.slice ao zs.length cap, .int .i64 i, .int .i64 h2] := hb1
  have hr1 : Row w1 (.slice ao zs.length cap) (zs.map (Value.int .u8)) bs := hr.chg hc1 fun b hb h => by have := hlt b hb; omega
  refine Dr.x [0, 1, 2, 3, 4, 5, 6, 7, 8, 9, 10, 11, 12] ttOkD ?_
  obtain ⟨z1, e1⟩ := run_shr (P := Tryd.prog) (t := 3) (ox := .tmp 16) (oy := .const (.int .u64 33)) (x := h2) (n := 33)
  obtain ⟨z2, e2⟩ := run_shr (P := Tryd.prog) (t := 3) (ox := .tmp 21) (oy := .const (.int .u64 45)) (x := h2) (n := 45)
  obtain ⟨z3, e3⟩ := run_xor (P := Tryd.prog) (t := 3) (ox := .tmp 17) (oy := .tmp 22) (x := z1) (y := z2)
  obtain ⟨n4, hn4, e4⟩ := run_and (P := Tryd.prog) (t := 3) (ox := .tmp 23) (oy := .const (.int .i64 255)) (x := z3) (y := 255) (by omega)
  refine GoS.nc (GoS.fl 2 (LdS.x1 hb1.at2 (GoS.of1 e1 (GoS.nc (GoS.fl 2 (LdS.x1 hb1.at2 (GoS.of1 e2 (GoS.of1 e3 (GoS.of1 e4 ?_)))))))))
  intro w2 hx2
  have hb2 := hb1.ext hx2
  have hr2 : Row w2 (.slice ao zs.length cap) (zs.map (Value.int .u8)) bs := hr1.ext hx2
  refine Dr.x [0, 1, 2, 3, 4, 5, 6, 7, 8, 9] ttOkD ?_
  refine GoS.nc (GoS.fl 1 (LdS.x1 hb2.at1 (GoS.nc (GoS.fl 0 (LdS.x1 hb2.at0 ?_)))))
  refine Cm.s (fun hlt2 => ?_) (fun hge => ?_)
  · intro w3 hx3
    have hb3 := hb2.ext hx3
    have hr3 : Row w3 (.slice ao zs.length cap) (zs.map (Value.int .u8)) bs := hr2.ext hx3
    have hil : i < zs.length := by omega
    obtain ⟨a, rfl, hcell⟩ := hr3.get (i := i) (x := .int .u8 zs[i]) (by rw [List.getElem?_map, List.getElem?_eq_getElem hil]; rfl)
    refine Dr.x [0, 1, 2, 3, 4, 5, 6, 7, 8, 9, 10, 11, 12, 13, 14] ttOkD ?_
    refine GoS.nc (GoS.fl 0 (LdS.x1 hb3.at0 (GoS.nc (GoS.fl 1 (LdS.x1 hb3.at1 (GoS.ix 1 hil (LdS.x1 hcell ?_)))))))
    refine ⟨fun wc hxc => ?_⟩
    refine Go1.cvi Tryd.underlying5 Tryd.underlying3 ?_
    refine Af.ext hxc ?_
    refine Wr.any fun z5 => ?_
    obtain ⟨n6, hn6, e6⟩ := run_and (P := Tryd.prog) (t := 3) (ox := .tmp 47) (oy := .const (.int .i64 255)) (x := z5) (y := 255) (by omega)
    refine GoS.of1 e6 ?_
    intro w4 hx4'
    have hx4 := hxc.trans hx4'
    have hb4 := hb3.ext hx4
    refine Go1.nc (Go1.fl 1 (Ld.one hb4.at1 (Wr.n (i + 1) (by simp) (by omega) (Go1.nc (Go1.fl 1 ?_)))))
    refine Go0.st (off := 1) (vs := [.int .i64 ((i + 1 : Nat) : Int)]) hb4 (by rw [Addr.add_lit]) rfl (by simp) (by simp [Value.oneCell']) ?_
    intro w5 hc5 hb5 _
    have hb5 : Blk w5 g 73 [.slice (some a) zs.length cap, .int .i64 (i + 1 : Nat), .int .i64 h2] := hb5
    refine ⟨⟨n6, rfl, by omega⟩, ((((hc1.ext hx2).ext hx3).ext hx4).trans' hc5), ⟨_, zs, bs, i + 1, h2, hb5, ?_, hlt, hil⟩⟩
    exact (hr3.ext hx4).chg hc5 fun b hb h => by have := hlt b hb; omega
  · intro w3 hx3
    exact ⟨⟨n4, rfl, by omega⟩, (hc1.ext hx2).ext hx3, ⟨_, zs, bs, i, h2, hb2.ext hx3, hr2.ext hx3, hlt, hi⟩⟩
end Go.Proofs.YtmecmdnnhldjpaaDoor

namespace Go.Proofs.YtmecmdnnhldjpaaDoor
open Go.RowKit

/-- spec.l1New -/
theorem c_l1New {w : World} {v : Value} (hv : OCode w v) : Ret Tryd.prog 46 [v] w fun r w' => Ext w w' ∧ ∃ g, r = .pointer (some ⟨g, 0, none⟩) ∧ w.heap.size ≤ g ∧ Cu w' g := by
  obtain ⟨zs, bs, hr⟩ := hv
  have hlt : ∀ b ∈ bs, b < w.heap.size := by
    obtain ⟨ao, cap, _, _, ⟨_, rfl⟩ | ⟨a, h0, _, rfl, hc⟩⟩ := hr
    · simp
    · intro b hb
      obtain rfl : b = a.block := by simpa using hb
      cases hz : zs.map (Value.int .u8) with
      | nil => exact absurd hz h0
      | cons x r =>
        rw [hz] at hc
        have := World.block_lt_of_cell? w (a.add 0) (hc 0 _ rfl)
        have e : (a.add 0).block = a.block := by unfold Addr.add; split <;> rfl
        omega
  obtain ⟨ao, cap, rfl, hm, hcap⟩ := hr.form
  rw [List.length_map] at hm hcap hr
  rw [List.length_map]
  have hM : maxLen = 9223372036854775807 := rfl
  refine ret_of_vc ttOkD Tryd.func46 rfl (by kernel_rfl) (by kernel_rfl) ?_
  refine Wr.any fun h0 => ?_
  refine Lp.go ttOkD (by kernel_rfl) (fun b : Nat × Int => [(0, .slice ao zs.length cap), (3, .int .i64 b.2), (4, .int .i64 b.1)]) (fun b w' => Ext w w' ∧ b.1 ≤ zs.length) (fun b => zs.length - b.1) (0, h0)
    ⟨rfl, rfl, rfl, trivial⟩ ⟨Chg.refl _ _, Nat.zero_le _⟩ ?_
  rintro ⟨i, h⟩ w1 ⟨hx, hi⟩
  simp only at hi
  have fin : ∀ w1, Ext w w1 → ∀ h : Int, ∀ w2, Ext w1 w2 → Blk w2 w1.heap.size 73 [.slice ao zs.length cap, .int .i64 0, .int .i64 h] → Ext w w2 ∧ ∃ g, Value.pointer (some ⟨w1.heap.size, 0, none⟩) = .pointer (some ⟨g, 0, none⟩) ∧ w.heap.size ≤ g ∧ Cu w2 g := by
    intro w1 hx h w2 hx2 hb
    refine ⟨hx.trans hx2, _, rfl, hx.size, ⟨_, zs, bs, 0, h, hb, hr.ext (hx.trans hx2), fun b hb => ?_, Nat.zero_le _⟩⟩
    have := hlt b hb
    have := hx.size
    omega
  refine Cm.s (fun hl => Cm.s (fun h4 => ?_) (fun h4 => ?_)) (fun hl => ?_)
  · have hil : i < zs.length := by have : (i : Int) < zs.length := hl; omega
    obtain ⟨a, rfl, hcell⟩ := (Row.ext hx hr).get (i := i) (x := .int .u8 zs[i]) (by rw [List.getElem?_map, List.getElem?_eq_getElem hil]; rfl)
    refine Wr.any fun h1 => ?_
    refine Go1.ix 1 hil (Ld.one hcell ?_)
    refine Go1.cvi Tryd.underlying5 Tryd.underlying3 ?_
    refine Wr.any fun h2 => Wr.any fun h3 => ?_
    obtain ⟨n, _, e⟩ := run_and (P := Tryd.prog) (t := 3) (ox := .tmp 26) (oy := .const (.int .i64 1073741823)) (x := h3) (y := 1073741823) (by omega)
    refine Go1.go (e _) ?_
    refine Wr.n (i + 1) (by simp) (by omega) ?_
    exact ⟨(i + 1, (n : Int)), ⟨rfl, rfl, rfl, trivial⟩, ⟨hx, hil⟩, by simp; omega⟩
  · refine Go1.bd [.slice ao zs.length cap, .int .i64 0, .int .i64 h] ?_
    refine Go1.bx ?_
    intro w2 hx2 hb2
    exact fin w1 hx h w2 hx2 hb2
  · refine Go1.bd [.slice ao zs.length cap, .int .i64 0, .int .i64 h] ?_
    refine Go1.bx ?_
    intro w2 hx2 hb2
    exact fin w1 hx h w2 hx2 hb2
/-- spec.l1Below -/
theorem c_l1Below {w : World} {g : Nat} (hc : Cu w g) (m : Nat) (h0 : 0 < m) (h1 : m ≤ 256) : Ret Tryd.prog 61 [.pointer (some ⟨g, 0, none⟩), .int .i64 m] w fun r w' => (∃ n : Nat, r = .int .i64 n ∧ n < m) ∧ Dw g w w' := by
  refine ret_of_vc ttOkD Tryd.func61 rfl (by kernel_rfl) (by kernel_rfl) ?_
  refine Cm.f (by omega) ?_
  refine Cm.t (by omega) ?_
  refine (c_l1Byte hc).mono ?_
  rintro _ w1 ⟨⟨n, rfl, hn⟩, hd⟩
  refine Go1.rem (by omega) ?_
  have : ((n : Int).tmod (m : Int)) = ((n % m : Nat) : Int) := by rw [Int.tmod_eq_emod_of_nonneg (by omega)]; omega
  rw [this]
  exact ⟨⟨n % m, rfl, Nat.mod_lt _ h0⟩, hd⟩
/-- spec.l1Once -/
theorem c_l1Once {w : World} {g : Nat} (hc : Cu w g) (m : Nat) (h0 : 0 < m) (h1 : m ≤ 256) : Ret Tryd.prog 48 [.pointer (some ⟨g, 0, none⟩), .int .i64 m] w fun r w' => (∃ b, r = .bool b) ∧ Dw g w w' := by
  refine ret_of_vc ttOkD Tryd.func48 rfl (by kernel_rfl) (by kernel_rfl) ?_
  refine (c_l1Below hc m h0 h1).mono ?_
  rintro _ w1 ⟨⟨n, rfl, hn⟩, hd⟩
  exact Cm.s (fun _ => ⟨⟨_, rfl⟩, hd⟩) (fun _ => ⟨⟨_, rfl⟩, hd⟩)
/-- spec.l1Pick -/
theorem c_l1Pick {w : World} {g : Nat} (hc : Cu w g) {v : Value} {ss : List ByteArray} {bs : List Nat} (hk : Strs w v ss bs) (hg : g ∉ bs) (h0 : 0 < ss.length) (h1 : ss.length ≤ 256) :
    Ret Tryd.prog 49 [.pointer (some ⟨g, 0, none⟩), v] w fun r w' => (∃ s, r = .string s ∧ s ∈ ss) ∧ Dw g w w' := by
  obtain ⟨ao, cap, rfl, hm, hcap⟩ := hk.form
  refine ret_of_vc ttOkD Tryd.func49 rfl (by kernel_rfl) (by kernel_rfl) ?_
  refine (c_l1Below hc ss.length h0 h1).mono ?_
  rintro _ w1 ⟨⟨n, rfl, hn⟩, hd⟩
  have hk1 : Strs w1 (.slice ao ss.length cap) ss bs := Row.chg hd.1 (fun b hb h => hg (h ▸ hb)) hk
  obtain ⟨a, rfl, hcell⟩ := hk1.get hn
  refine Go1.ix 1 hn (Ld.one hcell ?_)
  exact ⟨⟨ss[n], rfl, List.getElem_mem hn⟩, hd⟩

/-- A pick out of a literal that is new. -/
theorem lit_strs {w : World} {g : Nat} {ss : List ByteArray} (h : Blk w g 9 (ss.map .string)) (hm : ss.length ≤ maxLen) {n : Nat} (hn : n = ss.length) : Strs w (.slice (some ⟨g, 0, none⟩) n n) ss (if ss = [] then [] else [g]) := by
  subst hn
  by_cases h0 : ss = []
  · subst h0
    exact ⟨some ⟨g, 0, none⟩, 0, rfl, ⟨Nat.zero_le _, Nat.zero_le _⟩, .inl ⟨rfl, by simp⟩⟩
  · exact ⟨some ⟨g, 0, none⟩, ss.length, by rw [List.length_map], ⟨by rw [List.length_map]; exact hm, by rw [List.length_map]; exact Nat.le_refl _⟩, .inr ⟨⟨g, 0, none⟩, by simpa using h0, rfl, by rw [if_neg h0], Blk.lc0 (post := []) (by simpa using h)⟩⟩
end Go.Proofs.YtmecmdnnhldjpaaDoor
