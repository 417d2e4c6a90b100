/- Contracts: the laws' helpers on Type: sizes, copies; Contracts: equality of SExprs, three times. Conditions: none. -/
import Derived.Test.YtmecmdnnhldjpaaDoorJTree
namespace Go.Proofs.YtmecmdnnhldjpaaDoor
open Go.RowKit

abbrev TLab : Type := Int × ByteArray
/-- A Type's own cells before its arguments. -/
def encT (s : TLab) : List Value := [.int .i64 s.1, .string s.2]
theorem encT_sz : ∀ l, (encT l).length + 1 = 3 := fun _ => rfl
abbrev Tp : Type := Rose TLab
/-- A Type's weight: its letters and nodes. -/
abbrev szT (ks : List Tp) : Nat := Rose.wtL (fun l => l.2.size) ks

def SzTSaid (ks : List Tp) : Prop := Rose.AlL (fun s => s.2.size ≤ maxLen) ks → ∀ (w : World) (v : Value) (bs : List Nat) (left : Nat), Kids encT w v ks bs → left ≤ 1048576 →
    Ret Tryd.prog 8 [v, .int .i64 left] w fun r w' => Ext w w' ∧ Left left (szT ks) r

/-- laws.szType -/
theorem c_szType' {l : TLab} {ks : List Tp} (ih : SzTSaid ks) (hl : l.2.size ≤ maxLen) (ha : Rose.AlL (fun s => s.2.size ≤ maxLen) ks) {w : World} {v : Value} {bs : List Nat} (hk : Kids encT w v ks bs) (left : Nat) (hle : left ≤ 1048576) :
    Ret Tryd.prog 17 [.agg #[.int .i64 l.1, .string l.2, v], .int .i64 left] w fun r w' => Ext w w' ∧ Left left (l.2.size + szT ks) r := by
  have hM : maxLen = 9223372036854775807 := rfl
  refine ret_of_vc ttOk Tryd.func17 rfl (by kernel_rfl) (by kernel_rfl) ?_
  refine Go1.bx ?_
  intro w1 hx1 hb1
  refine Go1.fl 1 (Ld.one hb1.at1 ?_)
  refine Wr.i (r := (left : Int) - l.2.size) rfl (by omega) (by omega) ?_
  refine Cm.s (fun _ => ⟨hx1, .inl rfl⟩) (fun hge => ?_)
  refine Go1.fl 2 (Ld.one hb1.at2 ?_)
  rw [show ((left : Int) - l.2.size) = ((left - l.2.size : Nat) : Int) by omega]
  refine (ih ha w1 v bs (left - l.2.size) (hk.ext hx1) (by omega)).mono ?_
  rintro r w2 ⟨hx2, rfl | ⟨m, rfl, hm⟩⟩
  · refine Cm.t (by omega) ?_
    exact ⟨hx1.trans hx2, .inl rfl⟩
  · refine Cm.f (by omega) ?_
    exact ⟨hx1.trans hx2, .inr ⟨m, rfl, by omega⟩⟩

/-- laws.szTypeS -/
theorem c_szTypeS (ks : List Tp) : SzTSaid ks := by
  refine Rose.forest (fun ks ih => ?_) ks
  intro ha w v bs left hk hle
  obtain ⟨ao, cap, rfl, hm, hcap⟩ := hk.form
  have hM : maxLen = 9223372036854775807 := rfl
  refine ret_of_vc ttOk Tryd.func8 rfl (by kernel_rfl) (by kernel_rfl) ?_
  refine Wr.i (r := (left : Int) - ks.length) rfl (by omega) (by omega) ?_
  refine Cm.s (fun _ => ⟨Chg.refl _ _, .inl rfl⟩) (fun hge => ?_)
  refine Lp.go ttOk (by kernel_rfl) (fun k : Nat × Nat => [(0, .slice ao ks.length cap), (1, .int .i64 k.2), (5, .int .i64 k.1)]) (fun k w' => Ext w w' ∧ k.1 ≤ ks.length ∧ k.2 + szT (ks.take k.1) + (ks.length - k.1) = left) (fun k => ks.length - k.1) (0, left - ks.length)
    ⟨rfl, by show some _ = some _; rw [show ((left : Int) - ks.length) = ((left - ks.length : Nat) : Int) by omega], rfl, trivial⟩ ⟨Chg.refl _ _, Nat.zero_le _, by simp [szT, Rose.wtL_nil]; omega⟩ ?_
  rintro ⟨k, m⟩ w' ⟨hx, hkl, hn⟩
  simp only at hkl hn
  refine Cm.s (fun hlt => ?_) (fun hge => ?_)
  · have hlt : k < ks.length := by omega
    obtain ⟨a, t, v1, b1, rfl, ht, hc, hk1, _⟩ := hk.get encT_sz hlt
    have htm : t ∈ ks := List.mem_of_getElem? ht
    refine Go1.ix 3 hlt ?_
    refine Ld.agg (hc.chg hx (.inr id)) ?_
    refine (c_szType' (ih t htm) (Rose.AlL_mem ha htm).1 (Rose.AlL_mem ha htm).2 (hk1.ext hx) m (by omega)).mono ?_
    rintro r w2 ⟨hx2, rfl | ⟨m2, rfl, hm2⟩⟩
    · refine Cm.t (by omega) ?_
      exact ⟨hx.trans hx2, .inl rfl⟩
    · refine Cm.f (by omega) ?_
      refine Wr.n (k + 1) (by simp) (by omega) ?_
      refine ⟨(k + 1, m2), ⟨rfl, rfl, rfl, trivial⟩, ⟨hx.trans hx2, hlt, ?_⟩, by simp; omega⟩
      simp only [szT] at hn hm2 ⊢
      rw [Rose.wtL_take_succ _ ht]
      omega
  · have : k = ks.length := by omega
    subst this
    rw [List.take_length] at hn
    exact ⟨hx, .inr ⟨m, rfl, by omega⟩⟩

theorem c_szType {l : TLab} {ks : List Tp} (hl : l.2.size ≤ maxLen) (ha : Rose.AlL (fun s => s.2.size ≤ maxLen) ks) {w : World} {v : Value} {bs : List Nat} (hk : Kids encT w v ks bs) (left : Nat) (hle : left ≤ 1048576) :
    Ret Tryd.prog 17 [.agg #[.int .i64 l.1, .string l.2, v], .int .i64 left] w fun r w' => Ext w w' ∧ Left left (l.2.size + szT ks) r := c_szType' (c_szTypeS ks) hl ha hk left hle

/-- What a function hands back that makes a forest. -/
def NewTys (w : World) (ks : List Tp) (r : Value) (w' : World) : Prop := Ext w w' ∧ ∃ bs, Kids encT w' r ks bs ∧ Fresh w.heap.size w' bs
/-- What a function hands back that makes a Type. -/
def NewTy (w : World) (l : TLab) (ks : List Tp) (r : Value) (w' : World) : Prop := Ext w w' ∧ ∃ v bs, r = .agg #[.int .i64 l.1, .string l.2, v] ∧ Kids encT w' v ks bs ∧ Fresh w.heap.size w' bs

def ToTSaid (ks : List Tp) : Prop := ∀ (w : World) (v : Value) (bs : List Nat), Kids encT w v ks bs → Rose.cnt ks ≤ 4294967296 → Ret Tryd.prog 10 [v] w (NewTys w ks)

theorem c_toType' {l : TLab} {ks : List Tp} (ih : ToTSaid ks) (hs : Rose.cnt ks ≤ 4294967296) {w : World} {v : Value} {bs : List Nat} (hk : Kids encT w v ks bs) :
    Ret Tryd.prog 19 [.agg #[.int .i64 l.1, .string l.2, v]] w (NewTy w l ks) := by
  refine ret_of_vc ttOk Tryd.func19 rfl (by kernel_rfl) (by kernel_rfl) ?_
  refine Go1.bx ?_
  intro w1 hx1 hb1
  refine Go1.al tiTy ?_
  intro w2 hx2 hb2
  refine Go1.al tiTy ?_
  intro w3 hx3 hb3
  refine Go1.fl 0 (Ld.one ((hb1.ext hx2).ext hx3).at0 ?_)
  refine Go1.fl 0 ?_
  refine Go0.st (off := 0) (vs := [.int .i64 l.1]) hb3 (by rw [Addr.add_lit]) rfl (by simp [Value.cells]) (by simp [Value.oneCell']) ?_
  intro w4 hx4 hb4 hs4
  have hb4 : Blk w4 w2.heap.size 38 [.int .i64 l.1, .string ⟨#[]⟩, .slice none 0 0] := hb4
  have lt1 := hb1.lt
  have lt2 := hb2.lt
  have sz1 := hx1.size
  have sz2 := hx2.size
  have sz3 := hx3.size
  have hb14 : Blk w4 w.heap.size _ _ := ((hb1.ext hx2).ext hx3).chg hx4 (by omega)
  have hb24 : Blk w4 w1.heap.size _ _ := (hb2.ext hx3).chg hx4 (by omega)
  have hx04 : Ext w w4 := ((hx1.trans hx2).trans hx3).chg hx4 (by omega)
  refine Go1.fl 1 (Ld.one hb14.at1 ?_)
  refine Go1.fl 1 ?_
  refine Go0.st (off := 1) (vs := [.string l.2]) hb4 (by rw [Addr.add_lit]) rfl (by simp [Value.cells]) (by simp [Value.oneCell']) ?_
  intro w8 hx8 hb8 hs8
  have hb8 : Blk w8 w2.heap.size 38 [.int .i64 l.1, .string l.2, .slice none 0 0] := hb8
  have hb18 : Blk w8 w.heap.size _ _ := hb14.chg hx8 (by omega)
  have hb28 : Blk w8 w1.heap.size _ _ := hb24.chg hx8 (by omega)
  have hx08 : Ext w w8 := hx04.chg hx8 (by omega)
  refine Go1.fl 2 (Ld.one hb18.at2 ?_)
  refine (ih w8 v bs (hk.ext hx08) hs).mono ?_
  rintro r w5 ⟨hx5, cs, hk5, hf5⟩
  refine Go1.fl 2 ?_
  obtain ⟨ao, cap, rfl, _, _⟩ := hk5.form
  have lt3 := hb3.lt
  have sz5 := hx5.size
  refine Go0.st (off := 2) (vs := [.slice ao ks.length cap]) (hb8.ext hx5) (by rw [Addr.add_lit]) rfl (by simp [Value.cells]) (by simp [Value.oneCell']) ?_
  intro w6 hx6 hb6 hs6
  have hb6' : Blk w6 w2.heap.size 38 [.int .i64 l.1, .string l.2, .slice ao ks.length cap] := hb6
  refine Ld.agg (vs := [.int .i64 l.1, .string l.2, .slice ao ks.length cap]) (Blk.lc0 (post := []) hb6') ?_
  refine Go0.st (off := 0) (vs := [.int .i64 l.1, .string l.2, .slice ao ks.length cap]) ((hb28.ext hx5).chg hx6 (by omega)) rfl rfl (by simp [Value.cells]) (by simp [Value.oneCell']) ?_
  intro w7 hx7 hb7 hs7
  have hb7' : Blk w7 w1.heap.size 38 [.int .i64 l.1, .string l.2, .slice ao ks.length cap] := hb7
  refine Ld.agg (vs := [.int .i64 l.1, .string l.2, .slice ao ks.length cap]) (Blk.lc0 (post := []) hb7') ?_
  have hn6 : ∀ b ∈ cs, ¬ b = w2.heap.size := fun b hb => by have := hf5.lo b hb; omega
  have hn7 : ∀ b ∈ cs, ¬ b = w1.heap.size := fun b hb => by have := hf5.lo b hb; omega
  refine ⟨((hx08.trans hx5).chg hx6 (by omega)).chg hx7 (by omega), _, cs, rfl, (hk5.chg hx6 hn6).chg hx7 hn7, ((hf5.chg hx6 hn6).chg hx7 hn7).mono (by omega)⟩

/-- laws.toTypeS -/
theorem c_toTypeS (ks : List Tp) : ToTSaid ks := by
  refine Rose.forest (fun ks ih => ?_) ks
  intro w v bs hk hs
  obtain ⟨ao, cap, rfl, hm, hcap⟩ := hk.form
  have hlen : ks.length ≤ 4294967296 := Nat.le_trans (Rose.wtL_length _ _) hs
  refine ret_of_vc ttOk Tryd.func10 rfl (by kernel_rfl) (by kernel_rfl) ?_
  refine Go1.make 38 Tryd.underlying26 tiTy rfl (by omega) hm ?_
  intro w1 hx1 hb1
  refine Lp.go ttOk (by kernel_rfl) (fun k : Nat => [(0, .slice ao ks.length cap), (3, .slice (some ⟨w.heap.size, 0, none⟩) ks.length ks.length), (4, .int .i64 k)])
    (fun k w' => Ext w w' ∧ k ≤ ks.length ∧ ∃ vs cs, KidsL encT w' vs (ks.take k) cs ∧ Fresh (w.heap.size + 1) w' cs ∧ Blk w' w.heap.size 38 (fl encT (ks.take k) vs ++ zeros [.int .i64 0, .string ⟨#[]⟩, .slice none 0 0] (ks.length - k))) (fun k => ks.length - k) 0
    ⟨rfl, rfl, rfl, trivial⟩ ⟨hx1, Nat.zero_le _, [], [], rfl, Fresh.nil _ _, by simpa [fl, Value.cells] using hb1⟩ ?_
  rintro k w' ⟨hx, hkl, vs, cs, hkl1, hf, hb⟩
  refine Cm.s (fun hlt => ?_) (fun hge => ?_)
  · have hlt : k < ks.length := by omega
    obtain ⟨a, t, v1, b1, rfl, ht, hc, hk1, _⟩ := hk.get encT_sz hlt
    have htm : t ∈ ks := List.mem_of_getElem? ht
    have hcnt := Rose.cnt_mem htm
    refine Go1.ix 3 hlt ?_
    refine Ld.agg (hc.chg hx (.inr id)) ?_
    refine (c_toType' (ih t htm) (by omega) (hk1.ext hx)).mono ?_
    rintro r w2 ⟨hx2, v2, b2, rfl, hk2, hf2⟩
    refine Go1.ix 3 hlt ?_
    obtain ⟨ao2, cap2, rfl, _, _⟩ := hk2.form
    have hvl : vs.length = (ks.take k).length := hkl1.length
    have hfl := length_fl encT_sz hvl
    have htk : (ks.take k).length = k := by simp; omega
    rw [htk] at hfl
    have lt0 := hb.lt
    refine Go0.st (off := k * 3) (vs := [.int .i64 t.lab.1, .string t.lab.2, .slice ao2 t.kids.length cap2]) (hb.ext hx2) (by rw [Addr.add_lit]; simp) rfl (by simp [length_zeros, hfl]; omega) (by simp [Value.oneCell']) ?_
    intro w3 hx3 hb3 hs3
    refine Wr.n (k + 1) (by omega) (by omega) ?_
    have hn1 : ∀ b ∈ cs, ¬ b = w.heap.size := fun b hb => by have := hf.lo b hb; omega
    have hn2 : ∀ b ∈ b2, ¬ b = w.heap.size := fun b hb => by have := hf2.lo b hb; omega
    refine ⟨k + 1, ⟨rfl, rfl, rfl, trivial⟩, ⟨(hx.trans hx2).chg hx3 (by omega), hlt, vs ++ [.slice ao2 t.kids.length cap2], cs ++ b2, ?_, ?_, ?_⟩, by omega⟩
    · rw [take_succ_get ht]
      exact KidsL.snoc (hk2.chg hx3 hn2) (((hkl1.chg hx2 fun _ _ => id)).chg hx3 hn1)
    · exact ((hf.ext hx2).chg hx3 hn1).append (hf2.chg hx3 hn2) (by omega) hf.lt
    · rw [take_succ_get ht, fl_snoc hvl]
      rw [spl_app _ _ _ hfl.symm] at hb3
      have : (zeros [.int .i64 0, .string ⟨#[]⟩, .slice none 0 0] (ks.length - k)).drop 3 = zeros [.int .i64 0, .string ⟨#[]⟩, .slice none 0 0] (ks.length - (k + 1)) := by
        rw [show ks.length - k = (ks.length - (k + 1)) + 1 by omega]
        simp [zeros, List.replicate_succ]
      simp only [List.length_cons, List.length_nil, Nat.reduceAdd, this] at hb3
      exact hb3
  · have : k = ks.length := by omega
    subst this
    rw [List.take_length] at hkl1 hb
    obtain ⟨cs', h1, h2⟩ := Kids.of_blk (cap := ks.length) hb hkl1 rfl ⟨hm, Nat.le_refl _⟩
    refine ⟨hx, cs', h1, Fresh.sub (Fresh.cons hb (Nat.le_refl _) (hf.mono (by omega)) (fun hh => by have := hf.lo _ hh; omega)) h2⟩

theorem c_toType {l : TLab} {ks : List Tp} (hs : Rose.cnt ks ≤ 4294967296) {w : World} {v : Value} {bs : List Nat} (hk : Kids encT w v ks bs) :
    Ret Tryd.prog 19 [.agg #[.int .i64 l.1, .string l.2, v]] w (NewTy w l ks) := c_toType' (c_toTypeS ks) hs hk
end Go.Proofs.YtmecmdnnhldjpaaDoor

namespace Go.Proofs.YtmecmdnnhldjpaaDoor
open Go.RowKit

/-- An answer that says whether p. -/
def Says (p : Prop) (r : Value) : Prop := ∃ b, r = .bool b ∧ (b = true ↔ p)
theorem Says.t {p : Prop} (h : p) : Says p (.bool true) := ⟨true, rfl, by simp [h]⟩
theorem Says.f {p : Prop} (h : ¬ p) : Says p (.bool false) := ⟨false, rfl, by simp [h]⟩

theorem take_succ_ne {α : Type} {xs ys : List α} {k : Nat} {x y : α} (hx : xs[k]? = some x) (hy : ys[k]? = some y) (h : x ≠ y) : xs ≠ ys := by
  rintro rfl
  rw [hx] at hy
  exact h (by simpa using hy)

theorem Rose.ext {α : Type} {t u : Rose α} (h1 : t.lab = u.lab) (h2 : t.kids = u.kids) : t = u := by
  rw [← t.eta, ← u.eta, h1, h2]




end Go.Proofs.YtmecmdnnhldjpaaDoor
