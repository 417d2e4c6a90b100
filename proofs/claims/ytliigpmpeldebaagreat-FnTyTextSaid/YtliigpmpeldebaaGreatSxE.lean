/- Contracts: an SExpr's text. Conditions: none. -/
import Derived.Test.YtliigpmpeldebaaGreatJSxD
namespace Go.Proofs.YtliigpmpeldebaaGreat
open Go.RowKit

mutual
/-- An SExpr's text. -/
def txS : Sx → List UInt8
  | .mk l ks => if l = em then [40] ++ Lib.join (txL ks) [32] ++ [41] else l.data.toList
def txL : List Sx → List (List UInt8)
  | [] => []
  | k :: ks => txS k :: txL ks
end
theorem txS_eq (l : ByteArray) (ks : List Sx) : txS (.mk l ks) = if l = em then [40] ++ Lib.join (txL ks) [32] ++ [41] else l.data.toList := by rw [txS]
theorem txL_cons (k : Sx) (ks : List Sx) : txL (k :: ks) = txS k :: txL ks := by rw [txL]
theorem txL_append (ks ls : List Sx) : txL (ks ++ ls) = txL ks ++ txL ls := by
  induction ks with
  | nil => simp [txL]
  | cons k ks ih => simp only [List.cons_append, txL_cons, ih]
theorem txL_length (ks : List Sx) : (txL ks).length = ks.length := by
  induction ks with
  | nil => simp [txL]
  | cons k ks ih => simp only [txL_cons, List.length_cons, ih]
theorem txL_take {ks : List Sx} {k : Nat} {t : Sx} (h : ks[k]? = some t) : txL (ks.take (k + 1)) = txL (ks.take k) ++ [txS t] := by
  rw [take_succ_get h, txL_append, txL_cons]
  simp [txL]
/-- Bytes as a string. -/
def tb (l : List UInt8) : ByteArray := ⟨l.toArray⟩
theorem tb_data (s : ByteArray) : tb s.data.toList = s := by cases s; simp [tb]
theorem tb_size (l : List UInt8) : (tb l).size = l.length := rfl
theorem tb_app (a b : List UInt8) : tb a ++ tb b = tb (a ++ b) := by
  apply ByteArray.ext
  simp [tb]

theorem join_len (xs : List (List UInt8)) : (Lib.join xs [32]).length ≤ (xs.map fun x => x.length + 1).sum := by
  cases xs with
  | nil => simp [Lib.join_nil]
  | cons x r =>
    rw [Lib.join_cons, List.length_append, List.map_cons, List.sum_cons]
    have : ∀ r : List (List UInt8), (Lib.joinTail [32] r).length = (r.map fun x => x.length + 1).sum := by
      intro r
      induction r with
      | nil => rfl
      | cons y r ih =>
        simp only [Lib.joinTail, List.map_cons, List.flatten_cons, List.length_append, List.sum_cons] at ih ⊢
        rw [ih]
        simp
        omega
    rw [this]
    omega
theorem txL_sum (ks : List Sx) : ((txL ks).map fun x => x.length + 1).sum ≤ 3 * Rose.wtL ByteArray.size ks := by
  refine Rose.forest (p := fun ks => ((txL ks).map fun x => x.length + 1).sum ≤ 3 * Rose.wtL ByteArray.size ks) (fun ks ih => ?_) ks
  induction ks with
  | nil => simp [txL]
  | cons k ks ihk =>
    have h1 := ih k List.mem_cons_self
    have h2 := ihk fun t ht => ih t (List.mem_cons_of_mem _ ht)
    rw [txL_cons, List.map_cons, List.sum_cons, Rose.wtL_cons]
    have h3 : (txS k).length + 1 ≤ 3 * (1 + k.lab.size + Rose.wtL ByteArray.size k.kids) := by
      cases k with
      | mk l ls =>
        rw [txS_eq]
        show _ ≤ 3 * (1 + l.size + Rose.wtL ByteArray.size ls)
        have h1 : ((txL ls).map fun x => x.length + 1).sum ≤ 3 * Rose.wtL ByteArray.size ls := h1
        split
        · have := join_len (txL ls)
          simp only [List.length_append, List.length_cons, List.length_nil]
          omega
        · have : l.data.toList.length = l.size := rfl
          omega
    omega
theorem txS_len (l : ByteArray) (ks : List Sx) : (txS (.mk l ks)).length + 1 ≤ 3 * (1 + l.size + Rose.wtL ByteArray.size ks) := by
  rw [txS_eq]
  have h1 := txL_sum ks
  split
  · have := join_len (txL ks)
    simp only [List.length_append, List.length_cons, List.length_nil]
    omega
  · have : l.data.toList.length = l.size := rfl
    omega

def TextSaid (ks : List Sx) : Prop := ∀ (l : ByteArray) (w : World) (v : Value) (bs : List Nat), 1 + l.size + Rose.wtL ByteArray.size ks ≤ 16777216 → Kids encS w v ks bs →
    Ret Tryz.prog 65 [.agg #[.string l, v]] w fun r w' => r = .string (tb (txS (.mk l ks))) ∧ Ext w w'

/-- spec.l2Text -/
theorem c_l2Text (ks : List Sx) : TextSaid ks := by
  refine Rose.forest (fun ks ih => ?_) ks
  intro l w v bs hW hk
  obtain ⟨ao, cap, rfl, hm, hcap⟩ := hk.form
  have hM : maxLen = 9223372036854775807 := rfl
  have hlen := Rose.wtL_length ByteArray.size ks
  have htl := txS_len l ks
  rw [txS_eq] at htl ⊢
  refine ret_of_vc ttOk Tryz.func65 rfl (by kernel_rfl) (by kernel_rfl) ?_
  refine Go1.bx ?_
  intro w1 hx1 hb1
  refine Go1.fl 0 (Ld.one hb1.at0 ?_)
  refine Cm.ns (fun hne => ?_) (fun he => ?_)
  · refine Go1.fl 0 (Ld.one hb1.at0 ?_)
    rw [if_neg hne, tb_data]
    exact ⟨rfl, hx1⟩
  · rw [if_pos he] at htl ⊢
    refine Go1.b0 9 (size := 1) (bytes := 16) Tryz.underlying57 tiStr ?_
    intro w0 u0 hx0 hg0 hu
    subst hu
    refine Lp.go ttOk (by kernel_rfl) (fun b : Nat × Value => [(1, .pointer (some ⟨w.heap.size, 0, none⟩)), (3, b.2), (4, .int .i64 b.1)])
      (fun b w' => Ext w1 w' ∧ b.1 ≤ ks.length ∧ ∃ O, Grow w' 9 1 b.2 b.1 (((txL (ks.take b.1)).map tb).map .string) O ∧ ∀ b ∈ O, w1.heap.size ≤ b) (fun b => ks.length - b.1) (0, .slice (some ⟨w1.heap.size, 0, none⟩) 0 0)
      ⟨rfl, rfl, rfl, trivial⟩ ⟨hx0, Nat.zero_le _, [w1.heap.size], by simpa [txL] using hg0, by simp⟩ ?_
    rintro ⟨k, r⟩ w2 ⟨hx2, hk1, O, hg, hO⟩
    simp only at hk1 hg
    refine Go1.fl 1 (Ld.one (hb1.ext hx2).at1 ?_)
    refine Cm.s (fun hlt => ?_) (fun hge => ?_)
    · have hlt : k < ks.length := by have : (k : Int) < ks.length := hlt; omega
      obtain ⟨a, t, v1, b1, rfl, ht, hc, hkt, _⟩ := (hk.ext (hx1.trans hx2)).get encS_sz hlt
      have htm := List.mem_of_getElem? ht
      have hwm := Rose.wtL_mem ByteArray.size htm
      refine Go1.fl 1 (Ld.one (hb1.ext hx2).at1 ?_)
      refine Go1.ix 2 hlt (Ld.agg hc ?_)
      refine (ih t htm t.lab w2 v1 b1 (by omega) hkt).mono ?_
      rw [Rose.eta]
      rintro r3 w3 ⟨rfl, hx3⟩
      refine Go1.bs 9 [.string (tb (txS t))] (size := 1) (bytes := 16) Tryz.underlying57 tiStr (by decide) (by decide) (by kernel_rfl) ?_
      intro wb hxb hbb
      refine Go1.app (size := 1) (bytes := 16) Tryz.underlying57 tiStr (by rfl) (by decide) ((hg.ext hx3).ext hxb) (m := 1) (news := [.string (tb (txS t))]) (Blk.lc0 (post := []) hbb) (by simp) (by simp [Value.oneCell']) (by omega) (by decide) ?_
      intro u2 w4 O2 hcb hgb hOb
      refine Wr.n (k + 1) (by simp) (by omega) ?_
      have sz := ((hx2.trans hx3).trans hxb).size
      refine ⟨(k + 1, u2), ⟨rfl, rfl, rfl, trivial⟩, ⟨Chg.big ((hx2.trans hx3).trans hxb) hcb hO, hlt, O2, ?_, fun b hb => ?_⟩, by simp; omega⟩
      · simp only
        rw [txL_take ht]
        simpa using hgb
      · rcases hOb b hb with h | h
        · exact hO b h
        · omega
    · have : k = ks.length := by have : ¬ (k : Int) < ks.length := hge; omega
      subst this
      rw [List.take_length] at hg
      obtain ⟨bs', hst, _⟩ := hg.strs (by omega)
      have hj : jn ((txL ks).map tb) ⟨#[32]⟩ = Lib.join (txL ks) [32] := by
        unfold jn
        rw [List.map_map]
        congr 1
        rw [List.map_congr_left (g := id) (fun x _ => by simp [tb])]
        simp
      have hjl : (jn ((txL ks).map tb) ⟨#[32]⟩).length ≤ 70368744177664 := by
        rw [hj]
        simp only [List.length_append, List.length_cons, List.length_nil] at htl
        omega
      refine (c_sJoin hjl (by decide) hst).mono ?_
      rintro r3 w3 ⟨rfl, hx3⟩
      rw [hj] at *
      have hsz : ByteArray.size ⟨(Lib.join (txL ks) [32]).toArray⟩ = (Lib.join (txL ks) [32]).length := rfl
      simp only [List.length_append, List.length_cons, List.length_nil] at htl
      refine Go1.cat (by rw [hsz]; show 1 + _ ≤ _; omega) ?_
      refine Go1.cat (by rw [size_app, hsz]; show 1 + _ + 1 ≤ _; omega) ?_
      refine ⟨?_, (hx1.trans hx2).trans hx3⟩
      rw [← tb_app, ← tb_app]
      rfl

/-- From w to w' nothing changes but, from B on, the builder b and rows of bytes. -/
def WB (B b : Nat) (w w' : World) : Prop := Chg (fun k => B ≤ k ∧ (k = b ∨ ∃ cs fr, w.heap[k]? = some (.cells cs 5 fr))) w w'
theorem WB.ext {B b : Nat} {w w' : World} (h : Ext w w') : WB B b w w' := h.mono fun _ _ h => h.elim
theorem WB.trans {B b : Nat} {w w1 w2 : World} (h : WB B b w w1) (k : WB B b w1 w2) : WB B b w w2 := by
  refine ⟨k.os.trans h.os, k.tape.trans h.tape, k.output.trans h.output, Nat.le_trans h.size k.size, fun i hi hn => ?_⟩
  have h1 := h.block i hi hn
  rw [k.block i (Nat.lt_of_lt_of_le hi h.size) fun hm => hn ?_, h1]
  refine ⟨hm.1, hm.2.imp id ?_⟩
  rintro ⟨cs, fr, hc⟩
  exact ⟨cs, fr, by rw [← h1]; exact hc⟩
theorem WB.of {B b : Nat} {w w' : World} (h : Below B w w') (k : Lib.OthersKept 5 (some b) w w') : WB B b w w' := by
  refine ⟨h.os, h.tape, h.output, h.size, fun i hi hn => ?_⟩
  by_cases hB : B ≤ i
  · obtain ⟨o, ho⟩ : ∃ o, w.heap[i]? = some o := ⟨w.heap[i], Array.getElem?_eq_getElem hi⟩
    rw [ho]
    refine k i o ho (fun e => hn ⟨hB, .inl (by simpa using e)⟩) fun c fz e => hn ⟨hB, .inr ⟨c, fz, ?_⟩⟩
    rw [ho, e]
  · exact h.block i (by omega)
theorem WB.blk {B b : Nat} {w w' : World} (h : WB B b w w') {g : Nat} {e : TypeId} {cs : List Value} (hb : Blk w g e cs) (hg : g ≠ b) (he : e ≠ 5) : Blk w' g e cs := by
  refine Blk.chg h (fun hm => ?_) hb
  rcases hm.2 with h | ⟨c, fr, hc⟩
  · exact hg h
  · unfold Blk at hb
    rw [hb] at hc
    simp only [Option.some.injEq, Obj.cells.injEq] at hc
    exact he hc.2.1
theorem WB.kids {α : Type} {enc : α → List Value} {B b : Nat} {w w' : World} (h : WB B b w w') {v : Value} {ks : List (Rose α)} {bs : List Nat} (hk : Kids enc w v ks bs) (hB : ∀ x ∈ bs, x < B) : Kids enc w' v ks bs :=
  hk.chg h fun x hx hm => by have := hB x hx; have := hm.1; omega

/-- The builder b holds the bytes out. -/
def Bld (B b : Nat) (out : List UInt8) (w : World) : Prop := Lib.IsBuilderF 65 5 B b (Lib.byteCells out) w
theorem Bld.ext {B b : Nat} {out : List UInt8} {w w' : World} (h : Bld B b out w) (hx : Ext w w') : Bld B b out w' := by
  have key : ∀ p, Lib.BuilderAtF 65 5 B b p (Lib.byteCells out) w → Lib.BuilderAtF 65 5 B b p (Lib.byteCells out) w' := by
    rintro p ⟨hB, v, hb, ho, hn⟩
    exact ⟨hB, v, hx.heap id hb, World.ownsRowF.kept ho (row := none) ⟨hx.os, hx.tape, hx.output, hx.size, fun k hk _ => hx.block k hk id⟩ (Classical.em _), hn⟩
  exact h.imp (key _) (key _)
theorem Bld.lt {B b : Nat} {out : List UInt8} {w : World} (h : Bld B b out w) : b < w.heap.size := h.elim (fun h => h.lt) fun h => h.lt

theorem c_WriteString {B b : Nat} {out : List UInt8} {w : World} (h : Bld B b out w) (s : ByteArray) (hl : out.length + s.size ≤ 140737488355328) (hB : B ≤ w.heap.size) :
    Ret Tryz.prog 76 [.pointer (some ⟨b, 0, none⟩), .string s] w fun r w' => WB B b w w' ∧ Bld B b (out ++ s.data.toList) w' := by
  refine Ret.of Tryz.func76 rfl (by kernel_rfl) (Any.Builder_WriteString_k sh_lays166 sh_extra B b _ s w h (by rw [Lib.byteCells_length]; exact hl) hB) fun e w' ⟨he, h1, h2, h3⟩ => ⟨_, he, WB.of h2 h3, .inr ?_⟩
  have : Lib.byteCells (out ++ s.data.toList) = Lib.byteCells out ++ Lib.strCells s := List.map_append
  rw [this]
  exact h1
theorem c_WriteByte {B b : Nat} {out : List UInt8} {w : World} (h : Bld B b out w) (c : UInt8) (hl : out.length + 1 ≤ 140737488355328) (hB : B ≤ w.heap.size) :
    Ret Tryz.prog 77 [.pointer (some ⟨b, 0, none⟩), .int .u8 c.toNat] w fun r w' => WB B b w w' ∧ Bld B b (out ++ [c]) w' := by
  refine Ret.of Tryz.func77 rfl (by kernel_rfl) (Any.Builder_WriteByte_k sh_lays167 sh_extra B b _ c.toNat w h (by rw [Lib.byteCells_length]; exact hl) hB) fun e w' ⟨he, h1, h2, h3⟩ => ⟨_, he, WB.of h2 h3, .inr ?_⟩
  have : Lib.byteCells (out ++ [c]) = Lib.byteCells out ++ [.int .u8 c.toNat] := List.map_append
  rw [this]
  exact h1
theorem c_BString {B b : Nat} {out : List UInt8} {w : World} (h : Bld B b out w) (hB : B ≤ w.heap.size) :
    Ret Tryz.prog 48 [.pointer (some ⟨b, 0, none⟩)] w fun r w' => r = .string (tb out) ∧ Below B w w' :=
  Ret.of Tryz.func48 rfl (by kernel_rfl) (Any.Builder_String_any_k sh_lays169 sh_extra B b out w h hB) fun e w' ⟨he, _, h2, _⟩ => ⟨_, he, rfl, h2⟩

/-- A list's text as far as its k-th element. -/
def pre (ks : List Sx) (k : Nat) : List UInt8 := [40] ++ Lib.join (txL (ks.take k)) [32]
theorem pre_0 {ks : List Sx} {t : Sx} (h : ks[0]? = some t) : pre ks 1 = pre ks 0 ++ txS t := by
  unfold pre
  rw [txL_take h]
  simp [txL, Lib.join_one, Lib.join_nil]
theorem pre_s {ks : List Sx} {k : Nat} {t : Sx} (hk : 0 < k) (h : ks[k]? = some t) : pre ks (k + 1) = pre ks k ++ [32] ++ txS t := by
  unfold pre
  rw [txL_take h]
  cases hx : txL (ks.take k) with
  | nil =>
    have := txL_length (ks.take k)
    rw [hx, List.length_take] at this
    have := (List.getElem?_eq_some_iff.1 h).1
    simp at *
    omega
  | cons y r =>
    show [40] ++ Lib.join (y :: (r ++ [txS t])) [32] = _
    rw [Lib.join_cons, Lib.join_cons]
    simp [Lib.joinTail]

def WriteSaid (ks : List Sx) : Prop := ∀ (l : ByteArray) (w : World) (v : Value) (bs : List Nat) (B b : Nat) (out : List UInt8), Kids encS w v ks bs → (∀ x ∈ bs, x < B) → Bld B b out w → B ≤ w.heap.size → out.length + 3 * (1 + l.size + Rose.wtL ByteArray.size ks) ≤ 140737488355328 →
    Ret Tryz.prog 47 [.pointer (some ⟨b, 0, none⟩), .agg #[.string l, v]] w fun _ w' => WB B b w w' ∧ Bld B b (out ++ txS (.mk l ks)) w'

/-- impl.writeSExpr -/
theorem c_writeSExpr (ks : List Sx) : WriteSaid ks := by
  refine Rose.forest (fun ks ih => ?_) ks
  intro l w v bs B b out hk hbs hB hBw hW
  obtain ⟨ao, cap, rfl, hm, hcap⟩ := hk.form
  have hM : maxLen = 9223372036854775807 := rfl
  have hlen := Rose.wtL_length ByteArray.size ks
  have hbl := hB.lt
  rw [txS_eq]
  refine ret_of_vc ttOk Tryz.func47 rfl (by kernel_rfl) (by kernel_rfl) ?_
  refine Go1.bx ?_
  intro w1 hx1 hb1
  have sz1 := hx1.size
  refine Go1.fl 0 (Ld.one hb1.at0 ?_)
  refine Cm.ns (fun hne => ?_) (fun he => ?_)
  · refine Go1.fl 0 (Ld.one hb1.at0 ?_)
    rw [if_neg hne]
    refine (c_WriteString (hB.ext hx1) l (by omega) (by omega)).mono ?_
    rintro r w2 ⟨h2, hb2⟩
    exact ⟨(WB.ext hx1).trans h2, hb2⟩
  · rw [if_pos he]
    have hlp := join_len (txL ks)
    have hts := txL_sum ks
    refine (c_WriteByte (hB.ext hx1) 40 (by omega) (by omega)).mono ?_
    rintro r w2 ⟨h2, hb2⟩
    have hself : w.heap.size ≠ b := by omega
    have hbx2 := h2.blk hb1 hself (by decide)
    refine Go1.fl 1 (Ld.one hbx2.at1 ?_)
    have h02 := (WB.ext (B := B) (b := b) hx1).trans h2
    refine Lp.go ttOk (by kernel_rfl) (fun k : Nat => [(0, .pointer (some ⟨b, 0, none⟩)), (16, .slice ao ks.length cap), (17, .int .i64 ks.length), (18, .int .i64 k)])
      (fun k w' => WB B b w w' ∧ k ≤ ks.length ∧ Bld B b (out ++ pre ks k) w' ∧ 3 * (1 + Rose.wtL ByteArray.size (ks.take k)) ≥ (pre ks k).length + 1) (fun k => ks.length - k) 0
      ⟨rfl, rfl, rfl, rfl, trivial⟩ ⟨h02, Nat.zero_le _, by simpa [pre, txL, Lib.join_nil] using hb2, by simp [pre, txL, Lib.join_nil, Rose.wtL_nil]⟩ ?_
    rintro k w3 ⟨h3, hk3, hb3, hp3⟩
    have sz3 := h3.size
    refine Cm.s (fun hlt => ?_) (fun hge => ?_)
    · have hlt : k < ks.length := by omega
      obtain ⟨a, t, v1, b1, rfl, ht, hc, hkt, hsub⟩ := (h3.kids hk hbs).get encS_sz hlt
      have htm := List.mem_of_getElem? ht
      have hwm := Rose.wtL_mem ByteArray.size htm
      have hwt := Rose.wtL_take_succ ByteArray.size ht
      have hwle : Rose.wtL ByteArray.size (ks.take (k + 1)) ≤ Rose.wtL ByteArray.size ks := by
        have := Rose.wtL_append ByteArray.size (ks.take (k + 1)) (ks.drop (k + 1))
        rw [List.take_append_drop] at this
        omega
      have htx := txS_len t.lab t.kids
      rw [Rose.eta] at htx
      obtain ⟨ao3, cap3, rfl, _, _⟩ := hkt.form
      refine Go1.ix 2 hlt (Ld.agg hc ?_)
      refine Go1.al tiSx ?_
      intro w4 hxw4 hbw4
      have ltw4 := hbw4.lt
      refine Go0.st (off := 0) (vs := [.string t.lab, .slice ao3 t.kids.length cap3]) hbw4 rfl rfl (by simp [Value.cells]) (by simp [Value.oneCell']) ?_
      intro w5 hx0w5 hb0w5 _
      have hbw5 : Blk w5 w3.heap.size 33 [.string t.lab, .slice ao3 t.kids.length cap3] := hb0w5
      have hxw5 : Ext w3 w5 := hxw4.chg hx0w5 (by omega)
      have hb5 := hb3.ext hxw5
      have h5 := h3.trans (WB.ext hxw5)
      have sz5 := hxw5.size
      have hbb := hb3.lt
      refine Cm.s (fun hpos => ?_) (fun hzero => ?_)
      · have hpos : 0 < k := by have : (0 : Int) < k := hpos; omega
        refine (c_WriteByte hb5 32 (by rw [List.length_append]; omega) (by omega)).mono ?_
        rintro r w6 ⟨h6, hb6⟩
        have hbw6 := h6.blk hbw5 (by omega) (by decide)
        refine Ld.agg (vs := [.string t.lab, .slice ao3 t.kids.length cap3]) (Blk.lc0 (post := []) hbw6) ?_
        have sz6 := h6.size
        have hkt6 := ((WB.ext hxw5).trans h6).kids hkt fun x hx => hbs x (hsub x hx)
        refine (ih t htm t.lab w6 _ b1 B b _ hkt6 (fun x hx => hbs x (hsub x hx)) hb6 (by omega) (by simp only [List.length_append, List.length_cons, List.length_nil]; omega)).mono ?_
        rw [Rose.eta]
        rintro r w7 ⟨h7, hb7⟩
        refine Wr.n (k + 1) (by omega) (by omega) ?_
        have hps := pre_s hpos ht
        refine ⟨k + 1, ⟨rfl, rfl, rfl, rfl, trivial⟩, ⟨(h5.trans h6).trans h7, hlt, ?_, ?_⟩, by omega⟩
        · rw [hps]
          simpa [List.append_assoc] using hb7
        · rw [hps, hwt]
          simp only [List.length_append, List.length_cons, List.length_nil]
          omega
      · obtain rfl : k = 0 := by have : ¬ (0 : Int) < k := hzero; omega
        refine Ld.agg (vs := [.string t.lab, .slice ao3 t.kids.length cap3]) (Blk.lc0 (post := []) hbw5) ?_
        refine (ih t htm t.lab w5 _ b1 B b _ (hkt.ext hxw5) (fun x hx => hbs x (hsub x hx)) hb5 (by omega) (by rw [List.length_append]; omega)).mono ?_
        rw [Rose.eta]
        rintro r w7 ⟨h7, hb7⟩
        refine Wr.n 1 (by omega) (by omega) ?_
        have hps := pre_0 ht
        refine ⟨1, ⟨rfl, rfl, rfl, rfl, trivial⟩, ⟨h5.trans h7, hlt, ?_, ?_⟩, by omega⟩
        · rw [hps]
          simpa [List.append_assoc] using hb7
        · rw [hps, hwt]
          simp only [List.length_append]
          omega
    · have : k = ks.length := by omega
      subst this
      rw [List.take_length] at hp3
      refine (c_WriteByte hb3 41 (by rw [List.length_append]; omega) (by omega)).mono ?_
      rintro r w4 ⟨h4, hb4⟩
      refine ⟨h3.trans h4, ?_⟩
      have : pre ks ks.length = [40] ++ Lib.join (txL ks) [32] := by unfold pre; rw [List.take_length]
      rw [this] at hb4
      simpa [List.append_assoc] using hb4

open Classical in
/-- What FormatSExpr answers. -/
noncomputable def fmtS (t : Sx) : ByteArray := if okS t then tb (txS t) else ⟨#[]⟩

/-- spec.FormatSExpr -/
theorem c_sFormatSExpr {l : ByteArray} {ks : List Sx} (hl : l.size ≤ maxLen) (ha : Rose.AlL (fun s => s.size ≤ maxLen) ks) (hW : 1 + l.size + Rose.wtL ByteArray.size ks ≤ 16777216) {w : World} {v : Value} {bs : List Nat} (hk : Kids encS w v ks bs) :
    Ret Tryz.prog 33 [.agg #[.string l, v]] w fun r w' => r = .string (fmtS (.mk l ks)) ∧ Ext w w' := by
  obtain ⟨ao, cap, rfl, hm, hcap⟩ := hk.form
  refine ret_of_vc ttOk Tryz.func33 rfl (by kernel_rfl) (by kernel_rfl) ?_
  refine Go1.bx ?_
  intro w1 hx1 hb1
  refine Ld.agg (vs := [.string l, .slice ao ks.length cap]) (Blk.lc0 (post := []) hb1) ?_
  refine (c_sIsValidSExpr hl ha (hk.ext hx1)).mono ?_
  rintro r w2 ⟨⟨b, rfl, hb⟩, hx2⟩
  unfold fmtS
  cases b
  · rw [if_neg fun h => by simpa using hb.2 h]
    exact ⟨rfl, hx1.trans hx2⟩
  · rw [if_pos (hb.1 rfl)]
    refine Ld.agg (vs := [.string l, .slice ao ks.length cap]) (Blk.lc0 (post := []) (hb1.ext hx2)) ?_
    refine (c_l2Text ks l w2 _ bs hW (hk.ext (hx1.trans hx2))).mono ?_
    rintro r w3 ⟨rfl, hx3⟩
    exact ⟨rfl, (hx1.trans hx2).trans hx3⟩
/-- impl.FormatSExpr -/
theorem c_iFormatSExpr {l : ByteArray} {ks : List Sx} (hl : l.size ≤ maxLen) (ha : Rose.AlL (fun s => s.size ≤ maxLen) ks) (hs : Rose.cnt ks ≤ 4294967296) (hW : 1 + l.size + Rose.wtL ByteArray.size ks ≤ 16777216) {w : World} {v : Value} {bs : List Nat} (hk : Kids encS w v ks bs) :
    Ret Tryz.prog 20 [.agg #[.string l, v]] w fun r w' => r = .string (fmtS (.mk l ks)) ∧ Ext w w' := by
  have hbl := Kids.lt encS_ne ks hk
  obtain ⟨ao, cap, rfl, hm, hcap⟩ := hk.form
  refine ret_of_vc ttOk Tryz.func20 rfl (by kernel_rfl) (by kernel_rfl) ?_
  refine Go1.bx ?_
  intro w1 hx1 hb1
  refine Ld.agg (vs := [.string l, .slice ao ks.length cap]) (Blk.lc0 (post := []) hb1) ?_
  refine (c_iIsValidSExpr hl ha hs (hk.ext hx1)).mono ?_
  rintro r w2 ⟨⟨b, rfl, hb⟩, hx2⟩
  unfold fmtS
  cases b
  · rw [if_neg fun h => by simpa using hb.2 h]
    exact ⟨rfl, hx1.trans hx2⟩
  · rw [if_pos (hb.1 rfl)]
    refine Go1.bd [.pointer none, .slice none 0 0] ?_
    refine Go1.bx ?_
    intro w3 hx3 hb3
    have hx02 := hx1.trans hx2
    have sz2 := hx02.size
    have sz3 := hx3.size
    have lt3 := hb3.lt
    refine Ld.agg (vs := [.string l, .slice ao ks.length cap]) (Blk.lc0 (post := []) ((hb1.ext hx2).ext hx3)) ?_
    have hbld : Bld w.heap.size w2.heap.size [] w3 := Lib.IsBuilderF.of (.inl ⟨sz2, .slice none 0 0, hb3, ⟨by simp [Lib.byteCells], .inl ⟨rfl, rfl⟩⟩, by simp [Value.ownBlock]⟩)
    refine (c_writeSExpr ks l w3 _ bs w.heap.size w2.heap.size [] (hk.ext (hx02.trans hx3)) hbl hbld (by omega) (by simp; omega)).mono ?_
    rintro r w4 ⟨h4, hb4⟩
    have sz4 := h4.size
    refine (c_BString hb4 (by omega)).mono ?_
    rintro r w5 ⟨rfl, h5⟩
    refine ⟨rfl, ?_⟩
    have hx4 : Ext w w4 := (hx02.trans hx3).chg h4 fun x hx => hx.1
    exact ⟨h5.os.trans hx4.os, h5.tape.trans hx4.tape, h5.output.trans hx4.output, Nat.le_trans hx4.size h5.size, fun k hk hn => (h5.block k hk).trans (hx4.block k hk hn)⟩
end Go.Proofs.YtliigpmpeldebaaGreat
