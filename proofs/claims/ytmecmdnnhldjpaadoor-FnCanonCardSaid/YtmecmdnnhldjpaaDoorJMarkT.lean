/- Operations: quotients, conversions, texts put together; the laws' mark texts; Contracts: the laws' marks on strings and on trees. Conditions: none. -/
import Derived.Test.YtmecmdnnhldjpaaDoorMark
import Derived.Test.YtmecmdnnhldjpaaDoorJTyA
import Derived.Laws.BytesString
import Derived.Test.YtmecmdnnhldjpaaDoorTyC
namespace Go.Proofs.YtmecmdnnhldjpaaDoor
open Go.RowKit

section
variable {P : Program} {w : World} {K : Value → World → Prop}

theorem Go1.rem {t : TypeId} {ox oy : Operand} {x y : Int} (hy : y ≠ 0) (k : K (.int .i64 (x.tmod y)) w) :
    Go1 P (do eqGuard .rem t ox oy (.int .i64 x) (.int .i64 y); binOp .rem t (.int .i64 x) (.int .i64 y)) w K := by
  refine Go1.go ?_ k
  simp [eqGuard, binOp, Op.intDiv, hy]

theorem Go1.quo {t : TypeId} {ox oy : Operand} {x y : Int} (hy : y ≠ 0) (hw : IntKind.i64.wrap (x.tdiv y) = x.tdiv y) (k : K (.int .i64 (x.tdiv y)) w) :
    Go1 P (do eqGuard .quo t ox oy (.int .i64 x) (.int .i64 y); binOp .quo t (.int .i64 x) (.int .i64 y)) w K := by
  refine Go1.go ?_ k
  simp [eqGuard, binOp, Op.intDiv, hy, hw]

theorem Go1.cat {t : TypeId} {ox oy : Operand} {x y : ByteArray} (hs : x.size + y.size ≤ maxLen) (k : K (.string (x ++ y)) w) :
    Go1 P (do eqGuard .add t ox oy (.string x) (.string y); binOp .add t (.string x) (.string y)) w K := by
  refine Go1.go ?_ k
  have hM : maxLen = 9223372036854775807 := rfl
  simp [eqGuard, binOp, Op.stringOp]
  omega

theorem Go1.cvi {s d : TypeId} {j k : IntKind} {n : Int} (hs : P.underlying s = some (.int j)) (hd : P.underlying d = some (.int k)) (h : K (.int k (k.wrap n)) w) : Go1 P (convert s d (.int j n)) w K := by
  refine Go1.go ?_ h
  simp [convert, run_underlying hs, run_underlying hd, Conv.intToInt]

/-- A []byte's cells. -/
def bytesV (s : ByteArray) : List Value := s.data.toList.map fun b => .int .u8 b.toNat

theorem foldl_push : ∀ (ns : List UInt8) (s : ByteArray), (ns.map fun b => (b.toNat : Int)).foldl (fun r n => r.push (UInt8.ofNat n.toNat)) s = ⟨s.data ++ ns.toArray⟩
  | [], s => by simp
  | b :: ns, s => by
    simp only [List.map_cons, List.foldl_cons]
    rw [foldl_push ns]
    simp [ByteArray.push]

theorem Go1.cbs {src dst e : TypeId} {a : Addr} {len cap : Nat} {s : ByteArray} (hs : P.underlying src = some (.slice e)) (he : P.underlying e = some (.int .u8)) (hd : P.underlying dst = some .string)
    (hl : len = s.size) (hc : Lc w a (bytesV s)) (k : K (.string s) w) : Go1 P (convert src dst (.slice (some a) len cap)) w K := by
  refine Go1.go ?_ k
  rw [run_convert_bytes_string w src dst e (some a) len cap hs he hd]
  have hlen : (bytesV s).length = len := by rw [hl]; simp [bytesV]
  have := run_loadCells_list (P := P) w a (bytesV s) (fun j v hv => hc j v hv)
  rw [hlen] at this
  rw [run_bytesToString (P := P) w a len cap (s.data.toList.map fun b => (b.toNat : Int)) (by rw [this]; simp [bytesV])]
  rw [foldl_push]
  simp
end

/-- A mark's digits, ahead of what is there. -/
def mtd (n : Nat) (out : ByteArray) : ByteArray := if _h : n = 0 then out else mtd (n / 10) (⟨#[(48 + n % 10).toUInt8]⟩ ++ out)
termination_by n
decreasing_by omega

/-- A mark's text. -/
def mt (k : Nat) : ByteArray := if k = 0 then ⟨#[109, 48]⟩ else ⟨#[109]⟩ ++ mtd k ⟨#[]⟩

theorem size_app (a b : ByteArray) : (a ++ b).size = a.size + b.size := ByteArray.size_append

theorem mtd_size : ∀ (N n : Nat) (out : ByteArray), n ≤ N → (mtd n out).size ≤ out.size + n := by
  intro N
  induction N with
  | zero =>
    intro n out h
    have : n = 0 := by omega
    subst this
    unfold mtd
    simp
  | succ N ih =>
    intro n out h
    unfold mtd
    split
    · omega
    · have := ih (n / 10) (⟨#[(48 + n % 10).toUInt8]⟩ ++ out) (by omega)
      rw [size_app] at this
      have h1 : ByteArray.size ⟨#[(48 + n % 10).toUInt8]⟩ = 1 := rfl
      omega
theorem mt_size (k : Nat) : (mt k).size ≤ k + 2 := by
  unfold mt
  split
  · show 2 ≤ _
    omega
  · have := mtd_size k k ⟨#[]⟩ (Nat.le_refl _)
    rw [size_app]
    have h1 : ByteArray.size ⟨#[109]⟩ = 1 := rfl
    have h2 : ByteArray.size ⟨#[]⟩ = 0 := rfl
    omega

/-- laws.markText -/
theorem c_markText (k : Nat) (hk : k ≤ 1152921504606846976) {w : World} : Ret Tryd.prog 40 [.int .i64 k] w fun r w' => r = .string (mt k) ∧ Ext w w' := by
  have hM : maxLen = 9223372036854775807 := rfl
  refine ret_of_vc ttOk Tryd.func40 rfl (by kernel_rfl) (by kernel_rfl) ?_
  refine Cm.s (fun h => ?_) (fun h => ?_)
  · have : k = 0 := by omega
    subst this
    exact ⟨rfl, Chg.refl _ _⟩
  · refine Lp.go ttOk (by kernel_rfl) (fun s : Nat × ByteArray => [(0, .int .i64 s.1), (3, .string s.2)]) (fun s w' => Ext w w' ∧ mtd s.1 s.2 = mtd k ⟨#[]⟩ ∧ s.2.size + s.1 ≤ k) (fun s => s.1) (k, ⟨#[]⟩)
      ⟨rfl, rfl, trivial⟩ ⟨Chg.refl _ _, rfl, by show 0 + k ≤ k; omega⟩ ?_
    rintro ⟨n, out⟩ w' ⟨hx, hm, hs⟩
    simp only at hm hs
    refine Cm.s (fun hlt => ?_) (fun hge => ?_)
    · have hn : n ≠ 0 := by have : (0 : Int) < n := hlt; omega
      refine Go1.rem (by decide) ?_
      rw [show ((n : Int).tmod 10) = ((n % 10 : Nat) : Int) by rw [Int.tmod_eq_emod_of_nonneg (by omega)]; omega]
      refine Wr.n (48 + n % 10) (by omega) (by omega) ?_
      refine Go1.cvi Tryd.underlying3 Tryd.underlying5 ?_
      rw [show IntKind.u8.wrap ((48 + n % 10 : Nat) : Int) = ((48 + n % 10 : Nat) : Int) by
        have : 48 + n % 10 < 256 := by omega
        generalize 48 + n % 10 = q at this ⊢
        have : ∀ q : Fin 256, IntKind.u8.wrap (q.val : Int) = (q.val : Int) := by decide +kernel
        exact this ⟨q, by omega⟩]
      refine Go1.bs 5 [.int .u8 ((48 + n % 10 : Nat) : Int)] (z := .int .u8 0) (size := 1) (bytes := 1) Tryd.underlying45 (TyI.of (by kernel_rfl)) (by decide) (by decide) (by kernel_rfl) ?_
      intro w2 hx2 hb2
      refine Go1.cbs (s := ⟨#[(48 + n % 10).toUInt8]⟩) Tryd.underlying45 Tryd.underlying5 Tryd.underlying9 rfl ?_ ?_
      · have : bytesV ⟨#[(48 + n % 10).toUInt8]⟩ = [.int .u8 ((48 + n % 10 : Nat) : Int)] := by
          simp only [bytesV, List.map_cons, List.map_nil]
          rw [show (48 + n % 10).toUInt8.toNat = 48 + n % 10 by simp; omega]
        rw [this]
        exact Blk.lc0 (post := []) hb2
      · refine Go1.cat (by show 1 + out.size ≤ _; omega) ?_
        refine Go1.quo (by decide) ?_ ?_
        · rw [IntKind.wrap_i64, show ((n : Int).tdiv 10) = ((n / 10 : Nat) : Int) by rw [Int.tdiv_eq_ediv_of_nonneg (by omega)]; omega]
          omega
        · rw [show ((n : Int).tdiv 10) = ((n / 10 : Nat) : Int) by rw [Int.tdiv_eq_ediv_of_nonneg (by omega)]; omega]
          refine ⟨(n / 10, ⟨#[(48 + n % 10).toUInt8]⟩ ++ out), ⟨rfl, rfl, trivial⟩, ⟨hx.trans hx2, ?_, ?_⟩, ?_⟩
          · rw [← hm, mtd.eq_def n out, dif_neg hn]
          · simp only
            rw [size_app]
            have h1 : ByteArray.size ⟨#[(48 + n % 10).toUInt8]⟩ = 1 := rfl
            omega
          · simp only; omega
    · have hn : n = 0 := by have : ¬ (0 : Int) < n := hge; omega
      subst hn
      rw [mtd.eq_def 0 out, dif_pos rfl] at hm
      refine Go1.cat (by show 1 + out.size ≤ _; omega) ?_
      refine ⟨?_, hx⟩
      unfold mt
      rw [if_neg (by omega), ← hm]
end Go.Proofs.YtmecmdnnhldjpaaDoor

namespace Go.Proofs.YtmecmdnnhldjpaaDoor
open Go.RowKit

section
variable {α : Type}
mutual
/-- A tree, marked: its labels are g k, g (k + d), .., in pre-order. -/
def mkR (g : Nat → α) (d : Nat) : Nat → Rose α → Rose α
  | k, .mk _ ks => .mk (g k) (mkRL g d (k + d) ks)
def mkRL (g : Nat → α) (d : Nat) : Nat → List (Rose α) → List (Rose α)
  | _, [] => []
  | k, t :: ts => mkR g d k t :: mkRL g d (k + d * (1 + Rose.cnt t.kids)) ts
end
variable {g : Nat → α} {d : Nat}
theorem mkR_eq (k : Nat) (t : Rose α) : mkR g d k t = .mk (g k) (mkRL g d (k + d) t.kids) := by cases t; simp only [mkR, Rose.kids]
theorem mkRL_nil (k : Nat) : mkRL g d k [] = [] := by simp only [mkRL]
theorem mkRL_cons (k : Nat) (t : Rose α) (ts : List (Rose α)) : mkRL g d k (t :: ts) = .mk (g k) (mkRL g d (k + d) t.kids) :: mkRL g d (k + d * (1 + Rose.cnt t.kids)) ts := by simp only [mkRL, mkR_eq]
theorem mkRL_append (xs ys : List (Rose α)) : ∀ k, mkRL g d k (xs ++ ys) = mkRL g d k xs ++ mkRL g d (k + d * Rose.cnt xs) ys := by
  induction xs with
  | nil => intro k; rw [Rose.cnt_nil]; simp [mkRL_nil]
  | cons x xs ih =>
    intro k
    rw [List.cons_append, mkRL_cons, mkRL_cons, ih, List.cons_append]
    congr 3
    show _ = k + d * Rose.wtL _ _
    rw [Rose.wtL_cons]
    show k + d * (1 + Rose.wtL _ _) + d * Rose.wtL _ _ = _
    rw [Nat.add_assoc, ← Nat.mul_add]
theorem mkRL_length (ks : List (Rose α)) : ∀ k, (mkRL g d k ks).length = ks.length := by
  induction ks with
  | nil => intro k; simp [mkRL_nil]
  | cons t ts ih => intro k; rw [mkRL_cons]; simp [ih]
theorem mkRL_take {ks : List (Rose α)} {i : Nat} {t : Rose α} (h : ks[i]? = some t) (k : Nat) : mkRL g d k (ks.take (i + 1)) = mkRL g d k (ks.take i) ++ [.mk (g (k + d * Rose.cnt (ks.take i))) (mkRL g d (k + d * Rose.cnt (ks.take i) + d) t.kids)] := by
  rw [take_succ_get h, mkRL_append, mkRL_cons, mkRL_nil]
theorem mkRL_get {ks : List (Rose α)} {i : Nat} {t : Rose α} (h : ks[i]? = some t) (k : Nat) : (mkRL g d k ks)[i]? = some (.mk (g (k + d * Rose.cnt (ks.take i))) (mkRL g d (k + d * Rose.cnt (ks.take i) + d) t.kids)) := by
  have hi := (List.getElem?_eq_some_iff.1 h).1
  have h1 := mkRL_take (g := g) (d := d) h k
  have h2 : mkRL g d k ks = mkRL g d k (ks.take (i + 1)) ++ mkRL g d (k + d * Rose.cnt (ks.take (i + 1))) (ks.drop (i + 1)) := by rw [← mkRL_append, List.take_append_drop]
  rw [h2, h1, List.append_assoc, List.getElem?_append_right (by rw [mkRL_length]; simp; omega)]
  rw [mkRL_length, List.length_take, Nat.min_eq_left (by omega), Nat.sub_self]
  rfl
theorem drop_get {ks : List (Rose α)} {i : Nat} {t : Rose α} (h : ks[i]? = some t) : ks.drop i = t :: ks.drop (i + 1) := by
  obtain ⟨hi, rfl⟩ := List.getElem?_eq_some_iff.1 h
  exact (List.drop_eq_getElem_cons hi)
end

/-- What a mark leaves. -/
def Marked {α : Type} (enc : α → List Value) (g : Nat → α) (d : Nat) (n0 k : Nat) (v : Value) (ks : List (Rose α)) (bs : List Nat) (w : World) (r : Value) (w' : World) : Prop :=
  r = .int .i64 (k + d * Rose.cnt ks : Nat) ∧ Chg (· ∈ bs) w w' ∧ Kids enc w' v (mkRL g d k ks) bs ∧ Fresh n0 w' bs

theorem Chg.sub {M N : Nat → Prop} {w w' w'' : World} (h : Chg M w w') (h' : Chg N w' w'') (hn : ∀ b, N b → M b) : Chg M w w'' :=
  (Chg.trans h h').mono fun k _ hm => hm.elim id (hn k)

/-- A marked Type's label. -/
def gT (k : Nat) : TLab := (k, mt (k + 1))
def MkTSaid (ks : List Tp) : Prop := ∀ (w : World) (v : Value) (bs : List Nat) (n0 k : Nat), Kids encT w v ks bs → Fresh n0 w bs → k + 2 * Rose.cnt ks ≤ 1152921504606846975 → Ret Tryd.prog 14 [v, .int .i64 k] w (Marked encT gT 2 n0 k v ks bs w)

/-- laws.markTypeS -/
theorem c_markTypeS (ks : List Tp) : MkTSaid ks := by
  refine Rose.forest (fun ks ih => ?_) ks
  intro w v bs n0 k hk hf hs
  obtain ⟨ao, cap, rfl, hm, hcap⟩ := hk.form
  have hM : maxLen = 9223372036854775807 := rfl
  refine ret_of_vc ttOk Tryd.func14 rfl (by kernel_rfl) (by kernel_rfl) ?_
  refine Lp.go ttOk (by kernel_rfl) (fun i : Nat => [(0, .slice ao ks.length cap), (1, .int .i64 (k + 2 * Rose.cnt (ks.take i) : Nat)), (5, .int .i64 i)])
    (fun i w' => Chg (· ∈ bs) w w' ∧ i ≤ ks.length ∧ Kids encT w' (.slice ao ks.length cap) (mkRL gT 2 k (ks.take i) ++ ks.drop i) bs ∧ Fresh n0 w' bs) (fun i => ks.length - i) 0
    ⟨rfl, by rw [List.take_zero, Rose.cnt_nil]; rfl, rfl, trivial⟩ ⟨Chg.refl _ _, Nat.zero_le _, by rw [List.take_zero, mkRL_nil]; exact hk, hf⟩ ?_
  rintro i w1 ⟨hc1, hi, hk1, hf1⟩
  refine Cm.s (fun hlt => ?_) (fun hge => ?_)
  · have hlt : i < ks.length := by omega
    obtain ⟨t, ht⟩ : ∃ t, ks[i]? = some t := ⟨ks[i], List.getElem?_eq_getElem hlt⟩
    have htm := List.mem_of_getElem? ht
    have hct := Rose.cnt_take_le ht
    have hcm := Rose.cnt_mem htm
    rw [drop_get ht] at hk1
    have hX : (mkRL gT 2 k (ks.take i)).length = i := by rw [mkRL_length]; simp; omega
    have htk := mkRL_take (g := gT) (d := 2) ht k
    have hck := Rose.cnt_take ht
    generalize hXe : mkRL gT 2 k (ks.take i) = X at hk1 hX htk
    generalize hKe : k + 2 * Rose.cnt (ks.take i) = kk at htk
    -- the kind
    obtain ⟨a, b2, vt, rfl, hab, hanb, hsb, hfb, hL, hKt, hst, _⟩ := hk1.at encT_sz hf1
    rw [hX] at hL hst
    obtain ⟨c0, e0, hbl⟩ := hf1.blk a.block hab
    refine Go1.ix 3 hlt (Go1.fl 0 ?_)
    refine Go0.set (v := .int .i64 kk) hbl (by unfold Addr.add; split <;> (try split) <;> rfl) (hL 0 _ rfl) (by simp [Value.oneCell']) (by simp [Value.cells]) ?_
    intro w2 hc2 hb2 hs2 hv2 ho2
    obtain ⟨hk2, hf2⟩ := hst w2 (kk, t.lab.2) 0 (.int .i64 kk) (by simp [encT]) (fun j hj => by
      cases j with
      | zero => exact absurd rfl hj
      | succ j => rfl) rfl hc2 ⟨_, hb2⟩ hv2 ho2
    refine Wr.n (kk + 1) (by omega) (by omega) ?_
    -- the name
    refine (c_markText (kk + 1) (by omega)).mono ?_
    rintro r w3 ⟨rfl, hx3⟩
    have hk3 := hk2.ext hx3
    have hf3 := hf2.ext hx3
    obtain ⟨a', b2', vt', ha', hab', hanb', hsb', hfb', hL', hKt', hst', _⟩ := hk3.at encT_sz hf3
    cases ha'
    rw [hX] at hL' hst'
    obtain ⟨c1, e1, hbl'⟩ := hf3.blk a.block hab'
    refine Go1.ix 3 hlt (Go1.fl 1 ?_)
    refine Go0.set (v := .string (mt (kk + 1))) hbl' (by unfold Addr.add; split <;> (try split) <;> rfl) (hL' 1 _ rfl) (by simp [Value.oneCell']) (by simp [Value.cells]) ?_
    intro w4 hc4 hb4 hs4 hv4 ho4
    obtain ⟨hk4, hf4⟩ := hst' w4 (kk, mt (kk + 1)) 1 (.string (mt (kk + 1))) (by simp [encT]) (fun j hj => by
      match j with
      | 0 => rfl
      | 1 => exact absurd rfl hj
      | j + 2 => rfl) rfl hc4 ⟨_, hb4⟩ hv4 ho4
    refine Wr.n (kk + 2) (by omega) (by omega) ?_
    -- the arguments
    obtain ⟨a2, b3, vt3, ha2, hab2, hanb2, hsb2, hfb2, hL2, hKt2, _, hkd⟩ := hk4.at encT_sz hf4
    cases ha2
    rw [hX] at hL2
    refine Go1.ix 3 hlt (Go1.fl 2 (Ld.one (hL2 2 _ rfl) ?_))
    refine (ih t htm w4 vt3 b3 n0 (kk + 2) hKt2 hfb2 (by omega)).mono ?_
    rintro r w5 ⟨rfl, hc5, hk5, hf5⟩
    obtain ⟨hk6, hf6⟩ := hkd w5 _ (mkRL_length _ _) hc5 hk5 hf5
    refine Wr.n (i + 1) (by omega) (by omega) ?_
    have hab0 : a.block ∈ bs := hab
    refine ⟨i + 1, ⟨rfl, ?_, rfl, trivial⟩, ⟨?_, hlt, ?_, hf6⟩, by omega⟩
    · show some (Value.int .i64 _) = some (Value.int .i64 _)
      rw [show kk + 2 + 2 * Rose.cnt t.kids = k + 2 * Rose.cnt (ks.take (i + 1)) by omega]
    · have s2 : Chg (· ∈ bs) w w2 := hc1.sub hc2 fun b hb => hb ▸ hab0
      have s4 : Chg (· ∈ bs) w w4 := (s2.ext hx3).sub hc4 fun b hb => hb ▸ hab0
      exact s4.sub hc5 fun b hb => hsb2 b hb
    · rw [htk, List.append_assoc]
      exact hk6
  · have : i = ks.length := by omega
    subst this
    rw [List.take_length, List.drop_length, List.append_nil] at hk1
    refine ⟨?_, hc1, hk1, hf1⟩
    rw [List.take_length]
/-- laws.markType -/
theorem c_markType {l : TLab} {ks : List Tp} {w : World} {v : Value} {bs : List Nat} {n0 k : Nat} (hk : Kids encT w v ks bs) (hf : Fresh n0 w bs) (hs : k + 2 * Rose.cnt ks ≤ 1152921504606846975) : Ret Tryd.prog 27 [.agg #[.int .i64 l.1, .string l.2, v], .int .i64 k] w (Marked encT gT 2 n0 k v ks bs w) := by
  refine ret_of_vc ttOk Tryd.func27 rfl (by kernel_rfl) (by kernel_rfl) ?_
  refine Go1.bx ?_
  intro w1 hx1 hb1
  refine Go1.fl 2 (Ld.one hb1.at2 ?_)
  refine (c_markTypeS ks w1 v bs n0 k (hk.ext hx1) (hf.ext hx1) hs).mono ?_
  rintro r w2 ⟨rfl, hc, hk2, hf2⟩
  exact ⟨rfl, hx1.chgM hc, hk2, hf2⟩

def HdTSaid (ks : List Tp) : Prop := ∀ (w : World) (v : Value) (bs : List Nat) (k : Nat), Kids encT w v (mkRL gT 2 k ks) bs → k + 2 * Rose.cnt ks ≤ 1152921504606846975 → Ret Tryd.prog 24 [v, .int .i64 k] w fun r w' => r = .int .i64 (k + 2 * Rose.cnt ks : Nat) ∧ Ext w w'

/-- laws.heldTypeS -/
theorem c_heldTypeS (ks : List Tp) : HdTSaid ks := by
  refine Rose.forest (fun ks ih => ?_) ks
  intro w v bs k hk hs
  obtain ⟨ao, cap, rfl, hm, hcap⟩ := hk.form
  rw [mkRL_length] at hm hcap hk
  have hM : maxLen = 9223372036854775807 := rfl
  rw [mkRL_length]
  refine ret_of_vc ttOk Tryd.func24 rfl (by kernel_rfl) (by kernel_rfl) ?_
  refine Lp.go ttOk (by kernel_rfl) (fun i : Nat => [(0, .slice ao ks.length cap), (1, .int .i64 (k + 2 * Rose.cnt (ks.take i) : Nat)), (5, .int .i64 i)])
    (fun i w' => Ext w w' ∧ i ≤ ks.length) (fun i => ks.length - i) 0
    ⟨rfl, by rw [List.take_zero, Rose.cnt_nil]; rfl, rfl, trivial⟩ ⟨Chg.refl _ _, Nat.zero_le _⟩ ?_
  rintro i w1 ⟨hx1, hi⟩
  refine Cm.s (fun hlt => ?_) (fun hge => ?_)
  · have hlt : i < ks.length := by omega
    obtain ⟨t, ht⟩ : ∃ t, ks[i]? = some t := ⟨ks[i], List.getElem?_eq_getElem hlt⟩
    have htm := List.mem_of_getElem? ht
    have hct := Rose.cnt_take_le ht
    have hck := Rose.cnt_take ht
    obtain ⟨a, t', v1, b1, rfl, ht', hc, hkt, _⟩ := (hk.ext hx1).get encT_sz hlt
    rw [mkRL_get ht] at ht'
    obtain rfl := Option.some.inj ht'
    simp only [Rose.lab, Rose.kids] at hc hkt
    generalize hKe : k + 2 * Rose.cnt (ks.take i) = kk at hc hkt
    refine Go1.ix 3 hlt (Go1.fl 0 (Ld.one (hc 0 _ rfl) ?_))
    refine Cm.v (c := false) (by simp [gT]) ?_
    refine Wr.n (kk + 1) (by omega) (by omega) ?_
    refine Dr.x [0, 1, 2, 3, 4, 5, 6, 7] ttOk ?_
    refine GoS.ix 3 hlt (GoS.fl 1 (LdS.x1 (hc 1 _ rfl) ?_))
    refine ⟨fun w2 hx2 => ?_⟩
    refine (c_markText (kk + 1) (by omega)).mono ?_
    rintro r w3 ⟨rfl, hx3⟩
    refine Af.ext (hx2.trans hx3) ?_
    refine Cm.v (c := false) (by simp [gT]) ?_
    intro w4 hx4
    have hx14 := (hx2.trans hx3).trans hx4
    refine Wr.n (kk + 2) (by omega) (by omega) ?_
    refine Go1.ix 3 hlt (Go1.fl 2 (Ld.one (hx14.cell (hc 2 _ rfl)) ?_))
    refine (ih t htm w4 v1 b1 (kk + 2) (hkt.ext hx14) (by omega)).mono ?_
    rintro r w5 ⟨rfl, hx5⟩
    refine Cm.f (by omega) ?_
    refine Wr.n (i + 1) (by omega) (by omega) ?_
    refine ⟨i + 1, ⟨rfl, ?_, rfl, trivial⟩, ⟨(hx1.trans hx14).trans hx5, hlt⟩, by omega⟩
    show some (Value.int .i64 _) = some (Value.int .i64 _)
    rw [show kk + 2 + 2 * Rose.cnt t.kids = k + 2 * Rose.cnt (ks.take (i + 1)) by omega]
  · have : i = ks.length := by omega
    subst this
    refine ⟨?_, hx1⟩
    rw [List.take_length]
/-- laws.heldType -/
theorem c_heldType {l : TLab} {ks : List Tp} {w : World} {v : Value} {bs : List Nat} {k : Nat} (hk : Kids encT w v (mkRL gT 2 k ks) bs) (hs : k + 2 * Rose.cnt ks ≤ 1152921504606846975) : Ret Tryd.prog 28 [.agg #[.int .i64 l.1, .string l.2, v], .int .i64 k] w fun r w' => r = .int .i64 (k + 2 * Rose.cnt ks : Nat) ∧ Ext w w' := by
  refine ret_of_vc ttOk Tryd.func28 rfl (by kernel_rfl) (by kernel_rfl) ?_
  refine Go1.bx ?_
  intro w1 hx1 hb1
  refine Go1.fl 2 (Ld.one hb1.at2 ?_)
  refine (c_heldTypeS ks w1 v bs k (hk.ext hx1) hs).mono ?_
  rintro r w2 ⟨rfl, hx2⟩
  refine Cm.f (by omega) ?_
  exact ⟨rfl, hx1.trans hx2⟩
end Go.Proofs.YtmecmdnnhldjpaaDoor
