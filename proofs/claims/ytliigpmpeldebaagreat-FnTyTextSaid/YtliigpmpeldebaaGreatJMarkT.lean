/- Operations: quotients, conversions, texts put together; the laws' mark texts; Contracts: the laws' marks on strings and on trees. Conditions: none. -/
import Derived.Test.YtliigpmpeldebaaGreatMark
import Derived.Test.YtliigpmpeldebaaGreatTyA
import Derived.Laws.BytesString
import Derived.Test.YtliigpmpeldebaaGreatTyC
namespace Go.Proofs.YtliigpmpeldebaaGreat
open Go.RowKit

section
variable {P : Program} {w : World} {K : Value → World → Prop}

theorem Go1.rem {t : TypeId} {ox oy : Operand} {x y : Int} (hy : y ≠ 0) (k : K (.int .i64 (x.tmod y)) w) :
    Go1 P (do eqGuard .rem t ox oy (.int .i64 x) (.int .i64 y); binOp .rem t (.int .i64 x) (.int .i64 y)) w K := by
  refine Go1.go ?_ k
  simp [eqGuard, binOp, Op.intDiv, hy]

theorem Go1.quo {t : TypeId} {ox oy : Operand} {x y : Int} (hy : y ≠ 0) (hw : IntKind.i64.wrap (x.tdiv y) = x.tdiv y) (k : K (.int .i64 (x.tdiv y)) w) :
    Go1 P (do eqGuard .quo t ox oy (.int .i64 x) (.int .i64 y); binOp .quo t (.int .i64 x) (.int .i64 y)) w K := by
  refine Go1.go ?_ k
  simp [eqGuard, binOp, Op.intDiv, hy, hw]

theorem Go1.cat {t : TypeId} {ox oy : Operand} {x y : ByteArray} (hs : x.size + y.size ≤ maxLen) (k : K (.string (x ++ y)) w) :
    Go1 P (do eqGuard .add t ox oy (.string x) (.string y); binOp .add t (.string x) (.string y)) w K := by
  refine Go1.go ?_ k
  have hM : maxLen = 9223372036854775807 := rfl
  simp [eqGuard, binOp, Op.stringOp]
  omega

theorem Go1.cvi {s d : TypeId} {j k : IntKind} {n : Int} (hs : P.underlying s = some (.int j)) (hd : P.underlying d = some (.int k)) (h : K (.int k (k.wrap n)) w) : Go1 P (convert s d (.int j n)) w K := by
  refine Go1.go ?_ h
  simp [convert, run_underlying hs, run_underlying hd, Conv.intToInt]

/-- A []byte's cells. -/
def bytesV (s : ByteArray) : List Value := s.data.toList.map fun b => .int .u8 b.toNat

theorem foldl_push : ∀ (ns : List UInt8) (s : ByteArray), (ns.map fun b => (b.toNat : Int)).foldl (fun r n => r.push (UInt8.ofNat n.toNat)) s = ⟨s.data ++ ns.toArray⟩
  | [], s => by simp
  | b :: ns, s => by
    simp only [List.map_cons, List.foldl_cons]
    rw [foldl_push ns]
    simp [ByteArray.push]

theorem Go1.cbs {src dst e : TypeId} {a : Addr} {len cap : Nat} {s : ByteArray} (hs : P.underlying src = some (.slice e)) (he : P.underlying e = some (.int .u8)) (hd : P.underlying dst = some .string)
    (hl : len = s.size) (hc : Lc w a (bytesV s)) (k : K (.string s) w) : Go1 P (convert src dst (.slice (some a) len cap)) w K := by
  refine Go1.go ?_ k
  rw [run_convert_bytes_string w src dst e (some a) len cap hs he hd]
  have hlen : (bytesV s).length = len := by rw [hl]; simp [bytesV]
  have := run_loadCells_list (P := P) w a (bytesV s) (fun j v hv => hc j v hv)
  rw [hlen] at this
  rw [run_bytesToString (P := P) w a len cap (s.data.toList.map fun b => (b.toNat : Int)) (by rw [this]; simp [bytesV])]
  rw [foldl_push]
  simp
end

/-- A mark's digits, ahead of what is there. -/
def mtd (n : Nat) (out : ByteArray) : ByteArray := if _h : n = 0 then out else mtd (n / 10) (⟨#[(48 + n % 10).toUInt8]⟩ ++ out)
termination_by n
decreasing_by omega

/-- A mark's text. -/
def mt (k : Nat) : ByteArray := if k = 0 then ⟨#[109, 48]⟩ else ⟨#[109]⟩ ++ mtd k ⟨#[]⟩

theorem size_app (a b : ByteArray) : (a ++ b).size = a.size + b.size := ByteArray.size_append

theorem mtd_size : ∀ (N n : Nat) (out : ByteArray), n ≤ N → (mtd n out).size ≤ out.size + n := by
  intro N
  induction N with
  | zero =>
    intro n out h
    have : n = 0 := by omega
    subst this
    unfold mtd
    simp
  | succ N ih =>
    intro n out h
    unfold mtd
    split
    · omega
    · have := ih (n / 10) (⟨#[(48 + n % 10).toUInt8]⟩ ++ out) (by omega)
      rw [size_app] at this
      have h1 : ByteArray.size ⟨#[(48 + n % 10).toUInt8]⟩ = 1 := rfl
      omega
theorem mt_size (k : Nat) : (mt k).size ≤ k + 2 := by
  unfold mt
  split
  · show 2 ≤ _
    omega
  · have := mtd_size k k ⟨#[]⟩ (Nat.le_refl _)
    rw [size_app]
    have h1 : ByteArray.size ⟨#[109]⟩ = 1 := rfl
    have h2 : ByteArray.size ⟨#[]⟩ = 0 := rfl
    omega

end Go.Proofs.YtliigpmpeldebaaGreat

namespace Go.Proofs.YtliigpmpeldebaaGreat
open Go.RowKit

section
variable {α : Type}
mutual
/-- A tree, marked: its labels are g k, g (k + d), .., in pre-order. -/
def mkR (g : Nat → α) (d : Nat) : Nat → Rose α → Rose α
  | k, .mk _ ks => .mk (g k) (mkRL g d (k + d) ks)
def mkRL (g : Nat → α) (d : Nat) : Nat → List (Rose α) → List (Rose α)
  | _, [] => []
  | k, t :: ts => mkR g d k t :: mkRL g d (k + d * (1 + Rose.cnt t.kids)) ts
end
variable {g : Nat → α} {d : Nat}
theorem mkR_eq (k : Nat) (t : Rose α) : mkR g d k t = .mk (g k) (mkRL g d (k + d) t.kids) := by cases t; simp only [mkR, Rose.kids]
theorem mkRL_nil (k : Nat) : mkRL g d k [] = [] := by simp only [mkRL]
theorem mkRL_cons (k : Nat) (t : Rose α) (ts : List (Rose α)) : mkRL g d k (t :: ts) = .mk (g k) (mkRL g d (k + d) t.kids) :: mkRL g d (k + d * (1 + Rose.cnt t.kids)) ts := by simp only [mkRL, mkR_eq]
theorem mkRL_append (xs ys : List (Rose α)) : ∀ k, mkRL g d k (xs ++ ys) = mkRL g d k xs ++ mkRL g d (k + d * Rose.cnt xs) ys := by
  induction xs with
  | nil => intro k; rw [Rose.cnt_nil]; simp [mkRL_nil]
  | cons x xs ih =>
    intro k
    rw [List.cons_append, mkRL_cons, mkRL_cons, ih, List.cons_append]
    congr 3
    show _ = k + d * Rose.wtL _ _
    rw [Rose.wtL_cons]
    show k + d * (1 + Rose.wtL _ _) + d * Rose.wtL _ _ = _
    rw [Nat.add_assoc, ← Nat.mul_add]
theorem mkRL_length (ks : List (Rose α)) : ∀ k, (mkRL g d k ks).length = ks.length := by
  induction ks with
  | nil => intro k; simp [mkRL_nil]
  | cons t ts ih => intro k; rw [mkRL_cons]; simp [ih]
theorem mkRL_take {ks : List (Rose α)} {i : Nat} {t : Rose α} (h : ks[i]? = some t) (k : Nat) : mkRL g d k (ks.take (i + 1)) = mkRL g d k (ks.take i) ++ [.mk (g (k + d * Rose.cnt (ks.take i))) (mkRL g d (k + d * Rose.cnt (ks.take i) + d) t.kids)] := by
  rw [take_succ_get h, mkRL_append, mkRL_cons, mkRL_nil]
theorem mkRL_get {ks : List (Rose α)} {i : Nat} {t : Rose α} (h : ks[i]? = some t) (k : Nat) : (mkRL g d k ks)[i]? = some (.mk (g (k + d * Rose.cnt (ks.take i))) (mkRL g d (k + d * Rose.cnt (ks.take i) + d) t.kids)) := by
  have hi := (List.getElem?_eq_some_iff.1 h).1
  have h1 := mkRL_take (g := g) (d := d) h k
  have h2 : mkRL g d k ks = mkRL g d k (ks.take (i + 1)) ++ mkRL g d (k + d * Rose.cnt (ks.take (i + 1))) (ks.drop (i + 1)) := by rw [← mkRL_append, List.take_append_drop]
  rw [h2, h1, List.append_assoc, List.getElem?_append_right (by rw [mkRL_length]; simp; omega)]
  rw [mkRL_length, List.length_take, Nat.min_eq_left (by omega), Nat.sub_self]
  rfl
theorem drop_get {ks : List (Rose α)} {i : Nat} {t : Rose α} (h : ks[i]? = some t) : ks.drop i = t :: ks.drop (i + 1) := by
  obtain ⟨hi, rfl⟩ := List.getElem?_eq_some_iff.1 h
  exact (List.drop_eq_getElem_cons hi)
end

/-- What a mark leaves. -/
def Marked {α : Type} (enc : α → List Value) (g : Nat → α) (d : Nat) (n0 k : Nat) (v : Value) (ks : List (Rose α)) (bs : List Nat) (w : World) (r : Value) (w' : World) : Prop :=
  r = .int .i64 (k + d * Rose.cnt ks : Nat) ∧ Chg (· ∈ bs) w w' ∧ Kids enc w' v (mkRL g d k ks) bs ∧ Fresh n0 w' bs

theorem Chg.sub {M N : Nat → Prop} {w w' w'' : World} (h : Chg M w w') (h' : Chg N w' w'') (hn : ∀ b, N b → M b) : Chg M w w'' :=
  (Chg.trans h h').mono fun k _ hm => hm.elim id (hn k)

/-- A marked Type's label. -/
def gT (k : Nat) : TLab := (k, mt (k + 1))

end Go.Proofs.YtliigpmpeldebaaGreat
