/- Operations: quotients, conversions, texts put together; the laws' mark texts. Conditions: none. -/
import Derived.Test.YtmaklbdlijcopaaDoorMark
import Derived.Test.YtmaklbdlijcopaaDoorTyA
import Derived.Laws.BytesString
namespace Go.Proofs.YtmaklbdlijcopaaDoor
open Go.RowKit

section
variable {P : Program} {w : World} {K : Value → World → Prop}

theorem Go1.rem {t : TypeId} {ox oy : Operand} {x y : Int} (hy : y ≠ 0) (k : K (.int .i64 (x.tmod y)) w) :
    Go1 P (do eqGuard .rem t ox oy (.int .i64 x) (.int .i64 y); binOp .rem t (.int .i64 x) (.int .i64 y)) w K := by
  refine Go1.go ?_ k
  simp [eqGuard, binOp, Op.intDiv, hy]

theorem Go1.quo {t : TypeId} {ox oy : Operand} {x y : Int} (hy : y ≠ 0) (hw : IntKind.i64.wrap (x.tdiv y) = x.tdiv y) (k : K (.int .i64 (x.tdiv y)) w) :
    Go1 P (do eqGuard .quo t ox oy (.int .i64 x) (.int .i64 y); binOp .quo t (.int .i64 x) (.int .i64 y)) w K := by
  refine Go1.go ?_ k
  simp [eqGuard, binOp, Op.intDiv, hy, hw]

theorem Go1.cat {t : TypeId} {ox oy : Operand} {x y : ByteArray} (hs : x.size + y.size ≤ maxLen) (k : K (.string (x ++ y)) w) :
    Go1 P (do eqGuard .add t ox oy (.string x) (.string y); binOp .add t (.string x) (.string y)) w K := by
  refine Go1.go ?_ k
  have hM : maxLen = 9223372036854775807 := rfl
  simp [eqGuard, binOp, Op.stringOp]
  omega

theorem Go1.cvi {s d : TypeId} {j k : IntKind} {n : Int} (hs : P.underlying s = some (.int j)) (hd : P.underlying d = some (.int k)) (h : K (.int k (k.wrap n)) w) : Go1 P (convert s d (.int j n)) w K := by
  refine Go1.go ?_ h
  simp [convert, run_underlying hs, run_underlying hd, Conv.intToInt]

/-- A []byte's cells. -/
def bytesV (s : ByteArray) : List Value := s.data.toList.map fun b => .int .u8 b.toNat

theorem foldl_push : ∀ (ns : List UInt8) (s : ByteArray), (ns.map fun b => (b.toNat : Int)).foldl (fun r n => r.push (UInt8.ofNat n.toNat)) s = ⟨s.data ++ ns.toArray⟩
  | [], s => by simp
  | b :: ns, s => by
    simp only [List.map_cons, List.foldl_cons]
    rw [foldl_push ns]
    simp [ByteArray.push]

theorem Go1.cbs {src dst e : TypeId} {a : Addr} {len cap : Nat} {s : ByteArray} (hs : P.underlying src = some (.slice e)) (he : P.underlying e = some (.int .u8)) (hd : P.underlying dst = some .string)
    (hl : len = s.size) (hc : Lc w a (bytesV s)) (k : K (.string s) w) : Go1 P (convert src dst (.slice (some a) len cap)) w K := by
  refine Go1.go ?_ k
  rw [run_convert_bytes_string w src dst e (some a) len cap hs he hd]
  have hlen : (bytesV s).length = len := by rw [hl]; simp [bytesV]
  have := run_loadCells_list (P := P) w a (bytesV s) (fun j v hv => hc j v hv)
  rw [hlen] at this
  rw [run_bytesToString (P := P) w a len cap (s.data.toList.map fun b => (b.toNat : Int)) (by rw [this]; simp [bytesV])]
  rw [foldl_push]
  simp
end

/-- A mark's digits, ahead of what is there. -/
def mtd (n : Nat) (out : ByteArray) : ByteArray := if _h : n = 0 then out else mtd (n / 10) (⟨#[(48 + n % 10).toUInt8]⟩ ++ out)
termination_by n
decreasing_by omega

/-- A mark's text. -/
def mt (k : Nat) : ByteArray := if k = 0 then ⟨#[109, 48]⟩ else ⟨#[109]⟩ ++ mtd k ⟨#[]⟩

theorem size_app (a b : ByteArray) : (a ++ b).size = a.size + b.size := ByteArray.size_append

theorem mtd_size : ∀ (N n : Nat) (out : ByteArray), n ≤ N → (mtd n out).size ≤ out.size + n := by
  intro N
  induction N with
  | zero =>
    intro n out h
    have : n = 0 := by omega
    subst this
    unfold mtd
    simp
  | succ N ih =>
    intro n out h
    unfold mtd
    split
    · omega
    · have := ih (n / 10) (⟨#[(48 + n % 10).toUInt8]⟩ ++ out) (by omega)
      rw [size_app] at this
      have h1 : ByteArray.size ⟨#[(48 + n % 10).toUInt8]⟩ = 1 := rfl
      omega
theorem mt_size (k : Nat) : (mt k).size ≤ k + 2 := by
  unfold mt
  split
  · show 2 ≤ _
    omega
  · have := mtd_size k k ⟨#[]⟩ (Nat.le_refl _)
    rw [size_app]
    have h1 : ByteArray.size ⟨#[109]⟩ = 1 := rfl
    have h2 : ByteArray.size ⟨#[]⟩ = 0 := rfl
    omega

/-- laws.markText -/
theorem c_markText (k : Nat) (hk : k ≤ 1152921504606846976) {w : World} : Ret Tryd.prog 34 [.int .i64 k] w fun r w' => r = .string (mt k) ∧ Ext w w' := by
  have hM : maxLen = 9223372036854775807 := rfl
  refine ret_of_vc ttOk Tryd.func34 rfl (by kernel_rfl) (by kernel_rfl) ?_
  refine Cm.s (fun h => ?_) (fun h => ?_)
  · have : k = 0 := by omega
    subst this
    exact ⟨rfl, Chg.refl _ _⟩
  · refine Lp.go ttOk (by kernel_rfl) (fun s : Nat × ByteArray => [(0, .int .i64 s.1), (3, .string s.2)]) (fun s w' => Ext w w' ∧ mtd s.1 s.2 = mtd k ⟨#[]⟩ ∧ s.2.size + s.1 ≤ k) (fun s => s.1) (k, ⟨#[]⟩)
      ⟨rfl, rfl, trivial⟩ ⟨Chg.refl _ _, rfl, by show 0 + k ≤ k; omega⟩ ?_
    rintro ⟨n, out⟩ w' ⟨hx, hm, hs⟩
    simp only at hm hs
    refine Cm.s (fun hlt => ?_) (fun hge => ?_)
    · have hn : n ≠ 0 := by have : (0 : Int) < n := hlt; omega
      refine Go1.rem (by decide) ?_
      rw [show ((n : Int).tmod 10) = ((n % 10 : Nat) : Int) by rw [Int.tmod_eq_emod_of_nonneg (by omega)]; omega]
      refine Wr.n (48 + n % 10) (by omega) (by omega) ?_
      refine Go1.cvi Tryd.underlying3 Tryd.underlying5 ?_
      rw [show IntKind.u8.wrap ((48 + n % 10 : Nat) : Int) = ((48 + n % 10 : Nat) : Int) by
        have : 48 + n % 10 < 256 := by omega
        generalize 48 + n % 10 = q at this ⊢
        have : ∀ q : Fin 256, IntKind.u8.wrap (q.val : Int) = (q.val : Int) := by decide +kernel
        exact this ⟨q, by omega⟩]
      refine Go1.bs 5 [.int .u8 ((48 + n % 10 : Nat) : Int)] (z := .int .u8 0) (size := 1) (bytes := 1) Tryd.underlying22 (TyI.of (by kernel_rfl)) (by decide) (by decide) (by kernel_rfl) ?_
      intro w2 hx2 hb2
      refine Go1.cbs (s := ⟨#[(48 + n % 10).toUInt8]⟩) Tryd.underlying22 Tryd.underlying5 Tryd.underlying9 rfl ?_ ?_
      · have : bytesV ⟨#[(48 + n % 10).toUInt8]⟩ = [.int .u8 ((48 + n % 10 : Nat) : Int)] := by
          simp only [bytesV, List.map_cons, List.map_nil]
          rw [show (48 + n % 10).toUInt8.toNat = 48 + n % 10 by simp; omega]
        rw [this]
        exact Blk.lc0 (post := []) hb2
      · refine Go1.cat (by show 1 + out.size ≤ _; omega) ?_
        refine Go1.quo (by decide) ?_ ?_
        · rw [IntKind.wrap_i64, show ((n : Int).tdiv 10) = ((n / 10 : Nat) : Int) by rw [Int.tdiv_eq_ediv_of_nonneg (by omega)]; omega]
          omega
        · rw [show ((n : Int).tdiv 10) = ((n / 10 : Nat) : Int) by rw [Int.tdiv_eq_ediv_of_nonneg (by omega)]; omega]
          refine ⟨(n / 10, ⟨#[(48 + n % 10).toUInt8]⟩ ++ out), ⟨rfl, rfl, trivial⟩, ⟨hx.trans hx2, ?_, ?_⟩, ?_⟩
          · rw [← hm, mtd.eq_def n out, dif_neg hn]
          · simp only
            rw [size_app]
            have h1 : ByteArray.size ⟨#[(48 + n % 10).toUInt8]⟩ = 1 := rfl
            omega
          · simp only; omega
    · have hn : n = 0 := by have : ¬ (0 : Int) < n := hge; omega
      subst hn
      rw [mtd.eq_def 0 out, dif_pos rfl] at hm
      refine Go1.cat (by show 1 + out.size ≤ _; omega) ?_
      refine ⟨?_, hx⟩
      unfold mt
      rw [if_neg (by omega), ← hm]
end Go.Proofs.YtmaklbdlijcopaaDoor
