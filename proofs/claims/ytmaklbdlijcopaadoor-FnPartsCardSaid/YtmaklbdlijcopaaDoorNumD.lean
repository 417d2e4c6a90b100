/- Contracts: strconv.Itoa and strconv.Atoi, by the library's own; the program's reading of numerals. Conditions: none. -/
import Derived.Test.YtmaklbdlijcopaaDoorNumC
import Derived.Test.YtmaklbdlijcopaaDoorStrG
import Derived.Test.YtmaklbdlijcopaaDoorShItoa
import Derived.Test.YtmaklbdlijcopaaDoorShAtoi
import Derived.Lib.AppendIntMem
import Derived.WideLaws
namespace Go.Proofs.YtmaklbdlijcopaaDoor
open Go.RowKit Go.Shelf

theorem var_ext {P : Program} {w w' : World} (h : Ext w w') {n : String} {cs : Array Value} (hv : w.var? P n = some cs) : w'.var? P n = some cs := by
  unfold World.var? at hv ⊢
  cases hg : P.globalNamed n with
  | none => rw [hg] at hv; exact hv
  | some g =>
    rw [hg] at hv
    simp only [Option.bind_some] at hv ⊢
    split at hv
    · rename_i hh
      rw [h.heap id hh]
      exact hv
    · cases hv

/-- strconv.Itoa spells every number, here and behind. -/
def ItoaOk (w : World) : Prop := ∀ (n : Int) (w1 : World), -9223372036854775808 ≤ n → n ≤ 9223372036854775807 → Ext w w1 → Ret Tryd.prog 28 [.int .i64 n] w1 fun r w' => r = .string (itoaB n) ∧ Ext w1 w'
theorem ItoaOk.ext {w w' : World} (h : ItoaOk w) (hx : Ext w w') : ItoaOk w' := fun n w1 h0 h1 hx1 => h n w1 h0 h1 (hx.trans hx1)
/-- strconv.Atoi reads every text, here and behind. -/
def AtoiOk (w : World) : Prop := ∀ (s : ByteArray) (w1 : World), s.size ≤ 281474976710656 → Ext w w1 → Ret Tryd.prog 39 [.string s] w1 fun r w' => ((∃ v, Lib.atoiAll s.data.toList = .ok v ∧ r = .tuple #[.int .i64 v, .nilIface]) ∨ ((∀ v, Lib.atoiAll s.data.toList ≠ .ok v) ∧ ∃ z t p, r = .tuple #[.int .i64 z, .iface t p])) ∧ Ext w1 w'
theorem AtoiOk.ext {w w' : World} (h : AtoiOk w) (hx : Ext w w') : AtoiOk w' := fun s w1 h0 hx1 => h s w1 h0 (hx.trans hx1)
theorem Go1.ineN {P : Program} {w : World} {t : TypeId} {ox : Operand} {c : Value} {K : Value → World → Prop} (ht : P.underlying t = some (.interface (P.methodsAt t))) (k : K (.bool false) w) :
    Go1 P (do eqGuard .neq t ox (.const c) .nilIface .nilIface; binOp .neq t .nilIface .nilIface) w K := by
  refine Go1.go (v := .bool false) ?_ k
  simp [eqGuard, run_neq_nil_nil w t ht]
theorem Go1.ineI {P : Program} {w : World} {t u : TypeId} {x : Value} {ox oy : Operand} {K : Value → World → Prop} (ht : P.underlying t = some (.interface (P.methodsAt t))) (k : K (.bool true) w) :
    Go1 P (do eqGuard .neq t ox oy (.iface u x) .nilIface; binOp .neq t (.iface u x) .nilIface) w K := by
  refine Go1.go (v := .bool true) ?_ k
  simp [eqGuard, run_neq_held_nil w t u x ht]
theorem numO_atoi {lo hi n : Int} {s : ByteArray} (hlo : -9223372036854775808 ≤ lo) (hhi : hi ≤ 9223372036854775807) (h : itoaB n = s) (h1 : lo ≤ n) (h2 : n ≤ hi) : Lib.atoiAll s.data.toList = .ok n := by
  subst h
  have e : (itoaB n).data.toList = Lib.itoa n := rfl
  rw [e]
  exact atoi_itoa (by omega) (by omega)
/-- impl.FormatInt -/
theorem c_iFormatInt {w : World} (hI : ItoaOk w) (n : Int) (h0 : -9223372036854775808 ≤ n) (h1 : n ≤ 9223372036854775807) : Ret Tryd.prog 11 [.int .i64 n] w fun r w' => r = .string (itoaB n) ∧ Ext w w' := by
  refine ret_of_vc ttOk Tryd.func11 rfl (by kernel_rfl) (by kernel_rfl) ?_
  refine (hI n w h0 h1 (Chg.refl _ _)).mono ?_
  rintro _ w1 ⟨rfl, hx1⟩
  exact ⟨rfl, hx1⟩
/-- impl.readInt -/
theorem c_readInt {w : World} (hI : ItoaOk w) (hA : AtoiOk w) {lo hi : Int} (hlo : -9223372036854775808 ≤ lo) (hhi : hi ≤ 9223372036854775807) {s : ByteArray} (hs : s.size ≤ 281474976710656) : Ret Tryd.prog 29 [.string s, .int .i64 lo, .int .i64 hi] w fun r w' => r = numV (numO lo hi s) ∧ Ext w w' := by
  refine ret_of_vc ttOk Tryd.func29 rfl (by kernel_rfl) (by kernel_rfl) ?_
  refine (hA s w hs (Chg.refl _ _)).mono ?_
  rintro r w1 ⟨⟨v, hv, rfl⟩ | ⟨hv, z, t, p, rfl⟩, hx1⟩
  · have none_of : (∀ _ : lo ≤ v, ∀ _ : v ≤ hi, itoaB v ≠ s) → numO lo hi s = none := fun h => numO_none fun n a b c => by
      have := numO_atoi hlo hhi a b c
      rw [hv] at this
      obtain rfl : v = n := by injection this
      exact h b c a
    refine Go1.ineN (by kernel_rfl) ?_
    refine Cm.s (fun h1 => ?_) (fun h1 => ?_)
    · have h1 : v < lo := h1
      refine ⟨?_, hx1⟩
      rw [none_of fun a _ _ => by omega]
      rfl
    have h1 : ¬ v < lo := h1
    refine Cm.s (fun h2 => ?_) (fun h2 => ?_)
    · have h2 : hi < v := h2
      refine ⟨?_, hx1⟩
      rw [none_of fun _ a _ => by omega]
      rfl
    have h2 : ¬ hi < v := h2
    refine (hI v w1 (by omega) (by omega) hx1).mono ?_
    rintro _ w2 ⟨rfl, hx2⟩
    refine Cm.ns (fun hne => ?_) (fun he => ?_)
    · refine ⟨?_, hx1.trans hx2⟩
      rw [none_of fun _ _ => hne]
      rfl
    · refine ⟨?_, hx1.trans hx2⟩
      rw [numO_some he (by omega) (by omega)]
      rfl
  · refine Go1.ineI (by kernel_rfl) ?_
    refine ⟨?_, hx1⟩
    rw [numO_none fun n a b c => hv n (numO_atoi hlo hhi a b c)]
    rfl
/-- impl.ParseInt -/
theorem c_iParseInt {w : World} (hI : ItoaOk w) (hA : AtoiOk w) {s : ByteArray} (hs : s.size ≤ 281474976710656) : Ret Tryd.prog 12 [.string s] w fun r w' => r = numV (numO (-999999999999) 999999999999 s) ∧ Ext w w' := by
  refine ret_of_vc ttOk Tryd.func12 rfl (by kernel_rfl) (by kernel_rfl) ?_
  refine (c_readInt hI hA (by decide) (by decide) hs).mono ?_
  rintro _ w1 ⟨rfl, hx1⟩
  exact ⟨rfl, hx1⟩
/-- impl.ParseNumber -/
theorem c_iParseNumber {w : World} (hI : ItoaOk w) (hA : AtoiOk w) {s : ByteArray} (hs : s.size ≤ 281474976710656) : Ret Tryd.prog 13 [.string s] w fun r w' => r = numV (numO 0 999999 s) ∧ Ext w w' := by
  refine ret_of_vc ttOk Tryd.func13 rfl (by kernel_rfl) (by kernel_rfl) ?_
  refine (c_readInt hI hA (by decide) (by decide) hs).mono ?_
  rintro _ w1 ⟨rfl, hx1⟩
  exact ⟨rfl, hx1⟩
end Go.Proofs.YtmaklbdlijcopaaDoor
