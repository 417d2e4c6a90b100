/- Contracts: strconv.Itoa and strconv.Atoi, by the library's own; the program's reading of numerals. Conditions: none. -/
import Derived.Test.YtmecmdnnhldjpaaDoorNumC
import Derived.Test.YtmecmdnnhldjpaaDoorStrG
import Derived.Test.YtmecmdnnhldjpaaDoorShItoa
import Derived.Test.YtmecmdnnhldjpaaDoorShAtoi
import Derived.Lib.AppendIntMem
import Derived.WideLaws
namespace Go.Proofs.YtmecmdnnhldjpaaDoor
open Go.RowKit Go.Shelf

theorem var_ext {P : Program} {w w' : World} (h : Ext w w') {n : String} {cs : Array Value} (hv : w.var? P n = some cs) : w'.var? P n = some cs := by
  unfold World.var? at hv ⊢
  cases hg : P.globalNamed n with
  | none => rw [hg] at hv; exact hv
  | some g =>
    rw [hg] at hv
    simp only [Option.bind_some] at hv ⊢
    split at hv
    · rename_i hh
      rw [h.heap id hh]
      exact hv
    · cases hv

/-- strconv.Itoa spells every number, here and behind. -/
def ItoaOk (w : World) : Prop := ∀ (n : Int) (w1 : World), -9223372036854775808 ≤ n → n ≤ 9223372036854775807 → Ext w w1 → Ret Tryd.prog 56 [.int .i64 n] w1 fun r w' => r = .string (itoaB n) ∧ Ext w1 w'
theorem ItoaOk.ext {w w' : World} (h : ItoaOk w) (hx : Ext w w') : ItoaOk w' := fun n w1 h0 h1 hx1 => h n w1 h0 h1 (hx.trans hx1)
theorem Go1.ineN {P : Program} {w : World} {t : TypeId} {ox : Operand} {c : Value} {K : Value → World → Prop} (ht : P.underlying t = some (.interface (P.methodsAt t))) (k : K (.bool false) w) :
    Go1 P (do eqGuard .neq t ox (.const c) .nilIface .nilIface; binOp .neq t .nilIface .nilIface) w K := by
  refine Go1.go (v := .bool false) ?_ k
  simp [eqGuard, run_neq_nil_nil w t ht]
theorem Go1.ineI {P : Program} {w : World} {t u : TypeId} {x : Value} {ox oy : Operand} {K : Value → World → Prop} (ht : P.underlying t = some (.interface (P.methodsAt t))) (k : K (.bool true) w) :
    Go1 P (do eqGuard .neq t ox oy (.iface u x) .nilIface; binOp .neq t (.iface u x) .nilIface) w K := by
  refine Go1.go (v := .bool true) ?_ k
  simp [eqGuard, run_neq_held_nil w t u x ht]
theorem numO_atoi {lo hi n : Int} {s : ByteArray} (hlo : -9223372036854775808 ≤ lo) (hhi : hi ≤ 9223372036854775807) (h : itoaB n = s) (h1 : lo ≤ n) (h2 : n ≤ hi) : Lib.atoiAll s.data.toList = .ok n := by
  subst h
  have e : (itoaB n).data.toList = Lib.itoa n := rfl
  rw [e]
  exact atoi_itoa (by omega) (by omega)
/-- impl.FormatInt -/
theorem c_iFormatInt {w : World} (hI : ItoaOk w) (n : Int) (h0 : -9223372036854775808 ≤ n) (h1 : n ≤ 9223372036854775807) : Ret Tryd.prog 38 [.int .i64 n] w fun r w' => r = .string (itoaB n) ∧ Ext w w' := by
  refine ret_of_vc ttOk Tryd.func38 rfl (by kernel_rfl) (by kernel_rfl) ?_
  refine (hI n w h0 h1 (Chg.refl _ _)).mono ?_
  rintro _ w1 ⟨rfl, hx1⟩
  exact ⟨rfl, hx1⟩
end Go.Proofs.YtmecmdnnhldjpaaDoor
