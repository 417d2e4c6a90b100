/- The frame of a tied card's proof; the listed variables, read. Conditions: none. -/
import Derived.Test.YtmaklbdlijcopaaDoorLaw
import Derived.Test.YtmaklbdlijcopaaDoorNumD
import Derived.Test.YtmaklbdlijcopaaDoorTie
import Derived.Test.YtmaklbdlijcopaaDoorCards
import Derived.SevenTiedAt
import Derived.Lay
import Derived.LaidMore
import Derived.Lib.LaidTab
import Derived.Stop.LaidErr
import Derived.ShapedOpen
namespace Go.Proofs.YtmaklbdlijcopaaDoor
open Go.ChangeShapes Go.WideShapes Go.ChangeAt Go.RowKit

/-- A contract under what the row lists, with the world's shape kept: the law's form. -/
theorem handed_card {H : Type} {enc : TypeId × Value → H} {a : Assume} {C : Checked} {os : Os} {f : FuncId} {fn : Func} {s : ChangeSpec} {conds : List PathCond} {apart fresh handsOn again : Bool} {X : World → Array Value → Prop}
    (hX : ∀ (w w' : World) (args : Array Value), w.heap = w'.heap → X w args → X w' args) (own : ownKnob C.prog.godebug = none) (started : os.Started) (noInit : C.prog.inits.idxOf? f = none) (hfn : C.prog.funcs[f]? = some fn)
    (witness : ∃ (w : World) (tape : Tape) (i : Input), w.os = os ∧ (w.forCall tape i).Shaped C.prog ∧ i.vars = [] ∧ Input.okWide C.prog (w.forCall tape i) .any w.heap.size f i ∧
      ((s.pre enc C.prog fn conds apart (w.forCall tape i).memory i.args ∧ X (w.forCall tape i).memory i.args) ∧ sizedMet enc C.prog fn (OpenSpec.ofChange s) apart (w.forCall tape i).memory i.args) ∧ a.holds C.prog (lone (Frame.enter C.prog f i.args .normal) [] (w.forCall tape i)))
    (contract : ∀ (W : World) (base : Nat) (args : Array Value) (ds gs : List (DataW H)) (before : List MemPlace),
      (∀ (j : Nat) t v, fn.params[j]? = some t → args[j]? = some v → Value.okWide C.prog W .any base t v) → DataW.Whole enc C.prog fn.params.toList s.vars apart W args.toList ds gs before →
      W.ShapedOpen C.prog → X W args → Calls C.prog f args W fun e W' => ∃ v, e = .returned v ∧ s.post enc C.prog fn apart fresh handsOn again W args v W') :
    ReturnsInHanded a C os f .any (fun w args => (s.pre enc C.prog fn conds apart w args ∧ X w args) ∧ sizedMet enc C.prog fn (OpenSpec.ofChange s) apart w args) (s.post enc C.prog fn apart fresh handsOn again) := by
  refine returnsInHanded_of_calls own started noInit witness ?_
  intro w tape i _ hsh _ hok hpre _
  obtain ⟨_, _, _, fn', hfn', _, _, _, _, hval⟩ := hok
  obtain rfl : fn' = fn := Option.some.inj (hfn'.symm.trans hfn)
  obtain ⟨⟨⟨ds, gs, before, hw, _⟩, hx⟩, _⟩ := hpre
  refine (contract (w.forCall tape i) w.heap.size i.args ds gs before hval (DataW.Whole.of_heap (w' := w.forCall tape i) (by rfl) hw) hsh (hX _ _ _ (by rfl) hx)).mono fun e W' ⟨v, he, hp⟩ => ?_
  subst he
  exact ChangeSpec.post_blind hp

/-- Out of the table of powers of ten: strconv.Itoa. -/
theorem itoaOk_of {name : String} {W : World} {r : List (String × DataW Unit)} (hn : Tryd.prog.globalNamed name = some 0) (hc : ∀ (n : Int) (w1 : World), -9223372036854775808 ≤ n → n ≤ 9223372036854775807 → Lib.TabIs Tryd.prog w1 name .u64 Lib.pow10Tab → Calls Tryd.prog 28 #[.int .i64 n] w1 fun e w' => e = .returned (.string ⟨(Lib.itoa n).toArray⟩) ∧ ∃ k os, w' = Go.Sort.grow (w1.drewN k) os)
    (hL : laidMet Tryd.prog ((name, Lib.tabData .u64 Lib.pow10Tab) :: r) W) : ItoaOk W := by
  have htab := Lib.tabIs_of_head hn (by kernel_rfl) (t := 89) (e := 69) (n := 20) Tryd.underlying89 Tryd.underlying69 (by kernel_rfl) (by kernel_rfl) hL
  intro n w1 h0 h1 hx
  exact Ret.of Tryd.func28 rfl (by kernel_rfl) (hc n w1 h0 h1 (var_ext hx htab)) fun e w' ⟨he, k, os, hw⟩ => ⟨_, he, rfl, by rw [hw]; exact Below.ext (Lib.below_grow _ w1 (Nat.le_refl _) k os)⟩
theorem errRow (u : TypeId) (h : Tryd.prog.typeName? 3 u = some "*errors.errorString") : u = 101 :=
  typeName_ptr_named (nm := "errors.errorString") (by kernel_rfl) (by kernel_rfl) (by decide) u h
/-- Out of the two errors, listed fourth and fifth: strconv.Atoi. -/
theorem atoiOk_of {W : World} {x y z : String × DataW Unit} {t1 t2 : List UInt8} (hL : laidMet Tryd.prog [x, y, z, ("strconv.ErrRange", .iface "*errors.errorString" (.ptr (.agg [.lit (.string t1)]))), ("strconv.ErrSyntax", .iface "*errors.errorString" (.ptr (.agg [.lit (.string t2)])))] W) : AtoiOk W := by
  have hR := laidMet.tail (laidMet.tail (laidMet.tail hL))
  have hS := laidMet.tail hR
  obtain ⟨aR, sR, hvR, _⟩ := laid_sentinel hR (g := 2) (ti := 53) (tp := 101) (te := 103) (ts := 9) (by kernel_rfl) (by kernel_rfl) Tryd.underlying53 errRow Tryd.underlying101 Tryd.underlying103 rfl rfl Tryd.underlying9 (by kernel_rfl) (by kernel_rfl)
  obtain ⟨aS, sS, hvS, _⟩ := laid_sentinel hS (g := 1) (ti := 53) (tp := 101) (te := 103) (ts := 9) (by kernel_rfl) (by kernel_rfl) Tryd.underlying53 errRow Tryd.underlying101 Tryd.underlying103 rfl rfl Tryd.underlying9 (by kernel_rfl) (by kernel_rfl)
  intro s w1 hs hx
  cases h : Lib.atoiAll s.data.toList
  · exact Ret.of Tryd.func39 rfl (by kernel_rfl) (Any.strconv_Atoi_ok sh_laysC172 s (by omega) _ h w1) fun e w' ⟨he, hw⟩ => ⟨_, he, .inl ⟨_, rfl, rfl⟩, by
      rcases hw with rfl | ⟨t, rfl⟩
      · exact Chg.refl _ _
      · exact Below.ext (Lib.bytesWorld_below _ _ _)⟩
  · exact Ret.of Tryd.func39 rfl (by kernel_rfl) (Any.strconv_Atoi_syntax_var sh_laysC172 s hs h _ _ w1 (var_ext hx hvS)) fun e w' ⟨N, he, _, _, hb⟩ => ⟨_, he, .inr ⟨fun v hv => (by cases hv), _, _, _, rfl⟩, Below.ext hb⟩
  · exact Ret.of Tryd.func39 rfl (by kernel_rfl) (Any.strconv_Atoi_range_var sh_laysC172 s hs h _ _ w1 (var_ext hx hvR)) fun e w' ⟨N, he, _, _, hb⟩ => ⟨_, he, .inr ⟨fun v hv => (by cases hv), _, _, _, rfl⟩, Below.ext hb⟩
end Go.Proofs.YtmaklbdlijcopaaDoor
