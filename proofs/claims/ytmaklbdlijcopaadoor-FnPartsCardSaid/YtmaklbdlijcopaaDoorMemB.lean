/- Laws for the stops of a region that draws its order. Conditions: none. -/
import Derived.Test.YtmaklbdlijcopaaDoorMem
import Derived.Test.YtmaklbdlijcopaaDoorDrawB
namespace Go.Proofs.YtmaklbdlijcopaaDoor
open Go.RowKit

theorem LdS.one {P : Program} {t : TypeId} {S : World → Prop} {a : Addr} {K : Value → Prop} {v : Value} (hc : ∀ w, S w → w.cell? a = some v) (k : K v) (ht : agg0 P t = true := by kernel_rfl) : LdS P t S a K :=
  ⟨v, fun w hw => by simp [loadVar, isAgg_false ht, hc w hw], k⟩

theorem LdS.agg {P : Program} {t : TypeId} {S : World → Prop} {a : Addr} {K : Value → Prop} {vs : List Value} (hc : ∀ w, S w → Lc w a vs) (k : K (.agg ⟨vs⟩)) (ht : aggN P t vs.length = true := by kernel_rfl) : LdS P t S a K :=
  ⟨.agg ⟨vs⟩, fun w hw => by
    obtain ⟨h1, h2⟩ := aggN_spec ht w
    have := run_loadCells_list (P := P) w a vs (hc w hw)
    simp [loadVar, h1, h2, this], k⟩

theorem LdS.x1 {P : Program} {t : TypeId} {w : World} {a : Addr} {K : Value → Prop} {v : Value} (hc : w.cell? a = some v) (k : K v) (ht : agg0 P t = true := by kernel_rfl) : LdS P t (fun u => Ext w u) a K :=
  LdS.one (fun _ hu => hu.cell hc) k ht

theorem LdS.xn {P : Program} {t : TypeId} {w : World} {a : Addr} {K : Value → Prop} {vs : List Value} (hc : Lc w a vs) (k : K (.agg ⟨vs⟩)) (ht : aggN P t vs.length = true := by kernel_rfl) : LdS P t (fun u => Ext w u) a K :=
  LdS.agg (fun _ hu => hc.chg hu (.inr id)) k ht

theorem GoS.of1 {P : Program} {m : Sem Value} {S : World → Prop} {K : Value → Prop} {v : Value} (h : ∀ w, m.run P w = .ok v w) (k : K v) : GoS P m S K := ⟨v, fun w _ => h w, k⟩

theorem run_ix {P : Program} {t : TypeId} {sz : Nat} {a : Addr} {len cap j : Nat} {kd : IntKind} (hj : j < len) (ht : slcB P t sz = true) (w : World) :
    (Instr.indexAt t (.slice (some a) len cap) (.int kd (j : Int))).run P w = .ok (.pointer (some (a.add (j * sz)))) w := by
  obtain ⟨v, w', h, e⟩ := (Go1.ix (P := P) (t := t) sz (w := w) (a := a) (len := len) (cap := cap) (j := j) (kd := kd) (K := fun v w' => v = .pointer (some (a.add (j * sz))) ∧ w' = w) hj ⟨rfl, rfl⟩ ht).h
  obtain ⟨rfl, rfl⟩ := e
  exact h

theorem GoS.ix {P : Program} {t : TypeId} (sz : Nat) {S : World → Prop} {a : Addr} {len cap j : Nat} {kd : IntKind} {K : Value → Prop} (hj : j < len) (k : K (.pointer (some (a.add (j * sz))))) (ht : slcB P t sz = true := by kernel_rfl) :
    GoS P (Instr.indexAt t (.slice (some a) len cap) (.int kd (j : Int))) S K := GoS.of1 (run_ix hj ht) k

theorem Af.ext {late : Bool} {w0 w1 : World} {p : (World → Prop) → Prop} (h : Ext w0 w1) (k : p (fun u => Ext w1 u)) : Af late (fun u => Ext w0 u) w1 p :=
  ⟨fun u => Ext w1 u, Chg.refl _ _, fun _ _ hu => h.trans hu, k⟩

theorem Dr.x {P : Program} {n : Nat} {T : TT} {ops : Array Oper} {F : Fr} {w : World} {K : Fr → World → Prop} (l : List Nat) (hT : TOk P T) (hv : vcd P T ops.toList (lateB ops l) K l F (fun u => Ext w u))
    (hm : P.follows .mixedOrders = true := by kernel_rfl) (hok : opsOk n ops.toList = true := by kernel_rfl) (hl : eagerB ops l = true := by kernel_rfl) (hle : Nat.ble l.length ops.size = true := by kernel_rfl) : Dr P n T ops F w K :=
  Dr.go l _ hT (chg_drawn w _) hv hm hok hl hle

end Go.Proofs.YtmaklbdlijcopaaDoor
