/- Draws: an SExpr. Conditions: none. -/
import Derived.Test.YtmecmdnnhldjpaaDoorJStrH
import Derived.Test.YtmecmdnnhldjpaaDoorJGrowT
import Derived.Test.YtmecmdnnhldjpaaDoorDrawC
namespace Go.Proofs.YtmecmdnnhldjpaaDoor
open Go.RowKit

theorem Af.dw {late : Bool} {g : Nat} {w0 w1 : World} {p : (World → Prop) → Prop} (h : Dw g w0 w1) (k : p (fun u => Dw g w1 u)) : Af late (fun u => Dw g w0 u) w1 p :=
  ⟨fun u => Dw g w1 u, Dw.refl h.2, fun _ _ hu => h.trans hu, k⟩
theorem Af.nw' {late : Bool} {S : World → Prop} {w1 : World} {p : (World → Prop) → Prop} (k : p (fun u => Ext w1 u)) (hl : late = false := by kernel_rfl) : Af late S w1 p := Af.nw k hl
/-- The rule for a region whose calls move the cursor. -/
theorem Dr.d {P : Program} {n : Nat} {T : TT} {ops : Array Oper} {F : Fr} {w : World} {K : Fr → World → Prop} {g : Nat} (hc : Cu w g) (l : List Nat) (hT : TOk P T) (hv : vcd P T ops.toList (lateB ops l) K l F (fun u => Dw g w u))
    (hm : P.follows .mixedOrders = true := by kernel_rfl) (hok : opsOk n ops.toList = true := by kernel_rfl) (hl : eagerB ops l = true := by kernel_rfl) (hle : Nat.ble l.length ops.size = true := by kernel_rfl) : Dr P n T ops F w K :=
  Dr.go l _ hT ((Dw.refl hc).ext (chg_drawn w _)) hv hm hok hl hle
theorem Dw.blk {g : Nat} {w w' : World} (h : Dw g w w') {b : Nat} {e : TypeId} {cs : List Value} (hb : Blk w b e cs) (hn : b ≠ g) : Blk w' b e cs := hb.chg h.1 hn
theorem Dw.cell {g : Nat} {w w' : World} (h : Dw g w w') {b : Nat} {e : TypeId} {cs : List Value} (hb : Blk w b e cs) (hn : b ≠ g) {i : Nat} {v : Value} (hc : w.cell? ((⟨b, 0, none⟩ : Addr).add i) = some v) : w'.cell? ((⟨b, 0, none⟩ : Addr).add i) = some v :=
  Chg.cell h.1 (by
    have : ((⟨b, 0, none⟩ : Addr).add i).block = b := by unfold Addr.add; split <;> rfl
    rw [this]
    exact hn) hc

end Go.Proofs.YtmecmdnnhldjpaaDoor
