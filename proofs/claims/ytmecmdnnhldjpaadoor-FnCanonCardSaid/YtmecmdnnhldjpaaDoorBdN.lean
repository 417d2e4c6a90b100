/- Draws: a pattern and a Type. Conditions: none. -/
import Derived.Test.YtmecmdnnhldjpaaDoorBdM
namespace Go.Proofs.YtmecmdnnhldjpaaDoor
open Go.RowKit

/-- The rule for a region whose calls move the cursor, and that draws its order among effects too. -/
theorem Dr.eD {P : Program} {n : Nat} {T : TT} {ops : Array Oper} {F : Fr} {w : World} {K : Fr → World → Prop} {g : Nat} (hc : Cu w g) (l : List Nat) (fr : List (Nat × Nat)) (hT : TOk P T) (hv : vce P T ops.toList fr (lateB ops l) K l l F (fun u => Dw g w u))
    (hm : P.follows .mixedOrders = true := by kernel_rfl) (hok : opsOk n ops.toList = true := by kernel_rfl) (hl : eagerF ops fr l = true := by kernel_rfl) (hle : Nat.ble l.length ops.size = true := by kernel_rfl) : Dr P n T ops F w K := by
  refine ⟨fun a id Q h hq => ?_⟩
  have hl' := hl
  simp only [eagerF, Bool.and_eq_true] at hl'
  have hall := hl'.1.1.2
  have hlen : l.length ≤ ops.size := Nat.ble_eq ▸ hle
  refine Code.wp_mono (Q := QN (fun a w => Q .normal a w)) (fun e a w hx => by cases e <;> first | exact hx | exact hx.elim) (wp_region_any hm ?_)
  refine VE_any (Q := fun a w => Q .normal a w) l hl ops.size _ l l _ a _ (List.Sublist.refl l) (by simp) (fun j hj => ?_) (down_none ops) hlen (Nat.le_refl _) (vce_sound hT ops hok (fun F' a' w' h' hk => hq F' a' w' h' hk) l l F _ a h hv) ((Dw.refl hc).ext (chg_drawn w _))
  have h1 := List.all_eq_true.1 hall j (List.mem_range.2 hj)
  simp [hj]
  simpa using h1

end Go.Proofs.YtmecmdnnhldjpaaDoor
