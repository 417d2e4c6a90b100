/- Contract: strings.Join, by the library's own. Conditions: none. -/
import Derived.Test.YtapfcmlkcekfmaaStrG
import Derived.Shelf.Strings.OnBuilder
namespace Go.Proofs.Ytapfcmlkcekfmaa
open Go.Shelf
def sh_lays156_ren : Go.Shelf.Ren := ⟨fun | 156 => 40 | 165 => 52 | 166 => 53 | 169 => 54 | 240 => 58 | 241 => 59 | 276 => 60 | 277 => 61 | n => n, fun | 31 => 37 | 9 => 9 | 3 => 3 | 4 => 4 | 0 => 0 | 20 => 20 | 72 => 69 | 76 => 73 | 70 => 67 | 37 => 34 | 75 => 72 | 127 => 80 | 164 => 82 | 5 => 5 | 80 => 75 | n => n, fun | n => n⟩
theorem sh_lays156 : Go.Proofs.Lays.n156 Try.prog sh_lays156_ren := {
  mixed := by kernel_rfl
  f156 := Try.func40.trans (congrArg some (by kernel_rfl))
  f165 := Try.func52.trans (congrArg some (by kernel_rfl))
  f166 := Try.func53.trans (congrArg some (by kernel_rfl))
  f169 := Try.func54.trans (congrArg some (by kernel_rfl))
  f240 := Try.func58.trans (congrArg some (by kernel_rfl))
  f241 := Try.func59.trans (congrArg some (by kernel_rfl))
  f276 := Try.func60.trans (congrArg some (by kernel_rfl))
  f277 := Try.func61.trans (congrArg some (by kernel_rfl))
  t0 := Try.underlying0
  a0 := Try.isAgg0
  z0 := Try.sizeOf0
  v0 := Try.zeroValue0
  t3 := Try.underlying3
  a3 := Try.isAgg3
  z3 := Try.sizeOf3
  v3 := Try.zeroValue3
  t4 := Try.underlying4
  a4 := Try.isAgg4
  z4 := Try.sizeOf4
  v4 := Try.zeroValue4
  t9 := Try.underlying9
  a9 := Try.isAgg9
  z9 := Try.sizeOf9
  v9 := Try.zeroValue9
  t20 := Try.underlying20
  a20 := Try.isAgg20
  z20 := Try.sizeOf20
  v20 := Try.zeroValue20
  t31 := Try.underlying37
  a31 := Try.isAgg37
  z31 := Try.sizeOf37
  v31 := Try.zeroValue37
  t37 := Try.underlying34
  a37 := Try.isAgg34
  z37 := Try.sizeOf34
  v37 := Try.zeroValue34
  t70 := Try.underlying67
  a70 := Try.isAgg67
  z70 := Try.sizeOf67
  v70 := Try.zeroValue67
  t72 := Try.underlying69
  a72 := Try.isAgg69
  z72 := Try.sizeOf69
  v72 := Try.zeroValue69
  t75 := Try.underlying72
  a75 := Try.isAgg72
  z75 := Try.sizeOf72
  v75 := Try.zeroValue72
  t76 := Try.underlying73
  a76 := Try.isAgg73
  z76 := Try.sizeOf73
  v76 := Try.zeroValue73
  t127 := Try.underlying80
  a127 := Try.isAgg80
  z127 := Try.sizeOf80
  v127 := Try.zeroValue80
  t164 := Try.underlying82
  a164 := Try.isAgg82
  z164 := Try.sizeOf82
  v164 := Try.zeroValue82 }
theorem sh_Builder_Extra_156 : Go.Proofs.Builder.Extra Try.prog sh_lays156_ren := {
  sizeBuilder := by kernel_rfl
  liesBuilder := by kernel_rfl
  t5 := Try.underlying5
  a5 := Try.isAgg5
  z5 := Try.sizeOf5
  v5 := Try.zeroValue5
  infoByte := by kernel_rfl
  cellsByte := by kernel_rfl
  sizeByte := by kernel_rfl
  neB5 := by decide }
open Go.RowKit

theorem add_block' (a : Addr) (i : Nat) : (a.add i).block = a.block := by unfold Addr.add; split <;> rfl
theorem addr_lit {w : World} {n0 : Nat} {bs : List Nat} (hf : Fresh n0 w bs) {a : Addr} {v : Value} (hb : a.block ∈ bs) (hc : w.cell? (a.add 0) = some v) : a = ⟨a.block, a.off, none⟩ := by
  obtain ⟨c0, e0, hbl⟩ := hf.blk a.block hb
  have h := (hbl.addr (a := a.add 0) (add_block' a 0) hc).1
  cases a with
  | mk b o s =>
    cases s with
    | none => rfl
    | some x => simp [Addr.add] at h

/-- strings.Join, of a slice in new memory -/
theorem c_stringsJoin {ss : List ByteArray} {sep : ByteArray} (hj : (jn ss sep).length ≤ 140737488355328) (hl : ss.length ≤ 140737488355328) {n0 : Nat} {w : World} {v : Value} {bs : List Nat} (hk : Strs w v ss bs) (hf : Fresh n0 w bs) :
    Ret Try.prog 40 [v, .string sep] w fun r w' => r = .string ⟨(jn ss sep).toArray⟩ ∧ Ext w w' := by
  obtain ⟨ao, cap, rfl, hm, h⟩ := hk
  simp only [List.length_map] at hm
  rcases h with ⟨h0, rfl⟩ | ⟨a, h0, rfl, rfl, hc⟩
  · obtain rfl : ss = [] := by simpa using h0
    exact Ret.of Try.func40 rfl (by kernel_rfl) (Any.strings_Join_none sh_lays156 sh_Builder_Extra_156 ao cap sep w) fun e w' ⟨he, hw⟩ => ⟨_, he, rfl, hw ▸ Chg.refl _ _⟩
  · cases ss with
    | nil => exact absurd rfl h0
    | cons x r =>
      have ha : a = ⟨a.block, a.off, none⟩ := addr_lit hf (by simp) (hc 0 _ rfl)
      have call := Any.strings_Join sh_lays156 sh_Builder_Extra_156 a.block a.off cap (x :: r) sep w (fun j y hy => by
        have := hc j (.string y) (by rw [List.getElem?_map, hy]; rfl)
        rw [ha] at this
        rw [Addr.add_lit] at this
        exact this) (hf.lt _ (by simp)) hl hm.2 hj
      rw [← ha] at call
      rw [List.length_map]
      exact Ret.of Try.func40 rfl (by kernel_rfl) call fun e w' ⟨he, hw⟩ => ⟨_, he, rfl, Below.ext hw⟩

/-- impl.Join -/
theorem c_iJoin {ss : List ByteArray} {sep : ByteArray} (hj : (jn ss sep).length ≤ 140737488355328) (hl : ss.length ≤ 140737488355328) {n0 : Nat} {w : World} {v : Value} {bs : List Nat} (hk : Strs w v ss bs) (hf : Fresh n0 w bs) :
    Ret Try.prog 22 [v, .string sep] w fun r w' => r = .string ⟨(jn ss sep).toArray⟩ ∧ Ext w w' := by
  obtain ⟨ao, cap, rfl, hm, hcap⟩ := hk.form
  refine ret_of_vc ttOk Try.func22 rfl (by kernel_rfl) (by kernel_rfl) ?_
  refine (c_stringsJoin hj hl hk hf).mono ?_
  rintro r w' ⟨rfl, hx⟩
  exact ⟨rfl, hx⟩
end Go.Proofs.Ytapfcmlkcekfmaa
