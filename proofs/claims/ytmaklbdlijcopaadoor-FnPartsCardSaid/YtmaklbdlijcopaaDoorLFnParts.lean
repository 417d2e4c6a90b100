/- FnParts returns true, for all arguments. Conditions: none. -/
import Derived.Test.YtmaklbdlijcopaaDoorNumG
import Derived.Test.YtmaklbdlijcopaaDoorNumE
import Derived.Test.YtmaklbdlijcopaaDoorCard
import Derived.Test.YtmaklbdlijcopaaDoorStrJ
import Derived.Test.YtmaklbdlijcopaaDoorLFnBig
namespace Go.Proofs.YtmaklbdlijcopaaDoor
open Go.ChangeShapes Go.WideShapes Go.ChangeAt Go.RowKit Go.Shelf

theorem blk_add (a : Addr) (i : Nat) : (a.add i).block = a.block := by unfold Addr.add; split <;> rfl
theorem addr_own {w : World} {n0 : Nat} {bs : List Nat} (hf : Fresh n0 w bs) {a : Addr} {v : Value} (hb : a.block ∈ bs) (hc : w.cell? (a.add 0) = some v) : a = ⟨a.block, a.off, none⟩ := by
  obtain ⟨c0, e0, hbl⟩ := hf.blk a.block hb
  have h := (hbl.addr (a := a.add 0) (blk_add a 0) hc).1
  cases a with
  | mk b o s =>
    cases s with
    | none => rfl
    | some x => simp [Addr.add] at h
/-- strings.Join, of a slice in new memory -/
theorem c_stringsJoinN {ss : List ByteArray} {sep : ByteArray} (hj : (jn ss sep).length ≤ 140737488355328) (hl : ss.length ≤ 140737488355328) {n0 : Nat} {w : World} {v : Value} {bs : List Nat} (hk : Strs w v ss bs) (hf : Fresh n0 w bs) :
    Ret Tryd.prog 36 [v, .string sep] w fun r w' => r = .string ⟨(jn ss sep).toArray⟩ ∧ Ext w w' := by
  obtain ⟨ao, cap, rfl, hm, h⟩ := hk
  simp only [List.length_map] at hm
  rcases h with ⟨h0, rfl⟩ | ⟨a, h0, rfl, rfl, hc⟩
  · obtain rfl : ss = [] := by simpa using h0
    exact Ret.of Tryd.func36 rfl (by kernel_rfl) (Any.strings_Join_none sh_lays156 sh_Builder_Extra_156 ao cap sep w) fun e w' ⟨he, hw⟩ => ⟨_, he, rfl, hw ▸ Chg.refl _ _⟩
  · cases ss with
    | nil => exact absurd rfl h0
    | cons x r =>
      have ha : a = ⟨a.block, a.off, none⟩ := addr_own hf (by simp) (hc 0 _ rfl)
      have call := Any.strings_Join sh_lays156 sh_Builder_Extra_156 a.block a.off cap (x :: r) sep w (fun j y hy => by
        have := hc j (.string y) (by rw [List.getElem?_map, hy]; rfl)
        rw [ha] at this
        rw [Addr.add_lit] at this
        exact this) (hf.lt _ (by simp)) hl hm.2 hj
      rw [← ha] at call
      rw [List.length_map]
      exact Ret.of Tryd.func36 rfl (by kernel_rfl) call fun e w' ⟨he, hw⟩ => ⟨_, he, rfl, Below.ext hw⟩
/-- impl.Join -/
theorem c_iJoinN {ss : List ByteArray} {sep : ByteArray} (hj : (jn ss sep).length ≤ 140737488355328) (hl : ss.length ≤ 140737488355328) {n0 : Nat} {w : World} {v : Value} {bs : List Nat} (hk : Strs w v ss bs) (hf : Fresh n0 w bs) :
    Ret Tryd.prog 24 [v, .string sep] w fun r w' => r = .string ⟨(jn ss sep).toArray⟩ ∧ Ext w w' := by
  obtain ⟨ao, cap, rfl, hm, hcap⟩ := hk.form
  refine ret_of_vc ttOk Tryd.func24 rfl (by kernel_rfl) (by kernel_rfl) ?_
  refine (c_stringsJoinN hj hl hk hf).mono ?_
  rintro r w' ⟨rfl, hx⟩
  exact ⟨rfl, hx⟩

theorem fnParts_ret {W : World} {a0 : Value} (hS : W.ShapedOpen Tryd.prog) (g0 : OCode W a0) : Ret Tryd.prog 6 [a0] W fun r w' => r = .bool true ∧ Ext W w' := by
  have hM : maxLen = 9223372036854775807 := rfl
  refine ret_of_vc ttOkD Tryd.func6 rfl (by kernel_rfl) (by kernel_rfl) ?_
  refine (c_big g0).mono ?_
  rintro _ w ⟨⟨b, rfl⟩, hww⟩
  obtain rfl : W = w := hww.symm
  obtain rfl | rfl : b = true ∨ b = false := by cases b <;> simp
  · exact ⟨rfl, Chg.refl _ _⟩
  refine (c_DrawSplitByte g0).mono ?_
  rintro _ w1 ⟨⟨s, c, rfl, hs⟩, hx1⟩
  refine (c_iSplit (by omega) c (shaped_ext hS hx1)).mono ?_
  rintro r2 w2 ⟨hx2, b2, h2, f2⟩
  obtain ⟨ao2, cap2, rfl, _, _⟩ := h2.form
  refine (c_sSplit (by omega) c).mono ?_
  rintro r3 w3 ⟨hx3, b3, h3, f3⟩
  obtain ⟨ao3, cap3, rfl, _, _⟩ := h3.form
  refine (c_equalStrings (Row.ext hx3 h2) h3).mono ?_
  rintro _ w4 ⟨⟨b, rfl, hb⟩, hx4⟩
  obtain rfl : b = true := hb.2 rfl
  have hl := spB_len c s
  refine Cm.t (by show (0 : Int) < ((spB c s).length : Int); omega) ?_
  refine Go1.bs 5 [.int .u8 c.toNat] (z := .int .u8 0) (size := 1) (bytes := 1) Tryd.underlying22 (TyI.of (by kernel_rfl)) (by decide) (by decide) (by kernel_rfl) ?_
  intro w5 hx5 hb5
  refine Go1.cbs (s := ⟨#[c]⟩) Tryd.underlying22 Tryd.underlying5 Tryd.underlying9 rfl (Blk.lc0 (post := []) hb5) ?_
  have hx25 := (hx3.trans hx4).trans hx5
  have hjn : jn (spB c s) ⟨#[c]⟩ = s.data.toList := spB_join c s
  have hsl : s.data.toList.length = s.size := rfl
  refine (c_iJoinN (sep := ⟨#[c]⟩) (by rw [hjn]; omega) (by omega) (Row.ext hx25 h2) (f2.ext hx25)).mono ?_
  rintro _ w6 ⟨rfl, hx6⟩
  refine Cm.t (by rw [hjn]) ?_
  exact ⟨rfl, ((hx1.trans hx2).trans hx25).trans hx6⟩

set_option maxRecDepth 100000 in
theorem fnParts_lifted (os : Os) (started : os.Started) (H : Type) (enc : TypeId × Value → H) :
    ReturnsInHanded {} Tryd.checked os 6 .any (fun w args => (Rows.fnPartsSpec.pre enc Tryd.prog Tryd.f6 [] false w args ∧ laidMetH Tryd.prog Rows.fnPartsRow.laid w) ∧ sizedMet enc Tryd.prog Tryd.f6 (OpenSpec.ofChange Rows.fnPartsSpec) false w args)
      (Rows.fnPartsSpec.post enc Tryd.prog Tryd.f6 false true false false) := by
  refine handed_card (C := Tryd.checked) (X := fun w _ => laidMetH Tryd.prog Rows.fnPartsRow.laid w) (fun _ _ _ hh h => h.of_heap hh) Tryd.own started (by kernel_rfl) Tryd.func6
    (ChangeSpec.witness_shaped (enc := enc) (C := Tryd.checked) (os := os) (X := fun w _ => laidMetH Tryd.prog Rows.fnPartsRow.laid w) false (World.laidAll Tryd.prog os Rows.fnPartsRow.laid) #[.slice none 0 0] 8 (World.laidAll_os _ _ _)
      (World.shaped_of_ZipB (by kernel_rfl) (by kernel_rfl)) (by kernel_rfl) (by kernel_rfl) (by kernel_rfl)
      (by rw [MakeChecks.laidMetH_plain _ _ _ (by kernel_rfl)]; exact laidMet_laidAll _ (by kernel_rfl) (by kernel_rfl))) ?_
  intro W base args ds gs before hval0 hW hsh hL
  rw [MakeChecks.laidMetH_plain _ _ _ (by kernel_rfl)] at hL
  have hM : laidMet Tryd.prog Rows.fnPartsRow.laid W := hL
  have hval : ∀ (j : Nat) t v, Tryd.f6.params[j]? = some t → args[j]? = some v → Value.okWide Tryd.prog W .any base t v := hval0
  have hA0 := hW
  obtain ⟨p, q, hA1, _, _, _, _⟩ := hA0
  have hA : DataW.TrodAll enc Tryd.prog W 0 (fun _ => true) true Tryd.f6.params.toList args.toList ds p := hA1
  rw [Tryd.params6] at hA hval
  obtain ⟨v0, vs0, d0, ds0, p0, q0, hargs, rfl, rfl, h0, r0⟩ := trodAll_cons hA
  obtain ⟨rfl, rfl, rfl⟩ := trodAll_nil r0
  obtain rfl : args = #[v0] := by cases args; simp_all
  have o0 := oCode Tryd.underlying22 Tryd.underlying5 (by kernel_rfl) (hval 0 22 v0 rfl rfl) h0
  refine (Ret.calls Tryd.func6 rfl (by kernel_rfl) (fnParts_ret hsh o0)).mono ?_
  rintro e W' ⟨v, rfl, rfl, hx⟩
  exact ⟨_, rfl, law_post Tryd.laidOut (by kernel_rfl) rfl Tryd.underlying4 rfl rfl hW hx⟩

theorem fnParts_row : Rows.FnPartsSaid :=
  OpenClaim.holds_of_wide 6 Tryd.f6 rfl rfl rfl rfl rfl rfl rfl ⟨rfl, rfl, rfl, rfl, rfl⟩ rfl rfl rfl rfl rfl (by kernel_rfl) Tryd.func6 (by kernel_rfl)
    (of_decide_eq_true (by kernel_rfl)) (by unfold Func.isWrapper; first | (rw [if_pos (by decide +kernel)]; kernel_rfl) | (rw [if_neg (by decide +kernel)]; exact ⟨rfl, rfl⟩))
    (fun os started H enc _ => fnParts_lifted os started H enc)

theorem fnParts_holds : Rows.FnPartsCardSaid := by
  unfold Rows.FnPartsCardSaid Rows.fnPartsCard
  exact Claim7.holds_tied_plain_at .later [] _ true _ true fnParts_row (fun _ h => by cases h) (by kernel_rfl) (fun _ h => by cases h) fnParts_row_tie rfl ⟨rfl, rfl⟩ (by kernel_rfl) rfl
    (fun f fn hf hfn => by
      obtain rfl : f = 6 := Option.some.inj ((show Tryd.prog.funcNamed Rows.fnPartsRow.func = some 6 by kernel_rfl).symm.trans hf) |>.symm
      obtain rfl : fn = Tryd.f6 := (Option.some.inj (Tryd.func6.symm.trans hfn)).symm
      exact ⟨by kernel_rfl, fun j t ht => by
        rw [Tryd.params6] at ht
        have hm : t ∈ [22] := by simpa using Array.mem_of_getElem? ht
        have hall : ([22].all fun u => !Tryd.prog.wantsStandIn u) = true := by kernel_rfl
        exact (show Tryd.prog.wantsStandIn t = false by simpa using List.all_eq_true.1 hall t hm)⟩)
    (by kernel_rfl)
end Go.Proofs.YtmaklbdlijcopaaDoor
