/- FnUnion returns true, for all arguments. Conditions: none. -/
import Derived.Test.YtapfcmlkcekfmaaStrI
import Derived.Test.YtapfcmlkcekfmaaStrF
namespace Go.Proofs.Ytapfcmlkcekfmaa
open Go.ChangeShapes Go.WideShapes Go.ChangeAt Go.RowKit

theorem uni_nodup (xs : List ByteArray) : ∀ out : List ByteArray, out.Nodup → (uni out xs).Nodup := by
  induction xs with
  | nil => intro out h; exact h
  | cons x xs ih =>
    intro out h
    show (uni (if has out x then out else out ++ [x]) xs).Nodup
    refine ih _ ?_
    by_cases hm : x ∈ out
    · rw [has_t hm]; exact h
    · rw [has_f hm]
      exact List.nodup_append.2 ⟨h, by simp, fun a ha b hb e => hm (by
        obtain rfl : b = x := by simpa using hb
        exact e ▸ ha)⟩
theorem uni_sub (xs : List ByteArray) : ∀ (out : List ByteArray) (y : ByteArray), y ∈ out ∨ y ∈ xs → y ∈ uni out xs := by
  induction xs with
  | nil => intro out y h; exact h.elim id fun h => by simp at h
  | cons x xs ih =>
    intro out y h
    show y ∈ uni (if has out x then out else out ++ [x]) xs
    refine ih _ y ?_
    by_cases hm : x ∈ out
    · rw [has_t hm]
      rcases h with h | h
      · exact .inl h
      · rcases List.mem_cons.1 h with rfl | h
        · exact .inl hm
        · exact .inr h
    · rw [has_f hm]
      rcases h with h | h
      · exact .inl (List.mem_append_left _ h)
      · rcases List.mem_cons.1 h with rfl | h
        · exact .inl (by simp)
        · exact .inr h

/-- laws.big -/
theorem c_big {w : World} {v : Value} (hv : OCode w v) : Ret Try.prog 16 [v] w fun r w' => (∃ b, r = .bool b) ∧ w' = w := by
  obtain ⟨zs, bs, hr⟩ := hv
  obtain ⟨ao, cap, rfl, hm, hcap⟩ := hr.form
  refine ret_of_vc ttOkD Try.func16 rfl (by kernel_rfl) (by kernel_rfl) ?_
  exact Cm.s (fun _ => ⟨⟨_, rfl⟩, rfl⟩) (fun _ => ⟨⟨_, rfl⟩, rfl⟩)

/-- laws.equalStrings -/
theorem c_equalStrings {ss tt : List ByteArray} {w : World} {v u : Value} {bs cs : List Nat} (hk : Strs w v ss bs) (gk : Strs w u tt cs) :
    Ret Try.prog 29 [v, u] w fun r w' => (∃ b, r = .bool b ∧ (b = true ↔ ss = tt)) ∧ Ext w w' := by
  obtain ⟨ao, cap, rfl, hm, hcap⟩ := hk.form
  obtain ⟨ao2, cap2, rfl, hm2, hcap2⟩ := gk.form
  have hM : maxLen = 9223372036854775807 := rfl
  refine ret_of_vc ttOkD Try.func29 rfl (by kernel_rfl) (by kernel_rfl) ?_
  refine Cm.ns (fun hne => ⟨⟨false, rfl, by simp; intro e; exact hne (by rw [e])⟩, Chg.refl _ _⟩) (fun he => ?_)
  have he : ss.length = tt.length := by omega
  refine Lp.go ttOkD (by kernel_rfl) (fun k : Nat => [(0, .slice ao ss.length cap), (1, .slice ao2 tt.length cap2), (5, .int .i64 k)]) (fun k w' => Ext w w' ∧ k ≤ ss.length ∧ ss.take k = tt.take k) (fun k => ss.length - k) 0
    ⟨rfl, rfl, rfl, trivial⟩ ⟨Chg.refl _ _, Nat.zero_le _, rfl⟩ ?_
  rintro k w1 ⟨hx, hk1, hn⟩
  refine Cm.s (fun hlt => ?_) (fun hge => ?_)
  · have hlt : k < ss.length := by omega
    have hlt2 : k < tt.length := by omega
    obtain ⟨a, rfl, hc⟩ := hk.get hlt
    obtain ⟨a2, rfl, hc2⟩ := gk.get hlt2
    have ht := List.getElem?_eq_getElem hlt
    have ht2 := List.getElem?_eq_getElem hlt2
    refine Dr.x [0, 1, 2, 3, 4, 5, 6, 7, 8] ttOkD ?_
    refine GoS.ix 1 hlt (LdS.x1 (hx.cell hc) ?_)
    refine GoS.ix 1 hlt2 (LdS.x1 (hx.cell hc2) ?_)
    refine Cm.ns (fun hne => ?_) (fun hee => ?_)
    · intro w2 hx2
      refine ⟨⟨false, rfl, ?_⟩, hx.trans hx2⟩
      simp only [Bool.false_eq_true, false_iff]
      rintro rfl
      exact hne rfl
    · intro w2 hx2
      refine Wr.n (k + 1) (by omega) (by omega) ?_
      refine ⟨k + 1, ⟨rfl, rfl, rfl, trivial⟩, ⟨hx.trans hx2, hlt, ?_⟩, by omega⟩
      rw [take_succ_get ht, take_succ_get ht2, hn, hee]
  · have : k = ss.length := by omega
    subst this
    rw [List.take_length, he, List.take_length] at hn
    exact ⟨⟨true, rfl, by simp [hn]⟩, hx⟩

/-- laws.contains -/
theorem c_contains {ss : List ByteArray} {w : World} {v : Value} {bs : List Nat} (hk : Strs w v ss bs) (s : ByteArray) :
    Ret Try.prog 31 [v, .string s] w fun r w' => r = .bool (has ss s) ∧ Ext w w' := by
  obtain ⟨ao, cap, rfl, hm, hcap⟩ := hk.form
  refine ret_of_vc ttOkD Try.func31 rfl (by kernel_rfl) (by kernel_rfl) ?_
  refine (c_sIndexOf hk s).mono ?_
  rintro r w1 ⟨rfl, hw⟩
  have hm := @idx_mem s ss 0
  refine Cm.s (fun h => ⟨by rw [has_t (hm.1 h)], ?_⟩) (fun h => ⟨by rw [has_f fun e => h (hm.2 e)], ?_⟩)
  all_goals first | exact hw ▸ Chg.refl _ _ | exact hw

theorem fnUnion_ret {W : World} {a0 : Value} (g0 : OCode W a0) : Ret Try.prog 8 [a0] W fun r w' => r = .bool true ∧ Ext W w' := by
  have hM : maxLen = 9223372036854775807 := rfl
  refine ret_of_vc ttOkD Try.func8 rfl (by kernel_rfl) (by kernel_rfl) ?_
  refine (c_big g0).mono ?_
  rintro _ w ⟨⟨b, rfl⟩, hww⟩
  obtain rfl : W = w := hww.symm
  obtain rfl | rfl : b = true ∨ b = false := by cases b <;> simp
  · exact ⟨rfl, Chg.refl _ _⟩
  refine (c_DrawUnion g0).mono ?_
  rintro _ w1 ⟨hx1, va, vb, ss, tt, bs, cs, rfl, hs, ht, hl, hlt⟩
  refine (c_iUnion (by omega) (by omega) hs ht).mono ?_
  rintro vu w2 ⟨hx2, us, hu, hfu⟩
  have hx12 := hx1.trans hx2
  refine (c_sUnion (by omega) (by omega) (Row.ext hx2 hs) (Row.ext hx2 ht)).mono ?_
  rintro vw w3 ⟨hx3, ws, hw, hfw⟩
  refine (c_equalStrings (Row.ext hx3 hu) hw).mono ?_
  rintro _ w4 ⟨⟨b, rfl, hb⟩, hx4⟩
  obtain rfl : b = true := hb.2 rfl
  have hx24 := hx3.trans hx4
  refine (c_iAllDistinct (Row.ext hx24 hu)).mono ?_
  rintro _ w5 ⟨⟨b, rfl, hb⟩, hx5⟩
  obtain rfl : b = true := hb.2 (uni_nodup _ _ List.nodup_nil)
  have hx25 := hx24.trans hx5
  obtain ⟨aoa, capa, rfl, hma, _⟩ := hs.form
  obtain ⟨aob, capb, rfl, hmb, _⟩ := ht.form
  obtain ⟨aou, capu, rfl, hmu, _⟩ := hu.form
  have hul := uni_length (ss ++ tt) []
  simp only [List.length_nil, List.length_append] at hul
  refine Lp.go ttOkD (by kernel_rfl) (fun k : Nat => [(3, .slice aoa ss.length capa), (4, .slice aob tt.length capb), (5, .slice aou (uni [] (ss ++ tt)).length capu), (6, .int .i64 k)]) (fun k w' => Ext w2 w' ∧ k ≤ ss.length) (fun k => ss.length - k) 0
    ⟨rfl, rfl, rfl, rfl, trivial⟩ ⟨hx25, Nat.zero_le _⟩ ?_
  rintro k w6 ⟨hx6, hk⟩
  refine Cm.s (fun hlt1 => ?_) (fun hge => ?_)
  · have hlt1 : k < ss.length := by omega
    obtain ⟨a, rfl, hc⟩ := (Strs.get (Row.ext (hx2.trans hx6) hs) hlt1)
    refine Go1.ix 1 hlt1 (Ld.one hc ?_)
    refine (c_contains (Row.ext hx6 hu) _).mono ?_
    rintro _ w7 ⟨rfl, hx7⟩
    have hmem : ss[k] ∈ uni [] (ss ++ tt) := uni_sub _ _ _ (.inr (List.mem_append_left _ (List.getElem_mem hlt1)))
    rw [has_t hmem]
    refine Wr.n (k + 1) (by omega) (by omega) ?_
    exact ⟨k + 1, ⟨rfl, rfl, rfl, rfl, trivial⟩, ⟨hx6.trans hx7, hlt1⟩, by omega⟩
  · refine Lp.go ttOkD (by kernel_rfl) (fun k : Nat => [(3, .slice aoa ss.length capa), (4, .slice aob tt.length capb), (5, .slice aou (uni [] (ss ++ tt)).length capu), (7, .int .i64 k)]) (fun k w' => Ext w2 w' ∧ k ≤ tt.length) (fun k => tt.length - k) 0
      ⟨rfl, rfl, rfl, rfl, trivial⟩ ⟨hx6, Nat.zero_le _⟩ ?_
    rintro j w6 ⟨hx6, hj⟩
    refine Cm.s (fun hlt1 => ?_) (fun hge => ?_)
    · have hlt1 : j < tt.length := by omega
      obtain ⟨a, rfl, hc⟩ := (Strs.get (Row.ext (hx2.trans hx6) ht) hlt1)
      refine Go1.ix 1 hlt1 (Ld.one hc ?_)
      refine (c_iIndexOf (Row.ext hx6 hu) _).mono ?_
      rintro _ w7 ⟨rfl, hx7⟩
      have hmem : tt[j] ∈ uni [] (ss ++ tt) := uni_sub _ _ _ (.inr (List.mem_append_right _ (List.getElem_mem hlt1)))
      refine Cm.f (by have := (@idx_mem tt[j] (uni [] (ss ++ tt)) 0).2 hmem; omega) ?_
      refine Wr.n (j + 1) (by omega) (by omega) ?_
      refine ⟨j + 1, ⟨rfl, rfl, rfl, rfl, trivial⟩, ⟨?_, hlt1⟩, by omega⟩
      first
        | exact hx6.trans hx7
        | exact hx7 ▸ hx6
    · refine Wr.n (ss.length + tt.length) (by omega) (by omega) ?_
      refine Cm.t (by omega) ?_
      exact ⟨rfl, hx12.trans hx6⟩

set_option maxRecDepth 100000 in
theorem fnUnion_lifted (os : Os) (started : os.Started) (H : Type) (enc : TypeId × Value → H) :
    ReturnsInHanded {} Try.checked os 8 .any (Rows.fnUnionSpec.pre6 enc Try.prog Try.f8 Rows.fnUnionRow.domain false) (Rows.fnUnionSpec.post enc Try.prog Try.f8 false true false false) := by
  refine returnsInHanded_of_change (C := Try.checked) Try.own started (by kernel_rfl) Try.func8
    (ChangeSpec.witness6 (enc := enc) (C := Try.checked) false ⟨#[], #[.slice none 0 0], []⟩ 8 (by kernel_rfl) (by kernel_rfl) (by kernel_rfl) (by kernel_rfl)) ?_
  intro W base args ds gs before hval0 hW _ _
  have hval : ∀ (j : Nat) t v, Try.f8.params[j]? = some t → args[j]? = some v → Value.okWide Try.prog W .any base t v := hval0
  have hA0 := hW
  obtain ⟨p, q, hA1, _, _, _, _⟩ := hA0
  have hA : DataW.TrodAll enc Try.prog W 0 (fun _ => true) true Try.f8.params.toList args.toList ds p := hA1
  rw [Try.params8] at hA hval
  obtain ⟨v0, vs0, d0, ds0, p0, q0, hargs, rfl, rfl, h0, r0⟩ := trodAll_cons hA
  obtain ⟨rfl, rfl, rfl⟩ := trodAll_nil r0
  obtain rfl : args = #[v0] := by cases args; simp_all
  have o0 := oCode Try.underlying34 Try.underlying5 (by kernel_rfl) (hval 0 34 v0 rfl rfl) h0
  refine (Ret.calls Try.func8 rfl (by kernel_rfl) (fnUnion_ret o0)).mono ?_
  rintro e W' ⟨v, rfl, rfl, hx⟩
  exact ⟨_, rfl, law_post Try.laidOut (by kernel_rfl) rfl Try.underlying4 rfl rfl hW hx⟩

theorem fnUnion_holds : Rows.FnUnionSaid :=
  OpenClaim.holds_of_wide 8 Try.f8 rfl rfl rfl rfl rfl rfl rfl ⟨rfl, rfl, rfl, rfl, rfl⟩ rfl rfl rfl rfl rfl (by kernel_rfl) Try.func8 (by kernel_rfl)
    (of_decide_eq_true (by kernel_rfl)) (by unfold Func.isWrapper; first | (rw [if_pos (by decide +kernel)]; kernel_rfl) | (rw [if_neg (by decide +kernel)]; exact ⟨rfl, rfl⟩))
    (fun os started H enc _ => fnUnion_lifted os started H enc)
end Go.Proofs.Ytapfcmlkcekfmaa
