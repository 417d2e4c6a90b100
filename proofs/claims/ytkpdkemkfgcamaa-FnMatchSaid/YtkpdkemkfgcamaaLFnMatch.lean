/- FnMatch returns true, for all arguments. Conditions: none. -/
import Derived.Test.YtkpdkemkfgcamaaBdP
namespace Go.Proofs.Ytkpdkemkfgcamaa
open Go.ChangeShapes Go.WideShapes Go.ChangeAt Go.RowKit

def namesB (xs : List Bi) : List ByteArray := xs.map (·.1)
theorem look_mem {s : ByteArray} : ∀ {xs : List Bi}, (∃ u, lookO s xs = some u) ↔ s ∈ namesB xs
  | [] => by simp [lookO, namesB]
  | x :: xs => by
    have ih := @look_mem s xs
    simp only [lookO, namesB, List.map_cons, List.mem_cons] at ih ⊢
    by_cases e : x.1 = s
    · rw [if_pos e]
      exact ⟨fun _ => .inl e.symm, fun _ => ⟨_, rfl⟩⟩
    · rw [if_neg e, ih]
      exact ⟨fun h => .inr h, fun h => h.elim (fun h => absurd h.symm e) id⟩
def MatchNm (ps : List Tp) : Prop := ∀ (ts : List Tp) (xs ys : List Bi), wfL ps → ps.length = ts.length → matchL ps ts xs = some ys → namesB ys = coll isV (Rose.preL ps) (namesB xs)
theorem matchT_nm {p t : Tp} (ih : MatchNm p.kids) {xs ys : List Bi} (hw : wfT p) (h : matchT p t xs = some ys) : namesB ys = coll isV (p.lab :: Rose.preL p.kids) (namesB xs) := by
  have hw' : wfT (.mk p.lab p.kids) := by rw [p.eta]; exact hw
  rw [wfT_eq] at hw'
  rw [matchT_eq] at h
  rw [coll_cons]
  by_cases h1 : p.lab.1 = 1
  · rw [if_pos h1] at h
    rw [hw'.1.1 h1, Rose.preL_nil, coll_nil]
    have hv : isV p.lab = true := by simp [isV, h1]
    cases hl : lookO p.lab.2 xs with
    | some u =>
      rw [hl] at h
      simp only at h
      by_cases e : u = t
      · rw [if_pos e] at h
        obtain rfl : xs = ys := by simpa using h
        rw [coll_f fun hh => by rw [has_t (look_mem.1 ⟨u, hl⟩)] at hh; simp at hh]
      · rw [if_neg e] at h; cases h
    | none =>
      rw [hl] at h
      obtain rfl : xs ++ [(p.lab.2, t)] = ys := by simpa using h
      rw [coll_t hv (has_f fun hm => by obtain ⟨u, hu⟩ := look_mem.2 hm; rw [hl] at hu; cases hu)]
      simp [namesB]
  · rw [if_neg h1] at h
    rw [coll_f fun hh => by simp [isV, h1] at hh]
    by_cases h2 : p.lab = t.lab ∧ p.kids.length = t.kids.length
    · rw [if_pos h2] at h
      exact ih _ _ _ hw'.2 h2.2 h
    · rw [if_neg h2] at h; cases h
theorem matchL_nm (ps : List Tp) : MatchNm ps := by
  refine Rose.forest (p := MatchNm) (fun ps ih => ?_) ps
  induction ps with
  | nil =>
    intro ts xs ys _ hl h
    cases ts with
    | nil =>
      obtain rfl : xs = ys := by simpa [matchL] using h
      rw [Rose.preL_nil, coll_nil]
    | cons t ts => simp at hl
  | cons p ps ihp =>
    intro ts xs ys hw hl h
    cases ts with
    | nil => simp at hl
    | cons t ts =>
      rw [matchL_cons] at h
      rw [wfL] at hw
      cases hm : matchT p t xs with
      | none => rw [hm] at h; cases h
      | some us =>
        rw [hm] at h
        rw [Rose.preL_cons, coll_append, ← matchT_nm (ih p List.mem_cons_self) hw.1 hm]
        exact ihp (fun q hq => ih q (List.mem_cons_of_mem _ hq)) ts us ys hw.2 (by simpa using hl) h
theorem mOne_nm {p t : Tp} {ys : List Bi} (hw : wfT p) (h : mAll [p] [t] [] = some ys) : ys.length = (coll isV (p.lab :: Rose.preL p.kids) []).length := by
  unfold mAll at h
  rw [if_pos (show [p].length = [t].length from rfl)] at h
  have := matchL_nm [p] [t] [] ys (by rw [wfL]; exact ⟨hw, by rw [wfL]; trivial⟩) rfl h
  rw [Rose.preL_cons, Rose.preL_nil, List.append_nil] at this
  have e : (namesB ys).length = ys.length := by simp [namesB]
  rw [← e, this]
  rfl

theorem fnMatch_ret {W : World} {a0 : Value} (g0 : OCode W a0) : Ret Try.prog 6 [a0] W fun r w' => r = .bool true ∧ Ext W w' := by
  have hM : maxLen = 9223372036854775807 := rfl
  obtain ⟨zs, bs, hr⟩ := g0
  refine ret_of_vc ttOkD Try.func6 rfl (by kernel_rfl) (by kernel_rfl) ?_
  refine (c_big2 hr).mono ?_
  rintro _ w ⟨⟨b, rfl, hz⟩, hww⟩
  obtain rfl : W = w := hww.symm
  obtain rfl | rfl : b = true ∨ b = false := by cases b <;> simp
  · exact ⟨rfl, Chg.refl _ _⟩
  refine (c_DrawMatch ⟨zs, bs, hr⟩).mono ?_
  rintro _ w1 ⟨hx1, p, t, vp, vt, bp, bt, rfl, hkp, hkt, hqp, hct⟩
  have hcp := hqp.1
  have hwf := hqp.2.2
  obtain ⟨ap, cp, rfl, _, _⟩ := hkp.form
  obtain ⟨ay, cy, rfl, _, _⟩ := hkt.form
  refine Go1.al tiTy ?_
  intro w2 hx2 hbp
  have lt2 := hbp.lt
  refine Go1.al tiTy ?_
  intro w3 hx3 hby
  have lt3 := hby.lt
  refine Go0.st (off := 0) (vs := [.int .i64 p.lab.1, .string p.lab.2, .slice ap p.kids.length cp]) (hbp.ext hx3) rfl rfl (by simp [Value.cells]) (by simp [Value.oneCell']) ?_
  intro w4 hc4 hbp _
  have hbp : Blk w4 w1.heap.size 40 [.int .i64 p.lab.1, .string p.lab.2, .slice ap p.kids.length cp] := hbp
  refine Go0.st (off := 0) (vs := [.int .i64 t.lab.1, .string t.lab.2, .slice ay t.kids.length cy]) (hby.chg hc4 (by omega)) rfl rfl (by simp [Value.cells]) (by simp [Value.oneCell']) ?_
  intro w5 hc5 hby _
  have hby : Blk w5 w2.heap.size 40 [.int .i64 t.lab.1, .string t.lab.2, .slice ay t.kids.length cy] := hby
  have hbp := hbp.chg hc5 (by omega)
  have sz2 := hx2.size
  have hx15 : Ext w1 w5 := ((hx2.trans hx3).chg hc4 (by omega)).chg hc5 (fun x hx => by omega)
  have hkp := hkp.ext hx15
  have hkt := hkt.ext hx15
  have hx5 := hx1.trans hx15
  have hldp := fun (u : World) (hu : Ext w5 u) => Blk.lc0 (post := []) (xs := [.int .i64 p.lab.1, .string p.lab.2, .slice ap p.kids.length cp]) (hbp.ext hu)
  have hldt := fun (u : World) (hu : Ext w5 u) => Blk.lc0 (post := []) (xs := [.int .i64 t.lab.1, .string t.lab.2, .slice ay t.kids.length cy]) (hby.ext hu)
  refine Ld.agg (vs := [.int .i64 p.lab.1, .string p.lab.2, .slice ap p.kids.length cp]) (hldp w5 (Chg.refl _ _)) ?_
  refine Ld.agg (vs := [.int .i64 t.lab.1, .string t.lab.2, .slice ay t.kids.length cy]) (hldt w5 (Chg.refl _ _)) ?_
  refine (c_iMatch (by omega) hkp hkt).mono ?_
  rintro _ w6 ⟨hx6, r1, b1, rfl, hb1, _⟩
  refine Ld.agg (vs := [.int .i64 p.lab.1, .string p.lab.2, .slice ap p.kids.length cp]) (hldp w6 hx6) ?_
  refine Ld.agg (vs := [.int .i64 t.lab.1, .string t.lab.2, .slice ay t.kids.length cy]) (hldt w6 hx6) ?_
  refine (c_sMatch (by omega) (hkp.ext hx6) (hkt.ext hx6)).mono ?_
  rintro _ w7 ⟨hx7, r2, b2, rfl, hb2, _⟩
  have hx57 := hx6.trans hx7
  refine Cm.nf rfl ?_
  refine (c_sEqualBindings (hb1.ext hx7) hb2).mono ?_
  rintro _ w8 ⟨⟨b, rfl, hb⟩, hx8⟩
  obtain rfl : b = true := hb.2 rfl
  have hx58 := hx57.trans hx8
  refine Ld.agg (vs := [.int .i64 p.lab.1, .string p.lab.2, .slice ap p.kids.length cp]) (hldp w8 hx58) ?_
  refine Ld.agg (vs := [.int .i64 t.lab.1, .string t.lab.2, .slice ay t.kids.length cy]) (hldt w8 hx58) ?_
  refine (c_iMatches (by omega) (hkp.ext hx58) (hkt.ext hx58)).mono ?_
  rintro _ w9 ⟨rfl, hx9⟩
  have hx59 := hx58.trans hx9
  refine Cm.nf rfl ?_
  rw [p.eta, t.eta] at *
  have hcn := @mAll_cnt [p] [t]
  have hb19 := hb1.ext ((hx7.trans hx8).trans hx9)
  have ht1 : Rose.cnt [t] = 1 + Rose.cnt t.kids := by rw [cnt_two, cntZ]; rfl
  cases hm : mAll [p] [t] [] with
  | none =>
    rw [hm] at hb19
    obtain ⟨ax, cx, rfl, _, _⟩ := hb19.form
    refine Cm.t rfl ?_
    exact ⟨rfl, hx5.trans hx59⟩
  | some ys =>
    rw [hm] at hb19 hcn
    simp only [Option.getD_some] at hb19 hcn
    obtain ⟨ax, cx, rfl, _, _⟩ := hb19.form
    have hld9 := fun (u : World) (hu : Ext w9 u) => hldp u (hx59.trans hu)
    refine Dr.x [0, 1, 3, 2, 4, 5, 6, 7, 8, 9, 10, 11, 12, 13] ttOkD ?_
    refine LdS.xn (vs := [.int .i64 p.lab.1, .string p.lab.2, .slice ap p.kids.length cp]) (hldp w9 hx59) ?_
    refine LdS.xn (vs := [.int .i64 t.lab.1, .string t.lab.2, .slice ay t.kids.length cy]) (hldt w9 hx59) ?_
    refine ⟨fun u1 hu1 => ?_⟩
    refine (c_iApply (by omega) (by omega) (hb19.ext hu1) (hkp.ext (hx59.trans hu1))).mono ?_
    rintro _ u2 ⟨hu2, v2, d2, rfl, hk2, _⟩
    have hap : apT ys p = t := by
      have := mAll_ap hm
      rw [apL_cons] at this
      exact (List.cons.inj this).1
    rw [p.eta, hap] at hk2 ⊢
    obtain ⟨a2, c2, rfl, _, _⟩ := hk2.form
    refine Af.ext (hu1.trans hu2) ?_
    refine ⟨fun u3 hu3 => ?_⟩
    have h9u := (hu1.trans hu2).trans hu3
    refine (c_iEqualType (hk2.ext hu3) (hkt.ext (hx59.trans h9u))).mono ?_
    rintro _ u4 ⟨⟨b, rfl, hb⟩, hu4⟩
    obtain rfl : b = true := hb.2 ⟨rfl, rfl⟩
    have h94 := h9u.trans hu4
    refine Af.ext (hu3.trans hu4) ?_
    refine LdS.xn (vs := [.int .i64 p.lab.1, .string p.lab.2, .slice ap p.kids.length cp]) (hld9 u4 h94) ?_
    refine ⟨fun u5 hu5 => ?_⟩
    refine (c_iTypeVariables (by omega) (hkp.ext ((hx59.trans h94).trans hu5))).mono ?_
    rintro va u6 ⟨hu6, da, ha6, hf6⟩
    obtain ⟨av, cv, rfl, _, _⟩ := ha6.form
    refine Af.ext (hu5.trans hu6) ?_
    have hlen := mOne_nm hwf hm
    refine Cm.t (by rw [hlen]) ?_
    intro u7 hu7
    exact ⟨rfl, hx5.trans (((hx59.trans h94).trans (hu5.trans hu6)).trans hu7)⟩

set_option maxRecDepth 100000 in
theorem fnMatch_lifted (os : Os) (started : os.Started) (H : Type) (enc : TypeId × Value → H) :
    ReturnsInHanded {} Try.checked os 6 .any (Rows.fnMatchSpec.pre6 enc Try.prog Try.f6 Rows.fnMatchRow.domain false) (Rows.fnMatchSpec.post enc Try.prog Try.f6 false true false false) := by
  refine returnsInHanded_of_change (C := Try.checked) Try.own started (by kernel_rfl) Try.func6
    (ChangeSpec.witness6 (enc := enc) (C := Try.checked) false ⟨#[], #[.slice none 0 0], []⟩ 8 (by kernel_rfl) (by kernel_rfl) (by kernel_rfl) (by kernel_rfl)) ?_
  intro W base args ds gs before hval0 hW _ _
  have hval : ∀ (j : Nat) t v, Try.f6.params[j]? = some t → args[j]? = some v → Value.okWide Try.prog W .any base t v := hval0
  have hA0 := hW
  obtain ⟨p, q, hA1, _, _, _, _⟩ := hA0
  have hA : DataW.TrodAll enc Try.prog W 0 (fun _ => true) true Try.f6.params.toList args.toList ds p := hA1
  rw [Try.params6] at hA hval
  obtain ⟨v0, vs0, d0, ds0, p0, q0, hargs, rfl, rfl, h0, r0⟩ := trodAll_cons hA
  obtain ⟨rfl, rfl, rfl⟩ := trodAll_nil r0
  obtain rfl : args = #[v0] := by cases args; simp_all
  have o0 := oCode Try.underlying46 Try.underlying5 (by kernel_rfl) (hval 0 46 v0 rfl rfl) h0
  refine (Ret.calls Try.func6 rfl (by kernel_rfl) (fnMatch_ret o0)).mono ?_
  rintro e W' ⟨v, rfl, rfl, hx⟩
  exact ⟨_, rfl, law_post Try.laidOut (by kernel_rfl) rfl Try.underlying4 rfl rfl hW hx⟩

theorem fnMatch_holds : Rows.FnMatchSaid :=
  OpenClaim.holds_of_wide 6 Try.f6 rfl rfl rfl rfl rfl rfl rfl ⟨rfl, rfl, rfl, rfl, rfl⟩ rfl rfl rfl rfl rfl (by kernel_rfl) Try.func6 (by kernel_rfl)
    (of_decide_eq_true (by kernel_rfl)) (by unfold Func.isWrapper; first | (rw [if_pos (by decide +kernel)]; kernel_rfl) | (rw [if_neg (by decide +kernel)]; exact ⟨rfl, rfl⟩))
    (fun os started H enc _ => fnMatch_lifted os started H enc)
end Go.Proofs.Ytkpdkemkfgcamaa
