/- Contracts: the laws' looks at marks on bindings. Conditions: none. -/
import Derived.Test.YtmecmdnnhldjpaaDoorBdD
namespace Go.Proofs.YtmecmdnnhldjpaaDoor
open Go.RowKit

/-- laws.heldBindingS -/
theorem c_heldBindingS {xs : List Bi} {w : World} {v : Value} {bs : List Nat} {k : Nat} (hk : Bds w v (mkBL k xs) bs) (hs : k + markB xs ≤ 1152921504606846975) :
    Ret Tryd.prog 16 [v, .int .i64 k] w fun r w' => r = .int .i64 (k + markB xs : Nat) ∧ Ext w w' := by
  obtain ⟨ao, cap, rfl, hm, hcap⟩ := hk.form
  rw [mkBL_length] at hm hcap hk
  have hM : maxLen = 9223372036854775807 := rfl
  rw [mkBL_length]
  refine ret_of_vc ttOkB Tryd.func16 rfl (by kernel_rfl) (by kernel_rfl) ?_
  refine Lp.go ttOkB (by kernel_rfl) (fun i : Nat => [(0, .slice ao xs.length cap), (1, .int .i64 (k + markB (xs.take i) : Nat)), (5, .int .i64 i)])
    (fun i w' => Ext w w' ∧ i ≤ xs.length) (fun i => xs.length - i) 0
    ⟨rfl, rfl, rfl, trivial⟩ ⟨Chg.refl _ _, Nat.zero_le _⟩ ?_
  rintro i w1 ⟨hx1, hi⟩
  refine Cm.s (fun hlt => ?_) (fun hge => ?_)
  · have hlt : i < xs.length := by omega
    obtain ⟨t, ht⟩ : ∃ t, xs[i]? = some t := ⟨xs[i], List.getElem?_eq_getElem hlt⟩
    have hct := markB_take_le ht
    have hck := markB_take ht
    obtain ⟨a, t', v1, b1, rfl, ht', hc, hkt, _⟩ := (hk.ext hx1).get hlt
    rw [mkBL_get ht] at ht'
    obtain rfl := Option.some.inj ht'
    simp only [encB, Rose.lab, Rose.kids] at hc hkt
    generalize hKe : k + markB (xs.take i) = kk at hc hkt
    -- the variable
    refine Dr.x [0, 1, 2, 3, 4, 5, 6, 7] ttOkB ?_
    refine GoS.ix 4 hlt (GoS.fl 0 (LdS.x1 (hc 0 _ rfl) ?_))
    refine ⟨fun w2 hx2 => ?_⟩
    refine (c_markText kk (by omega)).mono ?_
    rintro r w3 ⟨rfl, hx3⟩
    refine Af.ext (hx2.trans hx3) ?_
    refine Cm.v (c := false) (by simp) ?_
    intro w4 hx4
    have hx14 := (hx2.trans hx3).trans hx4
    refine Wr.n (kk + 1) (by omega) (by omega) ?_
    -- the kind
    have hc4 : Lc w4 (a.add (i * 4)) _ := hc.chg hx14 (.inr id)
    have h1 : w4.cell? (((a.add (i * 4)).add 1).add 0) = some (.int .i64 (kk + 1 : Nat)) := by rw [Go.Deep.add_add (a.add (i * 4)) 1 0]; exact hc4 1 _ rfl
    have h2 : w4.cell? (((a.add (i * 4)).add 1).add 1) = some (.string (mt (kk + 2))) := by rw [Go.Deep.add_add (a.add (i * 4)) 1 1]; exact hc4 2 _ rfl
    have h3 : w4.cell? (((a.add (i * 4)).add 1).add 2) = some v1 := by rw [Go.Deep.add_add (a.add (i * 4)) 1 2]; exact hc4 3 _ rfl
    refine Go1.ix 4 hlt (Go1.fl 1 (Go1.fl 0 (Ld.one h1 ?_)))
    refine Cm.v (c := false) (by simp) ?_
    refine Wr.n (kk + 2) (by omega) (by omega) ?_
    -- the name
    refine Dr.x [0, 1, 2, 3, 4, 5, 6, 7, 8] ttOkB ?_
    refine GoS.ix 4 hlt (GoS.fl 1 (GoS.fl 1 (LdS.x1 h2 ?_)))
    refine ⟨fun w5 hx5 => ?_⟩
    refine (c_markText (kk + 2) (by omega)).mono ?_
    rintro r w6 ⟨rfl, hx6⟩
    refine Af.ext (hx5.trans hx6) ?_
    refine Cm.v (c := false) (by simp) ?_
    intro w7 hx7
    have hx47 := (hx5.trans hx6).trans hx7
    refine Wr.n (kk + 3) (by omega) (by omega) ?_
    refine Go1.ix 4 hlt (Go1.fl 1 (Go1.fl 2 (Ld.one (hx47.cell h3) ?_)))
    refine (c_heldTypeS t.2.kids w7 v1 b1 (kk + 3) (hkt.ext (hx14.trans hx47)) (by omega)).mono ?_
    rintro r w8 ⟨rfl, hx8⟩
    refine Cm.f (by omega) ?_
    refine Wr.n (i + 1) (by omega) (by omega) ?_
    refine ⟨i + 1, ⟨rfl, ?_, rfl, trivial⟩, ⟨((hx1.trans hx14).trans hx47).trans hx8, hlt⟩, by omega⟩
    show some (Value.int .i64 _) = some (Value.int .i64 _)
    rw [show kk + 3 + 2 * Rose.cnt t.2.kids = k + markB (xs.take (i + 1)) by omega]
  · have : i = xs.length := by omega
    subst this
    refine ⟨?_, hx1⟩
    rw [List.take_length]
end Go.Proofs.YtmecmdnnhldjpaaDoor
