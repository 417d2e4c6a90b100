/- Contracts: the laws' looks at marks on bindings; Matching: what it answers. Lists of bindings that a call appends to. Conditions: none. -/
import Derived.Test.YtkpdkemkfgcamaaBdD
namespace Go.Proofs.Ytkpdkemkfgcamaa
open Go.RowKit

/-- laws.heldBindingS -/
theorem c_heldBindingS {xs : List Bi} {w : World} {v : Value} {bs : List Nat} {k : Nat} (hk : Bds w v (mkBL k xs) bs) (hs : k + markB xs ≤ 1152921504606846975) :
    Ret Try.prog 45 [v, .int .i64 k] w fun r w' => r = .int .i64 (k + markB xs : Nat) ∧ Ext w w' := by
  obtain ⟨ao, cap, rfl, hm, hcap⟩ := hk.form
  rw [mkBL_length] at hm hcap hk
  have hM : maxLen = 9223372036854775807 := rfl
  rw [mkBL_length]
  refine ret_of_vc ttOkB Try.func45 rfl (by kernel_rfl) (by kernel_rfl) ?_
  refine Lp.go ttOkB (by kernel_rfl) (fun i : Nat => [(0, .slice ao xs.length cap), (1, .int .i64 (k + markB (xs.take i) : Nat)), (5, .int .i64 i)])
    (fun i w' => Ext w w' ∧ i ≤ xs.length) (fun i => xs.length - i) 0
    ⟨rfl, rfl, rfl, trivial⟩ ⟨Chg.refl _ _, Nat.zero_le _⟩ ?_
  rintro i w1 ⟨hx1, hi⟩
  refine Cm.s (fun hlt => ?_) (fun hge => ?_)
  · have hlt : i < xs.length := by omega
    obtain ⟨t, ht⟩ : ∃ t, xs[i]? = some t := ⟨xs[i], List.getElem?_eq_getElem hlt⟩
    have hct := markB_take_le ht
    have hck := markB_take ht
    obtain ⟨a, t', v1, b1, rfl, ht', hc, hkt, _⟩ := (hk.ext hx1).get hlt
    rw [mkBL_get ht] at ht'
    obtain rfl := Option.some.inj ht'
    simp only [encB, Rose.lab, Rose.kids] at hc hkt
    generalize hKe : k + markB (xs.take i) = kk at hc hkt
    -- the variable
    refine Dr.x [0, 1, 2, 3, 4, 5, 6, 7] ttOkB ?_
    refine GoS.ix 4 hlt (GoS.fl 0 (LdS.x1 (hc 0 _ rfl) ?_))
    refine ⟨fun w2 hx2 => ?_⟩
    refine (c_markText kk (by omega)).mono ?_
    rintro r w3 ⟨rfl, hx3⟩
    refine Af.ext (hx2.trans hx3) ?_
    refine Cm.v (c := false) (by simp) ?_
    intro w4 hx4
    have hx14 := (hx2.trans hx3).trans hx4
    refine Wr.n (kk + 1) (by omega) (by omega) ?_
    -- the kind
    have hc4 : Lc w4 (a.add (i * 4)) _ := hc.chg hx14 (.inr id)
    have h1 : w4.cell? (((a.add (i * 4)).add 1).add 0) = some (.int .i64 (kk + 1 : Nat)) := by rw [Go.Deep.add_add (a.add (i * 4)) 1 0]; exact hc4 1 _ rfl
    have h2 : w4.cell? (((a.add (i * 4)).add 1).add 1) = some (.string (mt (kk + 2))) := by rw [Go.Deep.add_add (a.add (i * 4)) 1 1]; exact hc4 2 _ rfl
    have h3 : w4.cell? (((a.add (i * 4)).add 1).add 2) = some v1 := by rw [Go.Deep.add_add (a.add (i * 4)) 1 2]; exact hc4 3 _ rfl
    refine Go1.ix 4 hlt (Go1.fl 1 (Go1.fl 0 (Ld.one h1 ?_)))
    refine Cm.v (c := false) (by simp) ?_
    refine Wr.n (kk + 2) (by omega) (by omega) ?_
    -- the name
    refine Dr.x [0, 1, 2, 3, 4, 5, 6, 7, 8] ttOkB ?_
    refine GoS.ix 4 hlt (GoS.fl 1 (GoS.fl 1 (LdS.x1 h2 ?_)))
    refine ⟨fun w5 hx5 => ?_⟩
    refine (c_markText (kk + 2) (by omega)).mono ?_
    rintro r w6 ⟨rfl, hx6⟩
    refine Af.ext (hx5.trans hx6) ?_
    refine Cm.v (c := false) (by simp) ?_
    intro w7 hx7
    have hx47 := (hx5.trans hx6).trans hx7
    refine Wr.n (kk + 3) (by omega) (by omega) ?_
    refine Go1.ix 4 hlt (Go1.fl 1 (Go1.fl 2 (Ld.one (hx47.cell h3) ?_)))
    refine (c_heldTypeS t.2.kids w7 v1 b1 (kk + 3) (hkt.ext (hx14.trans hx47)) (by omega)).mono ?_
    rintro r w8 ⟨rfl, hx8⟩
    refine Cm.f (by omega) ?_
    refine Wr.n (i + 1) (by omega) (by omega) ?_
    refine ⟨i + 1, ⟨rfl, ?_, rfl, trivial⟩, ⟨((hx1.trans hx14).trans hx47).trans hx8, hlt⟩, by omega⟩
    show some (Value.int .i64 _) = some (Value.int .i64 _)
    rw [show kk + 3 + 2 * Rose.cnt t.2.kids = k + markB (xs.take (i + 1)) by omega]
  · have : i = xs.length := by omega
    subst this
    refine ⟨?_, hx1⟩
    rw [List.take_length]
end Go.Proofs.Ytkpdkemkfgcamaa

namespace Go.Proofs.Ytkpdkemkfgcamaa
open Go.RowKit

/-- Bindings in a slice that the call appends to. -/
def GrowB (n0 : Nat) (w : World) (r : Value) (xs : List Bi) (O cs : List Nat) : Prop :=
  ∃ vs, Grow w 72 4 r xs.length (flB xs vs) O ∧ BdL w vs xs cs ∧ Fresh n0 w (O ++ cs)

theorem GrowB.chg {M : Nat → Prop} {n0 : Nat} {w w' : World} {r : Value} {xs : List Bi} {O cs : List Nat} (h : Chg M w w') (hn : ∀ b ∈ O ++ cs, ¬ M b) (hg : GrowB n0 w r xs O cs) : GrowB n0 w' r xs O cs := by
  obtain ⟨vs, h1, h2, h3⟩ := hg
  exact ⟨vs, h1.chg h fun b hb => hn b (List.mem_append_left _ hb), h2.chg h fun b hb => hn b (List.mem_append_right _ hb), h3.chg h hn⟩
theorem GrowB.ext {n0 : Nat} {w w' : World} {r : Value} {xs : List Bi} {O cs : List Nat} (h : Ext w w') (hg : GrowB n0 w r xs O cs) : GrowB n0 w' r xs O cs := hg.chg h fun _ _ => id
theorem GrowB.lt {n0 : Nat} {w : World} {r : Value} {xs : List Bi} {O cs : List Nat} (hg : GrowB n0 w r xs O cs) : ∀ b ∈ O ++ cs, b < w.heap.size := by
  obtain ⟨vs, _, _, h3⟩ := hg
  exact h3.lt

/-- They read as bindings. -/
theorem GrowB.bds {n0 : Nat} {w : World} {r : Value} {xs : List Bi} {O cs : List Nat} (hg : GrowB n0 w r xs O cs) (hm : xs.length ≤ maxLen) : ∃ bs, Bds w r xs bs ∧ bs.Sublist (O ++ cs) := by
  obtain ⟨vs, ⟨_, ⟨rfl, h0, rfl⟩ | ⟨g, cap, rest, rfl, rfl, hb, hc, _⟩⟩, h2, _⟩ := hg
  · obtain rfl : xs = [] := List.eq_nil_of_length_eq_zero h0
    exact ⟨[], Bds.nil, by simp⟩
  · exact Bds.of_blk hb h2 rfl ⟨hm, hc⟩

/-- One more binding. -/
theorem GrowB.snoc {n0 : Nat} {w w1 w' : World} {r r' : Value} {xs : List Bi} {x : Bi} {v : Value} {O O' cs c1 : List Nat} {vs : List Value} (hx : Ext w w1)
    (hk : BdL w vs xs cs) (hf : Fresh n0 w (O ++ cs)) (hk1 : Kids encT w1 v x.2.kids c1) (hf1 : Fresh w.heap.size w1 c1)
    (hc : Chg (· ∈ O) w1 w') (hg : Grow w' 72 4 r' (xs.length + 1) (flB xs vs ++ (encB x ++ [v])) O') (hO : ∀ b ∈ O', b ∈ O ∨ w1.heap.size ≤ b) (hn : n0 ≤ w.heap.size) :
    GrowB n0 w' r' (xs ++ [x]) O' (cs ++ c1) := by
  have hnd := List.nodup_append.1 hf.nodup
  have sz := hx.size
  have hOcs : ∀ b ∈ cs, b ∉ O := fun b hb hb' => hnd.2.2 b hb' b hb rfl
  have hO1 : ∀ b ∈ c1, b ∉ O := fun b hb hb' => by
    have h1 := hf1.lo b hb
    have h2 := hf.lt b (List.mem_append_left _ hb')
    omega
  have hOlo : ∀ b ∈ O, n0 ≤ b := fun b hb => hf.lo b (List.mem_append_left _ hb)
  have hcs' : Fresh n0 w' cs := ((hf.ext hx).sub (List.sublist_append_right _ _)).chg hc hOcs
  have hc1' : Fresh n0 w' c1 := (hf1.chg hc hO1).mono hn
  have hO'f : Fresh n0 w' O' := hg.fresh fun b hb => by
    rcases hO b hb with h | h
    · exact hOlo b h
    · omega
  refine ⟨vs ++ [v], ?_, BdL.snoc (hk1.chg hc hO1) ((hk.chg hx fun _ _ => id).chg hc hOcs), ⟨List.nodup_append.2 ⟨hO'f.nodup, List.nodup_append.2 ⟨hcs'.nodup, hc1'.nodup, fun a ha b hb e => ?_⟩, fun a ha b hb e => ?_⟩, fun b hb => ?_, fun b hb => ?_⟩⟩
  · rw [List.length_append, flB_snoc hk.length]
    exact hg
  · have h1 := hf.lt a (List.mem_append_right _ ha)
    have h2 := hf1.lo b hb
    omega
  · subst e
    rcases hO a ha with h | h
    · rcases List.mem_append.1 hb with hb | hb
      · exact hOcs a hb h
      · exact hO1 a hb h
    · rcases List.mem_append.1 hb with hb | hb
      · have := hf.lt a (List.mem_append_right _ hb)
        omega
      · have := hf1.lt a hb
        omega
  · rcases List.mem_append.1 hb with hb | hb
    · exact hO'f.lo b hb
    · rcases List.mem_append.1 hb with hb | hb
      · exact hcs'.lo b hb
      · exact hc1'.lo b hb
  · rcases List.mem_append.1 hb with hb | hb
    · exact hO'f.blk b hb
    · rcases List.mem_append.1 hb with hb | hb
      · exact hcs'.blk b hb
      · exact hc1'.blk b hb
end Go.Proofs.Ytkpdkemkfgcamaa
