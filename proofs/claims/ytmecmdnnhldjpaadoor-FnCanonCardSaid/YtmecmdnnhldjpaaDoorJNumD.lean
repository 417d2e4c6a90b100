/- Contracts: strconv.Itoa and strconv.Atoi, by the library's own; the program's reading of numerals; Contracts: the canonical renaming; Matching, in plain Lean. Conditions: none. -/
import Derived.Test.YtmecmdnnhldjpaaDoorNumC
import Derived.Test.YtmecmdnnhldjpaaDoorJLaw
import Derived.Test.YtmecmdnnhldjpaaDoorJShItoa
import Derived.Lib.AppendIntMem
import Derived.WideLaws
import Derived.Test.YtmecmdnnhldjpaaDoorJBdD
import Derived.Test.YtmecmdnnhldjpaaDoorBdK
import Derived.Test.YtmecmdnnhldjpaaDoorTyG
namespace Go.Proofs.YtmecmdnnhldjpaaDoor
open Go.RowKit Go.Shelf

theorem var_ext {P : Program} {w w' : World} (h : Ext w w') {n : String} {cs : Array Value} (hv : w.var? P n = some cs) : w'.var? P n = some cs := by
  unfold World.var? at hv ⊢
  cases hg : P.globalNamed n with
  | none => rw [hg] at hv; exact hv
  | some g =>
    rw [hg] at hv
    simp only [Option.bind_some] at hv ⊢
    split at hv
    · rename_i hh
      rw [h.heap id hh]
      exact hv
    · cases hv

/-- strconv.Itoa spells every number, here and behind. -/
def ItoaOk (w : World) : Prop := ∀ (n : Int) (w1 : World), -9223372036854775808 ≤ n → n ≤ 9223372036854775807 → Ext w w1 → Ret Tryd.prog 56 [.int .i64 n] w1 fun r w' => r = .string (itoaB n) ∧ Ext w1 w'
theorem ItoaOk.ext {w w' : World} (h : ItoaOk w) (hx : Ext w w') : ItoaOk w' := fun n w1 h0 h1 hx1 => h n w1 h0 h1 (hx.trans hx1)
theorem Go1.ineN {P : Program} {w : World} {t : TypeId} {ox : Operand} {c : Value} {K : Value → World → Prop} (ht : P.underlying t = some (.interface (P.methodsAt t))) (k : K (.bool false) w) :
    Go1 P (do eqGuard .neq t ox (.const c) .nilIface .nilIface; binOp .neq t .nilIface .nilIface) w K := by
  refine Go1.go (v := .bool false) ?_ k
  simp [eqGuard, run_neq_nil_nil w t ht]
theorem Go1.ineI {P : Program} {w : World} {t u : TypeId} {x : Value} {ox oy : Operand} {K : Value → World → Prop} (ht : P.underlying t = some (.interface (P.methodsAt t))) (k : K (.bool true) w) :
    Go1 P (do eqGuard .neq t ox oy (.iface u x) .nilIface; binOp .neq t (.iface u x) .nilIface) w K := by
  refine Go1.go (v := .bool true) ?_ k
  simp [eqGuard, run_neq_held_nil w t u x ht]
theorem numO_atoi {lo hi n : Int} {s : ByteArray} (hlo : -9223372036854775808 ≤ lo) (hhi : hi ≤ 9223372036854775807) (h : itoaB n = s) (h1 : lo ≤ n) (h2 : n ≤ hi) : Lib.atoiAll s.data.toList = .ok n := by
  subst h
  have e : (itoaB n).data.toList = Lib.itoa n := rfl
  rw [e]
  exact atoi_itoa (by omega) (by omega)
/-- impl.FormatInt -/
theorem c_iFormatInt {w : World} (hI : ItoaOk w) (n : Int) (h0 : -9223372036854775808 ≤ n) (h1 : n ≤ 9223372036854775807) : Ret Tryd.prog 38 [.int .i64 n] w fun r w' => r = .string (itoaB n) ∧ Ext w w' := by
  refine ret_of_vc ttOk Tryd.func38 rfl (by kernel_rfl) (by kernel_rfl) ?_
  refine (hI n w h0 h1 (Chg.refl _ _)).mono ?_
  rintro _ w1 ⟨rfl, hx1⟩
  exact ⟨rfl, hx1⟩
end Go.Proofs.YtmecmdnnhldjpaaDoor

namespace Go.Proofs.YtmecmdnnhldjpaaDoor
open Go.RowKit

/-- The i-th new name. -/
def vN (i : Nat) : ByteArray := ⟨#[118]⟩ ++ itoaB i
/-- The names' renaming, from i on. -/
def crB : List ByteArray → Nat → List Bi
  | [], _ => []
  | v :: vs, i => (v, .mk (1, vN i) []) :: crB vs (i + 1)
theorem crB_length : ∀ (vs : List ByteArray) (i : Nat), (crB vs i).length = vs.length
  | [], _ => rfl
  | v :: vs, i => by simp only [crB, List.length_cons, crB_length vs]
theorem crB_snoc : ∀ (vs : List ByteArray) (v : ByteArray) (i : Nat), crB (vs ++ [v]) i = crB vs i ++ [(v, .mk (1, vN (i + vs.length)) [])]
  | [], v, i => rfl
  | x :: vs, v, i => by
    simp only [List.cons_append, crB, crB_snoc vs v (i + 1), List.length_cons]
    rw [show i + 1 + vs.length = i + (vs.length + 1) by omega]
theorem crB_take {vs : List ByteArray} {k : Nat} (h : k < vs.length) : crB (vs.take (k + 1)) 0 = crB (vs.take k) 0 ++ [(vs[k], .mk (1, vN k) [])] := by
  rw [List.take_succ_eq_append_getElem h, crB_snoc]
  rw [show 0 + (vs.take k).length = k by rw [List.length_take]; omega]
theorem cntB_crB : ∀ (vs : List ByteArray) (i : Nat), cntB (crB vs i) = vs.length
  | [], _ => rfl
  | v :: vs, i => by
    simp only [crB, cntB, List.length_cons, cntB_crB vs]
    have : Rose.cnt (Rose.mk (1, vN i) ([] : List Tp)).kids = 0 := Rose.wtL_nil _
    omega
/-- The renaming of the variables of types. -/
def crn (ks : List Tp) : List Bi := crB (coll isV (Rose.preL ks) []) 0
theorem crn_le (ks : List Tp) : cntB (crn ks) ≤ Rose.cnt ks := by
  unfold crn
  rw [cntB_crB, ← preL_length]
  have := coll_le isV (Rose.preL ks) []
  simpa using this
/-- The canonical form. -/
def cnT (t : Tp) : Tp := apT (crn [t]) t
/-- The canonical forms of all. -/
def cnL (ks : List Tp) : List Tp := apL (crn ks) ks

theorem itoaB_sz {n : Int} (h0 : -9223372036854775808 ≤ n) (h1 : n ≤ 9223372036854775807) : (itoaB n).size ≤ 21 := by
  have hd : (Lib.decDigits n.natAbs).length ≤ 20 := by
    rw [Lib.decDigits_length]
    exact nDigits_le (by decide) (Nat.lt_of_le_of_lt (show n.natAbs ≤ 9223372036854775808 by omega) (by decide))
  have e : ByteArray.size ⟨(Lib.decDigits n.natAbs).toArray⟩ = (Lib.decDigits n.natAbs).length := rfl
  by_cases h : n < 0
  · rw [itoaB_neg h, ByteArray.size_append, e]
    have : ByteArray.size ⟨#[45]⟩ = 1 := rfl
    omega
  · rw [itoaB_pos h, e]
    omega
theorem GoS.cat {P : Program} {S : World → Prop} {t : TypeId} {ox oy : Operand} {x y : ByteArray} {K : Value → Prop} (h : x.size + y.size ≤ 9223372036854775807) (k : K (.string (x ++ y))) :
    GoS P (do eqGuard .add t ox oy (.string x) (.string y); binOp .add t (.string x) (.string y)) S K := by
  refine GoS.of1 (fun w => ?_) k
  simp [eqGuard, binOp, Op.stringOp]
  omega
theorem GrowB.new {n0 : Nat} {w : World} {u : Value} {g : Nat} (hg : Grow w 54 4 u 0 [] [g]) (h : n0 ≤ g) : GrowB n0 w u [] [g] [] :=
  ⟨[], by simpa [flB] using hg, rfl, by simpa using hg.fresh (by simpa using h)⟩
theorem GrowB.fin {n0 : Nat} {w : World} {r : Value} {xs : List Bi} {O cs : List Nat} (hg : GrowB n0 w r xs O cs) (hm : xs.length ≤ maxLen) : ∃ bs, Bds w r xs bs ∧ Fresh n0 w bs := by
  obtain ⟨bs, h1, h2⟩ := hg.bds hm
  obtain ⟨_, _, _, h3⟩ := hg
  exact ⟨bs, h1, h3.sub h2⟩

/-- spec.l4Var -/
theorem c_l4VarC (s : ByteArray) {w : World} : Ret Tryd.prog 34 [.string s] w fun r w' => Ext w w' ∧ r = .agg #[.int .i64 1, .string s, .slice none 0 0] := by
  refine ret_of_vc ttOkB Tryd.func34 rfl (by kernel_rfl) (by kernel_rfl) ?_
  refine Go1.al tiTy ?_
  intro w1 hx1 hb1
  have lt1 := hb1.lt
  refine Go1.bd [.int .i64 1, .string s, .slice none 0 0] ?_
  refine Go0.st (off := 0) (vs := [.int .i64 1, .string s, .slice none 0 0]) hb1 rfl rfl (by simp [Value.cells]) (by simp [Value.oneCell']) ?_
  intro w2 hx2 hb2 _
  have hb2 : Blk w2 w.heap.size 38 [.int .i64 1, .string s, .slice none 0 0] := hb2
  refine Ld.agg (vs := [.int .i64 1, .string s, .slice none 0 0]) (Blk.lc0 (post := []) hb2) ?_
  exact ⟨hx1.chg hx2 (by omega), rfl⟩
/-- spec.CanonicalRenaming -/
theorem c_sCanRen {ks : List Tp} (hs : Rose.cnt ks ≤ 4294967000) {w : World} {v : Value} {bs : List Nat} (hk : Kids encT w v ks bs) :
    Ret Tryd.prog 9 [v] w (NewBds w (crn ks)) := by
  obtain ⟨ao, cap, rfl, hm, hcap⟩ := hk.form
  have hpl := preL_length ks
  have hbl := Kids.lt encT_ne ks hk
  have hM : maxLen = 9223372036854775807 := rfl
  refine ret_of_vc ttOkB Tryd.func9 rfl (by kernel_rfl) (by kernel_rfl) ?_
  refine Go1.b0 9 (size := 1) (bytes := 16) Tryd.underlying49 tiStr ?_
  intro w1 u hx1 hg1 hu
  subst hu
  have sz1 := hx1.size
  refine Lp.go ttOkB (by kernel_rfl) (fun b : Nat × Value => [(0, .slice ao ks.length cap), (3, b.2), (4, .int .i64 b.1)])
    (fun b w' => b.1 ≤ ks.length ∧ Collects isV (Rose.preL (ks.take b.1)) [] [w.heap.size] w1 b.2 w') (fun b => ks.length - b.1) (0, .slice (some ⟨w.heap.size, 0, none⟩) 0 0)
    ⟨rfl, rfl, rfl, trivial⟩ ⟨Nat.zero_le _, [w.heap.size], Chg.refl _ _, by rw [List.take_zero, Rose.preL_nil]; exact hg1, by simp⟩ ?_
  rintro ⟨k, r⟩ w2 ⟨hk1, hcol⟩
  simp only at hk1 hcol
  have hcol' := hcol
  obtain ⟨O2, hc2, hg2, hO2⟩ := hcol'
  have sz2 := hc2.size
  have hlo2 : ∀ b ∈ O2, w.heap.size ≤ b := fun b hb => by
    rcases hO2 b hb with h | h
    · obtain rfl := List.mem_singleton.1 h
      exact Nat.le_refl _
    · omega
  have hk2 := (hk.ext hx1).chg hc2 (fun b hb h => by have := hbl b hb; obtain rfl := List.mem_singleton.1 h; omega)
  have hpt : (Rose.preL (ks.take k)).length ≤ Rose.cnt ks := by
    have h1 : Rose.preL ks = Rose.preL (ks.take k) ++ Rose.preL (ks.drop k) := by rw [← Rose.preL_append, List.take_append_drop]
    rw [← hpl, h1, List.length_append]
    omega
  have hcl := coll_le isV (Rose.preL (ks.take k)) []
  simp only [List.length_nil, Nat.zero_add] at hcl
  refine Cm.s (fun hlt => ?_) (fun hge => ?_)
  · have hlt : k < ks.length := by have : (k : Int) < ks.length := hlt; omega
    obtain ⟨a, t, v1, b1, rfl, ht, hcc, hkt, hsub⟩ := hk2.get encT_sz hlt
    have htm := List.mem_of_getElem? ht
    have htc := Rose.wtL_mem (fun _ : TLab => 0) htm
    have htc : 1 + 0 + Rose.cnt t.kids ≤ Rose.cnt ks := htc
    have hp2 : (Rose.preL (ks.take k)).length + (1 + Rose.cnt t.kids) ≤ Rose.cnt ks := by
      have h1 : Rose.preL ks = Rose.preL (ks.take (k + 1)) ++ Rose.preL (ks.drop (k + 1)) := by rw [← Rose.preL_append, List.take_append_drop]
      have h2 := congrArg List.length h1
      rw [List.length_append, Rose.preL_take ht, List.length_append, List.length_cons, preL_length t.kids, hpl] at h2
      omega
    obtain ⟨aot, capt, rfl, _, _⟩ := hkt.form
    refine Go1.ix 3 hlt (Ld.agg hcc ?_)
    refine (c_l4Vars t.kids t.lab w2 _ _ b1 O2 _ hkt hg2 (fun b hb hb' => ?_) (by omega)).mono ?_
    · rcases hO2 b hb' with h | h
      · obtain rfl := List.mem_singleton.1 h
        have := hbl _ (hsub _ hb)
        omega
      · have := hbl _ (hsub _ hb)
        omega
    · rintro r3 w3 ⟨O3, hc3, hg3, hO3⟩
      refine Wr.n (k + 1) (by simp) (by omega) ?_
      refine ⟨(k + 1, r3), ⟨rfl, rfl, rfl, trivial⟩, ⟨hlt, O3, ?_, ?_, fun b hb => ?_⟩, by simp only; omega⟩
      · exact (hc2.trans hc3).mono fun x hx h => by
          rcases h with h | h
          · exact h
          · rcases hO2 x h with h' | h'
            · exact h'
            · omega
      · simp only
        rw [Rose.preL_take ht, coll_append]
        exact hg3
      · rcases hO3 b hb with h | h
        · rcases hO2 b h with h' | h'
          · exact .inl h'
          · right; omega
        · right; omega
  · have hke : k = ks.length := by have : ¬ (k : Int) < ks.length := hge; omega
    subst hke
    rw [List.take_length] at hg2 hcl
    generalize hvs : coll isV (Rose.preL ks) [] = vs at hg2 hcl
    have hcr : crn ks = crB vs 0 := by unfold crn; rw [hvs]
    rw [hcr]
    obtain ⟨bv, hsv, hsubv⟩ := hg2.strs (by omega)
    obtain ⟨aov, capv, rfl, _, _⟩ := hsv.form
    have hx2 : Ext w w2 := hx1.chg hc2 (fun x hx => by obtain rfl := List.mem_singleton.1 hx; exact Nat.le_refl _)
    refine Go1.b0 54 (size := 4) (bytes := 64) Tryd.underlying24 tiBd ?_
    intro w3 u3 hx3 hg3 hu3
    subst hu3
    have sz3 := hx3.size
    refine Lp.go ttOkB (by kernel_rfl) (fun b : Nat × Value => [(3, .slice aov vs.length capv), (5, b.2), (6, .int .i64 b.1)])
      (fun b w' => Ext w2 w' ∧ b.1 ≤ vs.length ∧ ∃ O cs, GrowB w2.heap.size w' b.2 (crB (vs.take b.1) 0) O cs) (fun b => vs.length - b.1) (0, .slice (some ⟨w2.heap.size, 0, none⟩) 0 0)
      ⟨rfl, rfl, rfl, trivial⟩ ⟨hx3, Nat.zero_le _, [w2.heap.size], [], by rw [List.take_zero]; exact GrowB.new hg3 (Nat.le_refl _)⟩ ?_
    rintro ⟨j, r⟩ w4 ⟨hx4, hj, O, cs, hgb⟩
    simp only at hj hgb
    have sz4 := hx4.size
    have hlen : (crB (vs.take j) 0).length = j := by rw [crB_length, List.length_take]; omega
    refine Cm.s (fun hlt => ?_) (fun hge => ?_)
    · have hlt : j < vs.length := by have : (j : Int) < vs.length := hlt; omega
      obtain ⟨av, rfl, hcv⟩ := (Strs.get (Row.ext hx4 hsv) hlt)
      refine Dr.x [0, 1, 2, 3, 4, 5, 6, 7, 8, 9, 10, 11, 12] ttOkB ?_
      refine GoS.ix 1 hlt (LdS.x1 hcv ?_)
      refine ⟨fun wa hxa => ?_⟩
      refine (c_sFormatInt (j : Int) (by omega) (by omega)).mono ?_
      rintro _ wb ⟨rfl, hxb⟩
      refine Af.ext (hxa.trans hxb) ?_
      have hab := hxa.trans hxb
      have hit := itoaB_sz (n := (j : Int)) (by omega) (by omega)
      refine GoS.cat (by show 1 + (itoaB j).size ≤ _; omega) ?_
      refine ⟨fun wd hxd => ?_⟩
      refine (c_l4VarC _).mono ?_
      rintro _ we ⟨hxe, rfl⟩
      refine Af.ext (hxd.trans hxe) ?_
      have h4e := hab.trans (hxd.trans hxe)
      refine GoS.bd [.string vs[j], .int .i64 1, .string (vN j), .slice none 0 0] ?_
      refine ⟨fun wf hxf => ?_⟩
      refine Go1.bs 54 [.string vs[j], .int .i64 1, .string (vN j), .slice none 0 0] (size := 4) (bytes := 64) Tryd.underlying24 tiBd (by decide) (by decide) (by kernel_rfl) ?_
      intro wg hxg hbg
      refine Af.ext (hxf.trans hxg) ?_
      refine ⟨fun wh hxh => ?_⟩
      have h4h := (h4e.trans (hxf.trans hxg)).trans hxh
      have sz4h := h4h.size
      obtain ⟨vsT, hgrT, hklT, hfrT⟩ := hgb.ext h4h
      refine Go1.app (size := 4) (bytes := 64) Tryd.underlying24 tiBd (by rfl) (by decide) hgrT (m := 1) (news := [.string vs[j], .int .i64 1, .string (vN j), .slice none 0 0]) (Blk.lc0 (post := []) (hbg.ext hxh)) (by simp) (by simp [Value.oneCell']) (by omega) (by decide) ?_
      intro rf wi Of hcf hgf hOf
      have hsn := GrowB.snoc (n0 := w2.heap.size) (r := r) (x := (vs[j], .mk (1, vN j) [])) (v := .slice none 0 0) (c1 := []) (Chg.refl _ _) hklT hfrT Kids.nil (Fresh.nil _ _) hcf hgf hOf (by omega)
      have hlo : ∀ b ∈ O, w2.heap.size ≤ b := fun b hb => hfrT.lo b (List.mem_append_left _ hb)
      refine Af.new ?_
      intro wj hxj
      refine Wr.n (j + 1) (by simp) (by omega) ?_
      refine ⟨(j + 1, rf), ⟨rfl, rfl, rfl, trivial⟩, ⟨((hx4.trans h4h).chg hcf (fun x hx => hlo x hx)).ext hxj, hlt, Of, cs ++ [], ?_⟩, by simp only; omega⟩
      simp only
      rw [crB_take hlt]
      exact hsn.ext hxj
    · have hje : j = vs.length := by have : ¬ (j : Int) < vs.length := hge; omega
      subst hje
      rw [List.take_length] at hgb hlen
      obtain ⟨bs', h1, h2⟩ := hgb.fin (by omega)
      obtain ⟨aor, capr, rfl, _, _⟩ := h1.form
      exact ⟨hx2.trans hx4, bs', h1, h2.mono hx2.size⟩
end Go.Proofs.YtmecmdnnhldjpaaDoor

namespace Go.Proofs.YtmecmdnnhldjpaaDoor
open Go.RowKit

open Classical in
mutual
/-- What makes the pattern equal to the type, on top of what is bound; none: nothing does. -/
noncomputable def matchT : Tp → Tp → List Bi → Option (List Bi)
  | .mk l ks, t, s => if l.1 = 1 then (match lookO l.2 s with
      | some u => if u = t then some s else none
      | none => some (s ++ [(l.2, t)])) else if l = t.lab ∧ ks.length = t.kids.length then matchL ks t.kids s else none
noncomputable def matchL : List Tp → List Tp → List Bi → Option (List Bi)
  | [], _, s => some s
  | _ :: _, [], s => some s
  | p :: ps, t :: ts, s => match matchT p t s with
    | some s' => matchL ps ts s'
    | none => none
end

open Classical in
theorem matchT_eq (p t : Tp) (s : List Bi) : matchT p t s = if p.lab.1 = 1 then (match lookO p.lab.2 s with
      | some u => if u = t then some s else none
      | none => some (s ++ [(p.lab.2, t)])) else if p.lab = t.lab ∧ p.kids.length = t.kids.length then matchL p.kids t.kids s else none := by
  cases p
  rw [matchT]
  rfl
theorem matchL_cons (p t : Tp) (ps ts : List Tp) (s : List Bi) : matchL (p :: ps) (t :: ts) s = (matchT p t s).bind (matchL ps ts) := by
  simp only [matchL]
  cases matchT p t s <;> rfl
end Go.Proofs.YtmecmdnnhldjpaaDoor
