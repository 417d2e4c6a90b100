/- Contracts: TypeVariables, TypeNames, IsGround. Conditions: none. -/
import Derived.Test.YtmecmdnnhldjpaaDoorTyF
import Derived.Test.YtmecmdnnhldjpaaDoorJMarkT
namespace Go.Proofs.YtmecmdnnhldjpaaDoor
open Go.RowKit

def EachNSaid (J : List Nat → List TLab → World → Prop) (g : FuncId) (cap : List Value) (N : Nat) (ks : List Tp) : Prop := ∀ (l : TLab) (w : World) (v : Value) (bs : List Nat) (O : List Nat) (xs : List TLab), Kids encT w v ks bs → J O xs w → (∀ b ∈ bs, b ∉ O) → xs.length + 1 + Rose.cnt ks ≤ N →
    Ret Tryd.prog 53 [.agg #[.int .i64 l.1, .string l.2, v], .func (.func g) #[] ⟨cap⟩] w fun _ w' => Steps J O (xs ++ (l :: Rose.preL ks)) w w'

/-- impl.eachType, with whatever it visits by. -/
theorem c_eachTypeN {J : List Nat → List TLab → World → Prop} (hJ : Walk J) {g : FuncId} {cap : List Value} {N : Nat}
    (hg : ∀ (O : List Nat) (xs : List TLab) (l : TLab) (v : Value) (w : World), J O xs w → xs.length < N → Ret Tryd.prog g (.agg #[.int .i64 l.1, .string l.2, v] :: cap) w fun r w' => Steps J O (xs ++ [l]) w w') (ks : List Tp) : EachNSaid J g cap N ks := by
  refine Rose.forest (fun ks ih => ?_) ks
  intro l w v bs O xs hk hj hd hN
  obtain ⟨ao, ca, rfl, hm, hcap⟩ := hk.form
  have hM : maxLen = 9223372036854775807 := rfl
  refine ret_of_vc ttOk Tryd.func53 rfl (by kernel_rfl) (by kernel_rfl) ?_
  refine Go1.bx ?_
  intro w1 hx1 hb1
  refine Ld.agg (vs := [.int .i64 l.1, .string l.2, .slice ao ks.length ca]) (Blk.lc0 (post := []) hb1) ?_
  refine (hg O xs l _ w1 (hJ.ext hj hx1) (by omega)).mono ?_
  rintro _ w2 ⟨O2, hj2, hx2, hO2⟩
  have sz1 := hx1.size
  have hlt1 := hb1.lt
  have hOlt := hJ.lt hj
  have hb2 := hb1.chg hx2 (fun hb => by have := hOlt _ hb; omega)
  refine Go1.fl 2 (Ld.one hb2.at2 ?_)
  refine Lp.go ttOk (by kernel_rfl) (fun k : Nat => [(1, .func (.func g) #[] ⟨cap⟩), (10, .slice ao ks.length ca), (11, .int .i64 ks.length), (12, .int .i64 k)]) (fun k w' => (∃ O', J O' (xs ++ (l :: Rose.preL (ks.take k))) w' ∧ ∀ b ∈ O', b ∈ O ∨ w1.heap.size ≤ b) ∧ Chg (· ∈ O) w1 w' ∧ k ≤ ks.length) (fun k => ks.length - k) 0
    ⟨rfl, rfl, rfl, rfl, trivial⟩ ⟨⟨O2, by rw [List.take_zero, Rose.preL_nil]; exact hj2, hO2⟩, hx2, Nat.zero_le _⟩ ?_
  rintro k w3 ⟨⟨O3, hj3, hO3⟩, hx3, hk1⟩
  have sz3 := hx3.size
  refine Cm.s (fun hlt => ?_) (fun hge => ?_)
  · have hlt : k < ks.length := by omega
    have hbl := Kids.lt encT_ne ks hk
    have hk3 := (hk.ext hx1).chg hx3 hd
    obtain ⟨a, t, v1, b1, rfl, ht, hc, hkt, hsub⟩ := hk3.get encT_sz hlt
    have htm := List.mem_of_getElem? ht
    have hct := Rose.cnt_take_le ht
    have hpl := preL_length (ks.take k)
    obtain ⟨ao3, cap3, rfl, _, _⟩ := hkt.form
    refine Go1.ix 3 hlt (Ld.agg hc ?_)
    refine Go1.al tiTy ?_
    intro w4 hxw4 hbw4
    have ltw4 := hbw4.lt
    refine Go0.st (off := 0) (vs := [.int .i64 t.lab.1, .string t.lab.2, .slice ao3 t.kids.length cap3]) hbw4 rfl rfl (by simp [Value.cells]) (by simp [Value.oneCell']) ?_
    intro w5 hx0w5 hb0w5 _
    have hbw5 : Blk w5 w3.heap.size 38 [.int .i64 t.lab.1, .string t.lab.2, .slice ao3 t.kids.length cap3] := hb0w5
    have hxw5 : Ext w3 w5 := hxw4.chg hx0w5 (by omega)
    refine Ld.agg (vs := [.int .i64 t.lab.1, .string t.lab.2, .slice ao3 t.kids.length cap3]) (Blk.lc0 (post := []) hbw5) ?_
    refine (ih t htm t.lab w5 _ b1 O3 _ (hkt.ext hxw5) (hJ.ext hj3 hxw5) (fun b hb hbO => ?_) (by simp only [List.length_append, List.length_cons]; omega)).mono ?_
    · rcases hO3 b hbO with h | h
      · exact hd b (hsub b hb) h
      · have := hbl b (hsub b hb)
        omega
    · rintro r w6 ⟨O6, hj6, hx6, hO6⟩
      have sz5 := hxw5.size
      refine Wr.n (k + 1) (by omega) (by omega) ?_
      refine ⟨k + 1, ⟨rfl, rfl, rfl, rfl, trivial⟩, ⟨⟨O6, ?_, fun b hb => ?_⟩, ?_, hlt⟩, by omega⟩
      · rw [Rose.preL_take ht]
        simpa using hj6
      · rcases hO6 b hb with h | h
        · exact hO3 b h
        · right; omega
      · refine (hx3.ext hxw5).comp hx6 (fun b hb => hO3 b hb)
  · have : k = ks.length := by omega
    subst this
    rw [List.take_length] at hj3
    refine ⟨O3, hj3, hx1.chgM hx3, fun b hb => (hO3 b hb).imp id (fun h => by omega)⟩

/-- The state of a walk that puts names together: the variable at block bo. -/
def CollW (q : TLab → Bool) (bo : Nat) (ss : List ByteArray) (O : List Nat) (xs : List TLab) (w : World) : Prop :=
  ∃ u O', O = bo :: O' ∧ bo ∉ O' ∧ Blk w bo 49 [u] ∧ u.oneCell' = true ∧ u.cells = #[u] ∧ Grow w 9 1 u (coll q xs ss).length ((coll q xs ss).map .string) O'
theorem collW (q : TLab → Bool) (bo : Nat) (ss : List ByteArray) : Walk (CollW q bo ss) := by
  refine ⟨?_, ?_⟩
  · rintro O xs w ⟨u, O', rfl, _, hb, _, _, hg⟩ c hc
    rcases List.mem_cons.1 hc with rfl | hc
    · exact hb.lt
    · exact hg.lt c hc
  · rintro O xs w w' ⟨u, O', rfl, h1, hb, h2, h3, hg⟩ hx
    exact ⟨u, O', rfl, h1, hb.ext hx, h2, h3, hg.ext hx⟩
theorem Grow.one {w : World} {e : TypeId} {size : Nat} {v : Value} {n : Nat} {xs : List Value} {O : List Nat} (h : Grow w e size v n xs O) : v.oneCell' = true ∧ v.cells = #[v] := by
  rcases h.2 with ⟨rfl, _⟩ | ⟨g, cap, rest, rfl, _⟩ <;> exact ⟨by simp [Value.oneCell'], by simp [Value.cells]⟩


theorem c_visit_isV {bo N : Nat} {ss : List ByteArray} (hN : ss.length + N ≤ 4294967296) (O : List Nat) (xs : List TLab) (l : TLab) (v : Value) (w : World) (hj : CollW isV bo ss O xs w) (hlen : xs.length < N) :
    Ret Tryd.prog 54 (.agg #[.int .i64 l.1, .string l.2, v] :: [.pointer (some ⟨bo, 0, none⟩)]) w fun r w' => Steps (CollW isV bo ss) O (xs ++ [l]) w w' := by
  obtain ⟨u, O', rfl, hbo, hb, hu1, hu2, hg⟩ := hj
  have hle := coll_le isV xs ss
  obtain ⟨us, hus, _⟩ := hg.strs (by have hM : maxLen = 9223372036854775807 := rfl
                                     omega)
  refine ret_of_vc ttOk Tryd.func54 rfl (by kernel_rfl) (by kernel_rfl) ?_
  refine Go1.bx ?_
  intro w1 hx1 hb1
  have sz1 := hx1.size
  have same : ¬ (isV l = true ∧ has (coll isV xs ss) l.2 = false) → Steps (CollW isV bo ss) (bo :: O') (xs ++ [l]) w w1 := by
    intro h
    refine ⟨_, ⟨u, O', rfl, hbo, hb.ext hx1, hu1, hu2, ?_⟩, hx1.mono fun _ _ h => h.elim, fun b h => .inl h⟩
    rw [coll_append, coll_f h]
    exact hg.ext hx1
  refine Go1.fl 0 (Ld.one hb1.at0 ?_)
  refine Cm.s (fun h1 => ?_) (fun h1 => ?_)
  · have hq : isV l = true := by simp [isV, h1]
    refine Ld.one (hb.ext hx1).at0 ?_
    refine Go1.fl 1 (Ld.one hb1.at1 ?_)
    refine (c_slContains (hus.ext hx1) l.2).mono ?_
    rintro r w' ⟨rfl, hw'⟩
    obtain rfl : w1 = w' := hw'.symm
    cases hh : has (coll isV xs ss) l.2
    · refine Ld.one (hb.ext hx1).at0 ?_
      refine Go1.fl 1 (Ld.one hb1.at1 ?_)
      refine Go1.bs 9 [.string l.2] (size := 1) (bytes := 16) Tryd.underlying49 tiStr (by decide) (by decide) (by kernel_rfl) ?_
      intro wb hxb hbb
      have szb := hxb.size
      refine Go1.app (size := 1) (bytes := 16) Tryd.underlying49 tiStr (by rfl) (by decide) ((hg.ext hx1).ext hxb) (m := 1) (news := [.string l.2]) (Blk.lc0 (post := []) hbb) (by simp) (by simp [Value.oneCell']) (by omega) (by decide) ?_
      intro u2 w2 O2 hcb hgb hOb
      have hlb := hb.lt
      have hb2 := ((hb.ext hx1).ext hxb).chg hcb hbo
      have hbo2 : bo ∉ O2 := fun h => by
        rcases hOb bo h with h | h
        · exact hbo h
        · omega
      refine Go0.st (off := 0) (vs := [u2]) hb2 rfl hgb.one.2 (by simp) (by simpa using hgb.one.1) ?_
      intro w3 hc3 hb3 hs3
      refine ⟨_, ⟨u2, O2, rfl, hbo2, hb3, hgb.one.1, hgb.one.2, ?_⟩, ?_, fun b h => ?_⟩
      · rw [coll_append, coll_t hq hh]
        refine (Grow.chg hc3 (fun b h he => hbo2 (he ▸ h)) ?_)
        simpa using hgb
      · have hcb' : Chg (· ∈ bo :: O') wb w2 := hcb.mono fun k _ h => List.mem_cons_of_mem _ h
        exact ((hx1.trans hxb).chgM hcb').sub hc3 fun b h => by rw [h]; exact List.mem_cons_self
      · rcases List.mem_cons.1 h with rfl | h
        · exact .inl List.mem_cons_self
        · rcases hOb b h with h | h
          · exact .inl (List.mem_cons_of_mem _ h)
          · right; omega
    · exact same fun h => by simp [hh] at h
  · exact same fun h => by simp [isV, h1] at h



theorem Chg.big {M : Nat → Prop} {a b c : World} (h : Ext a b) (k : Chg M b c) (hM : ∀ x, M x → a.heap.size ≤ x) : Ext a c := Chg.comp (M := fun _ => False) h k fun x hx => .inr (hM x hx)

/-- What Collects makes of a list that the call has begun. -/
theorem Collects.new {q : TLab → Bool} {xs : List TLab} {O : List Nat} {w w1 w' : World} {r : Value} (hx : Ext w w1) (hO : ∀ b ∈ O, w.heap.size ≤ b) (hl : xs.length ≤ 4294967296) (h : Collects q xs [] O w1 r w') : NewStrs w (coll q xs []) r w' := by
  obtain ⟨O', hc, hg, hO'⟩ := h
  have hle := coll_le q xs []
  have hM : maxLen = 9223372036854775807 := rfl
  simp only [List.length_nil] at hle
  obtain ⟨bs, h1, h2⟩ := hg.strs (by omega)
  have sz := hx.size
  refine ⟨Chg.big hx hc hO, bs, h1, (hg.fresh fun b hb => ?_).sub h2⟩
  rcases hO' b hb with h | h
  · exact hO b h
  · omega


/-- impl.variablesOf -/
theorem c_variablesOf {ks : List Tp} {w : World} {v : Value} {bs : List Nat} (hs : Rose.cnt ks ≤ 4294967200) (hk : Kids encT w v ks bs) :
    Ret Tryd.prog 36 [v] w (NewStrs w (coll isV (Rose.preL ks) [])) := by
  obtain ⟨ao, cap, rfl, hm, hcap⟩ := hk.form
  have hpl := preL_length ks
  have hbl := Kids.lt encT_ne ks hk
  have hM : maxLen = 9223372036854775807 := rfl
  refine ret_of_vc ttOk Tryd.func36 rfl (by kernel_rfl) (by kernel_rfl) ?_
  refine Go1.b0 9 (size := 1) (bytes := 16) Tryd.underlying49 tiStr ?_
  intro w1 u hx1 hg1 hu
  have sz1 := hx1.size
  refine Go1.al (z := .slice none 0 0) (size := 1) (bytes := 24) (TyI.of (by kernel_rfl)) ?_
  intro w2 hx2 hb2
  have lt2 := hb2.lt
  refine Go0.st (off := 0) (vs := [u]) hb2 rfl (by rw [hu]; rfl) (by simp [Value.cells]) (by rw [hu]; simp [Value.oneCell']) ?_
  intro w3 hx3 hb3 _
  have hb3 : Blk w3 w1.heap.size 49 [u] := hb3
  have lt1 : w.heap.size < w1.heap.size := hg1.lt _ (by simp)
  have hx03 : Ext w w3 := (hx1.trans hx2).chg hx3 (by omega)
  have hne : w1.heap.size ∉ [w.heap.size] := by simp; omega
  have hg3 : Grow w3 9 1 u 0 [] [w.heap.size] := (hg1.ext hx2).chg hx3 fun b hb he => hne (he ▸ hb)
  refine Lp.go ttOk (by kernel_rfl) (fun k : Nat => [(3, .pointer (some ⟨w1.heap.size, 0, none⟩)), (7, .slice ao ks.length cap), (8, .int .i64 ks.length), (9, .int .i64 k)])
    (fun k w' => Ext w w' ∧ k ≤ ks.length ∧ ∃ O', CollW isV w1.heap.size [] O' (Rose.preL (ks.take k)) w' ∧ ∀ b ∈ O', w.heap.size ≤ b) (fun k => ks.length - k) 0
    ⟨rfl, rfl, rfl, rfl, trivial⟩ ⟨hx03, Nat.zero_le _, [w1.heap.size, w.heap.size], ⟨u, [w.heap.size], rfl, hne, hb3, hg3.one.1, hg3.one.2, by rw [List.take_zero, Rose.preL_nil]; exact hg3⟩, by simp; omega⟩ ?_
  rintro k w4 ⟨hx4, hk1, O4, hj4, hO4⟩
  refine Cm.s (fun hlt => ?_) (fun hge => ?_)
  · have hlt : k < ks.length := by omega
    obtain ⟨a, t, v1, b1, rfl, ht, hc, hkt, hsub⟩ := (hk.ext hx4).get encT_sz hlt
    have htm := List.mem_of_getElem? ht
    have hct := Rose.cnt_take_le ht
    have hpt := preL_length (ks.take k)
    obtain ⟨ao3, cap3, rfl, _, _⟩ := hkt.form
    refine Go1.ix 3 hlt (Ld.agg hc ?_)
    refine Go1.al tiTy ?_
    intro w5 hxw5 hbw5
    have ltw5 := hbw5.lt
    refine Go0.st (off := 0) (vs := [.int .i64 t.lab.1, .string t.lab.2, .slice ao3 t.kids.length cap3]) hbw5 rfl rfl (by simp [Value.cells]) (by simp [Value.oneCell']) ?_
    intro w6 hx0w6 hb0w6 _
    have hbw6 : Blk w6 w4.heap.size 38 [.int .i64 t.lab.1, .string t.lab.2, .slice ao3 t.kids.length cap3] := hb0w6
    have hxw6 : Ext w4 w6 := hxw5.chg hx0w6 (by omega)
    refine Ld.agg (vs := [.int .i64 t.lab.1, .string t.lab.2, .slice ao3 t.kids.length cap3]) (Blk.lc0 (post := []) hbw6) ?_
    refine (c_eachTypeN (collW isV w1.heap.size []) (g := 54) (cap := [.pointer (some ⟨w1.heap.size, 0, none⟩)]) (N := Rose.cnt ks + 1)
      (fun O xs l v w hj hl => c_visit_isV (N := Rose.cnt ks + 1) (by simp only [List.length_nil]; omega) O xs l v w hj hl) t.kids t.lab w6 _ b1 O4 _ (hkt.ext hxw6) ((collW _ _ _).ext hj4 hxw6) (fun b hb hb' => ?_) (by omega)).mono ?_
    · have := hbl b (hsub b hb)
      have := hO4 b hb'
      omega
    · rintro r w7 ⟨O7, hj7, hc7, hO7⟩
      have sz6 := hx4.size
      have sz7 := hxw6.size
      refine Wr.n (k + 1) (by omega) (by omega) ?_
      refine ⟨k + 1, ⟨rfl, rfl, rfl, rfl, trivial⟩, ⟨Chg.big (hx4.trans hxw6) hc7 hO4, hlt, O7, ?_, fun b hb => ?_⟩, by omega⟩
      · rw [Rose.preL_take ht]
        exact hj7
      · rcases hO7 b hb with h | h
        · exact hO4 b h
        · omega
  · have : k = ks.length := by omega
    subst this
    rw [List.take_length] at hj4
    obtain ⟨u4, O5, rfl, _, hb4, _, _, hg4⟩ := hj4
    have hle := coll_le isV (Rose.preL ks) []
    simp only [List.length_nil] at hle
    obtain ⟨cs, h1, h2⟩ := hg4.strs (by omega)
    refine Ld.one hb4.at0 ?_
    exact ⟨hx4, cs, h1, (hg4.fresh fun b hb => hO4 b (List.mem_cons_of_mem _ hb)).sub h2⟩

/-- Does a Type hold neither variables nor projections? -/
def Ground (l : TLab) (ks : List Tp) : Prop := coll isV (l :: Rose.preL ks) [] = [] ∧ ¬ HasPr l ks
end Go.Proofs.YtmecmdnnhldjpaaDoor
