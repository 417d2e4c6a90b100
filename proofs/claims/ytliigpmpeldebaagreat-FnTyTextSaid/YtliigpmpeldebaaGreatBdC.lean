/- Contracts: copies of Types; Lookup. Conditions: none. -/
import Derived.Test.YtliigpmpeldebaaGreatJBdA
import Derived.Test.YtliigpmpeldebaaGreatTyG
namespace Go.Proofs.YtliigpmpeldebaaGreat
open Go.RowKit

/-- Behind an effect that no load comes up behind. -/
theorem Af.new {late : Bool} {S : World → Prop} {w1 : World} {p : (World → Prop) → Prop} (k : p (fun u => Ext w1 u)) (hl : late = false := by kernel_rfl) : Af late S w1 p :=
  ⟨fun u => Ext w1 u, Chg.refl _ _, (fun h => absurd h (by rw [hl]; simp)), k⟩

/-- Trees in a slice that the call appends to. -/
theorem Kids.of_grow {α : Type} {enc : α → List Value} {w : World} {e : TypeId} {sz : Nat} {r : Value} {ts : List (Rose α)} {vs : List Value} {cs O : List Nat} (hg : Grow w e sz r ts.length (fl enc ts vs) O) (hk : KidsL enc w vs ts cs) (hm : ts.length ≤ maxLen) :
    ∃ ds, Kids enc w r ts ds ∧ ds.Sublist (O ++ cs) := by
  obtain ⟨_, ⟨rfl, h0, rfl⟩ | ⟨g, cap, rest, rfl, rfl, hb, hc, _⟩⟩ := hg
  · obtain rfl : ts = [] := List.eq_nil_of_length_eq_zero h0
    exact ⟨[], Kids.nil, by simp⟩
  · exact Kids.of_blk hb hk rfl ⟨hm, hc⟩

def CopySaid (ks : List Tp) : Prop := Rose.cnt ks ≤ 4294967296 → ∀ (w : World) (v : Value) (bs : List Nat), Kids encT w v ks bs → Ret Tryz.prog 96 [v] w (NewTys w ks)

theorem c_l4Copy' {l : TLab} {ks : List Tp} (ih : CopySaid ks) (hs : Rose.cnt ks ≤ 4294967296) {w : World} {v : Value} {bs : List Nat} (hk : Kids encT w v ks bs) :
    Ret Tryz.prog 81 [.agg #[.int .i64 l.1, .string l.2, v]] w (NewTy w l ks) := by
  refine ret_of_vc ttOk Tryz.func81 rfl (by kernel_rfl) (by kernel_rfl) ?_
  refine Go1.bx ?_
  intro w1 hx1 hb1
  refine Go1.al tiTy ?_
  intro w2 hx2 hb2
  have lt1 := hb1.lt
  have lt2 := hb2.lt
  have sz1 := hx1.size
  have sz2 := hx2.size
  refine Dr.x [0, 1, 2, 3, 4, 5, 6, 7, 8] ttOk ?_
  refine GoS.fl 0 (LdS.x1 (hb1.ext hx2).at0 ?_)
  refine GoS.fl 1 (LdS.x1 (hb1.ext hx2).at1 ?_)
  refine GoS.fl 2 (LdS.x1 (hb1.ext hx2).at2 ?_)
  refine ⟨fun w3 hx3 => ?_⟩
  refine (ih hs w3 v bs (((hk.ext hx1).ext hx2).ext hx3)).mono ?_
  rintro r w4 ⟨hx4, cs, hk4, hf4⟩
  obtain ⟨ao, cap, rfl, _, _⟩ := hk4.form
  have sz3 := hx3.size
  have sz4 := hx4.size
  refine Af.ext (hx3.trans hx4) ?_
  refine GoS.bd [.int .i64 l.1, .string l.2, .slice ao ks.length cap] ?_
  refine ⟨fun w5 hx5 => ?_⟩
  have sz5 := hx5.size
  refine Go0.st (off := 0) (vs := [.int .i64 l.1, .string l.2, .slice ao ks.length cap]) (((hb2.ext hx3).ext hx4).ext hx5) rfl rfl (by simp [Value.cells]) (by simp [Value.oneCell']) ?_
  intro w6 hx6 hb6 _
  have hb6 : Blk w6 w1.heap.size 26 [.int .i64 l.1, .string l.2, .slice ao ks.length cap] := hb6
  refine Af.new ?_
  intro w7 hx7
  refine Ld.agg (vs := [.int .i64 l.1, .string l.2, .slice ao ks.length cap]) (Blk.lc0 (post := []) (hb6.ext hx7)) ?_
  have hn : ∀ b ∈ cs, ¬ b = w1.heap.size := fun b hb => by have := hf4.lo b hb; omega
  refine ⟨((((((hx1.trans hx2).trans hx3).trans hx4).trans hx5)).chg hx6 (by omega)).trans hx7, _, cs, rfl, ((hk4.ext hx5).chg hx6 hn).ext hx7, (((hf4.ext hx5).chg hx6 hn).ext hx7).mono (by omega)⟩

/-- spec.l4Copies -/
theorem c_l4Copies (ks : List Tp) : CopySaid ks := by
  refine Rose.forest (fun ks ih => ?_) ks
  intro hs w v bs hk
  obtain ⟨ao, cap, rfl, hm, hcap⟩ := hk.form
  have hM : maxLen = 9223372036854775807 := rfl
  have hlen : ks.length ≤ 4294967296 := Nat.le_trans (Rose.wtL_length _ _) hs
  refine ret_of_vc ttOk Tryz.func96 rfl (by kernel_rfl) (by kernel_rfl) ?_
  refine Go1.b0 26 (size := 3) (bytes := 48) Tryz.underlying24 tiTy ?_
  intro w1 u hx1 hg1 hu
  subst hu
  refine Lp.go ttOk (by kernel_rfl) (fun b : Nat × Value => [(0, .slice ao ks.length cap), (3, b.2), (4, .int .i64 b.1)])
    (fun b w' => Ext w w' ∧ b.1 ≤ ks.length ∧ ∃ vs cs O, Grow w' 26 3 b.2 b.1 (fl encT (ks.take b.1) vs) O ∧ KidsL encT w' vs (ks.take b.1) cs ∧ Fresh w.heap.size w' (O ++ cs)) (fun b => ks.length - b.1) (0, .slice (some ⟨w.heap.size, 0, none⟩) 0 0)
    ⟨rfl, rfl, rfl, trivial⟩ ⟨hx1, Nat.zero_le _, [], [], [w.heap.size], hg1, rfl, by simpa using hg1.fresh (by simp)⟩ ?_
  rintro ⟨k, r⟩ w2 ⟨hx2, hk1, vs, cs, O, hg, hkl, hf⟩
  simp only at hk1 hg hkl
  refine Cm.s (fun hlt => ?_) (fun hge => ?_)
  · have hkl' : k < ks.length := by have : (k : Int) < ks.length := hlt; omega
    obtain ⟨a, t, v1, b1, rfl, ht, hc, hkt, _⟩ := (hk.ext hx2).get encT_sz hkl'
    have htm := List.mem_of_getElem? ht
    have hcm := Rose.cnt_mem htm
    refine Go1.ix 3 hkl' (Ld.agg hc ?_)
    refine (c_l4Copy' (ih t htm) (by omega) hkt).mono ?_
    rintro _ w3 ⟨hx3, v3, cs3, rfl, hk3, hf3⟩
    obtain ⟨ao3, cap3, rfl, _, _⟩ := hk3.form
    refine Go1.bs 26 [.int .i64 t.lab.1, .string t.lab.2, .slice ao3 t.kids.length cap3] (size := 3) (bytes := 48) Tryz.underlying24 tiTy (by decide) (by decide) (by kernel_rfl) ?_
    intro w4 hx4 hb4
    have sz2 := hx2.size
    have sz3 := hx3.size
    have sz4 := hx4.size
    refine Go1.app (size := 3) (bytes := 48) Tryz.underlying24 tiTy (by rfl) (by decide) ((hg.ext hx3).ext hx4) (m := 1) (news := [.int .i64 t.lab.1, .string t.lab.2, .slice ao3 t.kids.length cap3]) (Blk.lc0 (post := []) hb4) (by simp) (by simp [Value.oneCell']) (by omega) (by decide) ?_
    intro r5 w5 O5 hc5 hg5 hO5
    refine Wr.n (k + 1) (by simp) (by omega) ?_
    have hnd := List.nodup_append.1 hf.nodup
    have hOcs : ∀ b ∈ cs, b ∉ O := fun b hb hb' => hnd.2.2 b hb' b hb rfl
    have hO3 : ∀ b ∈ cs3, b ∉ O := fun b hb hb' => by
      have h1 := hf3.lo b hb
      have h2 := hf.lt b (List.mem_append_left _ hb')
      omega
    have hOlo : ∀ b ∈ O, w.heap.size ≤ b := fun b hb => hf.lo b (List.mem_append_left _ hb)
    have hvl : vs.length = (ks.take k).length := hkl.length
    have hf4 := ((hf.ext hx3).ext hx4)
    have hcs5 : Fresh w.heap.size w5 cs := (hf4.sub (List.sublist_append_right _ _)).chg hc5 hOcs
    have hcs35 : Fresh w.heap.size w5 cs3 := ((hf3.ext hx4).chg hc5 hO3).mono (by omega)
    have hO5f : Fresh w.heap.size w5 O5 := hg5.fresh fun b hb => by
      rcases hO5 b hb with h | h
      · exact hOlo b h
      · omega
    refine ⟨(k + 1, r5), ⟨rfl, rfl, rfl, trivial⟩, ⟨Chg.big ((hx2.trans hx3).trans hx4) hc5 hOlo, hkl', vs ++ [.slice ao3 t.kids.length cap3], cs ++ cs3, O5, ?_, ?_, ?_⟩, by simp; omega⟩
    · rw [take_succ_get ht, fl_snoc hvl]
      exact hg5
    · rw [take_succ_get ht]
      exact KidsL.snoc ((hk3.ext hx4).chg hc5 hO3) ((hkl.chg (hx3.trans hx4) fun _ _ => id).chg hc5 hOcs)
    · refine ⟨List.nodup_append.2 ⟨hO5f.nodup, List.nodup_append.2 ⟨hcs5.nodup, hcs35.nodup, fun a ha b hb e => ?_⟩, fun a ha b hb e => ?_⟩, fun b hb => ?_, fun b hb => ?_⟩
      · have h1 := hf.lt a (List.mem_append_right _ ha)
        have h2 := hf3.lo b hb
        omega
      · subst e
        rcases hO5 a ha with h | h
        · rcases List.mem_append.1 hb with hb | hb
          · exact hOcs a hb h
          · exact hO3 a hb h
        · rcases List.mem_append.1 hb with hb | hb
          · have := hf.lt a (List.mem_append_right _ hb)
            omega
          · have := hf3.lt a hb
            omega
      · rcases List.mem_append.1 hb with hb | hb
        · exact hO5f.lo b hb
        · rcases List.mem_append.1 hb with hb | hb
          · exact hcs5.lo b hb
          · exact hcs35.lo b hb
      · rcases List.mem_append.1 hb with hb | hb
        · exact hO5f.blk b hb
        · rcases List.mem_append.1 hb with hb | hb
          · exact hcs5.blk b hb
          · exact hcs35.blk b hb
  · have : k = ks.length := by have : ¬ (k : Int) < ks.length := hge; omega
    subst this
    rw [List.take_length] at hg hkl
    obtain ⟨ds, h1, h2⟩ := Kids.of_grow hg hkl hm
    exact ⟨hx2, ds, h1, hf.sub h2⟩

/-- spec.l4Copy -/
theorem c_l4Copy {l : TLab} {ks : List Tp} (hs : Rose.cnt ks ≤ 4294967296) {w : World} {v : Value} {bs : List Nat} (hk : Kids encT w v ks bs) :
    Ret Tryz.prog 81 [.agg #[.int .i64 l.1, .string l.2, v]] w (NewTy w l ks) := c_l4Copy' (c_l4Copies ks) hs hk


/-- What a variable is bound to. -/
def lookO (s : ByteArray) : List Bi → Option Tp
  | [] => none
  | x :: xs => if x.1 = s then some x.2 else lookO s xs
def emT : Tp := .mk (0, ⟨#[]⟩) []
def lookT (s : ByteArray) (xs : List Bi) : Tp := (lookO s xs).getD emT
theorem lookO_at {s : ByteArray} : ∀ {xs : List Bi} {k : Nat} {x : Bi}, xs[k]? = some x → (∀ y ∈ xs.take k, y.1 ≠ s) → x.1 = s → lookO s xs = some x.2
  | y :: xs, 0, x, h, _, hs => by
    simp at h
    subst h
    rw [lookO, if_pos hs]
  | y :: xs, k + 1, x, h, hn, hs => by
    simp only [List.take_succ_cons, List.mem_cons, forall_eq_or_imp] at hn
    rw [lookO, if_neg hn.1]
    exact lookO_at (by simpa using h) hn.2 hs
theorem lookO_none {s : ByteArray} : ∀ {xs : List Bi}, (∀ y ∈ xs, y.1 ≠ s) → lookO s xs = none
  | [], _ => rfl
  | y :: xs, h => by
    rw [lookO, if_neg (h y List.mem_cons_self)]
    exact lookO_none fun z hz => h z (List.mem_cons_of_mem _ hz)
theorem cntB_mem {xs : List Bi} {x : Bi} (h : x ∈ xs) : 1 + Rose.cnt x.2.kids ≤ cntB xs := by
  induction xs with
  | nil => cases h
  | cons y xs ih =>
    simp only [cntB]
    rcases List.mem_cons.1 h with rfl | h
    · omega
    · have := ih h; omega
theorem lookT_cnt (s : ByteArray) (xs : List Bi) : Rose.cnt (lookT s xs).kids ≤ cntB xs := by
  induction xs with
  | nil =>
    show Rose.wtL _ [] ≤ _
    rw [Rose.wtL_nil]
    omega
  | cons x xs ih =>
    unfold lookT lookO
    simp only [cntB]
    split
    · show Rose.cnt x.2.kids ≤ _
      omega
    · have ih : Rose.cnt ((lookO s xs).getD emT).kids ≤ cntB xs := ih
      omega

/-- What a function hands back that makes a Type, and a bool. -/
def NewTy2 (w : World) (ok : Bool) (l : TLab) (ks : List Tp) (r : Value) (w' : World) : Prop := Ext w w' ∧ ∃ v bs, r = .tuple #[.agg #[.int .i64 l.1, .string l.2, v], .bool ok] ∧ Kids encT w' v ks bs ∧ Fresh w.heap.size w' bs

end Go.Proofs.YtliigpmpeldebaaGreat
