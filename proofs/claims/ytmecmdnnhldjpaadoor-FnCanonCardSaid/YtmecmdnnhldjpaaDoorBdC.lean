/- Contracts: copies of Types; Lookup. Conditions: none. -/
import Derived.Test.YtmecmdnnhldjpaaDoorJBdA
import Derived.Test.YtmecmdnnhldjpaaDoorTyG
namespace Go.Proofs.YtmecmdnnhldjpaaDoor
open Go.RowKit

/-- Behind an effect that no load comes up behind. -/
theorem Af.new {late : Bool} {S : World → Prop} {w1 : World} {p : (World → Prop) → Prop} (k : p (fun u => Ext w1 u)) (hl : late = false := by kernel_rfl) : Af late S w1 p :=
  ⟨fun u => Ext w1 u, Chg.refl _ _, (fun h => absurd h (by rw [hl]; simp)), k⟩

/-- Trees in a slice that the call appends to. -/
theorem Kids.of_grow {α : Type} {enc : α → List Value} {w : World} {e : TypeId} {sz : Nat} {r : Value} {ts : List (Rose α)} {vs : List Value} {cs O : List Nat} (hg : Grow w e sz r ts.length (fl enc ts vs) O) (hk : KidsL enc w vs ts cs) (hm : ts.length ≤ maxLen) :
    ∃ ds, Kids enc w r ts ds ∧ ds.Sublist (O ++ cs) := by
  obtain ⟨_, ⟨rfl, h0, rfl⟩ | ⟨g, cap, rest, rfl, rfl, hb, hc, _⟩⟩ := hg
  · obtain rfl : ts = [] := List.eq_nil_of_length_eq_zero h0
    exact ⟨[], Kids.nil, by simp⟩
  · exact Kids.of_blk hb hk rfl ⟨hm, hc⟩

def CopySaid (ks : List Tp) : Prop := Rose.cnt ks ≤ 4294967296 → ∀ (w : World) (v : Value) (bs : List Nat), Kids encT w v ks bs → Ret Tryd.prog 72 [v] w (NewTys w ks)

theorem c_l4Copy' {l : TLab} {ks : List Tp} (ih : CopySaid ks) (hs : Rose.cnt ks ≤ 4294967296) {w : World} {v : Value} {bs : List Nat} (hk : Kids encT w v ks bs) :
    Ret Tryd.prog 67 [.agg #[.int .i64 l.1, .string l.2, v]] w (NewTy w l ks) := by
  refine ret_of_vc ttOk Tryd.func67 rfl (by kernel_rfl) (by kernel_rfl) ?_
  refine Go1.bx ?_
  intro w1 hx1 hb1
  refine Go1.al tiTy ?_
  intro w2 hx2 hb2
  have lt1 := hb1.lt
  have lt2 := hb2.lt
  have sz1 := hx1.size
  have sz2 := hx2.size
  refine Dr.x [0, 1, 2, 3, 4, 5, 6, 7, 8] ttOk ?_
  refine GoS.fl 0 (LdS.x1 (hb1.ext hx2).at0 ?_)
  refine GoS.fl 1 (LdS.x1 (hb1.ext hx2).at1 ?_)
  refine GoS.fl 2 (LdS.x1 (hb1.ext hx2).at2 ?_)
  refine ⟨fun w3 hx3 => ?_⟩
  refine (ih hs w3 v bs (((hk.ext hx1).ext hx2).ext hx3)).mono ?_
  rintro r w4 ⟨hx4, cs, hk4, hf4⟩
  obtain ⟨ao, cap, rfl, _, _⟩ := hk4.form
  have sz3 := hx3.size
  have sz4 := hx4.size
  refine Af.ext (hx3.trans hx4) ?_
  refine GoS.bd [.int .i64 l.1, .string l.2, .slice ao ks.length cap] ?_
  refine ⟨fun w5 hx5 => ?_⟩
  have sz5 := hx5.size
  refine Go0.st (off := 0) (vs := [.int .i64 l.1, .string l.2, .slice ao ks.length cap]) (((hb2.ext hx3).ext hx4).ext hx5) rfl rfl (by simp [Value.cells]) (by simp [Value.oneCell']) ?_
  intro w6 hx6 hb6 _
  have hb6 : Blk w6 w1.heap.size 38 [.int .i64 l.1, .string l.2, .slice ao ks.length cap] := hb6
  refine Af.new ?_
  intro w7 hx7
  refine Ld.agg (vs := [.int .i64 l.1, .string l.2, .slice ao ks.length cap]) (Blk.lc0 (post := []) (hb6.ext hx7)) ?_
  have hn : ∀ b ∈ cs, ¬ b = w1.heap.size := fun b hb => by have := hf4.lo b hb; omega
  refine ⟨((((((hx1.trans hx2).trans hx3).trans hx4).trans hx5)).chg hx6 (by omega)).trans hx7, _, cs, rfl, ((hk4.ext hx5).chg hx6 hn).ext hx7, (((hf4.ext hx5).chg hx6 hn).ext hx7).mono (by omega)⟩

/-- spec.l4Copies -/
theorem c_l4Copies (ks : List Tp) : CopySaid ks := by
  refine Rose.forest (fun ks ih => ?_) ks
  intro hs w v bs hk
  obtain ⟨ao, cap, rfl, hm, hcap⟩ := hk.form
  have hM : maxLen = 9223372036854775807 := rfl
  have hlen : ks.length ≤ 4294967296 := Nat.le_trans (Rose.wtL_length _ _) hs
  refine ret_of_vc ttOk Tryd.func72 rfl (by kernel_rfl) (by kernel_rfl) ?_
  refine Go1.b0 38 (size := 3) (bytes := 48) Tryd.underlying26 tiTy ?_
  intro w1 u hx1 hg1 hu
  subst hu
  refine Lp.go ttOk (by kernel_rfl) (fun b : Nat × Value => [(0, .slice ao ks.length cap), (3, b.2), (4, .int .i64 b.1)])
    (fun b w' => Ext w w' ∧ b.1 ≤ ks.length ∧ ∃ vs cs O, Grow w' 38 3 b.2 b.1 (fl encT (ks.take b.1) vs) O ∧ KidsL encT w' vs (ks.take b.1) cs ∧ Fresh w.heap.size w' (O ++ cs)) (fun b => ks.length - b.1) (0, .slice (some ⟨w.heap.size, 0, none⟩) 0 0)
    ⟨rfl, rfl, rfl, trivial⟩ ⟨hx1, Nat.zero_le _, [], [], [w.heap.size], hg1, rfl, by simpa using hg1.fresh (by simp)⟩ ?_
  rintro ⟨k, r⟩ w2 ⟨hx2, hk1, vs, cs, O, hg, hkl, hf⟩
  simp only at hk1 hg hkl
  refine Cm.s (fun hlt => ?_) (fun hge => ?_)
  · have hkl' : k < ks.length := by have : (k : Int) < ks.length := hlt; omega
    obtain ⟨a, t, v1, b1, rfl, ht, hc, hkt, _⟩ := (hk.ext hx2).get encT_sz hkl'
    have htm := List.mem_of_getElem? ht
    have hcm := Rose.cnt_mem htm
    refine Go1.ix 3 hkl' (Ld.agg hc ?_)
    refine (c_l4Copy' (ih t htm) (by omega) hkt).mono ?_
    rintro _ w3 ⟨hx3, v3, cs3, rfl, hk3, hf3⟩
    obtain ⟨ao3, cap3, rfl, _, _⟩ := hk3.form
    refine Go1.bs 38 [.int .i64 t.lab.1, .string t.lab.2, .slice ao3 t.kids.length cap3] (size := 3) (bytes := 48) Tryd.underlying26 tiTy (by decide) (by decide) (by kernel_rfl) ?_
    intro w4 hx4 hb4
    have sz2 := hx2.size
    have sz3 := hx3.size
    have sz4 := hx4.size
    refine Go1.app (size := 3) (bytes := 48) Tryd.underlying26 tiTy (by rfl) (by decide) ((hg.ext hx3).ext hx4) (m := 1) (news := [.int .i64 t.lab.1, .string t.lab.2, .slice ao3 t.kids.length cap3]) (Blk.lc0 (post := []) hb4) (by simp) (by simp [Value.oneCell']) (by omega) (by decide) ?_
    intro r5 w5 O5 hc5 hg5 hO5
    refine Wr.n (k + 1) (by simp) (by omega) ?_
    have hnd := List.nodup_append.1 hf.nodup
    have hOcs : ∀ b ∈ cs, b ∉ O := fun b hb hb' => hnd.2.2 b hb' b hb rfl
    have hO3 : ∀ b ∈ cs3, b ∉ O := fun b hb hb' => by
      have h1 := hf3.lo b hb
      have h2 := hf.lt b (List.mem_append_left _ hb')
      omega
    have hOlo : ∀ b ∈ O, w.heap.size ≤ b := fun b hb => hf.lo b (List.mem_append_left _ hb)
    have hvl : vs.length = (ks.take k).length := hkl.length
    have hf4 := ((hf.ext hx3).ext hx4)
    have hcs5 : Fresh w.heap.size w5 cs := (hf4.sub (List.sublist_append_right _ _)).chg hc5 hOcs
    have hcs35 : Fresh w.heap.size w5 cs3 := ((hf3.ext hx4).chg hc5 hO3).mono (by omega)
    have hO5f : Fresh w.heap.size w5 O5 := hg5.fresh fun b hb => by
      rcases hO5 b hb with h | h
      · exact hOlo b h
      · omega
    refine ⟨(k + 1, r5), ⟨rfl, rfl, rfl, trivial⟩, ⟨Chg.big ((hx2.trans hx3).trans hx4) hc5 hOlo, hkl', vs ++ [.slice ao3 t.kids.length cap3], cs ++ cs3, O5, ?_, ?_, ?_⟩, by simp; omega⟩
    · rw [take_succ_get ht, fl_snoc hvl]
      exact hg5
    · rw [take_succ_get ht]
      exact KidsL.snoc ((hk3.ext hx4).chg hc5 hO3) ((hkl.chg (hx3.trans hx4) fun _ _ => id).chg hc5 hOcs)
    · refine ⟨List.nodup_append.2 ⟨hO5f.nodup, List.nodup_append.2 ⟨hcs5.nodup, hcs35.nodup, fun a ha b hb e => ?_⟩, fun a ha b hb e => ?_⟩, fun b hb => ?_, fun b hb => ?_⟩
      · have h1 := hf.lt a (List.mem_append_right _ ha)
        have h2 := hf3.lo b hb
        omega
      · subst e
        rcases hO5 a ha with h | h
        · rcases List.mem_append.1 hb with hb | hb
          · exact hOcs a hb h
          · exact hO3 a hb h
        · rcases List.mem_append.1 hb with hb | hb
          · have := hf.lt a (List.mem_append_right _ hb)
            omega
          · have := hf3.lt a hb
            omega
      · rcases List.mem_append.1 hb with hb | hb
        · exact hO5f.lo b hb
        · rcases List.mem_append.1 hb with hb | hb
          · exact hcs5.lo b hb
          · exact hcs35.lo b hb
      · rcases List.mem_append.1 hb with hb | hb
        · exact hO5f.blk b hb
        · rcases List.mem_append.1 hb with hb | hb
          · exact hcs5.blk b hb
          · exact hcs35.blk b hb
  · have : k = ks.length := by have : ¬ (k : Int) < ks.length := hge; omega
    subst this
    rw [List.take_length] at hg hkl
    obtain ⟨ds, h1, h2⟩ := Kids.of_grow hg hkl hm
    exact ⟨hx2, ds, h1, hf.sub h2⟩

/-- spec.l4Copy -/
theorem c_l4Copy {l : TLab} {ks : List Tp} (hs : Rose.cnt ks ≤ 4294967296) {w : World} {v : Value} {bs : List Nat} (hk : Kids encT w v ks bs) :
    Ret Tryd.prog 67 [.agg #[.int .i64 l.1, .string l.2, v]] w (NewTy w l ks) := c_l4Copy' (c_l4Copies ks) hs hk

def CopyISaid (ks : List Tp) : Prop := Rose.cnt ks ≤ 4294967296 → ∀ (w : World) (v : Value) (bs : List Nat), Kids encT w v ks bs → Ret Tryd.prog 73 [v] w (NewTys w ks)

theorem c_copyType' {l : TLab} {ks : List Tp} (ih : CopyISaid ks) (hs : Rose.cnt ks ≤ 4294967296) {w : World} {v : Value} {bs : List Nat} (hk : Kids encT w v ks bs) :
    Ret Tryd.prog 68 [.agg #[.int .i64 l.1, .string l.2, v]] w (NewTy w l ks) := by
  obtain ⟨ao0, cap0, rfl, _, _⟩ := hk.form
  refine ret_of_vc ttOk Tryd.func68 rfl (by kernel_rfl) (by kernel_rfl) ?_
  refine Go1.bx ?_
  intro w1 hx1 hb1
  refine Go1.al tiTy ?_
  intro w2 hx2 hb2
  have lt1 := hb1.lt
  have lt2 := hb2.lt
  have sz1 := hx1.size
  have sz2 := hx2.size
  refine Go1.fl 2 (Ld.one (hb1.ext hx2).at2 ?_)
  refine (ih hs w2 _ bs ((hk.ext hx1).ext hx2)).mono ?_
  rintro r w3 ⟨hx3, cs, hk3, hf3⟩
  obtain ⟨ao, cap, rfl, _, _⟩ := hk3.form
  have sz3 := hx3.size
  refine Go1.fl 2 ?_
  refine Go0.st (off := 2) (vs := [.slice ao ks.length cap]) ((hb1.ext hx2).ext hx3) (by rw [Addr.add_lit]) rfl (by simp [Value.cells]) (by simp [Value.oneCell']) ?_
  intro w4 hx4 hb4 _
  have hb4 : Blk w4 w.heap.size 38 [.int .i64 l.1, .string l.2, .slice ao ks.length cap] := hb4
  refine Ld.agg (vs := [.int .i64 l.1, .string l.2, .slice ao ks.length cap]) (Blk.lc0 (post := []) hb4) ?_
  refine Go0.st (off := 0) (vs := [.int .i64 l.1, .string l.2, .slice ao ks.length cap]) ((hb2.ext hx3).chg hx4 (by omega)) rfl rfl (by simp [Value.cells]) (by simp [Value.oneCell']) ?_
  intro w5 hx5 hb5 _
  have hb5 : Blk w5 w1.heap.size 38 [.int .i64 l.1, .string l.2, .slice ao ks.length cap] := hb5
  refine Ld.agg (vs := [.int .i64 l.1, .string l.2, .slice ao ks.length cap]) (Blk.lc0 (post := []) hb5) ?_
  have hn4 : ∀ b ∈ cs, ¬ b = w.heap.size := fun b hb => by have := hf3.lo b hb; omega
  have hn5 : ∀ b ∈ cs, ¬ b = w1.heap.size := fun b hb => by have := hf3.lo b hb; omega
  exact ⟨(((hx1.trans hx2).trans hx3).chg hx4 (by omega)).chg hx5 (by omega), _, cs, rfl, (hk3.chg hx4 hn4).chg hx5 hn5, ((hf3.chg hx4 hn4).chg hx5 hn5).mono (by omega)⟩

/-- impl.copyTypes -/
theorem c_copyTypes (ks : List Tp) : CopyISaid ks := by
  refine Rose.forest (fun ks ih => ?_) ks
  intro hs w v bs hk
  obtain ⟨ao, cap, rfl, hm, hcap⟩ := hk.form
  have hlen : ks.length ≤ 4294967296 := Nat.le_trans (Rose.wtL_length _ _) hs
  refine ret_of_vc ttOk Tryd.func73 rfl (by kernel_rfl) (by kernel_rfl) ?_
  refine Go1.make 38 Tryd.underlying26 tiTy rfl (by omega) hm ?_
  intro w1 hx1 hb1
  refine Lp.go ttOk (by kernel_rfl) (fun k : Nat => [(3, .slice (some ⟨w.heap.size, 0, none⟩) ks.length ks.length), (9, .slice ao ks.length cap), (10, .int .i64 ks.length), (11, .int .i64 k)])
    (fun k w' => Ext w w' ∧ k ≤ ks.length ∧ ∃ vs cs, KidsL encT w' vs (ks.take k) cs ∧ Fresh (w.heap.size + 1) w' cs ∧ Blk w' w.heap.size 38 (fl encT (ks.take k) vs ++ zeros [.int .i64 0, .string ⟨#[]⟩, .slice none 0 0] (ks.length - k))) (fun k => ks.length - k) 0
    ⟨rfl, rfl, rfl, rfl, trivial⟩ ⟨hx1, Nat.zero_le _, [], [], rfl, Fresh.nil _ _, by simpa [fl, Value.cells] using hb1⟩ ?_
  rintro k w' ⟨hx, hkl, vs, cs, hkl1, hf, hb⟩
  refine Cm.s (fun hlt => ?_) (fun hge => ?_)
  · have hlt : k < ks.length := by omega
    obtain ⟨a, t, v1, b1, rfl, ht, hc, hk1, _⟩ := (hk.ext hx).get encT_sz hlt
    have htm : t ∈ ks := List.mem_of_getElem? ht
    have hcnt := Rose.cnt_mem htm
    obtain ⟨ao3, cap3, rfl, _, _⟩ := hk1.form
    refine Go1.ix 3 hlt (Ld.agg hc ?_)
    refine Go1.al tiTy ?_
    intro w4 hxw4 hbw4
    have ltw4 := hbw4.lt
    refine Go0.st (off := 0) (vs := [.int .i64 t.lab.1, .string t.lab.2, .slice ao3 t.kids.length cap3]) hbw4 rfl rfl (by simp [Value.cells]) (by simp [Value.oneCell']) ?_
    intro w5 hx0w5 hb0w5 _
    have hbw5 : Blk w5 w'.heap.size 38 [.int .i64 t.lab.1, .string t.lab.2, .slice ao3 t.kids.length cap3] := hb0w5
    have hxw5 : Ext w' w5 := hxw4.chg hx0w5 (by omega)
    refine Ld.agg (vs := [.int .i64 t.lab.1, .string t.lab.2, .slice ao3 t.kids.length cap3]) (Blk.lc0 (post := []) hbw5) ?_
    refine (c_copyType' (ih t htm) (by omega) (hk1.ext hxw5)).mono ?_
    rintro r w2 ⟨hx2, v2, b2, rfl, hk2, hf2⟩
    refine Go1.ix 3 hlt ?_
    obtain ⟨ao2, cap2, rfl, _, _⟩ := hk2.form
    have hvl : vs.length = (ks.take k).length := hkl1.length
    have hfl := length_fl encT_sz hvl
    have htk : (ks.take k).length = k := by simp; omega
    rw [htk] at hfl
    have lt0 := hb.lt
    have szx := hx.size
    have sz5 := hxw5.size
    have hx2' := hxw5.trans hx2
    refine Go0.st (off := k * 3) (vs := [.int .i64 t.lab.1, .string t.lab.2, .slice ao2 t.kids.length cap2]) (hb.ext hx2') (by rw [Addr.add_lit]; simp) rfl (by simp [length_zeros, hfl]; omega) (by simp [Value.oneCell']) ?_
    intro w3 hx3 hb3 hs3
    refine Wr.n (k + 1) (by omega) (by omega) ?_
    have hn1 : ∀ b ∈ cs, ¬ b = w.heap.size := fun b hb => by have := hf.lo b hb; omega
    have hn2 : ∀ b ∈ b2, ¬ b = w.heap.size := fun b hb => by have := hf2.lo b hb; omega
    refine ⟨k + 1, ⟨rfl, rfl, rfl, rfl, trivial⟩, ⟨(hx.trans hx2').chg hx3 (by omega), hlt, vs ++ [.slice ao2 t.kids.length cap2], cs ++ b2, ?_, ?_, ?_⟩, by omega⟩
    · rw [take_succ_get ht]
      exact KidsL.snoc (hk2.chg hx3 hn2) (((hkl1.chg hx2' fun _ _ => id)).chg hx3 hn1)
    · refine ((hf.ext hx2').chg hx3 hn1).append (hf2.chg hx3 hn2) (by omega) fun b hb => ?_
      have := hf.lt b hb
      omega
    · rw [take_succ_get ht, fl_snoc hvl]
      rw [spl_app _ _ _ hfl.symm] at hb3
      have : (zeros [.int .i64 0, .string ⟨#[]⟩, .slice none 0 0] (ks.length - k)).drop 3 = zeros [.int .i64 0, .string ⟨#[]⟩, .slice none 0 0] (ks.length - (k + 1)) := by
        rw [show ks.length - k = (ks.length - (k + 1)) + 1 by omega]
        simp [zeros, List.replicate_succ]
      simp only [List.length_cons, List.length_nil, Nat.reduceAdd, this] at hb3
      exact hb3
  · have : k = ks.length := by omega
    subst this
    rw [List.take_length] at hkl1 hb
    obtain ⟨cs', h1, h2⟩ := Kids.of_blk (cap := ks.length) hb hkl1 rfl ⟨hm, Nat.le_refl _⟩
    refine ⟨hx, cs', h1, Fresh.sub (Fresh.cons hb (Nat.le_refl _) (hf.mono (by omega)) (fun hh => by have := hf.lo _ hh; omega)) h2⟩

/-- impl.copyType -/
theorem c_copyType {l : TLab} {ks : List Tp} (hs : Rose.cnt ks ≤ 4294967296) {w : World} {v : Value} {bs : List Nat} (hk : Kids encT w v ks bs) :
    Ret Tryd.prog 68 [.agg #[.int .i64 l.1, .string l.2, v]] w (NewTy w l ks) := c_copyType' (c_copyTypes ks) hs hk

/-- What a variable is bound to. -/
def lookO (s : ByteArray) : List Bi → Option Tp
  | [] => none
  | x :: xs => if x.1 = s then some x.2 else lookO s xs
def emT : Tp := .mk (0, ⟨#[]⟩) []
def lookT (s : ByteArray) (xs : List Bi) : Tp := (lookO s xs).getD emT
theorem lookO_at {s : ByteArray} : ∀ {xs : List Bi} {k : Nat} {x : Bi}, xs[k]? = some x → (∀ y ∈ xs.take k, y.1 ≠ s) → x.1 = s → lookO s xs = some x.2
  | y :: xs, 0, x, h, _, hs => by
    simp at h
    subst h
    rw [lookO, if_pos hs]
  | y :: xs, k + 1, x, h, hn, hs => by
    simp only [List.take_succ_cons, List.mem_cons, forall_eq_or_imp] at hn
    rw [lookO, if_neg hn.1]
    exact lookO_at (by simpa using h) hn.2 hs
theorem lookO_none {s : ByteArray} : ∀ {xs : List Bi}, (∀ y ∈ xs, y.1 ≠ s) → lookO s xs = none
  | [], _ => rfl
  | y :: xs, h => by
    rw [lookO, if_neg (h y List.mem_cons_self)]
    exact lookO_none fun z hz => h z (List.mem_cons_of_mem _ hz)
theorem cntB_mem {xs : List Bi} {x : Bi} (h : x ∈ xs) : 1 + Rose.cnt x.2.kids ≤ cntB xs := by
  induction xs with
  | nil => cases h
  | cons y xs ih =>
    simp only [cntB]
    rcases List.mem_cons.1 h with rfl | h
    · omega
    · have := ih h; omega
theorem lookT_cnt (s : ByteArray) (xs : List Bi) : Rose.cnt (lookT s xs).kids ≤ cntB xs := by
  induction xs with
  | nil =>
    show Rose.wtL _ [] ≤ _
    rw [Rose.wtL_nil]
    omega
  | cons x xs ih =>
    unfold lookT lookO
    simp only [cntB]
    split
    · show Rose.cnt x.2.kids ≤ _
      omega
    · have ih : Rose.cnt ((lookO s xs).getD emT).kids ≤ cntB xs := ih
      omega

/-- What a function hands back that makes a Type, and a bool. -/
def NewTy2 (w : World) (ok : Bool) (l : TLab) (ks : List Tp) (r : Value) (w' : World) : Prop := Ext w w' ∧ ∃ v bs, r = .tuple #[.agg #[.int .i64 l.1, .string l.2, v], .bool ok] ∧ Kids encT w' v ks bs ∧ Fresh w.heap.size w' bs

/-- spec.Lookup -/
theorem c_sLookup {xs : List Bi} (hs : cntB xs ≤ 4294967296) (s : ByteArray) {w : World} {v : Value} {bs : List Nat} (hk : Bds w v xs bs) :
    Ret Tryd.prog 58 [v, .string s] w (NewTy2 w (lookO s xs).isSome (lookT s xs).lab (lookT s xs).kids) := by
  obtain ⟨ao, cap, rfl, hm, hcap⟩ := hk.form
  have hM : maxLen = 9223372036854775807 := rfl
  refine ret_of_vc ttOkB Tryd.func58 rfl (by kernel_rfl) (by kernel_rfl) ?_
  refine Go1.al tiTy ?_
  intro w1 hx1 hb1
  have lt1 := hb1.lt
  refine Lp.go ttOkB (by kernel_rfl) (fun k : Nat => [(0, .slice ao xs.length cap), (1, .string s), (4, .pointer (some ⟨w.heap.size, 0, none⟩)), (6, .int .i64 k)]) (fun k w' => w' = w1 ∧ k ≤ xs.length ∧ ∀ y ∈ xs.take k, y.1 ≠ s) (fun k => xs.length - k) 0
    ⟨rfl, rfl, rfl, rfl, trivial⟩ ⟨rfl, Nat.zero_le _, by simp⟩ ?_
  rintro k w2 ⟨rfl, hk1, hn⟩
  refine Cm.s (fun hlt => ?_) (fun hge => ?_)
  · have hlt : k < xs.length := by omega
    obtain ⟨a, x, v1, b1, rfl, ht, hc, hkt, _⟩ := (hk.ext hx1).get hlt
    have htm := List.mem_of_getElem? ht
    have hcm := cntB_mem htm
    refine Go1.ix 4 hlt (Go1.fl 0 (Ld.one (hc 0 _ rfl) ?_))
    refine Cm.s (fun he => ?_) (fun hne => ?_)
    · have sub : Lc w2 ((a.add (k * 4)).add 1) [.int .i64 x.2.lab.1, .string x.2.lab.2, v1] := by
        intro i u hu
        rw [Go.Deep.add_add]
        refine hc _ u ?_
        rw [Nat.add_comm]
        exact hu
      refine Go1.ix 4 hlt (Go1.fl 1 (Ld.agg sub ?_))
      refine (c_l4Copy (by omega) hkt).mono ?_
      rintro r w3 ⟨hx3, v3, cs, rfl, hk3, hf3⟩
      obtain ⟨ao3, cap3, rfl, _, _⟩ := hk3.form
      refine Go0.st (off := 0) (vs := [.int .i64 x.2.lab.1, .string x.2.lab.2, .slice ao3 x.2.kids.length cap3]) (hb1.ext hx3) rfl rfl (by simp [Value.cells]) (by simp [Value.oneCell']) ?_
      intro w4 hx4 hb4 _
      have hb4 : Blk w4 w.heap.size 38 [.int .i64 x.2.lab.1, .string x.2.lab.2, .slice ao3 x.2.kids.length cap3] := hb4
      refine Ld.agg (vs := [.int .i64 x.2.lab.1, .string x.2.lab.2, .slice ao3 x.2.kids.length cap3]) (Blk.lc0 (post := []) hb4) ?_
      have hn4 : ∀ b ∈ cs, ¬ b = w.heap.size := fun b hb => by have := hf3.lo b hb; omega
      have hl := lookO_at ht hn he
      have hlT : lookT s xs = x.2 := by rw [lookT, hl]; rfl
      rw [hlT, hl]
      exact ⟨(hx1.trans hx3).chg hx4 (by omega), _, cs, rfl, hk3.chg hx4 hn4, (hf3.chg hx4 hn4).mono (by omega)⟩
    · refine Wr.n (k + 1) (by omega) (by omega) ?_
      refine ⟨k + 1, ⟨rfl, rfl, rfl, rfl, trivial⟩, ⟨rfl, hlt, fun y hy => ?_⟩, by omega⟩
      rw [take_succ_get ht] at hy
      rcases List.mem_append.1 hy with hy | hy
      · exact hn y hy
      · obtain rfl : y = x := by simpa using hy
        exact hne
  · have : k = xs.length := by omega
    subst this
    rw [List.take_length] at hn
    have hl := lookO_none hn
    have hlT : lookT s xs = emT := by rw [lookT, hl]; rfl
    rw [hlT, hl]
    refine Go1.bd [.int .i64 0, .string ⟨#[]⟩, .slice none 0 0] ?_
    refine Go0.st (off := 0) (vs := [.int .i64 0, .string ⟨#[]⟩, .slice none 0 0]) hb1 rfl rfl (by simp [Value.cells]) (by simp [Value.oneCell']) ?_
    intro w4 hx4 hb4 _
    have hb4 : Blk w4 w.heap.size 38 [.int .i64 0, .string ⟨#[]⟩, .slice none 0 0] := hb4
    refine Ld.agg (vs := [.int .i64 0, .string ⟨#[]⟩, .slice none 0 0]) (Blk.lc0 (post := []) hb4) ?_
    exact ⟨hx1.chg hx4 (by omega), _, [], rfl, Kids.nil, Fresh.nil _ _⟩
/-- impl.Lookup -/
theorem c_iLookup {xs : List Bi} (hs : cntB xs ≤ 4294967296) (s : ByteArray) {w : World} {v : Value} {bs : List Nat} (hk : Bds w v xs bs) :
    Ret Tryd.prog 59 [v, .string s] w (NewTy2 w (lookO s xs).isSome (lookT s xs).lab (lookT s xs).kids) := by
  obtain ⟨ao, cap, rfl, hm, hcap⟩ := hk.form
  have hM : maxLen = 9223372036854775807 := rfl
  refine ret_of_vc ttOkB Tryd.func59 rfl (by kernel_rfl) (by kernel_rfl) ?_
  refine Go1.al tiTy ?_
  intro w1 hx1 hb1
  have lt1 := hb1.lt
  refine Lp.go ttOkB (by kernel_rfl) (fun k : Nat => [(1, .string s), (4, .pointer (some ⟨w.heap.size, 0, none⟩)), (8, .slice ao xs.length cap), (9, .int .i64 xs.length), (10, .int .i64 k)]) (fun k w' => Ext w1 w' ∧ k ≤ xs.length ∧ ∀ y ∈ xs.take k, y.1 ≠ s) (fun k => xs.length - k) 0
    ⟨rfl, rfl, rfl, rfl, rfl, trivial⟩ ⟨Chg.refl _ _, Nat.zero_le _, by simp⟩ ?_
  rintro k w2 ⟨hx2, hk1, hn⟩
  have sz2 := hx2.size
  refine Cm.s (fun hlt => ?_) (fun hge => ?_)
  · have hlt : k < xs.length := by omega
    obtain ⟨a, x, v1, b1, rfl, ht, hc, hkt, _⟩ := ((hk.ext hx1).ext hx2).get hlt
    have htm := List.mem_of_getElem? ht
    have hcm := cntB_mem htm
    obtain ⟨aox, capx, rfl, _, _⟩ := hkt.form
    refine Go1.ix 4 hlt (Ld.agg (vs := encB x ++ [.slice aox x.2.kids.length capx]) hc ?_)
    refine Go1.al tiBd ?_
    intro w5 hx5 hb5
    have lt5 := hb5.lt
    refine Go0.st (off := 0) (vs := encB x ++ [.slice aox x.2.kids.length capx]) hb5 rfl rfl (by simp [Value.cells]) (by simp [Value.oneCell']) ?_
    intro w6 hx6 hb6 _
    have hb6 : Blk w6 w2.heap.size 54 (encB x ++ [.slice aox x.2.kids.length capx]) := hb6
    have hx26 : Ext w2 w6 := hx5.chg hx6 (by omega)
    refine Go1.fl 0 (Ld.one (Blk.at0 hb6) ?_)
    refine Cm.s (fun he => ?_) (fun hne => ?_)
    · refine Go1.fl 1 (Ld.agg (vs := [.int .i64 x.2.lab.1, .string x.2.lab.2, .slice aox x.2.kids.length capx]) (Blk.lc1 hb6) ?_)
      refine (c_copyType (by omega) (hkt.ext hx26)).mono ?_
      rintro r w3 ⟨hx3, v3, cs, rfl, hk3, hf3⟩
      obtain ⟨ao3, cap3, rfl, _, _⟩ := hk3.form
      have hx13 := (hx2.trans hx26).trans hx3
      have sz6 := hx26.size
      refine Go0.st (off := 0) (vs := [.int .i64 x.2.lab.1, .string x.2.lab.2, .slice ao3 x.2.kids.length cap3]) (hb1.ext hx13) rfl rfl (by simp [Value.cells]) (by simp [Value.oneCell']) ?_
      intro w4 hx4 hb4 _
      have hb4 : Blk w4 w.heap.size 38 [.int .i64 x.2.lab.1, .string x.2.lab.2, .slice ao3 x.2.kids.length cap3] := hb4
      refine Ld.agg (vs := [.int .i64 x.2.lab.1, .string x.2.lab.2, .slice ao3 x.2.kids.length cap3]) (Blk.lc0 (post := []) hb4) ?_
      have hn4 : ∀ b ∈ cs, ¬ b = w.heap.size := fun b hb => by have := hf3.lo b hb; omega
      have hl := lookO_at ht hn he
      have hlT : lookT s xs = x.2 := by rw [lookT, hl]; rfl
      rw [hlT, hl]
      exact ⟨(hx1.trans hx13).chg hx4 (by omega), _, cs, rfl, hk3.chg hx4 hn4, (hf3.chg hx4 hn4).mono (by omega)⟩
    · refine Wr.n (k + 1) (by omega) (by omega) ?_
      refine ⟨k + 1, ⟨rfl, rfl, rfl, rfl, rfl, trivial⟩, ⟨hx2.trans hx26, hlt, fun y hy => ?_⟩, by omega⟩
      rw [take_succ_get ht] at hy
      rcases List.mem_append.1 hy with hy | hy
      · exact hn y hy
      · obtain rfl : y = x := by simpa using hy
        exact hne
  · have : k = xs.length := by omega
    subst this
    rw [List.take_length] at hn
    have hl := lookO_none hn
    have hlT : lookT s xs = emT := by rw [lookT, hl]; rfl
    rw [hlT, hl]
    refine Go1.bd [.int .i64 0, .string ⟨#[]⟩, .slice none 0 0] ?_
    refine Go0.st (off := 0) (vs := [.int .i64 0, .string ⟨#[]⟩, .slice none 0 0]) (hb1.ext hx2) rfl rfl (by simp [Value.cells]) (by simp [Value.oneCell']) ?_
    intro w4 hx4 hb4 _
    have hb4 : Blk w4 w.heap.size 38 [.int .i64 0, .string ⟨#[]⟩, .slice none 0 0] := hb4
    refine Ld.agg (vs := [.int .i64 0, .string ⟨#[]⟩, .slice none 0 0]) (Blk.lc0 (post := []) hb4) ?_
    exact ⟨(hx1.trans hx2).chg hx4 (by omega), _, [], rfl, Kids.nil, Fresh.nil _ _⟩
end Go.Proofs.YtmecmdnnhldjpaaDoor
