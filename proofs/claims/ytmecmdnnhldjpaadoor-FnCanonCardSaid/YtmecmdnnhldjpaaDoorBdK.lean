/- Contracts: Apply, ApplyAll. Conditions: none. -/
import Derived.Test.YtmecmdnnhldjpaaDoorJBdD
namespace Go.Proofs.YtmecmdnnhldjpaaDoor
open Go.RowKit

mutual
/-- A Type whose variables are replaced. -/
def apT (xs : List Bi) : Tp → Tp
  | .mk l ks => if l.1 = 1 then (lookO l.2 xs).getD (.mk l (apL xs ks)) else .mk l (apL xs ks)
def apL (xs : List Bi) : List Tp → List Tp
  | [] => []
  | t :: ts => apT xs t :: apL xs ts
end
theorem apT_eq (xs : List Bi) (l : TLab) (ks : List Tp) : apT xs (.mk l ks) = if l.1 = 1 then (lookO l.2 xs).getD (.mk l (apL xs ks)) else .mk l (apL xs ks) := by rw [apT]
theorem apL_cons (xs : List Bi) (t : Tp) (ts : List Tp) : apL xs (t :: ts) = apT xs t :: apL xs ts := by rw [apL]
theorem apL_append (xs : List Bi) (ks ls : List Tp) : apL xs (ks ++ ls) = apL xs ks ++ apL xs ls := by
  induction ks with
  | nil => simp [apL]
  | cons k ks ih => simp only [List.cons_append, apL_cons, ih]
theorem apL_length (xs : List Bi) (ks : List Tp) : (apL xs ks).length = ks.length := by
  induction ks with
  | nil => simp [apL]
  | cons k ks ih => simp only [apL_cons, List.length_cons, ih]
theorem apL_take {xs : List Bi} {ks : List Tp} {k : Nat} {t : Tp} (h : ks[k]? = some t) : apL xs (ks.take (k + 1)) = apL xs (ks.take k) ++ [apT xs t] := by
  rw [take_succ_get h, apL_append, apL_cons]
  simp [apL]
theorem lookO_cnt {s : ByteArray} {u : Tp} : ∀ {xs : List Bi}, lookO s xs = some u → 1 + Rose.cnt u.kids ≤ cntB xs
  | x :: xs, h => by
    unfold lookO at h
    simp only [cntB]
    split at h
    · simp only [Option.some.injEq] at h
      subst h
      omega
    · have := lookO_cnt h
      omega
/-- The result is at most a product large. -/
theorem apL_cnt (xs : List Bi) (ks : List Tp) : Rose.cnt (apL xs ks) ≤ Rose.cnt ks * (1 + cntB xs) := by
  refine Rose.forest (p := fun ks => Rose.cnt (apL xs ks) ≤ Rose.cnt ks * (1 + cntB xs)) (fun ks ih => ?_) ks
  induction ks with
  | nil => rw [apL]; show Rose.wtL _ [] ≤ _; rw [Rose.wtL_nil]; omega
  | cons t ts iht =>
    have h1 := ih t List.mem_cons_self
    have h2 := iht fun u hu => ih u (List.mem_cons_of_mem _ hu)
    have h3 : 1 + Rose.cnt (apT xs t).kids ≤ (1 + Rose.cnt t.kids) * (1 + cntB xs) := by
      rw [Nat.add_mul, Nat.one_mul]
      cases t with
      | mk l ls =>
        have key : 1 + Rose.cnt (apL xs ls) ≤ 1 + cntB xs + Rose.cnt ls * (1 + cntB xs) := Nat.add_le_add (Nat.le_add_right _ _) h1
        show 1 + Rose.cnt (apT xs (.mk l ls)).kids ≤ 1 + cntB xs + Rose.cnt ls * (1 + cntB xs)
        rw [apT_eq]
        cases hl : lookO l.2 xs with
        | none =>
          split
          · exact key
          · exact key
        | some u =>
          have hc := lookO_cnt hl
          split
          · exact Nat.le_trans (show 1 + Rose.cnt u.kids ≤ 1 + cntB xs by omega) (Nat.le_add_right _ _)
          · exact key
    rw [apL_cons]
    have e1 : Rose.cnt (apT xs t :: apL xs ts) = 1 + Rose.cnt (apT xs t).kids + Rose.cnt (apL xs ts) := by
      show Rose.wtL _ _ = 1 + Rose.wtL _ _ + Rose.wtL _ _
      rw [Rose.wtL_cons]
    have e2 : Rose.cnt (t :: ts) = 1 + Rose.cnt t.kids + Rose.cnt ts := by
      show Rose.wtL _ _ = 1 + Rose.wtL _ _ + Rose.wtL _ _
      rw [Rose.wtL_cons]
    rw [e1, e2, Nat.add_mul]
    omega

theorem apT_cnt (xs : List Bi) (l : TLab) (ks : List Tp) : 1 + Rose.cnt (apT xs (.mk l ks)).kids ≤ (1 + Rose.cnt ks) * (1 + cntB xs) := by
  have h := apL_cnt xs [.mk l ks]
  have e1 : Rose.cnt (apL xs [.mk l ks]) = 1 + Rose.cnt (apT xs (.mk l ks)).kids := by
    rw [apL_cons, apL]
    show Rose.wtL _ _ = _
    rw [Rose.wtL_cons, Rose.wtL_nil]
    rfl
  have e2 : Rose.cnt [Rose.mk l ks] = 1 + Rose.cnt ks := by
    show Rose.wtL _ _ = _
    rw [Rose.wtL_cons, Rose.wtL_nil]
    rfl
  rw [e1, e2] at h
  exact h

def ApSaid (xs : List Bi) (ks : List Tp) : Prop := Rose.cnt ks ≤ 4294967296 → ∀ (w : World) (u v : Value) (bx bs : List Nat), Bds w u xs bx → Kids encT w v ks bs → Ret Tryd.prog 42 [u, v] w (NewTys w (apL xs ks))

theorem c_sApply' {xs : List Bi} {l : TLab} {ks : List Tp} (hb : cntB xs ≤ 4294967296) (ih : ApSaid xs ks) (hs : Rose.cnt ks ≤ 4294967296) {w : World} {u v : Value} {bx bs : List Nat} (hd : Bds w u xs bx) (hk : Kids encT w v ks bs) :
    Ret Tryd.prog 44 [u, .agg #[.int .i64 l.1, .string l.2, v]] w (NewTy w (apT xs (.mk l ks)).lab (apT xs (.mk l ks)).kids) := by
  obtain ⟨aob, capb, rfl, _, _⟩ := hd.form
  obtain ⟨ao0, cap0, rfl, _, _⟩ := hk.form
  rw [apT_eq]
  refine ret_of_vc ttOkB Tryd.func44 rfl (by kernel_rfl) (by kernel_rfl) ?_
  refine Go1.bx ?_
  intro w1 hx1 hb1
  refine Go1.al tiTy ?_
  intro w2 hx2 hb2
  have lt1 := hb1.lt
  have lt2 := hb2.lt
  have sz1 := hx1.size
  have sz2 := hx2.size
  have hx02 := hx1.trans hx2
  -- what stands for it where no binding does
  have go : ∀ w3, Ext w2 w3 → Ret Tryd.prog 42 [.slice aob xs.length capb, .slice ao0 ks.length cap0] w3 (NewTys w3 (apL xs ks)) := fun w3 hx3 =>
    ih hs w3 _ _ bx bs (hd.ext (hx02.trans hx3)) (hk.ext (hx02.trans hx3))
  refine Go1.fl 0 (Ld.one (hb1.ext hx2).at0 ?_)
  refine Cm.s (fun h1 => ?_) (fun h1 => ?_)
  · rw [if_pos h1]
    refine Go1.fl 1 (Ld.one (hb1.ext hx2).at1 ?_)
    have hlk := c_sLookup (by omega) l.2 (hd.ext hx02)
    cases hl : lookO l.2 xs with
    | some x =>
      rw [hl, show lookT l.2 xs = x by rw [lookT, hl]; rfl] at hlk
      refine hlk.mono ?_
      rintro _ w3 ⟨hx3, v3, cs3, rfl, hk3, hf3⟩
      obtain ⟨ao3, cap3, rfl, _, _⟩ := hk3.form
      refine Go1.al tiTy ?_
      intro w4 hx4 hb4
      have lt4 := hb4.lt
      have sz3 := hx3.size
      have sz4 := hx4.size
      refine Go0.st (off := 0) (vs := [.int .i64 x.lab.1, .string x.lab.2, .slice ao3 x.kids.length cap3]) hb4 rfl rfl (by simp [Value.cells]) (by simp [Value.oneCell']) ?_
      intro w5 hx5 hb5 _
      have hb5 : Blk w5 w3.heap.size 38 [.int .i64 x.lab.1, .string x.lab.2, .slice ao3 x.kids.length cap3] := hb5
      have hx35 : Ext w3 w5 := hx4.chg hx5 (by omega)
      refine Ld.agg (vs := [.int .i64 x.lab.1, .string x.lab.2, .slice ao3 x.kids.length cap3]) (Blk.lc0 (post := []) hb5) ?_
      refine Go0.st (off := 0) (vs := [.int .i64 x.lab.1, .string x.lab.2, .slice ao3 x.kids.length cap3]) ((hb2.ext hx3).ext hx35) rfl rfl (by simp [Value.cells]) (by simp [Value.oneCell']) ?_
      intro w6 hx6 hb6 _
      have hb6 : Blk w6 w1.heap.size 38 [.int .i64 x.lab.1, .string x.lab.2, .slice ao3 x.kids.length cap3] := hb6
      refine Ld.agg (vs := [.int .i64 x.lab.1, .string x.lab.2, .slice ao3 x.kids.length cap3]) (Blk.lc0 (post := []) hb6) ?_
      have hn6 : ∀ b ∈ cs3, ¬ b = w1.heap.size := fun b hb => by have := hf3.lo b hb; omega
      exact ⟨((hx02.trans hx3).trans hx35).chg hx6 (by omega), _, cs3, rfl, (hk3.ext hx35).chg hx6 hn6, ((hf3.ext hx35).chg hx6 hn6).mono (by omega)⟩
    | none =>
      rw [hl, show lookT l.2 xs = emT by rw [lookT, hl]; rfl] at hlk
      refine hlk.mono ?_
      rintro _ w3 ⟨hx3, v3, cs3, rfl, hk3, hf3⟩
      obtain ⟨ao3, cap3, rfl, _, _⟩ := hk3.form
      refine Go1.al tiTy ?_
      intro w4 hx4 hb4
      have lt4 := hb4.lt
      have sz3 := hx3.size
      have sz4 := hx4.size
      refine Go0.st (off := 0) (vs := [.int .i64 emT.lab.1, .string emT.lab.2, .slice ao3 emT.kids.length cap3]) hb4 rfl rfl (by simp [Value.cells]) (by simp [Value.oneCell']) ?_
      intro w5 hx5 hb5 _
      have hx35 : Ext w3 w5 := hx4.chg hx5 (by omega)
      have hx25 := hx3.trans hx35
      have hx05 := hx02.trans hx25
      refine Dr.x [0, 1, 2, 3, 4, 5, 6, 7, 8, 9] ttOkB ?_
      refine GoS.fl 0 (LdS.x1 ((hb1.ext hx2).ext hx25).at0 ?_)
      refine GoS.fl 1 (LdS.x1 ((hb1.ext hx2).ext hx25).at1 ?_)
      refine GoS.fl 2 (LdS.x1 ((hb1.ext hx2).ext hx25).at2 ?_)
      refine ⟨fun w6 hx6 => ?_⟩
      refine (go w6 (hx25.trans hx6)).mono ?_
      rintro r w7 ⟨hx7, cs, hk7, hf7⟩
      obtain ⟨ao, cap, rfl, _, _⟩ := hk7.form
      have sz5 := hx25.size
      have sz6 := hx6.size
      have sz7 := hx7.size
      refine Af.ext (hx6.trans hx7) ?_
      refine GoS.bd [.int .i64 l.1, .string l.2, .slice ao (apL xs ks).length cap] ?_
      refine ⟨fun w8 hx8 => ?_⟩
      have sz8 := hx8.size
      refine Go0.st (off := 0) (vs := [.int .i64 l.1, .string l.2, .slice ao (apL xs ks).length cap]) ((((hb2.ext hx25).ext hx6).ext hx7).ext hx8) rfl rfl (by simp [Value.cells]) (by simp [Value.oneCell']) ?_
      intro w9 hx9 hb9 _
      have hb9 : Blk w9 w1.heap.size 38 [.int .i64 l.1, .string l.2, .slice ao (apL xs ks).length cap] := hb9
      refine Af.new ?_
      intro w10 hx10
      refine Ld.agg (vs := [.int .i64 l.1, .string l.2, .slice ao (apL xs ks).length cap]) (Blk.lc0 (post := []) (hb9.ext hx10)) ?_
      have hn : ∀ b ∈ cs, ¬ b = w1.heap.size := fun b hb => by have := hf7.lo b hb; omega
      exact ⟨(((((hx05.trans hx6).trans hx7).trans hx8)).chg hx9 (by omega)).trans hx10, _, cs, rfl, ((hk7.ext hx8).chg hx9 hn).ext hx10, (((hf7.ext hx8).chg hx9 hn).ext hx10).mono (by omega)⟩
  · rw [if_neg h1]
    refine Dr.x [0, 1, 2, 3, 4, 5, 6, 7, 8, 9] ttOkB ?_
    refine GoS.fl 0 (LdS.x1 (hb1.ext hx2).at0 ?_)
    refine GoS.fl 1 (LdS.x1 (hb1.ext hx2).at1 ?_)
    refine GoS.fl 2 (LdS.x1 (hb1.ext hx2).at2 ?_)
    refine ⟨fun w6 hx6 => ?_⟩
    refine (go w6 hx6).mono ?_
    rintro r w7 ⟨hx7, cs, hk7, hf7⟩
    obtain ⟨ao, cap, rfl, _, _⟩ := hk7.form
    have sz6 := hx6.size
    have sz7 := hx7.size
    refine Af.ext (hx6.trans hx7) ?_
    refine GoS.bd [.int .i64 l.1, .string l.2, .slice ao (apL xs ks).length cap] ?_
    refine ⟨fun w8 hx8 => ?_⟩
    have sz8 := hx8.size
    refine Go0.st (off := 0) (vs := [.int .i64 l.1, .string l.2, .slice ao (apL xs ks).length cap]) (((hb2.ext hx6).ext hx7).ext hx8) rfl rfl (by simp [Value.cells]) (by simp [Value.oneCell']) ?_
    intro w9 hx9 hb9 _
    have hb9 : Blk w9 w1.heap.size 38 [.int .i64 l.1, .string l.2, .slice ao (apL xs ks).length cap] := hb9
    refine Af.new ?_
    intro w10 hx10
    refine Ld.agg (vs := [.int .i64 l.1, .string l.2, .slice ao (apL xs ks).length cap]) (Blk.lc0 (post := []) (hb9.ext hx10)) ?_
    have hn : ∀ b ∈ cs, ¬ b = w1.heap.size := fun b hb => by have := hf7.lo b hb; omega
    exact ⟨(((((hx02.trans hx6).trans hx7).trans hx8)).chg hx9 (by omega)).trans hx10, _, cs, rfl, ((hk7.ext hx8).chg hx9 hn).ext hx10, (((hf7.ext hx8).chg hx9 hn).ext hx10).mono (by omega)⟩

/-- spec.ApplyAll -/
theorem c_sApplyAll {xs : List Bi} (hb : cntB xs ≤ 4294967296) (ks : List Tp) : ApSaid xs ks := by
  refine Rose.forest (fun ks ih => ?_) ks
  intro hs w u v bx bs hd hk
  obtain ⟨aob, capb, rfl, _, _⟩ := hd.form
  obtain ⟨ao, cap, rfl, hm, hcap⟩ := hk.form
  have hM : maxLen = 9223372036854775807 := rfl
  have hlen : ks.length ≤ 4294967296 := Nat.le_trans (Rose.wtL_length _ _) hs
  refine ret_of_vc ttOkB Tryd.func42 rfl (by kernel_rfl) (by kernel_rfl) ?_
  refine Go1.b0 38 (size := 3) (bytes := 48) Tryd.underlying26 tiTy ?_
  intro w1 u1 hx1 hg1 hu
  subst hu
  refine Lp.go ttOkB (by kernel_rfl) (fun b : Nat × Value => [(0, .slice aob xs.length capb), (1, .slice ao ks.length cap), (5, b.2), (6, .int .i64 b.1)])
    (fun b w' => Ext w w' ∧ b.1 ≤ ks.length ∧ ∃ vs cs O, Grow w' 38 3 b.2 b.1 (fl encT (apL xs (ks.take b.1)) vs) O ∧ KidsL encT w' vs (apL xs (ks.take b.1)) cs ∧ Fresh w.heap.size w' (O ++ cs)) (fun b => ks.length - b.1) (0, .slice (some ⟨w.heap.size, 0, none⟩) 0 0)
    ⟨rfl, rfl, rfl, rfl, trivial⟩ ⟨hx1, Nat.zero_le _, [], [], [w.heap.size], by simpa [apL, fl] using hg1, by simp only [List.take_zero, apL]; rfl, by simpa using hg1.fresh (by simp)⟩ ?_
  rintro ⟨k, r⟩ w2 ⟨hx2, hk1, vs, cs, O, hg, hkl, hf⟩
  simp only at hk1 hg hkl
  refine Cm.s (fun hlt => ?_) (fun hge => ?_)
  · have hkl' : k < ks.length := by have : (k : Int) < ks.length := hlt; omega
    obtain ⟨a, t, v1, b1, rfl, ht, hc, hkt, _⟩ := (hk.ext hx2).get encT_sz hkl'
    have htm := List.mem_of_getElem? ht
    have hcm := Rose.cnt_mem htm
    refine Go1.ix 3 hkl' (Ld.agg hc ?_)
    refine (c_sApply' hb (ih t htm) (by omega) (hd.ext hx2) hkt).mono ?_
    rw [Rose.eta]
    generalize hT : apT xs t = T
    rintro _ w3 ⟨hx3, v3, cs3, rfl, hk3, hf3⟩
    obtain ⟨ao3, cap3, rfl, _, _⟩ := hk3.form
    refine Go1.bs 38 [.int .i64 T.lab.1, .string T.lab.2, .slice ao3 T.kids.length cap3] (size := 3) (bytes := 48) Tryd.underlying26 tiTy (by decide) (by decide) (by kernel_rfl) ?_
    intro w4 hx4 hb4
    have sz2 := hx2.size
    have sz3 := hx3.size
    have sz4 := hx4.size
    refine Go1.app (size := 3) (bytes := 48) Tryd.underlying26 tiTy (by rfl) (by decide) ((hg.ext hx3).ext hx4) (m := 1) (news := [.int .i64 T.lab.1, .string T.lab.2, .slice ao3 T.kids.length cap3]) (Blk.lc0 (post := []) hb4) (by simp) (by simp [Value.oneCell']) (by omega) (by decide) ?_
    intro r5 w5 O5 hc5 hg5 hO5
    refine Wr.n (k + 1) (by simp) (by omega) ?_
    have hnd := List.nodup_append.1 hf.nodup
    have hOcs : ∀ b ∈ cs, b ∉ O := fun b hb hb' => hnd.2.2 b hb' b hb rfl
    have hO3 : ∀ b ∈ cs3, b ∉ O := fun b hb hb' => by
      have h1 := hf3.lo b hb
      have h2 := hf.lt b (List.mem_append_left _ hb')
      omega
    have hOlo : ∀ b ∈ O, w.heap.size ≤ b := fun b hb => hf.lo b (List.mem_append_left _ hb)
    have hvl : vs.length = (apL xs (ks.take k)).length := hkl.length
    have hf4 := ((hf.ext hx3).ext hx4)
    have hcs5 : Fresh w.heap.size w5 cs := (hf4.sub (List.sublist_append_right _ _)).chg hc5 hOcs
    have hcs35 : Fresh w.heap.size w5 cs3 := ((hf3.ext hx4).chg hc5 hO3).mono (by omega)
    have hO5f : Fresh w.heap.size w5 O5 := hg5.fresh fun b hb => by
      rcases hO5 b hb with h | h
      · exact hOlo b h
      · omega
    refine ⟨(k + 1, r5), ⟨rfl, rfl, rfl, rfl, trivial⟩, ⟨Chg.big ((hx2.trans hx3).trans hx4) hc5 hOlo, hkl', vs ++ [.slice ao3 T.kids.length cap3], cs ++ cs3, O5, ?_, ?_, ?_⟩, by simp; omega⟩
    · simp only
      rw [apL_take ht, hT, fl_snoc hvl]
      exact hg5
    · simp only
      rw [apL_take ht, hT]
      exact KidsL.snoc ((hk3.ext hx4).chg hc5 hO3) ((hkl.chg (hx3.trans hx4) fun _ _ => id).chg hc5 hOcs)
    · refine ⟨List.nodup_append.2 ⟨hO5f.nodup, List.nodup_append.2 ⟨hcs5.nodup, hcs35.nodup, fun a ha b hb e => ?_⟩, fun a ha b hb e => ?_⟩, fun b hb => ?_, fun b hb => ?_⟩
      · have h1 := hf.lt a (List.mem_append_right _ ha)
        have h2 := hf3.lo b hb
        omega
      · subst e
        rcases hO5 a ha with h | h
        · rcases List.mem_append.1 hb with hb | hb
          · exact hOcs a hb h
          · exact hO3 a hb h
        · rcases List.mem_append.1 hb with hb | hb
          · have := hf.lt a (List.mem_append_right _ hb)
            omega
          · have := hf3.lt a hb
            omega
      · rcases List.mem_append.1 hb with hb | hb
        · exact hO5f.lo b hb
        · rcases List.mem_append.1 hb with hb | hb
          · exact hcs5.lo b hb
          · exact hcs35.lo b hb
      · rcases List.mem_append.1 hb with hb | hb
        · exact hO5f.blk b hb
        · rcases List.mem_append.1 hb with hb | hb
          · exact hcs5.blk b hb
          · exact hcs35.blk b hb
  · have : k = ks.length := by have : ¬ (k : Int) < ks.length := hge; omega
    subst this
    rw [List.take_length] at hg hkl
    rw [← apL_length xs ks] at hg
    obtain ⟨ds, h1, h2⟩ := Kids.of_grow hg hkl (by rw [apL_length]; exact hm)
    exact ⟨hx2, ds, h1, hf.sub h2⟩

/-- spec.Apply -/
theorem c_sApply {xs : List Bi} {l : TLab} {ks : List Tp} (hb : cntB xs ≤ 4294967296) (hs : Rose.cnt ks ≤ 4294967296) {w : World} {u v : Value} {bx bs : List Nat} (hd : Bds w u xs bx) (hk : Kids encT w v ks bs) :
    Ret Tryd.prog 44 [u, .agg #[.int .i64 l.1, .string l.2, v]] w (NewTy w (apT xs (.mk l ks)).lab (apT xs (.mk l ks)).kids) := c_sApply' hb (c_sApplyAll hb ks) hs hd hk
def ApISaid (xs : List Bi) (ks : List Tp) : Prop := Rose.cnt ks ≤ 4294967296 → ∀ (w : World) (u v : Value) (bx bs : List Nat), Bds w u xs bx → Kids encT w v ks bs → Ret Tryd.prog 43 [u, v] w (NewTys w (apL xs ks))
theorem c_iApply' {xs : List Bi} {l : TLab} {ks : List Tp} (hb : cntB xs ≤ 4294967296) (ih : ApISaid xs ks) (hs : Rose.cnt ks ≤ 4294967296) {w : World} {u v : Value} {bx bs : List Nat} (hd : Bds w u xs bx) (hk : Kids encT w v ks bs) :
    Ret Tryd.prog 45 [u, .agg #[.int .i64 l.1, .string l.2, v]] w (NewTy w (apT xs (.mk l ks)).lab (apT xs (.mk l ks)).kids) := by
  obtain ⟨aob, capb, rfl, _, _⟩ := hd.form
  obtain ⟨ao0, cap0, rfl, _, _⟩ := hk.form
  rw [apT_eq]
  refine ret_of_vc ttOkB Tryd.func45 rfl (by kernel_rfl) (by kernel_rfl) ?_
  refine Go1.bx ?_
  intro w1 hx1 hb1
  refine Go1.al tiTy ?_
  intro w2 hx2 hb2
  have lt1 := hb1.lt
  have lt2 := hb2.lt
  have sz1 := hx1.size
  have sz2 := hx2.size
  have hx02 := hx1.trans hx2
  -- what stands for it where no binding does
  have go : ∀ w3, Ext w2 w3 → Ret Tryd.prog 43 [.slice aob xs.length capb, .slice ao0 ks.length cap0] w3 (NewTys w3 (apL xs ks)) := fun w3 hx3 =>
    ih hs w3 _ _ bx bs (hd.ext (hx02.trans hx3)) (hk.ext (hx02.trans hx3))
  refine Go1.fl 0 (Ld.one (hb1.ext hx2).at0 ?_)
  refine Cm.s (fun h1 => ?_) (fun h1 => ?_)
  · rw [if_pos h1]
    refine Go1.fl 1 (Ld.one (hb1.ext hx2).at1 ?_)
    have hlk := c_iLookup (by omega) l.2 (hd.ext hx02)
    cases hl : lookO l.2 xs with
    | some x =>
      rw [hl, show lookT l.2 xs = x by rw [lookT, hl]; rfl] at hlk
      refine hlk.mono ?_
      rintro _ w3 ⟨hx3, v3, cs3, rfl, hk3, hf3⟩
      obtain ⟨ao3, cap3, rfl, _, _⟩ := hk3.form
      refine Go1.al tiTy ?_
      intro w4 hx4 hb4
      have lt4 := hb4.lt
      have sz3 := hx3.size
      have sz4 := hx4.size
      refine Go0.st (off := 0) (vs := [.int .i64 x.lab.1, .string x.lab.2, .slice ao3 x.kids.length cap3]) hb4 rfl rfl (by simp [Value.cells]) (by simp [Value.oneCell']) ?_
      intro w5 hx5 hb5 _
      have hb5 : Blk w5 w3.heap.size 38 [.int .i64 x.lab.1, .string x.lab.2, .slice ao3 x.kids.length cap3] := hb5
      have hx35 : Ext w3 w5 := hx4.chg hx5 (by omega)
      refine Ld.agg (vs := [.int .i64 x.lab.1, .string x.lab.2, .slice ao3 x.kids.length cap3]) (Blk.lc0 (post := []) hb5) ?_
      refine Go0.st (off := 0) (vs := [.int .i64 x.lab.1, .string x.lab.2, .slice ao3 x.kids.length cap3]) ((hb2.ext hx3).ext hx35) rfl rfl (by simp [Value.cells]) (by simp [Value.oneCell']) ?_
      intro w6 hx6 hb6 _
      have hb6 : Blk w6 w1.heap.size 38 [.int .i64 x.lab.1, .string x.lab.2, .slice ao3 x.kids.length cap3] := hb6
      refine Ld.agg (vs := [.int .i64 x.lab.1, .string x.lab.2, .slice ao3 x.kids.length cap3]) (Blk.lc0 (post := []) hb6) ?_
      have hn6 : ∀ b ∈ cs3, ¬ b = w1.heap.size := fun b hb => by have := hf3.lo b hb; omega
      exact ⟨((hx02.trans hx3).trans hx35).chg hx6 (by omega), _, cs3, rfl, (hk3.ext hx35).chg hx6 hn6, ((hf3.ext hx35).chg hx6 hn6).mono (by omega)⟩
    | none =>
      rw [hl, show lookT l.2 xs = emT by rw [lookT, hl]; rfl] at hlk
      refine hlk.mono ?_
      rintro _ w3 ⟨hx3, v3, cs3, rfl, hk3, hf3⟩
      obtain ⟨ao3, cap3, rfl, _, _⟩ := hk3.form
      refine Go1.al tiTy ?_
      intro w4 hx4 hb4
      have lt4 := hb4.lt
      have sz3 := hx3.size
      have sz4 := hx4.size
      refine Go0.st (off := 0) (vs := [.int .i64 emT.lab.1, .string emT.lab.2, .slice ao3 emT.kids.length cap3]) hb4 rfl rfl (by simp [Value.cells]) (by simp [Value.oneCell']) ?_
      intro w5 hx5 hb5 _
      have hx35 : Ext w3 w5 := hx4.chg hx5 (by omega)
      have hx25 := hx3.trans hx35
      have hx05 := hx02.trans hx25
      refine Dr.x [0, 1, 2, 3, 4, 5, 6, 7, 8, 9] ttOkB ?_
      refine GoS.fl 0 (LdS.x1 ((hb1.ext hx2).ext hx25).at0 ?_)
      refine GoS.fl 1 (LdS.x1 ((hb1.ext hx2).ext hx25).at1 ?_)
      refine GoS.fl 2 (LdS.x1 ((hb1.ext hx2).ext hx25).at2 ?_)
      refine ⟨fun w6 hx6 => ?_⟩
      refine (go w6 (hx25.trans hx6)).mono ?_
      rintro r w7 ⟨hx7, cs, hk7, hf7⟩
      obtain ⟨ao, cap, rfl, _, _⟩ := hk7.form
      have sz5 := hx25.size
      have sz6 := hx6.size
      have sz7 := hx7.size
      refine Af.ext (hx6.trans hx7) ?_
      refine GoS.bd [.int .i64 l.1, .string l.2, .slice ao (apL xs ks).length cap] ?_
      refine ⟨fun w8 hx8 => ?_⟩
      have sz8 := hx8.size
      refine Go0.st (off := 0) (vs := [.int .i64 l.1, .string l.2, .slice ao (apL xs ks).length cap]) ((((hb2.ext hx25).ext hx6).ext hx7).ext hx8) rfl rfl (by simp [Value.cells]) (by simp [Value.oneCell']) ?_
      intro w9 hx9 hb9 _
      have hb9 : Blk w9 w1.heap.size 38 [.int .i64 l.1, .string l.2, .slice ao (apL xs ks).length cap] := hb9
      refine Af.new ?_
      intro w10 hx10
      refine Ld.agg (vs := [.int .i64 l.1, .string l.2, .slice ao (apL xs ks).length cap]) (Blk.lc0 (post := []) (hb9.ext hx10)) ?_
      have hn : ∀ b ∈ cs, ¬ b = w1.heap.size := fun b hb => by have := hf7.lo b hb; omega
      exact ⟨(((((hx05.trans hx6).trans hx7).trans hx8)).chg hx9 (by omega)).trans hx10, _, cs, rfl, ((hk7.ext hx8).chg hx9 hn).ext hx10, (((hf7.ext hx8).chg hx9 hn).ext hx10).mono (by omega)⟩
  · rw [if_neg h1]
    refine Dr.x [0, 1, 2, 3, 4, 5, 6, 7, 8, 9] ttOkB ?_
    refine GoS.fl 0 (LdS.x1 (hb1.ext hx2).at0 ?_)
    refine GoS.fl 1 (LdS.x1 (hb1.ext hx2).at1 ?_)
    refine GoS.fl 2 (LdS.x1 (hb1.ext hx2).at2 ?_)
    refine ⟨fun w6 hx6 => ?_⟩
    refine (go w6 hx6).mono ?_
    rintro r w7 ⟨hx7, cs, hk7, hf7⟩
    obtain ⟨ao, cap, rfl, _, _⟩ := hk7.form
    have sz6 := hx6.size
    have sz7 := hx7.size
    refine Af.ext (hx6.trans hx7) ?_
    refine GoS.bd [.int .i64 l.1, .string l.2, .slice ao (apL xs ks).length cap] ?_
    refine ⟨fun w8 hx8 => ?_⟩
    have sz8 := hx8.size
    refine Go0.st (off := 0) (vs := [.int .i64 l.1, .string l.2, .slice ao (apL xs ks).length cap]) (((hb2.ext hx6).ext hx7).ext hx8) rfl rfl (by simp [Value.cells]) (by simp [Value.oneCell']) ?_
    intro w9 hx9 hb9 _
    have hb9 : Blk w9 w1.heap.size 38 [.int .i64 l.1, .string l.2, .slice ao (apL xs ks).length cap] := hb9
    refine Af.new ?_
    intro w10 hx10
    refine Ld.agg (vs := [.int .i64 l.1, .string l.2, .slice ao (apL xs ks).length cap]) (Blk.lc0 (post := []) (hb9.ext hx10)) ?_
    have hn : ∀ b ∈ cs, ¬ b = w1.heap.size := fun b hb => by have := hf7.lo b hb; omega
    exact ⟨(((((hx02.trans hx6).trans hx7).trans hx8)).chg hx9 (by omega)).trans hx10, _, cs, rfl, ((hk7.ext hx8).chg hx9 hn).ext hx10, (((hf7.ext hx8).chg hx9 hn).ext hx10).mono (by omega)⟩

/-- impl.ApplyAll -/
theorem c_iApplyAll {xs : List Bi} (hb0 : cntB xs ≤ 4294967296) (ks : List Tp) : ApISaid xs ks := by
  refine Rose.forest (fun ks ih => ?_) ks
  intro hs w u v bx bs hd hk
  obtain ⟨aob, capb, rfl, _, _⟩ := hd.form
  obtain ⟨ao, cap, rfl, hm, hcap⟩ := hk.form
  have hlen : ks.length ≤ 4294967296 := Nat.le_trans (Rose.wtL_length _ _) hs
  refine ret_of_vc ttOkB Tryd.func43 rfl (by kernel_rfl) (by kernel_rfl) ?_
  refine Go1.make 38 Tryd.underlying26 tiTy rfl (by omega) hm ?_
  intro w1 hx1 hb1
  refine Lp.go ttOkB (by kernel_rfl) (fun k : Nat => [(0, .slice aob xs.length capb), (5, .slice (some ⟨w.heap.size, 0, none⟩) ks.length ks.length), (11, .slice ao ks.length cap), (12, .int .i64 ks.length), (13, .int .i64 k)])
    (fun k w' => Ext w w' ∧ k ≤ ks.length ∧ ∃ vs cs, KidsL encT w' vs (apL xs (ks.take k)) cs ∧ Fresh (w.heap.size + 1) w' cs ∧ Blk w' w.heap.size 38 (fl encT (apL xs (ks.take k)) vs ++ zeros [.int .i64 0, .string ⟨#[]⟩, .slice none 0 0] (ks.length - k))) (fun k => ks.length - k) 0
    ⟨rfl, rfl, rfl, rfl, rfl, trivial⟩ ⟨hx1, Nat.zero_le _, [], [], by simp only [List.take_zero, apL]; rfl, Fresh.nil _ _, by simpa [apL, fl, Value.cells] using hb1⟩ ?_
  rintro k w' ⟨hx, hkl, vs, cs, hkl1, hf, hb⟩
  refine Cm.s (fun hlt => ?_) (fun hge => ?_)
  · have hlt : k < ks.length := by omega
    obtain ⟨a, t, v1, b1, rfl, ht, hc, hk1, _⟩ := (hk.ext hx).get encT_sz hlt
    have htm : t ∈ ks := List.mem_of_getElem? ht
    have hcnt := Rose.cnt_mem htm
    obtain ⟨ao3, cap3, rfl, _, _⟩ := hk1.form
    refine Go1.ix 3 hlt (Ld.agg hc ?_)
    refine Go1.al tiTy ?_
    intro w4 hxw4 hbw4
    have ltw4 := hbw4.lt
    refine Go0.st (off := 0) (vs := [.int .i64 t.lab.1, .string t.lab.2, .slice ao3 t.kids.length cap3]) hbw4 rfl rfl (by simp [Value.cells]) (by simp [Value.oneCell']) ?_
    intro w5 hx0w5 hb0w5 _
    have hbw5 : Blk w5 w'.heap.size 38 [.int .i64 t.lab.1, .string t.lab.2, .slice ao3 t.kids.length cap3] := hb0w5
    have hxw5 : Ext w' w5 := hxw4.chg hx0w5 (by omega)
    refine Ld.agg (vs := [.int .i64 t.lab.1, .string t.lab.2, .slice ao3 t.kids.length cap3]) (Blk.lc0 (post := []) hbw5) ?_
    refine (c_iApply' hb0 (ih t htm) (by omega) ((hd.ext hx).ext hxw5) (hk1.ext hxw5)).mono ?_
    rw [Rose.eta]
    generalize hT : apT xs t = T
    rintro r w2 ⟨hx2, v2, b2, rfl, hk2, hf2⟩
    refine Go1.ix 3 hlt ?_
    obtain ⟨ao2, cap2, rfl, _, _⟩ := hk2.form
    have hvl : vs.length = (apL xs (ks.take k)).length := hkl1.length
    have hfl := length_fl encT_sz hvl
    have htk : (apL xs (ks.take k)).length = k := by rw [apL_length]; simp; omega
    rw [htk] at hfl
    have lt0 := hb.lt
    have szx := hx.size
    have sz5 := hxw5.size
    have hx2' := hxw5.trans hx2
    refine Go0.st (off := k * 3) (vs := [.int .i64 T.lab.1, .string T.lab.2, .slice ao2 T.kids.length cap2]) (hb.ext hx2') (by rw [Addr.add_lit]; simp) rfl (by simp [length_zeros, hfl]; omega) (by simp [Value.oneCell']) ?_
    intro w3 hx3 hb3 hs3
    refine Wr.n (k + 1) (by omega) (by omega) ?_
    have hn1 : ∀ b ∈ cs, ¬ b = w.heap.size := fun b hb => by have := hf.lo b hb; omega
    have hn2 : ∀ b ∈ b2, ¬ b = w.heap.size := fun b hb => by have := hf2.lo b hb; omega
    refine ⟨k + 1, ⟨rfl, rfl, rfl, rfl, rfl, trivial⟩, ⟨(hx.trans hx2').chg hx3 (by omega), hlt, vs ++ [.slice ao2 T.kids.length cap2], cs ++ b2, ?_, ?_, ?_⟩, by omega⟩
    · rw [apL_take ht, hT]
      exact KidsL.snoc (hk2.chg hx3 hn2) (((hkl1.chg hx2' fun _ _ => id)).chg hx3 hn1)
    · refine ((hf.ext hx2').chg hx3 hn1).append (hf2.chg hx3 hn2) (by omega) fun b hb => ?_
      have := hf.lt b hb
      omega
    · rw [apL_take ht, hT, fl_snoc hvl]
      rw [spl_app _ _ _ hfl.symm] at hb3
      have : (zeros [.int .i64 0, .string ⟨#[]⟩, .slice none 0 0] (ks.length - k)).drop 3 = zeros [.int .i64 0, .string ⟨#[]⟩, .slice none 0 0] (ks.length - (k + 1)) := by
        rw [show ks.length - k = (ks.length - (k + 1)) + 1 by omega]
        simp [zeros, List.replicate_succ]
      simp only [List.length_cons, List.length_nil, Nat.reduceAdd, this] at hb3
      exact hb3
  · have : k = ks.length := by omega
    subst this
    rw [List.take_length] at hkl1 hb
    obtain ⟨cs', h1, h2⟩ := Kids.of_blk (cap := ks.length) hb hkl1 (apL_length xs ks).symm ⟨hm, Nat.le_refl _⟩
    refine ⟨hx, cs', h1, Fresh.sub (Fresh.cons hb (Nat.le_refl _) (hf.mono (by omega)) (fun hh => by have := hf.lo _ hh; omega)) h2⟩

/-- impl.Apply -/
theorem c_iApply {xs : List Bi} {l : TLab} {ks : List Tp} (hb : cntB xs ≤ 4294967296) (hs : Rose.cnt ks ≤ 4294967296) {w : World} {u v : Value} {bx bs : List Nat} (hd : Bds w u xs bx) (hk : Kids encT w v ks bs) :
    Ret Tryd.prog 45 [u, .agg #[.int .i64 l.1, .string l.2, v]] w (NewTy w (apT xs (.mk l ks)).lab (apT xs (.mk l ks)).kids) := c_iApply' hb (c_iApplyAll hb ks) hs hd hk
end Go.Proofs.YtmecmdnnhldjpaaDoor
