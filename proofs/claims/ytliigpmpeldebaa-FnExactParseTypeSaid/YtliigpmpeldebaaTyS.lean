/- ParseType, of both. Conditions: none. -/
import Derived.Test.YtliigpmpeldebaaSxK
import Derived.Test.YtliigpmpeldebaaTyO
namespace Go.Proofs.Ytliigpmpeldebaa
open Go.RowKit

theorem fmS_alL (ks : List Sx) : (∀ t ∈ ks, fmS t) → Rose.AlL (fun s : ByteArray => s.size ≤ 12) ks := by
  refine Rose.forest (p := fun ks => (∀ t ∈ ks, fmS t) → Rose.AlL (fun s : ByteArray => s.size ≤ 12) ks) (fun ks ih => ?_) ks
  intro h
  refine Rose.AlL_of fun t ht => ?_
  have h1 := h t ht
  have h2 := ih t ht
  cases t with
  | mk l ls =>
    by_cases e : l = em
    · exact ⟨by rw [show Rose.lab (Rose.mk l ls) = l from rfl, e]; exact Nat.zero_le _, h2 ((fmS_list e).1 h1)⟩
    · obtain ⟨h3, rfl⟩ := (fmS_atom e).1 h1
      exact ⟨h3.2.2, Rose.AlL_of (by simp [Rose.kids])⟩
theorem fmS_al {t : Sx} (h : fmS t) : t.lab.size ≤ 12 ∧ Rose.AlL (fun s : ByteArray => s.size ≤ 12) t.kids :=
  Rose.AlL_mem (fmS_alL [t] (by simpa using h)) (List.mem_singleton.2 rfl)
/-- What a text reads as. -/
noncomputable def ptO (s : List UInt8) : Option Tp := (prO s).bind stO
/-- spec.ParseType -/
theorem c_sParseType {s : ByteArray} (hs : s.size ≤ 2097152) {w : World} : Ret Try.prog 12 [.string s] w (NewTyB w (ptO s.data.toList)) := by
  have hM : maxLen = 9223372036854775807 := rfl
  refine ret_of_vc ttOkP Try.func12 rfl (by kernel_rfl) (by kernel_rfl) ?_
  refine Go1.al tiTy ?_
  intro w1 hx1 hbR
  have ltR := hbR.lt
  have sz1 := hx1.size
  refine (c_sParseSExpr hs).mono ?_
  have hb : ∀ x, prO s.data.toList = some x → okS x := fun x h => (prO_prs h).2
  have hpt : ptO s.data.toList = (prO s.data.toList).bind stO := rfl
  rw [hpt]
  generalize prO s.data.toList = o at hb ⊢
  rintro _ w2 ⟨hx2, v, bs, rfl, hk, _⟩
  obtain ⟨ao, cap, rfl, _, _⟩ := hk.form
  refine Go1.al tiSx ?_
  intro w3 hx3 hb3
  have lt3 := hb3.lt
  have sz2 := hx2.size
  have sz3 := hx3.size
  refine Go0.st (off := 0) (vs := [.string (o.getD (.mk em [])).lab, .slice ao (o.getD (.mk em [])).kids.length cap]) hb3 rfl rfl (by simp [Value.cells]) (by simp [Value.oneCell']) ?_
  intro w4 hc4 hb4 _
  have hb4 : Blk w4 w2.heap.size 27 [.string (o.getD (.mk em [])).lab, .slice ao (o.getD (.mk em [])).kids.length cap] := hb4
  have hx24 : Ext w2 w4 := hx3.chg hc4 (by omega)
  have hx14 := hx2.trans hx24
  have hx04 := hx1.trans hx14
  have hbR4 : Blk w4 w.heap.size 34 [.int .i64 0, .string em, .slice none 0 0] := hbR.ext hx14
  have hk4 := hk.ext hx24
  cases o with
  | none =>
    refine Go1.bd [.int .i64 0, .string em, .slice none 0 0] ?_
    refine Go0.st (off := 0) (vs := [.int .i64 0, .string em, .slice none 0 0]) hbR4 rfl rfl (by simp [Value.cells]) (by simp [Value.oneCell']) ?_
    intro wz hcz hbz _
    have hbz : Blk wz w.heap.size 34 [.int .i64 0, .string em, .slice none 0 0] := hbz
    refine Ld.agg (vs := [.int .i64 0, .string em, .slice none 0 0]) (Blk.lc0 (post := []) hbz) ?_
    exact ⟨hx04.chg hcz (by omega), _, [], rfl, Kids.nil, Fresh.nil _ _⟩
  | some x =>
    have hok := hb x rfl
    have hal := fmS_al hok.2.1
    have hct := hok.1
    have hk4 : Kids encS w4 (.slice ao x.kids.length cap) x.kids bs := hk4
    have hb4 : Blk w4 w2.heap.size 27 [.string x.lab, .slice ao x.kids.length cap] := hb4
    refine Ld.agg (vs := [.string x.lab, .slice ao x.kids.length cap]) (Blk.lc0 (post := []) hb4) ?_
    refine (c_sSExprToType (rd_ok rd_deS (Nat.le_trans hal.1 (by decide)) (Rose.AlL_imp (fun _ h => Nat.le_trans h (by decide)) _ hal.2) (by omega)) (by omega) hk4).mono ?_
    rw [x.eta]
    have hbind : (some x).bind stO = stO x := rfl
    rw [hbind]
    generalize stO x = p
    rintro _ w5 ⟨hx5, v5, b5, rfl, hk5, hf5⟩
    obtain ⟨ao5, cap5, rfl, _, _⟩ := hk5.form
    have hn : ∀ b ∈ b5, ¬ b = w.heap.size := fun b hb => by have := hf5.lo b hb; have := hx14.size; omega
    refine Go0.st (off := 0) (vs := [.int .i64 (p.getD (.mk (0, em) [])).lab.1, .string (p.getD (.mk (0, em) [])).lab.2, .slice ao5 (p.getD (.mk (0, em) [])).kids.length cap5]) (hbR4.ext hx5) rfl rfl (by simp [Value.cells]) (by simp [Value.oneCell']) ?_
    intro wz hcz hbz _
    have hbz : Blk wz w.heap.size 34 [.int .i64 (p.getD (.mk (0, em) [])).lab.1, .string (p.getD (.mk (0, em) [])).lab.2, .slice ao5 (p.getD (.mk (0, em) [])).kids.length cap5] := hbz
    refine Ld.agg (vs := [.int .i64 (p.getD (.mk (0, em) [])).lab.1, .string (p.getD (.mk (0, em) [])).lab.2, .slice ao5 (p.getD (.mk (0, em) [])).kids.length cap5]) (Blk.lc0 (post := []) hbz) ?_
    exact ⟨(hx04.trans hx5).chg hcz (by omega), _, b5, rfl, hk5.chg hcz hn, (hf5.chg hcz hn).mono (by have := hx04.size; omega)⟩
/-- impl.ParseType -/
theorem c_iParseType {s : ByteArray} (hs : s.size ≤ 2097152) {w : World} : Ret Try.prog 13 [.string s] w (NewTyB w (ptO s.data.toList)) := by
  have hM : maxLen = 9223372036854775807 := rfl
  refine ret_of_vc ttOkP Try.func13 rfl (by kernel_rfl) (by kernel_rfl) ?_
  refine Go1.al tiTy ?_
  intro w1 hx1 hbR
  have ltR := hbR.lt
  have sz1 := hx1.size
  refine (c_iParseSExpr hs).mono ?_
  have hb : ∀ x, prO s.data.toList = some x → okS x := fun x h => (prO_prs h).2
  have hpt : ptO s.data.toList = (prO s.data.toList).bind stO := rfl
  rw [hpt]
  generalize prO s.data.toList = o at hb ⊢
  rintro _ w2 ⟨hx2, v, bs, rfl, hk, _⟩
  obtain ⟨ao, cap, rfl, _, _⟩ := hk.form
  refine Go1.al tiSx ?_
  intro w3 hx3 hb3
  have lt3 := hb3.lt
  have sz2 := hx2.size
  have sz3 := hx3.size
  refine Go0.st (off := 0) (vs := [.string (o.getD (.mk em [])).lab, .slice ao (o.getD (.mk em [])).kids.length cap]) hb3 rfl rfl (by simp [Value.cells]) (by simp [Value.oneCell']) ?_
  intro w4 hc4 hb4 _
  have hb4 : Blk w4 w2.heap.size 27 [.string (o.getD (.mk em [])).lab, .slice ao (o.getD (.mk em [])).kids.length cap] := hb4
  have hx24 : Ext w2 w4 := hx3.chg hc4 (by omega)
  have hx14 := hx2.trans hx24
  have hx04 := hx1.trans hx14
  have hbR4 : Blk w4 w.heap.size 34 [.int .i64 0, .string em, .slice none 0 0] := hbR.ext hx14
  have hk4 := hk.ext hx24
  cases o with
  | none =>
    refine Go1.bd [.int .i64 0, .string em, .slice none 0 0] ?_
    refine Go0.st (off := 0) (vs := [.int .i64 0, .string em, .slice none 0 0]) hbR4 rfl rfl (by simp [Value.cells]) (by simp [Value.oneCell']) ?_
    intro wz hcz hbz _
    have hbz : Blk wz w.heap.size 34 [.int .i64 0, .string em, .slice none 0 0] := hbz
    refine Ld.agg (vs := [.int .i64 0, .string em, .slice none 0 0]) (Blk.lc0 (post := []) hbz) ?_
    exact ⟨hx04.chg hcz (by omega), _, [], rfl, Kids.nil, Fresh.nil _ _⟩
  | some x =>
    have hok := hb x rfl
    have hal := fmS_al hok.2.1
    have hct := hok.1
    have hk4 : Kids encS w4 (.slice ao x.kids.length cap) x.kids bs := hk4
    have hb4 : Blk w4 w2.heap.size 27 [.string x.lab, .slice ao x.kids.length cap] := hb4
    refine Ld.agg (vs := [.string x.lab, .slice ao x.kids.length cap]) (Blk.lc0 (post := []) hb4) ?_
    refine (c_iSExprToType (rd_ok rd_deI (Nat.le_trans hal.1 (by decide)) (Rose.AlL_imp (fun _ h => Nat.le_trans h (by decide)) _ hal.2) (by omega)) (by omega) hk4).mono ?_
    rw [x.eta]
    have hbind : (some x).bind stO = stO x := rfl
    rw [hbind]
    generalize stO x = p
    rintro _ w5 ⟨hx5, v5, b5, rfl, hk5, hf5⟩
    obtain ⟨ao5, cap5, rfl, _, _⟩ := hk5.form
    have hn : ∀ b ∈ b5, ¬ b = w.heap.size := fun b hb => by have := hf5.lo b hb; have := hx14.size; omega
    refine Go0.st (off := 0) (vs := [.int .i64 (p.getD (.mk (0, em) [])).lab.1, .string (p.getD (.mk (0, em) [])).lab.2, .slice ao5 (p.getD (.mk (0, em) [])).kids.length cap5]) (hbR4.ext hx5) rfl rfl (by simp [Value.cells]) (by simp [Value.oneCell']) ?_
    intro wz hcz hbz _
    have hbz : Blk wz w.heap.size 34 [.int .i64 (p.getD (.mk (0, em) [])).lab.1, .string (p.getD (.mk (0, em) [])).lab.2, .slice ao5 (p.getD (.mk (0, em) [])).kids.length cap5] := hbz
    refine Ld.agg (vs := [.int .i64 (p.getD (.mk (0, em) [])).lab.1, .string (p.getD (.mk (0, em) [])).lab.2, .slice ao5 (p.getD (.mk (0, em) [])).kids.length cap5]) (Blk.lc0 (post := []) hbz) ?_
    exact ⟨(hx04.trans hx5).chg hcz (by omega), _, b5, rfl, hk5.chg hcz hn, (hf5.chg hcz hn).mono (by have := hx04.size; omega)⟩
end Go.Proofs.Ytliigpmpeldebaa
