/- Draws: DrawIsValidType. Conditions: none. -/
import Derived.Test.YtdoanmhiedemaaaTyQ
namespace Go.Proofs.Ytdoanmhiedemaaa
open Go.RowKit

theorem Nm.big {l : TLab} {ks : List Tp} (h : Nm (.mk l ks)) : l.2.size ≤ maxLen ∧ Rose.AlL (fun s => s.2.size ≤ maxLen) ks :=
  ⟨Nat.le_trans h.1 (by decide), Rose.AlL_imp (q := fun s : TLab => s.2.size ≤ maxLen) (fun _ h => Nat.le_trans h (by decide)) _ h.2⟩

/-- spec.DrawIsValidType -/
theorem c_DrawIsValidType {w : World} {v : Value} (hv : OCode w v) : Ret Try.prog 37 [v] w fun r w' => Ext w w' ∧ ∃ (t : Tp) (u : Value) (bs : List Nat), r = .agg #[.int .i64 t.lab.1, .string t.lab.2, u] ∧ Kids encT w' u t.kids bs ∧ Qb 128 t := by
  have hM : maxLen = 9223372036854775807 := rfl
  obtain ⟨zs0, bs0, hr0⟩ := hv
  refine ret_of_vc ttOkD Try.func37 rfl (by kernel_rfl) (by kernel_rfl) ?_
  refine Go1.al tiTy ?_
  intro w1 hx1 hb1
  have lt1 := hb1.lt
  refine (c_l1New ⟨zs0, bs0, hr0.ext hx1⟩).mono ?_
  rintro _ w2 ⟨hx2, g, rfl, hg, hc2⟩
  have hg2 := hc2.lt
  have sz2 := hx2.size
  refine (c_l4Bent hc2).mono ?_
  rintro _ w3 ⟨⟨t, u, O, cs, rfl, hgt, hq⟩, hd⟩
  obtain ⟨ao, cap, bs, rfl, hk, hf, _⟩ := kidsN hgt hq.1 (by decide)
  have hx3 : Ext w w3 := (hx1.trans hx2).chg hd.1 (fun x hx => by omega)
  refine Go0.st (off := 0) (vs := [.int .i64 t.lab.1, .string t.lab.2, .slice ao t.kids.length cap]) (hd.blk (hb1.ext hx2) (by omega)) rfl rfl (by simp [Value.cells]) (by simp [Value.oneCell']) ?_
  intro w4 hc4 hb4 _
  have hb4 : Blk w4 w.heap.size 29 [.int .i64 t.lab.1, .string t.lab.2, .slice ao t.kids.length cap] := hb4
  refine Ld.agg (vs := [.int .i64 t.lab.1, .string t.lab.2, .slice ao t.kids.length cap]) (Blk.lc0 (post := []) hb4) ?_
  exact ⟨hx3.chg hc4 (by omega), t, _, bs, rfl, hk.chg hc4 (fun b hb => by have := hf.lo b hb; omega), hq⟩
end Go.Proofs.Ytdoanmhiedemaaa
