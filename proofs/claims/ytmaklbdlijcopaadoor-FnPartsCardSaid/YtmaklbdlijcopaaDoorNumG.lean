/- Contracts: a text cut at a byte, of both. Conditions: none. -/
import Derived.Test.YtmaklbdlijcopaaDoorNumF
import Derived.Test.YtmaklbdlijcopaaDoorNumB
import Derived.Test.YtmaklbdlijcopaaDoorStrG
import Derived.Test.YtmaklbdlijcopaaDoorShSplit
import Derived.Test.YtmaklbdlijcopaaDoorShJoin
import Derived.ChangeAgain
namespace Go.Proofs.YtmaklbdlijcopaaDoor
open Go.RowKit Go.Shelf

theorem shaped_ext {P : Program} {w w' : World} (h : w.ShapedOpen P) (hx : Ext w w') : w'.ShapedOpen P := h.keptBut (may := fun _ => False) (hx.below.frame _) (fun _ h => h.elim)
theorem run_piece {P : Program} {t : TypeId} (ht : P.underlying t = some .string) {s : ByteArray} {i j : Nat} (h1 : i ≤ j) (h2 : j ≤ s.size) {k k' : IntKind} (w : World) :
    (Instr.sliceAt t (.string s) (some (.int k (i : Int))) (some (.int k' (j : Int))) none).run P w = .ok (.string (s.extract i j)) w := by
  simp [Instr.sliceAt, Instr.slice, run_underlying ht, Instr.sliceBounds, Instr.sliceBound, asIntOf, h1, h2]
theorem piece_list (s : ByteArray) (i j : Nat) : (s.extract i j).data.toList = (s.data.toList.take j).drop i := by
  rw [List.drop_take]
  simp [ByteArray.data_extract, Array.toList_extract]
/-- spec.SplitByte -/
theorem c_sSplit {s : ByteArray} (hs : s.size ≤ 1073741824) (b : UInt8) {w : World} : Ret Tryd.prog 17 [.string s, .int .u8 b.toNat] w (NewStrs w (spB b s)) := by
  have hM : maxLen = 9223372036854775807 := rfl
  have hsl : s.data.toList.length = s.size := rfl
  refine ret_of_vc ttOk Tryd.func17 rfl (by kernel_rfl) (by kernel_rfl) ?_
  refine Go1.b0 9 (size := 1) (bytes := 16) Tryd.underlying30 tiStr ?_
  intro w1 u hx1 hg1 hu
  subst hu
  have sz1 := hx1.size
  refine Lp.go ttOk (by kernel_rfl) (fun x : Nat × Nat × Value => [(0, .string s), (1, .int .u8 b.toNat), (5, x.2.2), (6, .int .i64 x.2.1), (7, .int .i64 x.1)])
    (fun x w' => Ext w w' ∧ x.1 ≤ s.size + 1 ∧ ∃ (os : List (List UInt8)) (O : List Nat), os.length ≤ x.1 ∧ Grow w' 9 1 x.2.2 os.length ((os.map fun l => Value.string ⟨l.toArray⟩)) O ∧ (∀ o ∈ O, w.heap.size ≤ o) ∧
      (x.1 ≤ s.size → x.2.1 ≤ x.1 ∧ os ++ pcs b ((s.data.toList.take x.1).drop x.2.1) (s.data.toList.drop x.1) = pcs b [] s.data.toList) ∧ (x.1 = s.size + 1 → os = pcs b [] s.data.toList)) (fun x => s.size + 1 - x.1) (0, 0, .slice (some ⟨w.heap.size, 0, none⟩) 0 0)
    ⟨rfl, rfl, rfl, rfl, rfl, trivial⟩ ⟨hx1, Nat.zero_le _, [], [w.heap.size], Nat.le_refl _, hg1, by simp, fun _ => ⟨Nat.le_refl _, by simp⟩, fun h => by simp at h⟩ ?_
  rintro ⟨i, fr, r⟩ w2 ⟨hx2, hi, os, O, hos, hg, hO, hin, hfi⟩
  simp only at hi hos hg hin hfi
  have sz2 := hx2.size
  refine Cm.s (fun hle => ?_) (fun hgt => ?_)
  · have hle : i ≤ s.size := by have : (i : Int) ≤ (s.size : Int) := hle; omega
    obtain ⟨hfr, hp⟩ := hin hle
    have cut : ∀ (w4 : World), Ext w2 w4 → ∀ (K : Value → World → Prop), (∀ r5 w5 O5, Ext w w5 → Grow w5 9 1 r5 (os.length + 1) ((os ++ [(s.data.toList.take i).drop fr]).map fun l => Value.string ⟨l.toArray⟩) O5 → (∀ o ∈ O5, w.heap.size ≤ o) → K r5 w5) → ∀ g5, Blk w4 g5 9 [.string (s.extract fr i)] → Go1 Tryd.prog (Builtin.append_ #[30, 30] 30 #[r, .slice (some ⟨g5, 0, none⟩) 1 1]) w4 K := by
      intro w4 hx4 K hK g5 hb5
      have hpl : Value.string (s.extract fr i) = Value.string ⟨((s.data.toList.take i).drop fr).toArray⟩ := by
        congr 1
        refine ba_list ?_
        rw [piece_list]
      rw [hpl] at hb5
      refine Go1.app (size := 1) (bytes := 16) Tryd.underlying30 tiStr (by rfl) (by decide) (hg.ext hx4) (m := 1) (news := [.string ⟨((s.data.toList.take i).drop fr).toArray⟩]) (Blk.lc0 (post := []) hb5) (by simp) (by simp [Value.oneCell']) (by omega) (by decide) ?_
      intro r5 w5 O5 hc5 hg5 hO5
      have sz4 := hx4.size
      refine hK r5 w5 O5 ((hx2.trans hx4).chg hc5 fun x hx => hO x hx) (by rw [List.map_append]; exact hg5) fun o ho => ?_
      rcases hO5 o ho with h | h
      · exact hO o h
      · omega
    refine Cm.s (fun he => ?_) (fun hne => ?_)
    · have he : i = s.size := by have : (i : Int) = (s.size : Int) := he; omega
      refine Go1.go (run_piece Tryd.underlying9 hfr hle _) ?_
      refine Go1.bs 9 [.string (s.extract fr i)] (size := 1) (bytes := 16) Tryd.underlying30 tiStr (by decide) (by decide) (by kernel_rfl) ?_
      intro w4 hx4 hb4
      refine cut w4 hx4 _ (fun r5 w5 O5 hx5 hg5 hO5 => ?_) _ hb4
      refine Wr.n (i + 1) (by simp) (by omega) ?_
      refine Wr.n (i + 1) (by simp) (by omega) ?_
      refine ⟨(i + 1, i + 1, r5), ⟨rfl, rfl, rfl, rfl, rfl, trivial⟩, ⟨hx5, by simp only; omega, os ++ [(s.data.toList.take i).drop fr], O5, by simp; omega, by simpa using hg5, hO5, fun h => by simp only at h; omega, fun _ => ?_⟩, by simp only; omega⟩
      have hd : s.data.toList.drop i = [] := by rw [he, ← hsl, List.drop_length]
      rw [hd, pcs_nil] at hp
      exact hp
    · have hlt : i < s.size := by have : ¬ (i : Int) = (s.size : Int) := hne; omega
      have hgl := get_list hlt
      have hdr : s.data.toList.drop i = s[i] :: s.data.toList.drop (i + 1) := by
        rw [List.drop_eq_getElem_cons (show i < s.data.toList.length from hlt)]
        rfl
      have htk : s.data.toList.take (i + 1) = s.data.toList.take i ++ [s[i]] := by
        rw [List.take_add_one, hgl]
        rfl
      rw [hdr] at hp
      refine Go1.ixS hlt ?_
      refine Cm.s (fun heq => ?_) (fun hnq => ?_)
      · have heq : s[i] = b := UInt8.toNat_inj.1 (by have : ((s[i].toNat : Nat) : Int) = ((b.toNat : Nat) : Int) := heq; omega)
        refine Go1.go (run_piece Tryd.underlying9 hfr hle _) ?_
        refine Go1.bs 9 [.string (s.extract fr i)] (size := 1) (bytes := 16) Tryd.underlying30 tiStr (by decide) (by decide) (by kernel_rfl) ?_
        intro w4 hx4 hb4
        refine cut w4 hx4 _ (fun r5 w5 O5 hx5 hg5 hO5 => ?_) _ hb4
        refine Wr.n (i + 1) (by simp) (by omega) ?_
        refine Wr.n (i + 1) (by simp) (by omega) ?_
        refine ⟨(i + 1, i + 1, r5), ⟨rfl, rfl, rfl, rfl, rfl, trivial⟩, ⟨hx5, by simp only; omega, os ++ [(s.data.toList.take i).drop fr], O5, by simp; omega, by simpa using hg5, hO5, fun _ => ⟨Nat.le_refl _, ?_⟩, fun h => by simp only at h; omega⟩, by simp only; omega⟩
        rw [pcs_hit _ _ heq] at hp
        simp only
        rw [show (s.data.toList.take (i + 1)).drop (i + 1) = [] from List.drop_eq_nil_of_le (by rw [List.length_take]; omega), ← hp]
        simp
      · have hnq : s[i] ≠ b := fun e => hnq (by rw [e])
        refine Wr.n (i + 1) (by simp) (by omega) ?_
        refine ⟨(i + 1, fr, r), ⟨rfl, rfl, rfl, rfl, rfl, trivial⟩, ⟨hx2, by simp only; omega, os, O, by simp only; omega, hg, hO, fun _ => ⟨by simp only; omega, ?_⟩, fun h => by simp only at h; omega⟩, by simp only; omega⟩
        rw [pcs_miss _ _ hnq] at hp
        simp only
        rw [htk, List.drop_append_of_le_length (by rw [List.length_take]; omega)]
        exact hp
  · have hie : i = s.size + 1 := by have : ¬ (i : Int) ≤ (s.size : Int) := hgt; omega
    have ho := hfi hie
    subst ho
    have hg : Grow w2 9 1 r (spB b s).length ((spB b s).map .string) O := by
      unfold spB
      rw [List.length_map, List.map_map]
      exact hg
    have hl := spB_len b s
    obtain ⟨cs, h1, h2⟩ := hg.strs (by omega)
    obtain ⟨ao, cap, rfl, _, _⟩ := h1.form
    exact ⟨hx2, cs, h1, (hg.fresh hO).sub h2⟩
/-- impl.SplitByte -/
theorem c_iSplit {s : ByteArray} (hs : s.size ≤ 1073741824) (b : UInt8) {w : World} (hS : w.ShapedOpen Tryd.prog) : Ret Tryd.prog 18 [.string s, .int .u8 b.toNat] w (NewStrs w (spB b s)) := by
  have hM : maxLen = 9223372036854775807 := rfl
  refine ret_of_vc ttOk Tryd.func18 rfl (by kernel_rfl) (by kernel_rfl) ?_
  refine Go1.bs 5 [.int .u8 b.toNat] (z := .int .u8 0) (size := 1) (bytes := 1) Tryd.underlying22 (TyI.of (by kernel_rfl)) (by decide) (by decide) (by kernel_rfl) ?_
  intro w1 hx1 hb1
  refine Go1.cbs (s := ⟨#[b]⟩) Tryd.underlying22 Tryd.underlying5 Tryd.underlying9 rfl (Blk.lc0 (post := []) hb1) ?_
  have call : Ret Tryd.prog 33 [.string s, .string ⟨#[b]⟩] w1 (NewStrs w1 (spB b s)) := by
    refine Ret.of Tryd.func33 rfl (by kernel_rfl) (Any.strings_Split_shaped sh_laysM146 s ⟨#[b]⟩ w1 (shaped_ext hS hx1) (by omega) (Nat.le_refl 1)) ?_
    rintro e w2 ⟨he, hw⟩
    refine ⟨_, he, ?_⟩
    obtain ⟨e1, e2⟩ := spB_lib b s
    rw [e1] at hw e2
    have hb2 := alloc_blk w1 9 ((spB b s).map Value.string).toArray
    rw [List.toList_toArray] at hb2
    have hw : w2 = w1.alloc (.cells ((spB b s).map Value.string).toArray 9) := hw
    rw [← hw] at hb2
    have hl := spB_len b s
    obtain ⟨cs, h1, h2⟩ := Strs.of_blk (n := Lib.countB s ⟨#[b]⟩ + 1) (cap := Lib.countB s ⟨#[b]⟩ + 1) hb2 e2.symm ⟨by omega, Nat.le_refl _⟩
    exact ⟨by rw [hw]; exact chg_alloc w1 _, cs, h1, (Fresh.one hb2 (Nat.le_refl _)).sub h2⟩
  refine call.mono ?_
  rintro r w2 ⟨hx2, cs, h1, h2⟩
  obtain ⟨ao, cap, rfl, _, _⟩ := h1.form
  exact ⟨hx1.trans hx2, cs, h1, h2.mono hx1.size⟩
end Go.Proofs.YtmaklbdlijcopaaDoor
