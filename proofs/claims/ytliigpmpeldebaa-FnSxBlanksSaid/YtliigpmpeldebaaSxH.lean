/- The reference's reading of an SExpr: what it reads, and that nothing else stands there. Conditions: none. -/
import Derived.Test.YtliigpmpeldebaaPxA
import Derived.Test.YtliigpmpeldebaaDrawE
import Derived.Test.YtliigpmpeldebaaStrC
import Derived.Test.YtliigpmpeldebaaGrowT
namespace Go.Proofs.Ytliigpmpeldebaa
open Go.RowKit

def ttp : TT := [(9, .str), (4, .boo), (25, .slc 27), (46, .slc 25)]
theorem ttOkP : TOk Try.prog ttp := ttB_ok (by kernel_rfl)
theorem Blk.at_ {w : World} {b : Nat} {e : TypeId} {cs : List Value} (h : Blk w b e cs) (i : Nat) {v : Value} (hv : cs[i]? = some v) : w.cell? ((⟨b, 0, none⟩ : Addr).add i) = some v := by
  rw [Addr.add_lit, h.cell, Nat.zero_add]; exact hv
theorem Go1.np {P : Program} {w : World} {K : Value → World → Prop} {v : Value} (k : K v w) : Go1 P (pure v) w K := Go1.go (by simp) k
theorem GoS.np {P : Program} {S : World → Prop} {v : Value} {K : Value → Prop} (k : K v) : GoS P (pure v) S K := GoS.of1 (fun w => by simp) k
theorem GoS.ixS {P : Program} {t : TypeId} {S : World → Prop} {s : ByteArray} {j : Nat} {kd : IntKind} {K : Value → Prop} (hj : j < s.size) (k : K (.int .u8 s[j].toNat)) (ht : tkB P t .str = true := by kernel_rfl) :
    GoS P (Instr.index t (.string s) (.int kd (j : Int))) S K := by
  refine GoS.of1 (fun w => ?_) k
  have hs : P.underlying t = some .string := tkB_ok ht
  simp [Instr.index, asIntOf, run_underlying hs, ByteArray.getElem?_lt' s j hj]
theorem run_sub {P : Program} {t : TypeId} (ht : P.underlying t = some .string) {s : ByteArray} {i j : Nat} (h1 : i ≤ j) (h2 : j ≤ s.size) {k k' : IntKind} (w : World) :
    (Instr.sliceAt t (.string s) (some (.int k (i : Int))) (some (.int k' (j : Int))) none).run P w = .ok (.string (s.extract i j)) w := by
  simp [Instr.sliceAt, Instr.slice, run_underlying ht, Instr.sliceBounds, Instr.sliceBound, asIntOf, h1, h2]
theorem sub_list (s : ByteArray) (i j : Nat) : (s.extract i j).data.toList = (s.data.toList.drop i).take (j - i) := by
  simp [ByteArray.data_extract, Array.toList_extract]

abbrev drp (s : ByteArray) (i : Nat) : List UInt8 := s.data.toList.drop i
theorem drp_cons {s : ByteArray} {i : Nat} (h : i < s.size) : drp s i = s[i] :: drp s (i + 1) := by
  have := List.drop_eq_getElem_cons (l := s.data.toList) (i := i) (by simpa using h)
  rw [drp, this]
  rfl
theorem drp_end {s : ByteArray} {i : Nat} (h : s.size ≤ i) : drp s i = [] := List.drop_eq_nil_of_le (by simpa using h)

/-- The reader's state. -/
abbrev stc (s : ByteArray) (i d n : Nat) (b : Bool) : List Value := [.string s, .int .i64 (i : Nat), .int .i64 (d : Nat), .int .i64 (n : Nat), .bool b]
/-- spec.l2Skip -/
theorem c_l2Skip {w : World} {g : Nat} {s : ByteArray} {i d n : Nat} {b : Bool} (hb : Blk w g 51 (stc s i d n b)) (hi : i ≤ s.size) (hm : s.size ≤ maxLen) :
    Ret Try.prog 24 [.pointer (some ⟨g, 0, none⟩)] w fun _ w' => ∃ j, Chg (fun k => k = g) w w' ∧ Blk w' g 51 (stc s j d n b) ∧ (i ≤ j ∧ j ≤ s.size) ∧ lexA [] (drp s j) = lexA [] (drp s i) ∧ ∀ h : j < s.size, ¬ (s[j].toNat = 32 ∨ s[j].toNat = 10) := by
  refine ret_of_vc ttOkP Try.func24 rfl (by kernel_rfl) (by kernel_rfl) ?_
  refine Lp.go ttOkP (by kernel_rfl) (fun _ : Nat => [(0, .pointer (some ⟨g, 0, none⟩))]) (fun j w' => Chg (fun k => k = g) w w' ∧ Blk w' g 51 (stc s j d n b) ∧ (i ≤ j ∧ j ≤ s.size) ∧ lexA [] (drp s j) = lexA [] (drp s i)) (fun j => s.size - j) i
    ⟨rfl, trivial⟩ ⟨Chg.refl _ _, hb, ⟨Nat.le_refl _, hi⟩, rfl⟩ ?_
  rintro j w1 ⟨hc, hb, hij, hl⟩
  have stop : ∀ w2, Ext w1 w2 → (∀ h : j < s.size, ¬ (s[j].toNat = 32 ∨ s[j].toNat = 10)) → ∃ j, Chg (fun k => k = g) w w2 ∧ Blk w2 g 51 (stc s j d n b) ∧ (i ≤ j ∧ j ≤ s.size) ∧ lexA [] (drp s j) = lexA [] (drp s i) ∧ ∀ h : j < s.size, ¬ (s[j].toNat = 32 ∨ s[j].toNat = 10) :=
    fun w2 hx hs => ⟨j, hc.ext hx, hb.ext hx, hij, hl, hs⟩
  have on : ∀ w2, Ext w1 w2 → (∃ h : j < s.size, s[j].toNat = 32 ∨ s[j].toNat = 10) → ∀ w3, Chg (fun k => k = g) w2 w3 → Blk w3 g 51 (stc s (j + 1) d n b) →
      (Chg (fun k => k = g) w w3 ∧ Blk w3 g 51 (stc s (j + 1) d n b) ∧ (i ≤ j + 1 ∧ j + 1 ≤ s.size) ∧ lexA [] (drp s (j + 1)) = lexA [] (drp s i)) ∧ s.size - (j + 1) < s.size - j := by
    rintro w2 hx ⟨h, hbl⟩ w3 hc3 hb3
    refine ⟨⟨(hc.ext hx).trans' hc3, hb3, ⟨by omega, h⟩, ?_⟩, by omega⟩
    rw [← hl, drp_cons h, lexA_bl0 (blB_t hbl)]
  refine Dr.x [0, 1, 2, 3, 4, 5, 6, 7, 8, 9, 10, 11, 12, 13, 14, 15, 16, 17, 18, 19, 20, 21, 22, 23, 24, 25, 26, 27, 28, 29, 30, 31, 32, 33] ttOkP ?_
  refine GoS.np (GoS.fl 1 (LdS.x1 (hb.at_ 1 rfl) ?_))
  refine GoS.np (GoS.fl 0 (LdS.x1 (hb.at_ 0 rfl) ?_))
  refine Cm.s (fun hlt => ?_) (fun hge => ?_)
  · have hlt : j < s.size := by omega
    refine GoS.np (GoS.fl 0 (LdS.x1 (hb.at_ 0 rfl) ?_))
    refine GoS.np (GoS.fl 1 (LdS.x1 (hb.at_ 1 rfl) (GoS.ixS hlt ?_)))
    refine Cm.s (fun h32 => ?_) (fun h32 => ?_)
    · intro w2 hx2
      refine Go1.np (Go1.fl 1 (Ld.one ((hb.ext hx2).at_ 1 rfl) ?_))
      refine Wr.n (j + 1) (by simp) (by omega) ?_
      refine Go1.np (Go1.fl 1 ?_)
      refine Go0.st (off := 1) (vs := [.int .i64 (j + 1 : Nat)]) (hb.ext hx2) (by rw [Addr.add_lit]) rfl (by simp) (by simp [Value.oneCell']) ?_
      intro w3 hc3 hb3 _
      have hb3 : Blk w3 g 51 (stc s (j + 1) d n b) := hb3
      exact ⟨j + 1, ⟨rfl, trivial⟩, on w2 hx2 ⟨hlt, .inl (by omega)⟩ w3 hc3 hb3⟩
    · refine GoS.np (GoS.fl 0 (LdS.x1 (hb.at_ 0 rfl) ?_))
      refine GoS.np (GoS.fl 1 (LdS.x1 (hb.at_ 1 rfl) (GoS.ixS hlt ?_)))
      refine Cm.s (fun h10 => ?_) (fun h10 => ?_)
      · intro w2 hx2
        refine Go1.np (Go1.fl 1 (Ld.one ((hb.ext hx2).at_ 1 rfl) ?_))
        refine Wr.n (j + 1) (by simp) (by omega) ?_
        refine Go1.np (Go1.fl 1 ?_)
        refine Go0.st (off := 1) (vs := [.int .i64 (j + 1 : Nat)]) (hb.ext hx2) (by rw [Addr.add_lit]) rfl (by simp) (by simp [Value.oneCell']) ?_
        intro w3 hc3 hb3 _
        have hb3 : Blk w3 g 51 (stc s (j + 1) d n b) := hb3
        exact ⟨j + 1, ⟨rfl, trivial⟩, on w2 hx2 ⟨hlt, .inr (by omega)⟩ w3 hc3 hb3⟩
      · intro w2 hx2
        exact stop w2 hx2 fun _ h => h.elim (fun h => h32 (by omega)) fun h => h10 (by omega)
  · intro w2 hx2
    exact stop w2 hx2 fun h => absurd h (by omega)
end Go.Proofs.Ytliigpmpeldebaa
