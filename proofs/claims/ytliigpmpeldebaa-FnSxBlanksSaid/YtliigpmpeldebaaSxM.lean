/- Draws: a text that is nearly an SExpr's. Conditions: none. -/
import Derived.Test.YtliigpmpeldebaaSxG
import Derived.Test.YtliigpmpeldebaaSxE
import Derived.Test.YtliigpmpeldebaaSxH
namespace Go.Proofs.Ytliigpmpeldebaa
open Go.RowKit

theorem wtL_smB (ks : List Sx) : SmL ks → Rose.wtL ByteArray.size ks ≤ 17 * Rose.cnt ks := by
  refine Rose.forest (p := fun ks => SmL ks → Rose.wtL ByteArray.size ks ≤ 17 * Rose.cnt ks) (fun ks ih => ?_) ks
  induction ks with
  | nil => intro _; rw [Rose.wtL_nil]; exact Nat.zero_le _
  | cons k ks ihk =>
    intro h
    have h1 := Rose.AlL_mem h (List.mem_cons_self)
    have h2 := ih k List.mem_cons_self h1.2
    have h3 := ihk (fun t ht => ih t (List.mem_cons_of_mem _ ht)) (Rose.AlL_of fun t ht => Rose.AlL_mem h (List.mem_cons_of_mem _ ht))
    have e : Rose.cnt (k :: ks) = 1 + 0 + Rose.cnt k.kids + Rose.cnt ks := Rose.wtL_cons _ _ _
    rw [Rose.wtL_cons, e]
    have := h1.1
    omega
theorem fmtS_lenB {l : ByteArray} {ks : List Sx} (h : Sm (.mk l ks)) (hc : 1 + Rose.cnt ks ≤ 1024) : 1 + l.size + Rose.wtL ByteArray.size ks ≤ 65536 ∧ (fmtS (.mk l ks)).size ≤ 200000 := by
  have h1 := wtL_smB ks h.2
  have h2 := txS_len l ks
  have h3 : l.size ≤ 16 := h.1
  refine ⟨by omega, ?_⟩
  unfold fmtS
  split
  · rw [tb_size]; omega
  · exact Nat.zero_le _
theorem run_subL {P : Program} {t : TypeId} (ht : P.underlying t = some .string) {s : ByteArray} {j : Nat} (h2 : j ≤ s.size) {k' : IntKind} (w : World) :
    (Instr.sliceAt t (.string s) none (some (.int k' (j : Int))) none).run P w = .ok (.string (s.extract 0 j)) w := by
  simp [Instr.sliceAt, Instr.slice, run_underlying ht, Instr.sliceBounds, Instr.sliceBound, asIntOf, h2]
theorem run_subR {P : Program} {t : TypeId} (ht : P.underlying t = some .string) {s : ByteArray} {i : Nat} (h1 : i ≤ s.size) {k : IntKind} (w : World) :
    (Instr.sliceAt t (.string s) (some (.int k (i : Int))) none none).run P w = .ok (.string (s.extract i s.size)) w := by
  simp [Instr.sliceAt, Instr.slice, run_underlying ht, Instr.sliceBounds, Instr.sliceBound, asIntOf, h1]

theorem run_cat {P : Program} {t : TypeId} {ox oy : Operand} {x y : ByteArray} (h : x.size + y.size ≤ 9223372036854775807) (w : World) :
    (do eqGuard .add t ox oy (.string x) (.string y); Go.binOp .add t (.string x) (.string y) : Sem Value).run P w = .ok (.string (x ++ y)) w := by
  have h2 : ¬ IntKind.i64.max < (x.size : Int) + (y.size : Int) := by
    have : IntKind.i64.max = 9223372036854775807 := by decide
    omega
  simp [eqGuard, binOp, Op.stringOp, h2]
  omega

/-- spec.l1Below, of any number -/
theorem c_l1BelowG {w : World} {g : Nat} (hc : Cu w g) (m : Nat) (h0 : 0 < m) : Ret Try.prog 31 [.pointer (some ⟨g, 0, none⟩), .int .i64 m] w fun r w' => (∃ n : Nat, r = .int .i64 n ∧ n < m) ∧ Dw g w w' := by
  have hM : maxLen = 9223372036854775807 := rfl
  by_cases h1 : m ≤ 256
  · exact c_l1Below hc m h0 h1
  refine ret_of_vc ttOkD Try.func31 rfl (by kernel_rfl) (by kernel_rfl) ?_
  refine Cm.f (by omega) ?_
  refine Cm.f (by omega) ?_
  refine (c_l1Byte hc).mono ?_
  rintro _ w1 ⟨⟨a, rfl, ha⟩, hd1⟩
  refine (c_l1Byte hd1.2).mono ?_
  rintro _ w2 ⟨⟨b, rfl, hb⟩, hd2⟩
  refine (c_l1Byte hd2.2).mono ?_
  rintro _ w3 ⟨⟨c, rfl, hcc⟩, hd3⟩
  refine (c_l1Byte hd3.2).mono ?_
  rintro _ w4 ⟨⟨d, rfl, hd⟩, hd4⟩
  refine Wr.n (a * 16777216) (by simp) (by omega) ?_
  refine Wr.n (b * 65536) (by simp) (by omega) ?_
  refine Wr.n (a * 16777216 + b * 65536) (by simp) (by omega) ?_
  refine Wr.n (c * 256) (by simp) (by omega) ?_
  refine Wr.n (a * 16777216 + b * 65536 + c * 256) (by simp) (by omega) ?_
  refine Wr.n (a * 16777216 + b * 65536 + c * 256 + d) (by simp) (by omega) ?_
  obtain ⟨n, hn⟩ : ∃ n : Nat, n = a * 16777216 + b * 65536 + c * 256 + d := ⟨_, rfl⟩
  rw [← hn]
  refine Go1.rem (by omega) ?_
  have : ((n : Int).tmod (m : Int)) = ((n % m : Nat) : Int) := by rw [Int.tmod_eq_emod_of_nonneg (by omega)]; omega
  rw [this]
  exact ⟨⟨n % m, rfl, Nat.mod_lt _ h0⟩, ((hd1.trans hd2).trans hd3).trans hd4⟩
/-- spec.l1Turned -/
theorem c_l1Turned {w : World} {g : Nat} (hc : Cu w g) {s : ByteArray} (hs : s.size ≤ 1000000) {v : Value} {ss : List ByteArray} {bs : List Nat} (hk : Strs w v ss bs) (hg : g ∉ bs) (h0 : 0 < ss.length) (h1 : ss.length ≤ 256) (h16 : ∀ x ∈ ss, x.size ≤ 16) :
    Ret Try.prog 18 [.pointer (some ⟨g, 0, none⟩), .string s, v] w fun r w' => (∃ t, r = .string t ∧ t.size ≤ s.size + 16) ∧ Dw g w w' := by
  have hM : maxLen = 9223372036854775807 := rfl
  obtain ⟨ao, cap, rfl, hm, hcap⟩ := hk.form
  refine ret_of_vc ttOkD Try.func18 rfl (by kernel_rfl) (by kernel_rfl) ?_
  refine Wr.n (s.size + 1) (by simp) (by omega) ?_
  refine (c_l1BelowG hc (s.size + 1) (by omega)).mono ?_
  rintro _ w1 ⟨⟨p, rfl, hp⟩, hd1⟩
  refine (c_l1Below hd1.2 6 (by decide) (by decide)).mono ?_
  rintro _ w2 ⟨⟨q, rfl, hq⟩, hd2⟩
  have hd := hd1.trans hd2
  have hk2 : Strs w2 (.slice ao ss.length cap) ss bs := Row.chg hd.1 (fun b hb h => hg (h ▸ hb)) hk
  refine Cm.s (fun hq0 => ?_) (fun hq0 => ?_)
  · refine Dr.d hd.2 [0, 1, 2, 3, 4, 7, 8, 9, 5, 6, 10, 11] ttOkD ?_
    refine GoS.of1 (run_subL Try.underlying9 (by omega)) ?_
    refine GoS.of1 (run_subR Try.underlying9 (by omega)) ?_
    refine ⟨fun u hu => ?_⟩
    refine (c_l1Pick hu.2 (Row.chg hu.1 (fun b hb h => hg (h ▸ hb)) hk2) hg h0 h1).mono ?_
    rintro _ w3 ⟨⟨x, rfl, hx⟩, hd3⟩
    refine Af.dw (hu.trans hd3) ?_
    have hx16 := h16 x hx
    have e1 : (s.extract 0 p).size = p := by rw [ByteArray.size_extract]; omega
    have e2 : (s.extract p s.size).size = s.size - p := by rw [ByteArray.size_extract]; omega
    refine GoS.of1 (run_cat (by omega)) ?_
    refine GoS.of1 (run_cat (by rw [ByteArray.size_append]; omega)) ?_
    intro w4 hd4
    refine ⟨⟨_, rfl, ?_⟩, hd.trans ((hu.trans hd3).trans hd4)⟩
    rw [ByteArray.size_append, ByteArray.size_append]
    omega
  refine Cm.s (fun hq1 => ?_) (fun hq1 => ?_)
  · refine Go1.go (run_subL Try.underlying9 (by omega) _) ?_
    exact ⟨⟨_, rfl, by rw [ByteArray.size_extract]; omega⟩, hd⟩
  · exact ⟨⟨_, rfl, by omega⟩, hd⟩
theorem pick8 : ∀ x ∈ ([⟨#[32]⟩, ⟨#[10]⟩, ⟨#[40]⟩, ⟨#[41]⟩, ⟨#[40, 41]⟩, ⟨#[65]⟩, ⟨#[32, 97, 32]⟩, ⟨#[97, 98, 99, 100, 101, 102, 103, 104, 105, 106, 107, 108]⟩] : List ByteArray), x.size ≤ 16 := by decide
/-- spec.DrawParseSExpr -/
theorem c_DrawParseSExpr {w : World} {v : Value} (hv : OCode w v) : Ret Try.prog 6 [v] w fun r w' => (∃ s, r = .string s ∧ s.size ≤ 1000000) ∧ Ext w w' := by
  have hM : maxLen = 9223372036854775807 := rfl
  obtain ⟨zs0, bs0, hr0⟩ := hv
  refine ret_of_vc ttOkD Try.func6 rfl (by kernel_rfl) (by kernel_rfl) ?_
  refine (c_l1New ⟨zs0, bs0, hr0⟩).mono ?_
  rintro _ w1 ⟨hx1, g, rfl, hg, hc1⟩
  refine (c_l2Sx 4 (by decide) hc1).mono ?_
  rintro _ w2 ⟨⟨l, ks⟩, u, O, cs, rfl, hgt, ⟨hcn, hsm⟩, hd2⟩
  simp only [Rose.lab, Rose.kids] at hgt hcn ⊢
  have h44 : 4 ^ 4 = 256 := by decide
  obtain ⟨bs, hk, hf⟩ := hgt.kids (by have : ks.length ≤ Rose.cnt ks := Rose.wtL_length _ _; omega)
  obtain ⟨hW, hF⟩ := fmtS_lenB hsm (by omega)
  refine (c_sFormatSExpr (l := l) (ks := ks) (Nat.le_trans hsm.1 (by decide)) (Rose.AlL_imp (fun _ h => Nat.le_trans h (by decide)) _ hsm.2) (by omega) hk).mono ?_
  rintro _ w3 ⟨rfl, hx3⟩
  refine Go1.bs 9 ([⟨#[32]⟩, ⟨#[10]⟩, ⟨#[40]⟩, ⟨#[41]⟩, ⟨#[40, 41]⟩, ⟨#[65]⟩, ⟨#[32, 97, 32]⟩, ⟨#[97, 98, 99, 100, 101, 102, 103, 104, 105, 106, 107, 108]⟩].map Value.string) (size := 1) (bytes := 16) Try.underlying45 tiStr (by decide) (by decide) (by kernel_rfl) ?_
  intro w4 hx4 hb4
  have lt1 := hc1.lt
  have sz1 := hx1.size
  have sz2 := hd2.size
  have sz3 := hx3.size
  have sz4 := hx4.size
  have hd4 := (hd2.ext hx3).ext hx4
  refine (c_l1Turned hd4.2 (by omega) (lit_strs hb4 (by decide) rfl) (by simp; omega) (by decide) (by decide) pick8).mono ?_
  rintro _ w5 ⟨⟨t, rfl, ht⟩, hd5⟩
  exact ⟨⟨t, rfl, by omega⟩, hx1.chg (hd4.trans hd5).1 (fun x hx => by omega)⟩
end Go.Proofs.Ytliigpmpeldebaa
