/- Contracts: IsValidSubstitution. Conditions: none. -/
import Derived.Test.YtkpdkemkfgcamaaBdC
import Derived.Test.YtkpdkemkfgcamaaTyF
import Derived.Test.YtkpdkemkfgcamaaTyG
import Derived.Test.YtkpdkemkfgcamaaTyH
namespace Go.Proofs.Ytkpdkemkfgcamaa
open Go.RowKit

/-- Bindings of valid names, each once, to valid Types. -/
def SubOk (xs : List Bi) : Prop := (∀ x ∈ xs, NameOk x.1 ∧ okT x.2) ∧ (xs.map (·.1)).Nodup
theorem SubOk.sub {xs : List Bi} (h : SubOk xs) (k : Nat) : SubOk (xs.take k) :=
  ⟨fun x hx => h.1 x (List.mem_of_mem_take hx), by rw [List.map_take]; exact h.2.sublist (List.take_sublist _ _)⟩
theorem SubOk.snoc {xs : List Bi} {k : Nat} {x : Bi} (ht : xs[k]? = some x) : SubOk (xs.take (k + 1)) ↔ SubOk (xs.take k) ∧ NameOk x.1 ∧ okT x.2 ∧ ∀ y ∈ xs.take k, y.1 ≠ x.1 := by
  rw [take_succ_get ht]
  unfold SubOk
  rw [List.map_append, List.nodup_append]
  constructor
  · rintro ⟨h1, h2, _, h3⟩
    refine ⟨⟨fun y hy => h1 y (List.mem_append_left _ hy), h2⟩, (h1 x (by simp)).1, (h1 x (by simp)).2, fun y hy e => ?_⟩
    exact h3 y.1 (List.mem_map_of_mem hy) x.1 (by simp) e
  · rintro ⟨⟨h1, h2⟩, h3, h4, h5⟩
    refine ⟨fun y hy => ?_, h2, by simp, fun a ha b hb e => ?_⟩
    · rcases List.mem_append.1 hy with hy | hy
      · exact h1 y hy
      · obtain rfl : y = x := by simpa using hy
        exact ⟨h3, h4⟩
    · obtain ⟨y, hy, rfl⟩ := List.mem_map.1 ha
      obtain rfl : b = x.1 := by simpa using hb
      exact h5 y hy e

/-- spec.IsValidSubstitution -/
theorem c_sIsValidSub {xs : List Bi} (ha : AlB xs) {w : World} {v : Value} {bs : List Nat} (hk : Bds w v xs bs) :
    Ret Try.prog 49 [v] w fun r w' => Says (SubOk xs) r ∧ Ext w w' := by
  obtain ⟨ao, cap, rfl, hm, hcap⟩ := hk.form
  have hM : maxLen = 9223372036854775807 := rfl
  refine ret_of_vc ttOkB Try.func49 rfl (by kernel_rfl) (by kernel_rfl) ?_
  refine Lp.go ttOkB (by kernel_rfl) (fun i : Nat => [(0, .slice ao xs.length cap), (3, .int .i64 i)]) (fun i w' => Ext w w' ∧ i ≤ xs.length ∧ SubOk (xs.take i)) (fun i => xs.length - i) 0
    ⟨rfl, rfl, trivial⟩ ⟨Chg.refl _ _, Nat.zero_le _, by simp [SubOk]⟩ ?_
  rintro i w1 ⟨hx, hi, hok⟩
  refine Cm.s (fun hlt => ?_) (fun hge => ?_)
  · have hlt : i < xs.length := by omega
    obtain ⟨a, x, v1, b1, rfl, ht, hc, hkt, _⟩ := hk.get hlt
    have hxa := ha x (List.mem_of_getElem? ht)
    have hno : ∀ {p : Prop}, (SubOk (xs.take (i + 1)) → p) → ¬ p → ¬ SubOk xs := fun h hp hs => hp (h (hs.sub _))
    have sub : Lc w ((a.add (i * 4)).add 1) [.int .i64 x.2.lab.1, .string x.2.lab.2, v1] := by
      intro j u hu
      rw [Go.Deep.add_add]
      refine hc _ u ?_
      rw [Nat.add_comm]
      exact hu
    refine Go1.ix 4 hlt (Go1.fl 0 (Ld.one (hx.cell (hc 0 _ rfl)) ?_))
    refine (c_sIsValidName x.1 hxa.1).mono ?_
    rintro r w2 ⟨rfl, hx2⟩
    by_cases hnm : NameOk x.1
    · rw [decide_eq_true hnm]
      refine Go1.ix 4 hlt (Go1.fl 1 (Ld.agg (sub.chg (hx.trans hx2) (.inr id)) ?_))
      refine (c_sIsValidType hxa.2.1 hxa.2.2 (hkt.ext (hx.trans hx2))).mono ?_
      rintro r w3 ⟨⟨b, rfl, hb⟩, hx3⟩
      rw [x.2.eta] at hb
      have hx03 := (hx.trans hx2).trans hx3
      cases b
      · exact ⟨Says.f (hno (p := okT x.2) (fun h => ((SubOk.snoc ht).1 h).2.2.1) fun h => by simpa using hb.2 h), hx03⟩
      · refine Lp.go ttOkB (by kernel_rfl) (fun k : Nat => [(0, .slice (some a) xs.length cap), (3, .int .i64 i), (4, .int .i64 k)]) (fun k w' => Ext w w' ∧ k ≤ i ∧ ∀ y ∈ xs.take k, y.1 ≠ x.1) (fun k => i - k) 0
          ⟨rfl, rfl, rfl, trivial⟩ ⟨hx03, Nat.zero_le _, by simp⟩ ?_
        rintro k w4 ⟨hx4, hki, hdis⟩
        refine Cm.s (fun hlt2 => ?_) (fun hge2 => ?_)
        · have hlt2 : k < i := by omega
          obtain ⟨a2, y, v2, b2, ha2, ht2, hc2, _, _⟩ := hk.get (i := k) (by omega)
          obtain rfl : a = a2 := by simpa using ha2
          refine Dr.x [0, 1, 2, 3, 4, 5, 6, 7, 8, 9, 10] ttOkB ?_
          refine GoS.ix 4 (by omega) (GoS.fl 0 (LdS.x1 (hx4.cell (hc2 0 _ rfl)) ?_))
          refine GoS.ix 4 hlt (GoS.fl 0 (LdS.x1 (hx4.cell (hc 0 _ rfl)) ?_))
          refine Cm.s (fun he => ?_) (fun hne => ?_)
          · intro w5 hx5
            have hmem : y ∈ xs.take i := List.mem_of_getElem? (by rw [List.getElem?_take_of_lt hlt2]; exact ht2)
            exact ⟨Says.f (hno (p := ∀ y ∈ xs.take i, y.1 ≠ x.1) (fun h => ((SubOk.snoc ht).1 h).2.2.2) fun h => h y hmem he), hx4.trans hx5⟩
          · intro w5 hx5
            refine Wr.n (k + 1) (by omega) (by omega) ?_
            refine ⟨k + 1, ⟨rfl, rfl, rfl, trivial⟩, ⟨hx4.trans hx5, hlt2, fun z hz => ?_⟩, by omega⟩
            rw [take_succ_get ht2] at hz
            rcases List.mem_append.1 hz with hz | hz
            · exact hdis z hz
            · obtain rfl : z = y := by simpa using hz
              exact hne
        · have : k = i := by omega
          subst this
          refine Wr.n (k + 1) (by omega) (by omega) ?_
          exact ⟨k + 1, ⟨rfl, rfl, trivial⟩, ⟨hx4, hlt, (SubOk.snoc ht).2 ⟨hok, hnm, hb.1 rfl, hdis⟩⟩, by omega⟩
    · rw [decide_eq_false hnm]
      exact ⟨Says.f (hno (p := NameOk x.1) (fun h => ((SubOk.snoc ht).1 h).2.1) hnm), hx.trans hx2⟩
  · have : i = xs.length := by omega
    subst this
    rw [List.take_length] at hok
    exact ⟨Says.t hok, hx⟩

/-- impl.areNames -/
theorem c_areNames {ss : List ByteArray} (hz : ∀ s ∈ ss, s.size ≤ maxLen) {w : World} {v : Value} {bs : List Nat} (hk : Strs w v ss bs) :
    Ret Try.prog 74 [v] w fun r w' => Says (ss.Nodup ∧ ∀ s ∈ ss, NameOk s) r ∧ Ext w w' := by
  obtain ⟨ao, cap, rfl, hm, hcap⟩ := hk.form
  have hM : maxLen = 9223372036854775807 := rfl
  have idx : ∀ w0, Ext w w0 → Ret Try.prog 112 [.slice ao ss.length cap, .func (.func 98) #[] #[]] w0 fun r w' => (∃ n : Int, r = .int .i64 n ∧ (0 ≤ n ↔ ∃ s ∈ ss, ¬ NameOk s)) ∧ Ext w0 w' := by
    intro w0 hx0
    refine ret_of_vc ttOk Try.func112 rfl (by kernel_rfl) (by kernel_rfl) ?_
    refine Lp.go ttOk (by kernel_rfl) (fun k : Nat => [(0, .slice ao ss.length cap), (1, .func (.func 98) #[] #[]), (7, .int .i64 ss.length), (8, .int .i64 k)]) (fun k w' => Ext w0 w' ∧ k ≤ ss.length ∧ ∀ s ∈ ss.take k, NameOk s) (fun k => ss.length - k) 0
      ⟨rfl, rfl, rfl, rfl, trivial⟩ ⟨Chg.refl _ _, Nat.zero_le _, by simp⟩ ?_
    rintro k w1 ⟨hx, hk1, hn⟩
    refine Cm.s (fun hlt => ?_) (fun hge => ?_)
    · have hlt : k < ss.length := by omega
      obtain ⟨a, rfl, hcell⟩ := hk.get hlt
      have htm : ss[k] ∈ ss := List.getElem_mem hlt
      refine Go1.ix 1 hlt (Ld.one ((hx0.trans hx).cell hcell) ?_)
      have call : Ret Try.prog 98 [.string ss[k]] w1 fun r w' => Says (¬ NameOk ss[k]) r ∧ Ext w1 w' := by
        refine ret_of_vc ttOk Try.func98 rfl (by kernel_rfl) (by kernel_rfl) ?_
        refine (c_iIsValidName ss[k] (hz _ htm)).mono ?_
        rintro r w3 ⟨rfl, hx3⟩
        by_cases h : NameOk ss[k]
        · rw [decide_eq_true h]
          exact ⟨Says.f fun h' => h' h, hx3⟩
        · rw [decide_eq_false h]
          exact ⟨Says.t h, hx3⟩
      refine call.mono ?_
      rintro r w2 ⟨⟨b, rfl, hb⟩, hx2⟩
      cases b
      · refine Wr.n (k + 1) (by omega) (by omega) ?_
        refine ⟨k + 1, ⟨rfl, rfl, rfl, rfl, trivial⟩, ⟨hx.trans hx2, hlt, fun u hu => ?_⟩, by omega⟩
        rw [take_succ_get (List.getElem?_eq_getElem hlt)] at hu
        rcases List.mem_append.1 hu with hu | hu
        · exact hn u hu
        · obtain rfl : u = ss[k] := by simpa using hu
          exact Classical.byContradiction fun h => by simpa using hb.2 h
      · exact ⟨⟨k, rfl, ⟨fun _ => ⟨ss[k], htm, hb.1 rfl⟩, fun _ => by omega⟩⟩, hx.trans hx2⟩
    · have : k = ss.length := by omega
      subst this
      rw [List.take_length] at hn
      exact ⟨⟨-1, rfl, ⟨fun h => by omega, fun ⟨t, ht, h⟩ => absurd (hn t ht) h⟩⟩, hx⟩
  have con : ∀ w0, Ext w w0 → Ret Try.prog 97 [.slice ao ss.length cap, .func (.func 98) #[] #[]] w0 fun r w' => Says (∃ s ∈ ss, ¬ NameOk s) r ∧ Ext w0 w' := by
    intro w0 hx0
    refine ret_of_vc ttOk Try.func97 rfl (by kernel_rfl) (by kernel_rfl) ?_
    refine (idx w0 hx0).mono ?_
    rintro r w1 ⟨⟨n, rfl, hn⟩, hx1⟩
    refine Cm.s (fun h => ?_) (fun h => ?_)
    · exact ⟨Says.t (hn.1 h), hx1⟩
    · exact ⟨Says.f fun e => h (hn.2 e), hx1⟩
  refine ret_of_vc ttOk Try.func74 rfl (by kernel_rfl) (by kernel_rfl) ?_
  refine (c_iAllDistinct hk).mono ?_
  rintro r w1 ⟨⟨b, rfl, hb⟩, hx1⟩
  cases b
  · exact ⟨Says.f fun h => by simpa using hb.2 h.1, hx1⟩
  · refine (con w1 hx1).mono ?_
    rintro r w2 ⟨⟨b2, rfl, hb2⟩, hx2⟩
    cases b2
    · exact ⟨Says.t ⟨hb.1 rfl, fun s hs => Classical.byContradiction fun h => by simpa using hb2.2 ⟨s, hs, h⟩⟩, hx1.trans hx2⟩
    · obtain ⟨s, hs, h⟩ := hb2.1 rfl
      exact ⟨Says.f fun h' => h (h'.2 s hs), hx1.trans hx2⟩
/-- impl.IsValidSubstitution -/
theorem c_iIsValidSub {xs : List Bi} (ha : AlB xs) (hs : cntB xs ≤ 4294967296) {w : World} {v : Value} {bs : List Nat} (hk : Bds w v xs bs) :
    Ret Try.prog 48 [v] w fun r w' => Says (SubOk xs) r ∧ Ext w w' := by
  obtain ⟨ao, cap, rfl, hm, hcap⟩ := hk.form
  have hM : maxLen = 9223372036854775807 := rfl
  have hcl := cntB_length xs
  refine ret_of_vc ttOkB Try.func48 rfl (by kernel_rfl) (by kernel_rfl) ?_
  refine Go1.b0 9 (size := 1) (bytes := 16) Try.underlying55 tiStr ?_
  intro w0 u0 hx0 hg0 hu
  subst hu
  refine Lp.go ttOkB (by kernel_rfl) (fun b : Nat × Value => [(3, b.2), (7, .slice ao xs.length cap), (8, .int .i64 xs.length), (9, .int .i64 b.1)])
    (fun b w' => Ext w w' ∧ b.1 ≤ xs.length ∧ (∀ x ∈ xs.take b.1, okT x.2) ∧ ∃ O, Grow w' 9 1 b.2 b.1 ((xs.take b.1).map fun x => .string x.1) O ∧ ∀ b ∈ O, w.heap.size ≤ b) (fun b => xs.length - b.1) (0, .slice (some ⟨w.heap.size, 0, none⟩) 0 0)
    ⟨rfl, rfl, rfl, rfl, trivial⟩ ⟨hx0, Nat.zero_le _, by simp, [w.heap.size], hg0, by simp⟩ ?_
  rintro ⟨k, r⟩ w1 ⟨hx, hk1, hn, O, hg, hO⟩
  simp only at hk1 hn hg
  refine Cm.s (fun hlt => ?_) (fun hge => ?_)
  · have hlt : k < xs.length := by have : (k : Int) < xs.length := hlt; omega
    obtain ⟨a, x, v1, b1, rfl, ht, hc, hkt, _⟩ := (hk.ext hx).get hlt
    have htm := List.mem_of_getElem? ht
    have hxa := ha x htm
    have hcm := cntB_mem htm
    obtain ⟨aox, capx, rfl, _, _⟩ := hkt.form
    refine Go1.ix 4 hlt (Ld.agg (vs := encB x ++ [.slice aox x.2.kids.length capx]) hc ?_)
    refine Go1.al tiBd ?_
    intro w5 hx5 hb5
    have lt5 := hb5.lt
    refine Go0.st (off := 0) (vs := encB x ++ [.slice aox x.2.kids.length capx]) hb5 rfl rfl (by simp [Value.cells]) (by simp [Value.oneCell']) ?_
    intro w6 hx6 hb6 _
    have hb6 : Blk w6 w1.heap.size 72 (encB x ++ [.slice aox x.2.kids.length capx]) := hb6
    have hx26 : Ext w1 w6 := hx5.chg hx6 (by omega)
    refine Go1.fl 1 (Ld.agg (vs := [.int .i64 x.2.lab.1, .string x.2.lab.2, .slice aox x.2.kids.length capx]) (Blk.lc1 hb6) ?_)
    refine (c_iIsValidType hxa.2.1 hxa.2.2 (by omega) (hkt.ext hx26)).mono ?_
    rintro r2 w7 ⟨⟨b, rfl, hb⟩, hx7⟩
    rw [x.2.eta] at hb
    have hx07 := (hx.trans hx26).trans hx7
    cases b
    · exact ⟨Says.f fun h => by simpa using hb.2 (h.1 x htm).2, hx07⟩
    · refine Go1.fl 0 (Ld.one (Blk.at0 (hb6.ext hx7)) ?_)
      refine Go1.bs 9 [.string x.1] (size := 1) (bytes := 16) Try.underlying55 tiStr (by decide) (by decide) (by kernel_rfl) ?_
      intro wb hxb hbb
      refine Go1.app (size := 1) (bytes := 16) Try.underlying55 tiStr (by rfl) (by decide) (((hg.ext hx26).ext hx7).ext hxb) (m := 1) (news := [.string x.1]) (Blk.lc0 (post := []) hbb) (by simp) (by simp [Value.oneCell']) (by omega) (by decide) ?_
      intro u2 w2 O2 hcb hgb hOb
      refine Wr.n (k + 1) (by simp) (by omega) ?_
      have szb := (hx07.trans hxb).size
      refine ⟨(k + 1, u2), ⟨rfl, rfl, rfl, rfl, trivial⟩, ⟨Chg.big (hx07.trans hxb) hcb hO, hlt, fun y hy => ?_, O2, ?_, fun b hb => ?_⟩, by simp; omega⟩
      · simp only at hy
        rw [take_succ_get ht] at hy
        rcases List.mem_append.1 hy with hy | hy
        · exact hn y hy
        · obtain rfl : y = x := by simpa using hy
          exact hb.1 rfl
      · simp only
        rw [take_succ_get ht, List.map_append]
        exact hgb
      · rcases hOb b hb with h | h
        · exact hO b h
        · omega
  · have : k = xs.length := by have : ¬ (k : Int) < xs.length := hge; omega
    subst this
    rw [List.take_length] at hg hn
    rw [show (xs.map fun x => Value.string x.1) = (xs.map (·.1)).map .string by rw [List.map_map]; rfl] at hg
    obtain ⟨bs', hst, _⟩ := hg.strs hm
    refine (c_areNames (fun s hs => ?_) hst).mono ?_
    · obtain ⟨x, hx, rfl⟩ := List.mem_map.1 hs
      exact (ha x hx).1
    · rintro r2 w2 ⟨⟨b, rfl, hb⟩, hx2⟩
      refine ⟨⟨b, rfl, hb.trans ⟨fun h => ⟨fun x hx => ⟨h.2 _ (List.mem_map_of_mem hx), hn x hx⟩, h.1⟩, fun h => ⟨h.2, fun s hs => ?_⟩⟩⟩, hx.trans hx2⟩
      obtain ⟨x, hx, rfl⟩ := List.mem_map.1 hs
      exact (h.1 x hx).1
end Go.Proofs.Ytkpdkemkfgcamaa
