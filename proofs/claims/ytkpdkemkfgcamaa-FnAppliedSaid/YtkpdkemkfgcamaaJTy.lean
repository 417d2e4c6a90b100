/- The kinds of this translation's types, as the engine asks them; Contracts: l1Has, slices.Index and slices.Contains at []string; Contracts: the laws' helpers on []string; Contracts: bytes, atoms, names. Conditions: none. -/
import Derived.Test.YtkpdkemkfgcamaaChecked
import Derived.Test.YtkpdkemkfgcamaaOwn
import Derived.Laws.Externs
namespace Go.Proofs.Ytkpdkemkfgcamaa
def tt : TT := [
  (9, .str), (4, .boo)
  , (55, .slc 9)
  , (26, .slc 40)
  , (23, .slc 37)
  ]
theorem ttOk : TOk Try.prog tt := ttB_ok (by kernel_rfl)

theorem tiTy : TyI Try.prog 40 (.agg #[.int .i64 0, .string ⟨#[]⟩, .slice none 0 0]) 3 48 := TyI.of (by kernel_rfl)
theorem tiBool : TyI Try.prog 4 (.bool false) 1 1 := TyI.of (by kernel_rfl)
theorem tiStr : TyI Try.prog 9 (.string ⟨#[]⟩) 1 16 := TyI.of (by kernel_rfl)
end Go.Proofs.Ytkpdkemkfgcamaa

namespace Go.Proofs.Ytkpdkemkfgcamaa
open Go.RowKit

def has (ss : List ByteArray) (s : ByteArray) : Bool := ss.any fun t => decide (t = s)
theorem has_iff {ss : List ByteArray} {s : ByteArray} : has ss s = true ↔ s ∈ ss := by simp [has]
theorem has_t {ss : List ByteArray} {s : ByteArray} (h : s ∈ ss) : has ss s = true := has_iff.2 h
theorem has_f {ss : List ByteArray} {s : ByteArray} (h : s ∉ ss) : has ss s = false := by
  cases e : has ss s
  · rfl
  · exact absurd (has_iff.1 e) h

/-- spec.l1Has: is s among the list? -/
theorem c_l1Has {w : World} {v : Value} {ss : List ByteArray} {bs : List Nat} (h : Strs w v ss bs) (s : ByteArray) :
    Ret Try.prog 64 [v, .string s] w fun r w' => r = .bool (has ss s) ∧ w' = w := by
  obtain ⟨ao, cap, rfl, hm, hcap⟩ := h.form
  refine ret_of_vc ttOk Try.func64 rfl (by kernel_rfl) (by kernel_rfl) ?_
  refine Lp.go ttOk (by kernel_rfl) (fun k : Nat => [(0, .slice ao ss.length cap), (1, .string s), (5, .int .i64 k)]) (fun k w' => w' = w ∧ k ≤ ss.length ∧ s ∉ ss.take k) (fun k => ss.length - k) 0
    ⟨rfl, rfl, rfl, trivial⟩ ⟨rfl, Nat.zero_le _, by simp⟩ ?_
  rintro k w' ⟨rfl, hk, hn⟩
  refine Cm.s (fun hlt => ?_) (fun hge => ?_)
  · have hlt : k < ss.length := by omega
    obtain ⟨a, rfl, hc⟩ := h.get hlt
    refine Go1.ix 1 hlt ?_
    refine Ld.one hc ?_
    refine Cm.s (fun he => ?_) (fun he => ?_)
    · exact ⟨by rw [has_t (by rw [← he]; exact List.getElem_mem hlt)], rfl⟩
    · refine Wr.n (k + 1) (by omega) (by omega) ?_
      refine ⟨k + 1, ⟨rfl, rfl, rfl, trivial⟩, ⟨rfl, hlt, ?_⟩, by omega⟩
      rw [List.take_succ_eq_append_getElem hlt]
      simp only [List.mem_append, hn, false_or, List.mem_singleton]
      exact fun e => he e.symm
  · have : k = ss.length := by omega
    subst this
    rw [List.take_length] at hn
    exact ⟨by rw [has_f hn], rfl⟩

end Go.Proofs.Ytkpdkemkfgcamaa

namespace Go.Proofs.Ytkpdkemkfgcamaa
open Go.RowKit

/-- laws.eqStringS: are the two lists one? -/
theorem c_eqStringS {w : World} {v u : Value} {ss ts : List ByteArray} {bs cs : List Nat} (h : Strs w v ss bs) (g : Strs w u ts cs) :
    Ret Try.prog 43 [v, u] w fun r w' => r = .bool (decide (ss = ts)) ∧ Ext w w' := by
  obtain ⟨ao, cap, rfl, hm, hcap⟩ := h.form
  obtain ⟨ao2, cap2, rfl, hm2, hcap2⟩ := g.form
  refine ret_of_vc ttOk Try.func43 rfl (by kernel_rfl) (by kernel_rfl) ?_
  refine Cm.ns (fun hne => ?_) (fun he => ?_)
  · have : ss ≠ ts := fun e => hne (by rw [e])
    exact ⟨by simp [this], Chg.refl _ _⟩
  · have hlen : ss.length = ts.length := by omega
    refine Lp.go ttOk (by kernel_rfl) (fun k : Nat => [(0, .slice ao ss.length cap), (1, .slice ao2 ts.length cap2), (5, .int .i64 k)]) (fun k w' => Ext w w' ∧ k ≤ ss.length ∧ ss.take k = ts.take k) (fun k => ss.length - k) 0
      ⟨rfl, rfl, rfl, trivial⟩ ⟨Chg.refl _ _, Nat.zero_le _, rfl⟩ ?_
    rintro k w1 ⟨hx, hk, hn⟩
    refine Cm.s (fun hlt => ?_) (fun hge => ?_)
    · have hlt : k < ss.length := by omega
      have hlt2 : k < ts.length := by omega
      obtain ⟨a, rfl, hc⟩ := h.get hlt
      obtain ⟨a2, rfl, hc2⟩ := g.get hlt2
      refine Dr.x [0, 1, 2, 3, 4, 5, 6, 7, 8] ttOk ?_
      refine GoS.ix 1 hlt (LdS.x1 (hx.cell hc) ?_)
      refine GoS.ix 1 hlt2 (LdS.x1 (hx.cell hc2) ?_)
      refine Cm.ns (fun hne w2 hw2 => ?_) (fun heq w2 hw2 => ?_)
      · have : ss ≠ ts := fun e => hne (by subst e; rfl)
        exact ⟨by simp [this], hx.trans hw2⟩
      · refine Wr.n (k + 1) (by omega) (by omega) ?_
        refine ⟨k + 1, ⟨rfl, rfl, rfl, trivial⟩, ⟨hx.trans hw2, hlt, ?_⟩, by omega⟩
        rw [List.take_succ_eq_append_getElem hlt, List.take_succ_eq_append_getElem hlt2, hn, heq]
    · have : k = ss.length := by omega
      subst this
      rw [List.take_length, hlen, List.take_length] at hn
      exact ⟨by simp [hn], hx⟩

def lenS (ss : List ByteArray) : Nat := (ss.map ByteArray.size).sum

theorem lenS_take_succ {ss : List ByteArray} {k : Nat} (h : k < ss.length) : lenS (ss.take (k + 1)) = lenS (ss.take k) + ss[k].size := by
  rw [List.take_succ_eq_append_getElem h]
  simp only [lenS, List.map_append, List.sum_append, List.map_cons, List.map_nil, List.sum_cons, List.sum_nil, Nat.add_zero]

/-- laws.szStringS: what is left when the list and its letters are taken from 'left'. -/
theorem c_szStringS {w : World} {v : Value} {ss : List ByteArray} {bs : List Nat} (h : Strs w v ss bs) (hz : ∀ s ∈ ss, s.size ≤ maxLen) (left : Nat) (hl : left ≤ 1048576) :
    Ret Try.prog 39 [v, .int .i64 left] w fun r w' => w' = w ∧ (r = .int .i64 (-1) ∨ ∃ m : Nat, r = .int .i64 m ∧ m + (ss.length + lenS ss) = left) := by
  obtain ⟨ao, cap, rfl, hm, hcap⟩ := h.form
  have hM : maxLen = 9223372036854775807 := rfl
  refine ret_of_vc ttOk Try.func39 rfl (by kernel_rfl) (by kernel_rfl) ?_
  refine Wr.i (r := (left : Int) - ss.length) rfl (by omega) (by omega) ?_
  refine Cm.s (fun _ => ⟨rfl, .inl rfl⟩) (fun hge => ?_)
  refine Lp.go ttOk (by kernel_rfl) (fun k : Nat × Nat => [(0, .slice ao ss.length cap), (1, .int .i64 k.2), (5, .int .i64 k.1)]) (fun k w' => w' = w ∧ k.1 ≤ ss.length ∧ k.2 + (ss.length + lenS (ss.take k.1)) = left) (fun k => ss.length - k.1) (0, left - ss.length)
    ⟨rfl, by show some _ = some _; rw [show ((left : Int) - ss.length) = ((left - ss.length : Nat) : Int) by omega], rfl, trivial⟩ ⟨rfl, Nat.zero_le _, by simp [lenS]; omega⟩ ?_
  rintro ⟨k, m⟩ w' ⟨rfl, hk, hn⟩
  simp only at hk hn
  refine Cm.s (fun hlt => ?_) (fun hge => ?_)
  · have hlt : k < ss.length := by omega
    obtain ⟨a, rfl, hc⟩ := h.get hlt
    refine Go1.ix 1 hlt ?_
    refine Ld.one hc ?_
    have hs := hz ss[k] (List.getElem_mem hlt)
    refine Wr.i (r := (m : Int) - ss[k].size) rfl (by omega) (by omega) ?_
    refine Cm.s (fun _ => ⟨rfl, .inl rfl⟩) (fun hge => ?_)
    refine Wr.n (k + 1) (by simp) (by omega) ?_
    refine ⟨(k + 1, m - ss[k].size), ⟨rfl, ?_, rfl, trivial⟩, ⟨rfl, hlt, ?_⟩, by simp; omega⟩
    · show some _ = some _
      rw [show ((m : Int) - ss[k].size) = ((m - ss[k].size : Nat) : Int) by omega]
    · simp only
      rw [lenS_take_succ hlt]
      omega
  · have : k = ss.length := by omega
    subst this
    rw [List.take_length] at hn
    exact ⟨rfl, .inr ⟨m, rfl, hn⟩⟩

theorem Strs.of_blk {w : World} {b : Nat} {e : TypeId} {ss : List ByteArray} {n cap : Nat} (h : Blk w b e (ss.map .string)) (hn : n = ss.length) (hm : n ≤ maxLen ∧ n ≤ cap) : ∃ bs, Strs w (.slice (some ⟨b, 0, none⟩) n cap) ss bs ∧ bs.Sublist [b] := by
  subst hn
  by_cases h0 : ss = []
  · subst h0
    exact ⟨[], ⟨_, cap, rfl, hm, .inl ⟨rfl, rfl⟩⟩, by simp⟩
  · refine ⟨[b], ⟨_, cap, by simp, by simpa using hm, .inr ⟨⟨b, 0, none⟩, by simpa using h0, rfl, rfl, ?_⟩⟩, List.Sublist.refl _⟩
    exact Blk.lc0 (post := []) (by simpa using h)

theorem Fresh.sub {n : Nat} {w : World} {bs cs : List Nat} (h : Fresh n w cs) (hs : bs.Sublist cs) : Fresh n w bs := ⟨hs.nodup h.nodup, fun b hb => h.lo b (hs.subset hb), fun b hb => h.blk b (hs.subset hb)⟩

/-- What a function hands back that makes a list of strings. -/
def NewStrs (w : World) (ss : List ByteArray) (r : Value) (w' : World) : Prop := Ext w w' ∧ ∃ bs, Strs w' r ss bs ∧ Fresh w.heap.size w' bs

/-- laws.toStringS: a copy in new memory. -/
theorem c_toStringS {w : World} {v : Value} {ss : List ByteArray} {bs : List Nat} (h : Strs w v ss bs) (hsm : ss.length ≤ 4294967296) : Ret Try.prog 41 [v] w (NewStrs w ss) := by
  obtain ⟨ao, cap, rfl, hm, hcap⟩ := h.form
  refine ret_of_vc ttOk Try.func41 rfl (by kernel_rfl) (by kernel_rfl) ?_
  refine Go1.make 9 Try.underlying55 tiStr rfl (by omega) hm ?_
  intro w1 hx1 hb1
  refine Lp.go ttOk (by kernel_rfl) (fun k : Nat => [(0, .slice ao ss.length cap), (3, .slice (some ⟨w.heap.size, 0, none⟩) ss.length ss.length), (4, .int .i64 k)])
    (fun k w' => Ext w w' ∧ k ≤ ss.length ∧ Blk w' w.heap.size 9 ((ss.take k).map .string ++ zeros [.string ⟨#[]⟩] (ss.length - k))) (fun k => ss.length - k) 0
    ⟨rfl, rfl, rfl, trivial⟩ ⟨hx1, Nat.zero_le _, by simpa [Value.cells] using hb1⟩ ?_
  rintro k w' ⟨hx, hk, hb⟩
  refine Cm.s (fun hlt => ?_) (fun hge => ?_)
  · have hlt : k < ss.length := by omega
    obtain ⟨a, rfl, hc⟩ := h.get hlt
    refine Go1.ix 1 hlt ?_
    refine Ld.one (hx.cell hc) ?_
    refine Go1.ix 1 hlt ?_
    refine Go0.st (off := k) (vs := [.string ss[k]]) hb (by rw [Addr.add_lit]; simp) rfl (by simp [length_zeros]; omega) (by simp [Value.oneCell']) ?_
    intro w2 hx2 hb2 _
    refine Wr.n (k + 1) (by omega) (by omega) ?_
    refine ⟨k + 1, ⟨rfl, rfl, rfl, trivial⟩, ⟨hx.chg hx2 (by omega), hlt, ?_⟩, by omega⟩
    rw [spl_app _ _ _ (by simp; omega)] at hb2
    rw [List.take_succ_eq_append_getElem hlt]
    have : (zeros [.string ⟨#[]⟩] (ss.length - k)).drop 1 = zeros [.string ⟨#[]⟩] (ss.length - (k + 1)) := by
      rw [show ss.length - k = (ss.length - (k + 1)) + 1 by omega]
      simp [zeros, List.replicate_succ]
    simp only [List.length_singleton, this] at hb2
    simpa only [List.map_append, List.map_cons, List.map_nil] using hb2
  · have : k = ss.length := by omega
    subst this
    simp only [List.take_length, Nat.sub_self, zeros, List.replicate_zero, List.flatten_nil, List.append_nil] at hb
    obtain ⟨bs', h1, h2⟩ := Strs.of_blk (cap := ss.length) hb rfl ⟨hm, Nat.le_refl _⟩
    exact ⟨hx, bs', h1, (Fresh.one hb (Nat.le_refl _)).sub h2⟩

end Go.Proofs.Ytkpdkemkfgcamaa

namespace Go.Proofs.Ytkpdkemkfgcamaa
open Go.RowKit

/-- spec.l1In -/
theorem c_l1In {w : World} (x lo hi : Int) : Ret Try.prog 100 [.int .i64 x, .int .i64 lo, .int .i64 hi] w fun r w' => r = .bool (decide (lo ≤ x ∧ x ≤ hi)) ∧ w' = w := by
  refine ret_of_vc ttOk Try.func100 rfl (by kernel_rfl) (by kernel_rfl) ?_
  refine Cm.s (fun h => ?_) (fun h => ?_)
  · refine Cm.s (fun h2 => ?_) (fun h2 => ?_)
    · exact ⟨by rw [decide_eq_true (show lo ≤ x ∧ x ≤ hi from ⟨h, h2⟩)], rfl⟩
    · exact ⟨by rw [decide_eq_false (show ¬ (lo ≤ x ∧ x ≤ hi) from fun e => h2 e.2)], rfl⟩
  · exact ⟨by rw [decide_eq_false (show ¬ (lo ≤ x ∧ x ≤ hi) from fun e => h e.1)], rfl⟩

def LowP (n : Nat) : Prop := 97 ≤ n ∧ n ≤ 122
def DigP (n : Nat) : Prop := 48 ≤ n ∧ n ≤ 57
def AtomP (n : Nat) : Prop := LowP n ∨ DigP n ∨ n = 39 ∨ n = 45 ∨ n = 43 ∨ n = 42 ∨ n = 60 ∨ n = 61 ∨ n = 46
instance (n : Nat) : Decidable (LowP n) := by unfold LowP; infer_instance
instance (n : Nat) : Decidable (DigP n) := by unfold DigP; infer_instance
instance (n : Nat) : Decidable (AtomP n) := by unfold AtomP; infer_instance

theorem vb_t {p : Prop} {_ : Decidable p} (h : p) : Value.bool true = Value.bool (decide p) := by rw [decide_eq_true h]
theorem vb_f {p : Prop} {_ : Decidable p} (h : ¬ p) : Value.bool false = Value.bool (decide p) := by rw [decide_eq_false h]


/-- impl.isLower -/
theorem c_isLower {w : World} (n : Nat) : Ret Try.prog 113 [.int .u8 n] w fun r w' => r = .bool (decide (LowP n)) ∧ w' = w := by
  refine ret_of_vc ttOk Try.func113 rfl (by kernel_rfl) (by kernel_rfl) ?_
  repeat' (refine Cm.s (fun h => ?_) (fun h => ?_))
  all_goals first
    | exact ⟨vb_t (by unfold LowP; omega), rfl⟩
    | exact ⟨vb_f (by unfold LowP; omega), rfl⟩

/-- impl.isDigit -/
theorem c_isDigit {w : World} (n : Nat) : Ret Try.prog 114 [.int .u8 n] w fun r w' => r = .bool (decide (DigP n)) ∧ w' = w := by
  refine ret_of_vc ttOk Try.func114 rfl (by kernel_rfl) (by kernel_rfl) ?_
  repeat' (refine Cm.s (fun h => ?_) (fun h => ?_))
  all_goals first
    | exact ⟨vb_t (by unfold DigP; omega), rfl⟩
    | exact ⟨vb_f (by unfold DigP; omega), rfl⟩



/-- A valid atom. -/
def AtomOk (s : ByteArray) : Prop := (∀ i, ∀ h : i < s.size, AtomP s[i].toNat) ∧ 1 ≤ s.size ∧ s.size ≤ 12
instance (s : ByteArray) : Decidable (AtomOk s) := by unfold AtomOk; infer_instance



end Go.Proofs.Ytkpdkemkfgcamaa
