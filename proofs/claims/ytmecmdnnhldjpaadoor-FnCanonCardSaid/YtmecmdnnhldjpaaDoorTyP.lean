/- Draws: a Type. Conditions: none. -/
import Derived.Test.YtmecmdnnhldjpaaDoorSxF
import Derived.Test.YtmecmdnnhldjpaaDoorTyH
import Derived.Test.YtmecmdnnhldjpaaDoorBdC
namespace Go.Proofs.YtmecmdnnhldjpaaDoor
open Go.RowKit

theorem GrowT.appE {α : Type} {enc : α → List Value} {e : TypeId} {sz n0 m : Nat} {w1 w' : World} {r' : Value} {ts us : List (Rose α)} {xs : List Value} {O O' cs c1 : List Nat} {vs : List Value}
    (hk : KidsL enc w1 vs ts cs) (hf : Fresh n0 w1 (O ++ cs)) (hk1 : KidsL enc w1 xs us c1) (hf1 : Fresh m w1 c1) (hdis : ∀ b ∈ c1, b ∉ O ++ cs)
    (hc : Chg (· ∈ O) w1 w') (hg : Grow w' e sz r' (ts.length + us.length) (fl enc ts vs ++ fl enc us xs) O') (hO : ∀ b ∈ O', b ∈ O ∨ w1.heap.size ≤ b) (hn : n0 ≤ w1.heap.size) (hm : n0 ≤ m) :
    GrowT enc e sz n0 w' r' (ts ++ us) O' (cs ++ c1) := by
  have hnd := List.nodup_append.1 hf.nodup
  have hOcs : ∀ b ∈ cs, b ∉ O := fun b hb hb' => hnd.2.2 b hb' b hb rfl
  have hO1 : ∀ b ∈ c1, b ∉ O := fun b hb hb' => hdis b hb (List.mem_append_left _ hb')
  have hOlo : ∀ b ∈ O, n0 ≤ b := fun b hb => hf.lo b (List.mem_append_left _ hb)
  have hcs' : Fresh n0 w' cs := (hf.sub (List.sublist_append_right _ _)).chg hc hOcs
  have hc1' : Fresh n0 w' c1 := (hf1.chg hc hO1).mono hm
  have hO'f : Fresh n0 w' O' := hg.fresh fun b hb => by
    rcases hO b hb with h | h
    · exact hOlo b h
    · omega
  refine ⟨vs ++ xs, by rw [List.length_append, fl_append hk.length]; exact hg, KidsL.append (hk.chg hc hOcs) (hk1.chg hc hO1), ⟨List.nodup_append.2 ⟨hO'f.nodup, List.nodup_append.2 ⟨hcs'.nodup, hc1'.nodup, fun a ha b hb e => ?_⟩, fun a ha b hb e => ?_⟩, fun b hb => ?_, fun b hb => ?_⟩⟩
  · subst e
    exact hdis a hb (List.mem_append_right _ ha)
  · subst e
    rcases hO a ha with h | h
    · rcases List.mem_append.1 hb with hb | hb
      · exact hOcs a hb h
      · exact hO1 a hb h
    · rcases List.mem_append.1 hb with hb | hb
      · have := hf.lt a (List.mem_append_right _ hb)
        omega
      · have := hf1.lt a hb
        omega
  · rcases List.mem_append.1 hb with hb | hb
    · exact hO'f.lo b hb
    · rcases List.mem_append.1 hb with hb | hb
      · exact hcs'.lo b hb
      · exact hc1'.lo b hb
  · rcases List.mem_append.1 hb with hb | hb
    · exact hO'f.blk b hb
    · rcases List.mem_append.1 hb with hb | hb
      · exact hcs'.blk b hb
      · exact hc1'.blk b hb
/-- A literal as trees of the call's own. -/
theorem GrowT.lit {α : Type} {enc : α → List Value} {w : World} {g n0 n sz : Nat} {e : TypeId} {ts : List (Rose α)} {vs : List Value} {cs : List Nat} (hsz : ∀ l, (enc l).length + 1 = sz) (hb : Blk w g e (fl enc ts vs)) (hk : KidsL enc w vs ts cs) (hf : Fresh n0 w cs) (hg : n0 ≤ g) (hn : g ∉ cs) (hl : n = ts.length) (hm : ts.length ≤ maxLen) :
    GrowT enc e sz n0 w (.slice (some ⟨g, 0, none⟩) n n) ts [g] cs := by
  subst hl
  have hfl := length_fl hsz hk.length
  exact ⟨vs, ⟨hfl, .inr ⟨g, ts.length, [], rfl, rfl, by simpa using hb, Nat.le_refl _, hm, by simpa using hfl⟩⟩, hk, Fresh.cons hb hg hf hn⟩

/-- What a drawn substitution binds. -/
def abc (s : ByteArray) : Bool := decide (s = ⟨#[97]⟩) || decide (s = ⟨#[98]⟩) || decide (s = ⟨#[99]⟩)
mutual
/-- Variables have no arguments; nor has what is named as one. -/
def wfT : Tp → Prop
  | .mk l ks => ((l.1 = 1 → ks = []) ∧ (abc l.2 = true → ks = [])) ∧ wfL ks
def wfL : List Tp → Prop
  | [] => True
  | k :: ks => wfT k ∧ wfL ks
end
theorem wfT_eq (l : TLab) (ks : List Tp) : wfT (.mk l ks) ↔ ((l.1 = 1 → ks = []) ∧ (abc l.2 = true → ks = [])) ∧ wfL ks := by rw [wfT]
theorem wfL_iff (ks : List Tp) : wfL ks ↔ ∀ t ∈ ks, wfT t := by
  induction ks with
  | nil => simp [wfL]
  | cons k ks ih => rw [wfL, ih]; simp
/-- Short names. -/
def Nm (t : Tp) : Prop := t.lab.2.size ≤ 16 ∧ Rose.AlL (fun s : TLab => s.2.size ≤ 16) t.kids
/-- What a drawn Type meets. -/
def Qt (N : Nat) (t : Tp) : Prop := 1 + Rose.cnt t.kids ≤ N ∧ Nm t ∧ wfT t
theorem Qt.mono {N M : Nat} (h : N ≤ M) {t : Tp} (hq : Qt N t) : Qt M t := ⟨Nat.le_trans hq.1 h, hq.2⟩
theorem Qt.leaf {k : Int} {s : ByteArray} (h : s.size ≤ 16) : Qt 1 (.mk (k, s) []) := ⟨by show 1 + Rose.cnt ([] : List Tp) ≤ 1; rw [show Rose.cnt ([] : List Tp) = 0 from Rose.wtL_nil _]; omega, ⟨h, Rose.AlL_of (by simp [Rose.kids])⟩, by rw [wfT_eq]; exact ⟨⟨fun _ => rfl, fun _ => rfl⟩, by rw [wfL]; trivial⟩⟩
theorem cnt_two {α : Type} (t : Rose α) (ts : List (Rose α)) : Rose.cnt (t :: ts) = 1 + Rose.cnt t.kids + Rose.cnt ts := by
  show Rose.wtL _ _ = 1 + Rose.wtL _ _ + Rose.wtL _ _
  rw [Rose.wtL_cons]
theorem Qt.node {k : Int} {s : ByteArray} {ts : List Tp} {N M : Nat} (hk : k ≠ 1) (hn : abc s = false) (h : s.size ≤ 16) (ht : ∀ t ∈ ts, Qt N t) (hM : 1 + ts.length * N ≤ M) : Qt M (.mk (k, s) ts) := by
  refine ⟨?_, ⟨h, Rose.AlL_of fun t hh => (ht t hh).2.1⟩, by rw [wfT_eq]; exact ⟨⟨fun e => absurd e hk, fun e => absurd e (by rw [hn]; decide)⟩, (wfL_iff ts).2 fun t hh => (ht t hh).2.2⟩⟩
  show 1 + Rose.cnt ts ≤ M
  have : Rose.cnt ts ≤ ts.length * N := by
    clear hM
    induction ts with
    | nil => rw [show Rose.cnt ([] : List Tp) = 0 from Rose.wtL_nil _]; omega
    | cons t ts ih =>
      have h1 := (ht t List.mem_cons_self).1
      have h2 := ih fun u hu => ht u (List.mem_cons_of_mem _ hu)
      rw [cnt_two, List.length_cons, Nat.add_mul, Nat.one_mul]
      omega
  omega

theorem encT_one (l : TLab) : ∀ u ∈ encT l, u.oneCell' = true := by
  intro u hu
  simp only [encT, List.mem_cons, List.not_mem_nil, or_false] at hu
  rcases hu with rfl | rfl <;> rfl
/-- A Type in new memory that meets Q. -/
def IsT (Q : Tp → Prop) (n0 : Nat) (w : World) (r : Value) : Prop := ∃ (t : Tp) (v : Value) (O cs : List Nat), r = .agg #[.int .i64 t.lab.1, .string t.lab.2, v] ∧ GrowT encT 38 3 n0 w v t.kids O cs ∧ Q t
theorem kidsN {n0 : Nat} {w : World} {v : Value} {t : Tp} {O cs : List Nat} {N : Nat} (hg : GrowT encT 38 3 n0 w v t.kids O cs) (hq : 1 + Rose.cnt t.kids ≤ N) (hN : N ≤ 4294967296) : ∃ ao cap ds, v = .slice ao t.kids.length cap ∧ Kids encT w v t.kids ds ∧ Fresh n0 w ds ∧ ∀ b ∈ ds, b ∈ O ++ cs := by
  have hM : maxLen = 9223372036854775807 := rfl
  obtain ⟨ds, h1, h2, h3⟩ := hg.kids2 (by have : t.kids.length ≤ Rose.cnt t.kids := Rose.wtL_length _ _; omega)
  obtain ⟨ao, cap, e, _, _⟩ := h1.form
  exact ⟨ao, cap, ds, e, h1, h2, h3⟩

/-- spec.l4Var -/
theorem c_l4VarD (s : ByteArray) {w : World} : Ret Tryd.prog 34 [.string s] w fun r w' => Ext w w' ∧ r = .agg #[.int .i64 1, .string s, .slice none 0 0] := by
  refine ret_of_vc ttOkD Tryd.func34 rfl (by kernel_rfl) (by kernel_rfl) ?_
  refine Go1.al tiTy ?_
  intro w1 hx1 hb1
  have lt1 := hb1.lt
  refine Go1.bd [.int .i64 1, .string s, .slice none 0 0] ?_
  refine Go0.st (off := 0) (vs := [.int .i64 1, .string s, .slice none 0 0]) hb1 rfl rfl (by simp [Value.cells]) (by simp [Value.oneCell']) ?_
  intro w2 hx2 hb2 _
  have hb2 : Blk w2 w.heap.size 38 [.int .i64 1, .string s, .slice none 0 0] := hb2
  refine Ld.agg (vs := [.int .i64 1, .string s, .slice none 0 0]) (Blk.lc0 (post := []) hb2) ?_
  exact ⟨hx1.chg hx2 (by omega), rfl⟩
/-- spec.l4Con of nothing -/
theorem c_l4ConN (s : ByteArray) {w : World} : Ret Tryd.prog 63 [.string s, .slice none 0 0] w fun r w' => Ext w w' ∧ ∃ v O, r = .agg #[.int .i64 2, .string s, v] ∧ GrowT encT 38 3 w.heap.size w' v [] O [] := by
  refine ret_of_vc ttOkD Tryd.func63 rfl (by kernel_rfl) (by kernel_rfl) ?_
  refine Go1.al tiTy ?_
  intro w1 hx1 hb1
  have lt1 := hb1.lt
  have sz1 := hx1.size
  refine Go1.b0 38 (size := 3) (bytes := 48) Tryd.underlying26 tiTy ?_
  intro w2 u hx2 hg2 hu
  subst hu
  obtain ⟨i, i1, _⟩ := tiTy.h
  refine Go1.go (run_app_none' Tryd.underlying26 i1 hg2) ?_
  refine Go1.bd [.int .i64 2, .string s, .slice (some ⟨w1.heap.size, 0, none⟩) 0 0] ?_
  refine Go0.st (off := 0) (vs := [.int .i64 2, .string s, .slice (some ⟨w1.heap.size, 0, none⟩) 0 0]) (hb1.ext hx2) rfl rfl (by simp [Value.cells]) (by simp [Value.oneCell']) ?_
  intro w3 hx3 hb3 _
  have hb3 : Blk w3 w.heap.size 38 [.int .i64 2, .string s, .slice (some ⟨w1.heap.size, 0, none⟩) 0 0] := hb3
  refine Ld.agg (vs := [.int .i64 2, .string s, .slice (some ⟨w1.heap.size, 0, none⟩) 0 0]) (Blk.lc0 (post := []) hb3) ?_
  exact ⟨(hx1.trans hx2).chg hx3 (by omega), _, _, rfl, GrowT.of_nil (hg2.chg hx3 (by simp; omega)) (by simp; omega)⟩
/-- spec.l4Con of a literal -/
theorem c_l4ConI {s : ByteArray} {ts : List Tp} {vs : List Value} {n0 gb n : Nat} {w : World} {bs : List Nat} (hb : Blk w gb 38 (fl encT ts vs)) (hk : KidsL encT w vs ts bs) (hf : Fresh n0 w bs) (hn : n0 ≤ w.heap.size) (hl : n = ts.length) (hm : ts.length ≤ 16) :
    Ret Tryd.prog 63 [.string s, .slice (some ⟨gb, 0, none⟩) n n] w fun r w' => Ext w w' ∧ ∃ (v' : Value) (O cs : List Nat), r = .agg #[.int .i64 2, .string s, v'] ∧ GrowT encT 38 3 n0 w' v' ts O cs ∧ ∀ b ∈ O ++ cs, b ∈ bs ∨ w.heap.size ≤ b := by
  subst hl
  have hM : maxLen = 9223372036854775807 := rfl
  have hlt := hf.lt
  have hfl := length_fl encT_sz hk.length
  refine ret_of_vc ttOkD Tryd.func63 rfl (by kernel_rfl) (by kernel_rfl) ?_
  refine Go1.al tiTy ?_
  intro w1 hx1 hb1
  have lt1 := hb1.lt
  have sz1 := hx1.size
  refine Go1.b0 38 (size := 3) (bytes := 48) Tryd.underlying26 tiTy ?_
  intro w2 u hx2 hg2 hu
  subst hu
  have sz2 := hx2.size
  have hx02 := hx1.trans hx2
  refine Go1.app (size := 3) (bytes := 48) Tryd.underlying26 tiTy (by rfl) (by decide) hg2 (m := ts.length) (news := fl encT ts vs) (Blk.lc0 (post := []) (by simpa using hb.ext hx02)) hfl (fl_one encT_one hk) (by omega) (by decide) ?_
  intro r3 w3 O3 hc3 hg3 hO3
  have hgt := GrowT.appE (ts := []) (us := ts) (cs := []) (vs := []) (n0 := n0) (enc := encT) rfl (by simpa using hg2.fresh (by simp; omega)) (hk.chg hx02 fun _ _ => id) (hf.ext hx02) (fun b hb h => by
    have : b = w1.heap.size := by simpa using h
    have := hlt b hb
    omega) hc3 (by simpa [fl] using hg3) hO3 (by omega) (Nat.le_refl _)
  simp only [List.nil_append] at hgt
  obtain ⟨ds, hk3, _⟩ := hgt.kids (by omega)
  obtain ⟨ao3, cap3, rfl, _, _⟩ := hk3.form
  refine Go1.bd [.int .i64 2, .string s, .slice ao3 ts.length cap3] ?_
  have hx03 : Ext w w3 := hx02.chg hc3 (by
    intro x hx
    have : x = w1.heap.size := by simpa using hx
    omega)
  refine Go0.st (off := 0) (vs := [.int .i64 2, .string s, .slice ao3 ts.length cap3]) ((hb1.ext hx2).chg hc3 (by simp; omega)) rfl rfl (by simp [Value.cells]) (by simp [Value.oneCell']) ?_
  intro w4 hc4 hb4 _
  have hb4 : Blk w4 w.heap.size 38 [.int .i64 2, .string s, .slice ao3 ts.length cap3] := hb4
  refine Ld.agg (vs := [.int .i64 2, .string s, .slice ao3 ts.length cap3]) (Blk.lc0 (post := []) hb4) ?_
  have hO3n : ∀ b ∈ O3 ++ bs, ¬ b = w.heap.size := fun b hb => by
    rcases List.mem_append.1 hb with h | h
    · rcases hO3 b h with h | h
      · have : b = w1.heap.size := by simpa using h
        omega
      · omega
    · have := hlt b h
      omega
  exact ⟨hx03.chg hc4 (by omega), _, O3, bs, rfl, hgt.chg hc4 hO3n, fun b hb => by
    rcases List.mem_append.1 hb with h | h
    · rcases hO3 b h with h | h
      · have : b = w1.heap.size := by simpa using h
        right; omega
      · right; omega
    · exact .inl h⟩

/-- spec.l4Con of a literal -/
theorem c_l4ConL {s : ByteArray} {ts : List Tp} {vs : List Value} {n0 gb n : Nat} {w : World} {bs : List Nat} (hb : Blk w gb 38 (fl encT ts vs)) (hk : KidsL encT w vs ts bs) (hf : Fresh n0 w bs) (hn : n0 ≤ w.heap.size) (hl : n = ts.length) (hm : ts.length ≤ 16) :
    Ret Tryd.prog 63 [.string s, .slice (some ⟨gb, 0, none⟩) n n] w fun r w' => Ext w w' ∧ ∃ (v' : Value) (O cs : List Nat), r = .agg #[.int .i64 2, .string s, v'] ∧ GrowT encT 38 3 n0 w' v' ts O cs :=
  (c_l4ConI hb hk hf hn hl hm).mono fun _ _ ⟨h, v, O, cs, h1, h2, _⟩ => ⟨h, v, O, cs, h1, h2⟩

theorem pow_ok {n : Nat} (h : n + 1 ≤ 6) : 4 ^ n ≤ 4294967296 := Nat.le_trans (Nat.pow_le_pow_right (by decide) (show n ≤ 6 by omega)) (by decide)
/-- What l4Ty answers. -/
def DrT (Q : Tp → Prop) (g : Nat) (w : World) (r : Value) (w' : World) : Prop := IsT Q w.heap.size w' r ∧ Dw g w w'

set_option maxHeartbeats 1000000 in
/-- spec.l4Ty -/
theorem c_l4Ty (n : Nat) (hn : n ≤ 6) : ∀ {w : World} {g : Nat} {vv : Value} {ss : List ByteArray} {bv : List Nat}, Cu w g → Strs w vv ss bv → g ∉ bv → (∀ b ∈ bv, b < w.heap.size) → 0 < ss.length → ss.length ≤ 256 → (∀ s ∈ ss, s.size ≤ 16) →
    Ret Tryd.prog 60 [.pointer (some ⟨g, 0, none⟩), vv, .int .i64 n] w (DrT (Qt (4 ^ n)) g w) := by
  induction n with
  | zero =>
    intro w g vv ss bv hc hs hgv hbv hs0 hs1 hsn
    have hgw := hc.lt
    have hM : maxLen = 9223372036854775807 := rfl
    obtain ⟨aov, capv, rfl, _, _⟩ := hs.form
    have hpos : 1 ≤ 4 ^ 0 := Nat.pow_pos (by decide)
    have hpow : 4 ^ (0 + 1) = 4 * 4 ^ 0 := by rw [Nat.pow_succ, Nat.mul_comm]
    refine ret_of_vc ttOkD Tryd.func60 rfl (by kernel_rfl) (by kernel_rfl) ?_
    refine Go1.al tiTy ?_
    intro w1 hx1 hb1
    have lt1 := hb1.lt
    have sz1 := hx1.size
    have hd1 : Dw g w w1 := (Dw.refl hc).ext hx1
    refine (c_l1Below hd1.2 8 (by decide) (by decide)).mono ?_
    rintro _ w2 ⟨⟨k, rfl, hk⟩, hd12⟩
    have hd2 := hd1.trans hd12
    have hb2 := hd12.blk hb1 (by omega)
    have sz2 := hd12.size
    have hs2 : Strs w2 (.slice aov ss.length capv) ss bv := Row.chg hd2.1 (fun b hb h => hgv (h ▸ hb)) hs
    refine Cm.s (fun h3 => ?_) (fun h3 => ?_)
    · refine Cm.t (by omega) ?_
      refine (c_l1Below hd2.2 ss.length hs0 hs1).mono ?_
      rintro _ w3 ⟨⟨j, rfl, hj⟩, hd23⟩
      have hd3 := hd2.trans hd23
      have hs3 : Strs w3 (.slice aov ss.length capv) ss bv := Row.chg hd23.1 (fun b hb h => hgv (h ▸ hb)) hs2
      obtain ⟨a, rfl, hcell⟩ := hs3.get hj
      refine Go1.ix 1 hj (Ld.one hcell ?_)
      refine (c_l4VarD _).mono ?_
      rintro _ w4 ⟨hx4, rfl⟩
      refine Go0.st (off := 0) (vs := [.int .i64 1, .string ss[j], .slice none 0 0]) ((hd23.blk hb2 (by omega)).ext hx4) rfl rfl (by simp [Value.cells]) (by simp [Value.oneCell']) ?_
      intro wz hcz hbz _
      have hbz : Blk wz w.heap.size 38 [.int .i64 1, .string ss[j], .slice none 0 0] := hbz
      refine Ld.agg (vs := [.int .i64 1, .string ss[j], .slice none 0 0]) (Blk.lc0 (post := []) hbz) ?_
      exact ⟨⟨.mk (1, ss[j]) [], _, [], [], rfl, GrowT.nil, (Qt.leaf (hsn _ (List.getElem_mem hj))).mono (Nat.pow_pos (by decide))⟩, (hd3.ext hx4).big hcz (fun x hx => by omega) hgw⟩
    · have go : True := trivial
      refine Cm.s (fun h5 => ?_) (fun h5 => ?_)
      · skip
        refine Go1.bs 9 ([⟨#[105, 110, 116]⟩, ⟨#[98, 111, 111, 108]⟩, ⟨#[117, 110, 105, 116]⟩].map Value.string) (size := 1) (bytes := 16) Tryd.underlying49 tiStr (by decide) (by decide) (by kernel_rfl) ?_
        intro w3 hx3 hb3
        have sz3 := hx3.size
        refine (c_l1Pick (hd2.2.ext hx3) (lit_strs hb3 (by decide) rfl) (by simp; omega) (by decide) (by decide)).mono ?_
        rintro _ w4 ⟨⟨s, rfl, hsm⟩, hd34⟩
        have hsz : s.size ≤ 16 := (by decide : ∀ s ∈ ([⟨#[105, 110, 116]⟩, ⟨#[98, 111, 111, 108]⟩, ⟨#[117, 110, 105, 116]⟩] : List ByteArray), s.size ≤ 16) s hsm
        have hd4 := (hd2.ext hx3).trans hd34
        have hb4 := hd34.blk (hb2.ext hx3) (by omega)
        have sz4 := hd34.size
        refine (c_l4ConN s).mono ?_
        rintro _ w5 ⟨hx5, v5, O5, rfl, hg5⟩
        obtain ⟨ao5, cap5, ds5, rfl, _, _, _⟩ := kidsN (t := .mk (2, s) []) (N := 1) hg5 (by show 1 + Rose.cnt ([] : List Tp) ≤ 1; rw [show Rose.cnt ([] : List Tp) = 0 from Rose.wtL_nil _]; omega) (by decide)
        have hlo5 := hg5.lo
        refine Go0.st (off := 0) (vs := [.int .i64 2, .string s, .slice ao5 0 cap5]) (hb4.ext hx5) rfl rfl (by simp [Value.cells]) (by simp [Value.oneCell']) ?_
        intro wz hcz hbz _
        have hbz : Blk wz w.heap.size 38 [.int .i64 2, .string s, .slice ao5 0 cap5] := hbz
        refine Ld.agg (vs := [.int .i64 2, .string s, .slice ao5 0 cap5]) (Blk.lc0 (post := []) hbz) ?_
        exact ⟨⟨.mk (2, s) [], _, O5, [], rfl, (hg5.chg hcz (fun b hb => by have := hlo5 b hb; omega)).mono (by have := hd4.size; omega), (Qt.leaf hsz).mono (Nat.pow_pos (by decide))⟩, (hd4.ext hx5).big hcz (fun x hx => by omega) hgw⟩
      · refine Cm.t (by omega) ?_
        refine Go1.bs 9 ([⟨#[105, 110, 116]⟩, ⟨#[98, 111, 111, 108]⟩, ⟨#[117, 110, 105, 116]⟩].map Value.string) (size := 1) (bytes := 16) Tryd.underlying49 tiStr (by decide) (by decide) (by kernel_rfl) ?_
        intro w3 hx3 hb3
        have sz3 := hx3.size
        refine (c_l1Pick (hd2.2.ext hx3) (lit_strs hb3 (by decide) rfl) (by simp; omega) (by decide) (by decide)).mono ?_
        rintro _ w4 ⟨⟨s, rfl, hsm⟩, hd34⟩
        have hsz : s.size ≤ 16 := (by decide : ∀ s ∈ ([⟨#[105, 110, 116]⟩, ⟨#[98, 111, 111, 108]⟩, ⟨#[117, 110, 105, 116]⟩] : List ByteArray), s.size ≤ 16) s hsm
        have hd4 := (hd2.ext hx3).trans hd34
        have hb4 := hd34.blk (hb2.ext hx3) (by omega)
        have sz4 := hd34.size
        refine (c_l4ConN s).mono ?_
        rintro _ w5 ⟨hx5, v5, O5, rfl, hg5⟩
        obtain ⟨ao5, cap5, ds5, rfl, _, _, _⟩ := kidsN (t := .mk (2, s) []) (N := 1) hg5 (by show 1 + Rose.cnt ([] : List Tp) ≤ 1; rw [show Rose.cnt ([] : List Tp) = 0 from Rose.wtL_nil _]; omega) (by decide)
        have hlo5 := hg5.lo
        refine Go0.st (off := 0) (vs := [.int .i64 2, .string s, .slice ao5 0 cap5]) (hb4.ext hx5) rfl rfl (by simp [Value.cells]) (by simp [Value.oneCell']) ?_
        intro wz hcz hbz _
        have hbz : Blk wz w.heap.size 38 [.int .i64 2, .string s, .slice ao5 0 cap5] := hbz
        refine Ld.agg (vs := [.int .i64 2, .string s, .slice ao5 0 cap5]) (Blk.lc0 (post := []) hbz) ?_
        exact ⟨⟨.mk (2, s) [], _, O5, [], rfl, (hg5.chg hcz (fun b hb => by have := hlo5 b hb; omega)).mono (by have := hd4.size; omega), (Qt.leaf hsz).mono (Nat.pow_pos (by decide))⟩, (hd4.ext hx5).big hcz (fun x hx => by omega) hgw⟩
  | succ n ih =>
    intro w g vv ss bv hc hs hgv hbv hs0 hs1 hsn
    have hgw := hc.lt
    have hM : maxLen = 9223372036854775807 := rfl
    obtain ⟨aov, capv, rfl, _, _⟩ := hs.form
    have hpos : 1 ≤ 4 ^ n := Nat.pow_pos (by decide)
    have hpow : 4 ^ (n + 1) = 4 * 4 ^ n := by rw [Nat.pow_succ, Nat.mul_comm]
    refine ret_of_vc ttOkD Tryd.func60 rfl (by kernel_rfl) (by kernel_rfl) ?_
    refine Go1.al tiTy ?_
    intro w1 hx1 hb1
    have lt1 := hb1.lt
    have sz1 := hx1.size
    have hd1 : Dw g w w1 := (Dw.refl hc).ext hx1
    refine (c_l1Below hd1.2 8 (by decide) (by decide)).mono ?_
    rintro _ w2 ⟨⟨k, rfl, hk⟩, hd12⟩
    have hd2 := hd1.trans hd12
    have hb2 := hd12.blk hb1 (by omega)
    have sz2 := hd12.size
    have hs2 : Strs w2 (.slice aov ss.length capv) ss bv := Row.chg hd2.1 (fun b hb h => hgv (h ▸ hb)) hs
    refine Cm.s (fun h3 => ?_) (fun h3 => ?_)
    · refine Cm.t (by omega) ?_
      refine (c_l1Below hd2.2 ss.length hs0 hs1).mono ?_
      rintro _ w3 ⟨⟨j, rfl, hj⟩, hd23⟩
      have hd3 := hd2.trans hd23
      have hs3 : Strs w3 (.slice aov ss.length capv) ss bv := Row.chg hd23.1 (fun b hb h => hgv (h ▸ hb)) hs2
      obtain ⟨a, rfl, hcell⟩ := hs3.get hj
      refine Go1.ix 1 hj (Ld.one hcell ?_)
      refine (c_l4VarD _).mono ?_
      rintro _ w4 ⟨hx4, rfl⟩
      refine Go0.st (off := 0) (vs := [.int .i64 1, .string ss[j], .slice none 0 0]) ((hd23.blk hb2 (by omega)).ext hx4) rfl rfl (by simp [Value.cells]) (by simp [Value.oneCell']) ?_
      intro wz hcz hbz _
      have hbz : Blk wz w.heap.size 38 [.int .i64 1, .string ss[j], .slice none 0 0] := hbz
      refine Ld.agg (vs := [.int .i64 1, .string ss[j], .slice none 0 0]) (Blk.lc0 (post := []) hbz) ?_
      exact ⟨⟨.mk (1, ss[j]) [], _, [], [], rfl, GrowT.nil, (Qt.leaf (hsn _ (List.getElem_mem hj))).mono (Nat.pow_pos (by decide))⟩, (hd3.ext hx4).big hcz (fun x hx => by omega) hgw⟩
    refine Cm.s (fun h5 => ?_) (fun h5 => ?_)
    · skip
      refine Go1.bs 9 ([⟨#[105, 110, 116]⟩, ⟨#[98, 111, 111, 108]⟩, ⟨#[117, 110, 105, 116]⟩].map Value.string) (size := 1) (bytes := 16) Tryd.underlying49 tiStr (by decide) (by decide) (by kernel_rfl) ?_
      intro w3 hx3 hb3
      have sz3 := hx3.size
      refine (c_l1Pick (hd2.2.ext hx3) (lit_strs hb3 (by decide) rfl) (by simp; omega) (by decide) (by decide)).mono ?_
      rintro _ w4 ⟨⟨s, rfl, hsm⟩, hd34⟩
      have hsz : s.size ≤ 16 := (by decide : ∀ s ∈ ([⟨#[105, 110, 116]⟩, ⟨#[98, 111, 111, 108]⟩, ⟨#[117, 110, 105, 116]⟩] : List ByteArray), s.size ≤ 16) s hsm
      have hd4 := (hd2.ext hx3).trans hd34
      have hb4 := hd34.blk (hb2.ext hx3) (by omega)
      have sz4 := hd34.size
      refine (c_l4ConN s).mono ?_
      rintro _ w5 ⟨hx5, v5, O5, rfl, hg5⟩
      obtain ⟨ao5, cap5, ds5, rfl, _, _, _⟩ := kidsN (t := .mk (2, s) []) (N := 1) hg5 (by show 1 + Rose.cnt ([] : List Tp) ≤ 1; rw [show Rose.cnt ([] : List Tp) = 0 from Rose.wtL_nil _]; omega) (by decide)
      have hlo5 := hg5.lo
      refine Go0.st (off := 0) (vs := [.int .i64 2, .string s, .slice ao5 0 cap5]) (hb4.ext hx5) rfl rfl (by simp [Value.cells]) (by simp [Value.oneCell']) ?_
      intro wz hcz hbz _
      have hbz : Blk wz w.heap.size 38 [.int .i64 2, .string s, .slice ao5 0 cap5] := hbz
      refine Ld.agg (vs := [.int .i64 2, .string s, .slice ao5 0 cap5]) (Blk.lc0 (post := []) hbz) ?_
      exact ⟨⟨.mk (2, s) [], _, O5, [], rfl, (hg5.chg hcz (fun b hb => by have := hlo5 b hb; omega)).mono (by have := hd4.size; omega), (Qt.leaf hsz).mono (Nat.pow_pos (by decide))⟩, (hd4.ext hx5).big hcz (fun x hx => by omega) hgw⟩
    refine Cm.f (by omega) ?_
    refine Cm.s (fun h6 => ?_) (fun h6 => ?_)
    · refine Wr.n n (by simp) (by omega) ?_
      refine (ih (by omega) hd2.2 hs2 hgv (fun b hb => by have := hbv b hb; have := (hd2).size; omega) hs0 hs1 hsn).mono ?_
      rintro _ w3 ⟨⟨T1, v1, O1, c1, rfl, g1, q1⟩, dd1⟩
      obtain ⟨ao1, cap1, ds1, rfl, k1, f1, sub1⟩ := kidsN g1 q1.1 (pow_ok hn)
      have hd3 := hd2.trans dd1
      have hs3 : Strs w3 (.slice aov ss.length capv) ss bv := Row.chg dd1.1 (fun b hb h => hgv (h ▸ hb)) hs2
      have sz3 := dd1.size
      refine Wr.n n (by simp) (by omega) ?_
      refine (ih (by omega) hd3.2 hs3 hgv (fun b hb => by have := hbv b hb; have := (hd3).size; omega) hs0 hs1 hsn).mono ?_
      rintro _ w4 ⟨⟨T2, v2, O2, c2, rfl, g2, q2⟩, dd2⟩
      obtain ⟨ao2, cap2, ds2, rfl, k2, f2, sub2⟩ := kidsN g2 q2.1 (pow_ok hn)
      have sz4 := dd2.size
      have lo1 := f1.lo
      have hi1 := f1.lt
      have lo2 := f2.lo
      have k14 := k1.chg dd2.1 (fun b hb h => by have := lo1 b hb; omega)
      have f14 := f1.chg dd2.1 (fun b hb h => by have := lo1 b hb; omega)
      refine Go1.bs 38 [.int .i64 T1.lab.1, .string T1.lab.2, .slice ao1 T1.kids.length cap1, .int .i64 T2.lab.1, .string T2.lab.2, .slice ao2 T2.kids.length cap2] (size := 3) (bytes := 48) Tryd.underlying26 tiTy (by decide) (by decide) (by kernel_rfl) ?_
      intro w5 hx5 hb5
      have sz5 := hx5.size
      refine (c_l4ConL (ts := [T1, T2]) (vs := [.slice ao1 T1.kids.length cap1, .slice ao2 T2.kids.length cap2]) (n0 := w2.heap.size) (bs := ds1 ++ ds2) (by simpa [fl, encT] using hb5) ⟨ds1, ds2, rfl, k14.ext hx5, ⟨ds2, [], by simp, k2.ext hx5, rfl⟩⟩ ((f14.append f2 sz3 hi1).ext hx5) (by omega) rfl (by simp)).mono ?_
      rintro _ w6 ⟨hx6, v6, O6, c6, rfl, hg6⟩
      obtain ⟨d6, hk6, _⟩ := hg6.kids (by simp; decide)
      obtain ⟨ao6, cap6, rfl, _, _⟩ := hk6.form
      have hlo6 := hg6.lo
      refine Go0.st (off := 0) (vs := [.int .i64 2, .string ⟨#[112, 97, 105, 114]⟩, .slice ao6 [T1, T2].length cap6]) ((((dd2.blk (dd1.blk hb2 (by omega)) (by omega)).ext hx5).ext hx6)) rfl rfl (by simp [Value.cells]) (by simp [Value.oneCell']) ?_
      intro wz hcz hbz _
      have hbz : Blk wz w.heap.size 38 [.int .i64 2, .string ⟨#[112, 97, 105, 114]⟩, .slice ao6 [T1, T2].length cap6] := hbz
      refine Ld.agg (vs := [.int .i64 2, .string ⟨#[112, 97, 105, 114]⟩, .slice ao6 [T1, T2].length cap6]) (Blk.lc0 (post := []) hbz) ?_
      exact ⟨⟨.mk (2, ⟨#[112, 97, 105, 114]⟩) [T1, T2], _, O6, c6, rfl, (hg6.chg hcz (fun b hb => by have := hlo6 b hb; omega)).mono (by omega), Qt.node (N := 4 ^ n) (by decide) (by decide) (by decide) (by simpa using ⟨q1, q2⟩) (by rw [hpow]; simp; omega)⟩, (((hd3.trans dd2).ext hx5).ext hx6).big hcz (fun x hx => by omega) hgw⟩
    · skip
      refine Go1.bs 9 ([⟨#[108, 105, 115, 116]⟩, ⟨#[108, 105, 115, 116]⟩, ⟨#[98, 111, 120]⟩].map Value.string) (size := 1) (bytes := 16) Tryd.underlying49 tiStr (by decide) (by decide) (by kernel_rfl) ?_
      intro w3 hx3 hb3
      have sz3 := hx3.size
      refine (c_l1Pick (hd2.2.ext hx3) (lit_strs hb3 (by decide) rfl) (by simp; omega) (by decide) (by decide)).mono ?_
      rintro _ w4 ⟨⟨s, rfl, hsm⟩, hd34⟩
      have hsz : s.size ≤ 16 := (by decide : ∀ s ∈ ([⟨#[108, 105, 115, 116]⟩, ⟨#[108, 105, 115, 116]⟩, ⟨#[98, 111, 120]⟩] : List ByteArray), s.size ≤ 16) s hsm
      have hsa : abc s = false := (by decide : ∀ s ∈ ([⟨#[108, 105, 115, 116]⟩, ⟨#[108, 105, 115, 116]⟩, ⟨#[98, 111, 120]⟩] : List ByteArray), abc s = false) s hsm
      have hd4 := (hd2.ext hx3).trans hd34
      have hb4 := hd34.blk (hb2.ext hx3) (by omega)
      have sz4 := hd34.size
      refine Wr.n n (by simp) (by omega) ?_
      have hs4 : Strs w4 (.slice aov ss.length capv) ss bv := Row.chg hd34.1 (fun b hb h => hgv (h ▸ hb)) (Row.ext hx3 hs2)
      refine (ih (by omega) hd4.2 hs4 hgv (fun b hb => by have := hbv b hb; have := (hd4).size; omega) hs0 hs1 hsn).mono ?_
      rintro _ w5 ⟨⟨T1, v1, O1, c1, rfl, g1, q1⟩, dd1⟩
      obtain ⟨ao1, cap1, ds1, rfl, k1, f1, sub1⟩ := kidsN g1 q1.1 (pow_ok hn)
      have sz5 := dd1.size
      refine Go1.bs 38 [.int .i64 T1.lab.1, .string T1.lab.2, .slice ao1 T1.kids.length cap1] (size := 3) (bytes := 48) Tryd.underlying26 tiTy (by decide) (by decide) (by kernel_rfl) ?_
      intro w6 hx6 hb6
      have sz6 := hx6.size
      refine (c_l4ConL (s := s) (ts := [T1]) (vs := [.slice ao1 T1.kids.length cap1]) (n0 := w4.heap.size) (bs := ds1) (by simpa [fl, encT] using hb6) ⟨ds1, [], by simp, k1.ext hx6, rfl⟩ (f1.ext hx6) (by omega) rfl (by simp)).mono ?_
      rintro _ w7 ⟨hx7, v7, O7, c7, rfl, hg7⟩
      obtain ⟨d7, hk7, _⟩ := hg7.kids (by simp; decide)
      obtain ⟨ao7, cap7, rfl, _, _⟩ := hk7.form
      have hlo7 := hg7.lo
      refine Go0.st (off := 0) (vs := [.int .i64 2, .string s, .slice ao7 [T1].length cap7]) (((dd1.blk hb4 (by omega)).ext hx6).ext hx7) rfl rfl (by simp [Value.cells]) (by simp [Value.oneCell']) ?_
      intro wz hcz hbz _
      have hbz : Blk wz w.heap.size 38 [.int .i64 2, .string s, .slice ao7 [T1].length cap7] := hbz
      refine Ld.agg (vs := [.int .i64 2, .string s, .slice ao7 [T1].length cap7]) (Blk.lc0 (post := []) hbz) ?_
      exact ⟨⟨.mk (2, s) [T1], _, O7, c7, rfl, (hg7.chg hcz (fun b hb => by have := hlo7 b hb; omega)).mono (by omega), Qt.node (N := 4 ^ n) (by decide) hsa hsz (by simpa using q1) (by rw [hpow]; simp; omega)⟩, (((hd4.trans dd1).ext hx6).ext hx7).big hcz (fun x hx => by omega) hgw⟩
end Go.Proofs.YtmecmdnnhldjpaaDoor
