/- A Type out of an SExpr: its size; ParseType, of both; The words of an SExpr's own text. Plain. Conditions: none. -/
import Derived.Test.YtliigpmpeldebaaGreatTyN
import Derived.Test.YtliigpmpeldebaaGreatSxK
import Derived.Test.YtliigpmpeldebaaGreatSxE
import Derived.Test.YtliigpmpeldebaaGreatPxA
namespace Go.Proofs.YtliigpmpeldebaaGreat
open Go.RowKit

theorem tl_size (s : ByteArray) : (tl s).size ≤ s.size := by
  show (s.data.toList.drop 1).length ≤ s.data.toList.length
  rw [List.length_drop]
  omega
theorem labAt_size {ks : List Sx} (h : Rose.AlL (fun s => s.size ≤ maxLen) ks) (i : Nat) : (labAt ks i).size ≤ maxLen := by
  unfold labAt
  cases ht : ks[i]? with
  | none => exact Nat.zero_le _
  | some t => exact (Rose.AlL_mem h (List.mem_of_getElem? ht)).1
theorem AlL_drop {α : Type} {p : α → Prop} {ks : List (Rose α)} (h : Rose.AlL p ks) (k : Nat) : Rose.AlL p (ks.drop k) := Rose.AlL_of fun t ht => Rose.AlL_mem h (List.mem_of_mem_drop ht)
theorem cnt_drop {α : Type} (ks : List (Rose α)) (k : Nat) : Rose.cnt (ks.drop k) ≤ Rose.cnt ks := by
  have := Rose.wtL_append (fun _ : α => 0) (ks.take k) (ks.drop k)
  rw [List.take_append_drop] at this
  have e1 : Rose.cnt ks = Rose.wtL (fun _ => 0) ks := rfl
  have e2 : Rose.cnt (ks.drop k) = Rose.wtL (fun _ => 0) (ks.drop k) := rfl
  omega
theorem cntC {α : Type} (t : Rose α) (ks : List (Rose α)) : Rose.cnt (t :: ks) = 1 + Rose.cnt t.kids + Rose.cnt ks := by
  show Rose.wtL _ _ = 1 + Rose.wtL _ _ + Rose.wtL _ _
  rw [Rose.wtL_cons]
theorem cntN {α : Type} : Rose.cnt ([] : List (Rose α)) = 0 := Rose.wtL_nil _

/-- A reading that puts its element's readings, some of the first ones left out, under a name that stands there. -/
def Rd (d : Sx → Tp) : Prop := ∀ (l : ByteArray) (ks : List Sx), (((d (.mk l ks)).lab.2 = em ∨ (d (.mk l ks)).lab.2 = l ∨ (d (.mk l ks)).lab.2 = tl l ∨ ∃ i, (d (.mk l ks)).lab.2 = labAt ks i)) ∧ ((d (.mk l ks)).kids = [] ∨ ∃ k, (d (.mk l ks)).kids = (ks.map d).drop k)
theorem rd_sz {d : Sx → Tp} (h : Rd d) (ks : List Sx) : Rose.AlL (fun s => s.size ≤ maxLen) ks → Rose.AlL (fun s : TLab => s.2.size ≤ maxLen) (ks.map d) ∧ Rose.cnt (ks.map d) ≤ Rose.cnt ks := by
  refine Rose.forest (p := fun ks => Rose.AlL (fun s => s.size ≤ maxLen) ks → Rose.AlL (fun s : TLab => s.2.size ≤ maxLen) (ks.map d) ∧ Rose.cnt (ks.map d) ≤ Rose.cnt ks) (fun ks ih => ?_) ks
  intro ha
  have one : ∀ t ∈ ks, (d t).lab.2.size ≤ maxLen ∧ Rose.AlL (fun s : TLab => s.2.size ≤ maxLen) (d t).kids ∧ Rose.cnt (d t).kids ≤ Rose.cnt t.kids := by
    intro t ht
    obtain ⟨hl, hk⟩ := Rose.AlL_mem ha ht
    obtain ⟨i1, i2⟩ := ih t ht hk
    cases t with
    | mk l ls =>
      obtain ⟨g1, g2⟩ := h l ls
      refine ⟨?_, ?_⟩
      · rcases g1 with g | g | g | ⟨i, g⟩
        · rw [g]; exact Nat.zero_le _
        · rw [g]; exact hl
        · rw [g]; exact Nat.le_trans (tl_size l) hl
        · rw [g]; exact labAt_size hk i
      · rcases g2 with g | ⟨k, g⟩
        · rw [g, cntN]
          exact ⟨Rose.AlL_of (by simp), Nat.zero_le _⟩
        · rw [g]
          exact ⟨AlL_drop i1 k, Nat.le_trans (cnt_drop _ k) i2⟩
  refine ⟨Rose.AlL_of fun u hu => ?_, ?_⟩
  · obtain ⟨t, ht, rfl⟩ := List.mem_map.1 hu
    exact ⟨(one t ht).1, (one t ht).2.1⟩
  · clear ih ha
    induction ks with
    | nil => rw [List.map_nil, cntN, cntN]; exact Nat.le_refl _
    | cons t ts iht =>
      rw [List.map_cons, cntC, cntC]
      have h1 := (one t List.mem_cons_self).2.2
      have h2 := iht fun u hu => one u (List.mem_cons_of_mem _ hu)
      omega
theorem rd_deS : Rd deS := by
  intro l ks
  rw [deS_eq, deSL_map]
  split
  · split
    · exact ⟨.inr (.inr (.inl rfl)), .inl rfl⟩
    · exact ⟨.inr (.inl rfl), .inl rfl⟩
  · split
    · exact ⟨.inl rfl, .inl rfl⟩
    · split
      · exact ⟨.inr (.inr (.inr ⟨1, rfl⟩)), .inr ⟨2, by simp [Rose.kids]⟩⟩
      · split
        · exact ⟨.inr (.inr (.inr ⟨1, rfl⟩)), .inl rfl⟩
        · exact ⟨.inr (.inr (.inr ⟨0, rfl⟩)), .inr ⟨1, rfl⟩⟩
theorem rd_deI : Rd deI := by
  intro l ks
  rw [deI_eq, deIL_map]
  split
  · split
    · exact ⟨.inr (.inr (.inl rfl)), .inl rfl⟩
    · exact ⟨.inr (.inl rfl), .inl rfl⟩
  · split
    · exact ⟨.inl rfl, .inl rfl⟩
    · split
      · exact ⟨.inr (.inr (.inr ⟨1, rfl⟩)), .inl rfl⟩
      · split
        · exact ⟨.inr (.inr (.inr ⟨1, rfl⟩)), .inr ⟨2, rfl⟩⟩
        · exact ⟨.inr (.inr (.inr ⟨0, rfl⟩)), .inr ⟨1, rfl⟩⟩
theorem rd_ok {d : Sx → Tp} (h : Rd d) {l : ByteArray} {ks : List Sx} (hl : l.size ≤ maxLen) (ha : Rose.AlL (fun s => s.size ≤ maxLen) ks) (hs : 1 + Rose.cnt ks ≤ 4294967296) : SzOk (d (.mk l ks)) := by
  obtain ⟨h1, h2⟩ := rd_sz h [.mk l ks] (Rose.AlL_of (by simpa [Rose.lab, Rose.kids] using ⟨hl, ha⟩))
  rw [List.map_cons, List.map_nil] at h1 h2
  rw [cntC, cntC, cntN, cntN] at h2
  have h3 := Rose.AlL_mem h1 List.mem_cons_self
  have h4 : (Rose.mk l ks).kids = ks := rfl
  rw [h4] at h2
  exact ⟨h3.1, h3.2, by omega⟩
theorem stT_cnt {l : ByteArray} {ks : List Sx} (hl : l.size ≤ maxLen) (ha : Rose.AlL (fun s => s.size ≤ maxLen) ks) : Rose.cnt ((stO (.mk l ks)).getD (.mk (0, em) [])).kids ≤ Rose.cnt ks := by
  obtain ⟨h1, h2⟩ := rd_sz rd_deI [.mk l ks] (Rose.AlL_of (by simpa [Rose.lab, Rose.kids] using ⟨hl, ha⟩))
  rw [List.map_cons, List.map_nil, cntC, cntC, cntN, cntN] at h2
  have h4 : (Rose.mk l ks).kids = ks := rfl
  rw [h4] at h2
  unfold stO
  split
  · show Rose.cnt (deI (.mk l ks)).kids ≤ _
    omega
  · show Rose.cnt ([] : List Tp) ≤ _
    rw [cntN]
    omega
end Go.Proofs.YtliigpmpeldebaaGreat

namespace Go.Proofs.YtliigpmpeldebaaGreat
open Go.RowKit

theorem fmS_alL (ks : List Sx) : (∀ t ∈ ks, fmS t) → Rose.AlL (fun s : ByteArray => s.size ≤ 12) ks := by
  refine Rose.forest (p := fun ks => (∀ t ∈ ks, fmS t) → Rose.AlL (fun s : ByteArray => s.size ≤ 12) ks) (fun ks ih => ?_) ks
  intro h
  refine Rose.AlL_of fun t ht => ?_
  have h1 := h t ht
  have h2 := ih t ht
  cases t with
  | mk l ls =>
    by_cases e : l = em
    · exact ⟨by rw [show Rose.lab (Rose.mk l ls) = l from rfl, e]; exact Nat.zero_le _, h2 ((fmS_list e).1 h1)⟩
    · obtain ⟨h3, rfl⟩ := (fmS_atom e).1 h1
      exact ⟨h3.2.2, Rose.AlL_of (by simp [Rose.kids])⟩
theorem fmS_al {t : Sx} (h : fmS t) : t.lab.size ≤ 12 ∧ Rose.AlL (fun s : ByteArray => s.size ≤ 12) t.kids :=
  Rose.AlL_mem (fmS_alL [t] (by simpa using h)) (List.mem_singleton.2 rfl)
/-- What a text reads as. -/
noncomputable def ptO (s : List UInt8) : Option Tp := (prO s).bind stO
/-- impl.ParseType -/
theorem c_iParseType {s : ByteArray} (hs : s.size ≤ 2097152) {w : World} : Ret Tryz.prog 7 [.string s] w (NewTyB w (ptO s.data.toList)) := by
  have hM : maxLen = 9223372036854775807 := rfl
  refine ret_of_vc ttOkP Tryz.func7 rfl (by kernel_rfl) (by kernel_rfl) ?_
  refine Go1.al tiTy ?_
  intro w1 hx1 hbR
  have ltR := hbR.lt
  have sz1 := hx1.size
  refine (c_iParseSExpr hs).mono ?_
  have hb : ∀ x, prO s.data.toList = some x → okS x := fun x h => (prO_prs h).2
  have hpt : ptO s.data.toList = (prO s.data.toList).bind stO := rfl
  rw [hpt]
  generalize prO s.data.toList = o at hb ⊢
  rintro _ w2 ⟨hx2, v, bs, rfl, hk, _⟩
  obtain ⟨ao, cap, rfl, _, _⟩ := hk.form
  refine Go1.al tiSx ?_
  intro w3 hx3 hb3
  have lt3 := hb3.lt
  have sz2 := hx2.size
  have sz3 := hx3.size
  refine Go0.st (off := 0) (vs := [.string (o.getD (.mk em [])).lab, .slice ao (o.getD (.mk em [])).kids.length cap]) hb3 rfl rfl (by simp [Value.cells]) (by simp [Value.oneCell']) ?_
  intro w4 hc4 hb4 _
  have hb4 : Blk w4 w2.heap.size 33 [.string (o.getD (.mk em [])).lab, .slice ao (o.getD (.mk em [])).kids.length cap] := hb4
  have hx24 : Ext w2 w4 := hx3.chg hc4 (by omega)
  have hx14 := hx2.trans hx24
  have hx04 := hx1.trans hx14
  have hbR4 : Blk w4 w.heap.size 26 [.int .i64 0, .string em, .slice none 0 0] := hbR.ext hx14
  have hk4 := hk.ext hx24
  cases o with
  | none =>
    refine Go1.bd [.int .i64 0, .string em, .slice none 0 0] ?_
    refine Go0.st (off := 0) (vs := [.int .i64 0, .string em, .slice none 0 0]) hbR4 rfl rfl (by simp [Value.cells]) (by simp [Value.oneCell']) ?_
    intro wz hcz hbz _
    have hbz : Blk wz w.heap.size 26 [.int .i64 0, .string em, .slice none 0 0] := hbz
    refine Ld.agg (vs := [.int .i64 0, .string em, .slice none 0 0]) (Blk.lc0 (post := []) hbz) ?_
    exact ⟨hx04.chg hcz (by omega), _, [], rfl, Kids.nil, Fresh.nil _ _⟩
  | some x =>
    have hok := hb x rfl
    have hal := fmS_al hok.2.1
    have hct := hok.1
    have hk4 : Kids encS w4 (.slice ao x.kids.length cap) x.kids bs := hk4
    have hb4 : Blk w4 w2.heap.size 33 [.string x.lab, .slice ao x.kids.length cap] := hb4
    refine Ld.agg (vs := [.string x.lab, .slice ao x.kids.length cap]) (Blk.lc0 (post := []) hb4) ?_
    refine (c_iSExprToType (rd_ok rd_deI (Nat.le_trans hal.1 (by decide)) (Rose.AlL_imp (fun _ h => Nat.le_trans h (by decide)) _ hal.2) (by omega)) (by omega) hk4).mono ?_
    rw [x.eta]
    have hbind : (some x).bind stO = stO x := rfl
    rw [hbind]
    generalize stO x = p
    rintro _ w5 ⟨hx5, v5, b5, rfl, hk5, hf5⟩
    obtain ⟨ao5, cap5, rfl, _, _⟩ := hk5.form
    have hn : ∀ b ∈ b5, ¬ b = w.heap.size := fun b hb => by have := hf5.lo b hb; have := hx14.size; omega
    refine Go0.st (off := 0) (vs := [.int .i64 (p.getD (.mk (0, em) [])).lab.1, .string (p.getD (.mk (0, em) [])).lab.2, .slice ao5 (p.getD (.mk (0, em) [])).kids.length cap5]) (hbR4.ext hx5) rfl rfl (by simp [Value.cells]) (by simp [Value.oneCell']) ?_
    intro wz hcz hbz _
    have hbz : Blk wz w.heap.size 26 [.int .i64 (p.getD (.mk (0, em) [])).lab.1, .string (p.getD (.mk (0, em) [])).lab.2, .slice ao5 (p.getD (.mk (0, em) [])).kids.length cap5] := hbz
    refine Ld.agg (vs := [.int .i64 (p.getD (.mk (0, em) [])).lab.1, .string (p.getD (.mk (0, em) [])).lab.2, .slice ao5 (p.getD (.mk (0, em) [])).kids.length cap5]) (Blk.lc0 (post := []) hbz) ?_
    exact ⟨(hx04.trans hx5).chg hcz (by omega), _, b5, rfl, hk5.chg hcz hn, (hf5.chg hcz hn).mono (by have := hx04.size; omega)⟩
end Go.Proofs.YtliigpmpeldebaaGreat

namespace Go.Proofs.YtliigpmpeldebaaGreat
open Go.RowKit

theorem atom_bytes {l : ByteArray} (h : AtomOk l) : ∀ b ∈ l.data.toList, atB b = true := by
  intro b hb
  obtain ⟨i, hi, rfl⟩ := List.mem_iff_getElem.1 hb
  have hi' : i < l.size := by simpa using hi
  have this : AtomP (l.data[i]'(by simpa using hi)).toNat := h.1 i hi'
  unfold atB
  simpa using this
theorem jt_cons (s x : List UInt8) (r : List (List UInt8)) : Lib.joinTail s (x :: r) = s ++ x ++ Lib.joinTail s r := by simp [Lib.joinTail]
theorem jt_ends {ks : List Sx} {r : List UInt8} (h : Ends r) : Ends (Lib.joinTail [32] (txL ks) ++ r) := by
  cases ks with
  | nil => simpa [txL, Lib.joinTail] using h
  | cons k ks =>
    rw [txL_cons, jt_cons]
    simp only [List.cons_append, List.nil_append, Ends]
    decide
def LexT (ks : List Sx) : Prop := (∀ t ∈ ks, fmS t) → ∀ r, Ends r → lexA [] (Lib.joinTail [32] (txL ks) ++ r) = (lexA [] r).map (rnL ks ++ ·)
theorem map_map' {f g : List Wd → List Wd} (o : Option (List Wd)) : (o.map f).map g = o.map fun x => g (f x) := by cases o <;> rfl
theorem lex_one {k : Sx} (ih : LexT k.kids) (hf : fmS k) {r : List UInt8} (hr : Ends r) : lexA [] (txS k ++ r) = (lexA [] r).map (rnS k ++ ·) := by
  cases k with
  | mk l ls =>
    by_cases e : l = em
    · have hf' := (fmS_list e).1 hf
      have he : Ends (41 :: r) := by simp only [Ends]; decide
      rw [txS_eq, if_pos e, rnS_list e]
      simp only [List.append_assoc, List.cons_append, List.nil_append]
      rw [lexA_lp (by decide)]
      have key : lexA [] (Lib.join (txL ls) [32] ++ 41 :: r) = (lexA [] (41 :: r)).map (rnL ls ++ ·) := by
        cases ls with
        | nil =>
          rw [txL, Lib.join_nil, rnL_nil, List.nil_append]
          cases lexA [] (41 :: r) <;> rfl
        | cons x xs =>
          rw [txL_cons, Lib.join_cons]
          have h1 := ih hf' (41 :: r) he
          simp only [Rose.kids] at h1
          rw [txL_cons, jt_cons] at h1
          simp only [List.append_assoc, List.cons_append, List.nil_append] at h1 ⊢
          rw [lexA_bl0 (by decide)] at h1
          exact h1
      rw [key, lexA_rp (by decide)]
      cases lexA [] r <;> simp [flu]
    · have hf' := (fmS_atom e).1 hf
      rw [txS_eq, if_neg e, rnS_atom e]
      rw [lexA_at (atom_bytes hf'.1) (fun h => e (by cases l; simp only at h; rw [Array.toList_eq_nil_iff.1 h])) hr]
      cases lexA [] r <;> rfl
theorem lex_tail (ks : List Sx) : LexT ks := by
  refine Rose.forest (p := LexT) (fun ks ih => ?_) ks
  induction ks with
  | nil =>
    intro _ r _
    rw [txL, rnL_nil]
    simp only [Lib.joinTail, List.map_nil, List.flatten_nil, List.nil_append]
    cases lexA [] r <;> rfl
  | cons k ks ihk =>
    intro hf r hr
    have h2 := ihk (fun t ht => ih t (List.mem_cons_of_mem _ ht)) (fun t ht => hf t (List.mem_cons_of_mem _ ht)) r hr
    rw [txL_cons, jt_cons]
    simp only [List.append_assoc, List.cons_append, List.nil_append]
    rw [lexA_bl0 (by decide), lex_one (ih k List.mem_cons_self) (hf k List.mem_cons_self) (jt_ends hr), h2, rnL_cons]
    cases lexA [] r <;> simp
/-- A valid SExpr's text stands for it. -/
theorem prs_txS {x : Sx} (h : okS x) : Prs (txS x) x := by
  refine ⟨?_, h⟩
  have := lex_one (lex_tail _) h.2.1 (r := []) trivial
  rw [List.append_nil, lexA_nil] at this
  simpa using this
theorem not_prs_nil (x : Sx) : ¬ Prs [] x := by
  intro h
  have := h.1
  rw [lexA_nil] at this
  simp only [Option.some.injEq] at this
  exact rnS_ne_nil this.symm
end Go.Proofs.YtliigpmpeldebaaGreat
