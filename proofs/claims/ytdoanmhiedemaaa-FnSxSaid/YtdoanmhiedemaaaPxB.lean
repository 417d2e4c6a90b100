/- The words of an SExpr's own text. Plain. Conditions: none. -/
import Derived.Test.YtdoanmhiedemaaaSxE
import Derived.Test.YtdoanmhiedemaaaPxA
namespace Go.Proofs.Ytdoanmhiedemaaa
open Go.RowKit

theorem atom_bytes {l : ByteArray} (h : AtomOk l) : ∀ b ∈ l.data.toList, atB b = true := by
  intro b hb
  obtain ⟨i, hi, rfl⟩ := List.mem_iff_getElem.1 hb
  have hi' : i < l.size := by simpa using hi
  have this : AtomP (l.data[i]'(by simpa using hi)).toNat := h.1 i hi'
  unfold atB
  simpa using this
theorem jt_cons (s x : List UInt8) (r : List (List UInt8)) : Lib.joinTail s (x :: r) = s ++ x ++ Lib.joinTail s r := by simp [Lib.joinTail]
theorem jt_ends {ks : List Sx} {r : List UInt8} (h : Ends r) : Ends (Lib.joinTail [32] (txL ks) ++ r) := by
  cases ks with
  | nil => simpa [txL, Lib.joinTail] using h
  | cons k ks =>
    rw [txL_cons, jt_cons]
    simp only [List.cons_append, List.nil_append, Ends]
    decide
def LexT (ks : List Sx) : Prop := (∀ t ∈ ks, fmS t) → ∀ r, Ends r → lexA [] (Lib.joinTail [32] (txL ks) ++ r) = (lexA [] r).map (rnL ks ++ ·)
theorem map_map' {f g : List Wd → List Wd} (o : Option (List Wd)) : (o.map f).map g = o.map fun x => g (f x) := by cases o <;> rfl
theorem lex_one {k : Sx} (ih : LexT k.kids) (hf : fmS k) {r : List UInt8} (hr : Ends r) : lexA [] (txS k ++ r) = (lexA [] r).map (rnS k ++ ·) := by
  cases k with
  | mk l ls =>
    by_cases e : l = em
    · have hf' := (fmS_list e).1 hf
      have he : Ends (41 :: r) := by simp only [Ends]; decide
      rw [txS_eq, if_pos e, rnS_list e]
      simp only [List.append_assoc, List.cons_append, List.nil_append]
      rw [lexA_lp (by decide)]
      have key : lexA [] (Lib.join (txL ls) [32] ++ 41 :: r) = (lexA [] (41 :: r)).map (rnL ls ++ ·) := by
        cases ls with
        | nil =>
          rw [txL, Lib.join_nil, rnL_nil, List.nil_append]
          cases lexA [] (41 :: r) <;> rfl
        | cons x xs =>
          rw [txL_cons, Lib.join_cons]
          have h1 := ih hf' (41 :: r) he
          simp only [Rose.kids] at h1
          rw [txL_cons, jt_cons] at h1
          simp only [List.append_assoc, List.cons_append, List.nil_append] at h1 ⊢
          rw [lexA_bl0 (by decide)] at h1
          exact h1
      rw [key, lexA_rp (by decide)]
      cases lexA [] r <;> simp [flu]
    · have hf' := (fmS_atom e).1 hf
      rw [txS_eq, if_neg e, rnS_atom e]
      rw [lexA_at (atom_bytes hf'.1) (fun h => e (by cases l; simp only at h; rw [Array.toList_eq_nil_iff.1 h])) hr]
      cases lexA [] r <;> rfl
theorem lex_tail (ks : List Sx) : LexT ks := by
  refine Rose.forest (p := LexT) (fun ks ih => ?_) ks
  induction ks with
  | nil =>
    intro _ r _
    rw [txL, rnL_nil]
    simp only [Lib.joinTail, List.map_nil, List.flatten_nil, List.nil_append]
    cases lexA [] r <;> rfl
  | cons k ks ihk =>
    intro hf r hr
    have h2 := ihk (fun t ht => ih t (List.mem_cons_of_mem _ ht)) (fun t ht => hf t (List.mem_cons_of_mem _ ht)) r hr
    rw [txL_cons, jt_cons]
    simp only [List.append_assoc, List.cons_append, List.nil_append]
    rw [lexA_bl0 (by decide), lex_one (ih k List.mem_cons_self) (hf k List.mem_cons_self) (jt_ends hr), h2, rnL_cons]
    cases lexA [] r <;> simp
/-- A valid SExpr's text stands for it. -/
theorem prs_txS {x : Sx} (h : okS x) : Prs (txS x) x := by
  refine ⟨?_, h⟩
  have := lex_one (lex_tail _) h.2.1 (r := []) trivial
  rw [List.append_nil, lexA_nil] at this
  simpa using this
theorem not_prs_nil (x : Sx) : ¬ Prs [] x := by
  intro h
  have := h.1
  rw [lexA_nil] at this
  simp only [Option.some.injEq] at this
  exact rnS_ne_nil this.symm
end Go.Proofs.Ytdoanmhiedemaaa
