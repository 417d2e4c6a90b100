/- Contracts: FormatType. Conditions: none. -/
import Derived.Test.YtliigpmpeldebaaTyJ
namespace Go.Proofs.Ytliigpmpeldebaa
open Go.RowKit

theorem head_size {l : TLab} {n : Nat} (h : headP l n) : l.2.size ≤ 8 := by
  have hb : baseN l.2 = true → l.2.size ≤ 8 := fun h => by
    unfold baseN at h
    simp only [Bool.or_eq_true, decide_eq_true_eq] at h
    rcases h with h | h <;> (rw [h]; decide)
  rcases h with h | h | ⟨_, h | h⟩
  · exact h.2.1.2.2.1
  · exact h.2.1.2.2.1
  · exact h.1.2.2.1
  · exact hb h.1
theorem wt_at (s : ByteArray) (us : List Sx) : Rose.wtL ByteArray.size (at_ s :: us) = 1 + s.size + Rose.wtL ByteArray.size us := by
  rw [Rose.wtL_cons]
  simp [Rose.kids, Rose.lab, Rose.wtL_nil]
theorem enS_wt (ks : List Tp) : (∀ t ∈ ks, fmT t) → Rose.wtL ByteArray.size (enL ks) ≤ 16 * Rose.cnt ks := by
  refine Rose.forest (p := fun ks => (∀ t ∈ ks, fmT t) → Rose.wtL ByteArray.size (enL ks) ≤ 16 * Rose.cnt ks) (fun ks ih => ?_) ks
  intro hf
  induction ks with
  | nil => rw [enL_nil, Rose.wtL_nil]; omega
  | cons t ts iht =>
    have h1 := ih t List.mem_cons_self
    have h2 := iht (fun u hu => ih u (List.mem_cons_of_mem _ hu)) fun u hu => hf u (List.mem_cons_of_mem _ hu)
    rw [enL_cons, Rose.wtL_cons]
    have e2 : Rose.cnt (t :: ts) = 1 + Rose.cnt t.kids + Rose.cnt ts := by
      show Rose.wtL _ _ = 1 + Rose.wtL _ _ + Rose.wtL _ _
      rw [Rose.wtL_cons]
    have h3 : 1 + (enS t).lab.size + Rose.wtL ByteArray.size (enS t).kids ≤ 16 * (1 + Rose.cnt t.kids) := by
      have hft := hf t List.mem_cons_self
      cases t with
      | mk l ls =>
        rw [fmT_iff] at hft
        have h1 : Rose.wtL ByteArray.size (enL ls) ≤ 16 * Rose.cnt ls := h1 hft.2
        have hz := head_size hft.1
        show _ ≤ 16 * (1 + Rose.cnt ls)
        have z1 : sDyn.size = 3 := rfl
        have z2 : sAssoc.size = 5 := rfl
        have z3 : em.size = 0 := rfl
        rw [enS_eq]
        split
        · have : (ByteArray.mk #[39] ++ l.2).size = 1 + l.2.size := size_app _ _
          simp only [Rose.kids, Rose.lab, Rose.wtL_nil]
          omega
        · split
          · simp only [Rose.kids, Rose.lab, wt_at, Rose.wtL_nil]; omega
          · split
            · simp only [Rose.kids, Rose.lab, wt_at]; omega
            · split
              · simp only [Rose.kids, Rose.lab, Rose.wtL_nil]; omega
              · simp only [Rose.kids, Rose.lab, wt_at]; omega
    omega
theorem enS_wt1 {t : Tp} (h : okT t) : 1 + (enS t).lab.size + Rose.wtL ByteArray.size (enS t).kids ≤ 960 := by
  have h1 := enS_wt [t] (by simpa using h.2.1)
  rw [enL_cons, enL_nil, Rose.wtL_cons, Rose.wtL_nil] at h1
  have e2 : Rose.cnt [t] = 1 + Rose.cnt t.kids := by
    show Rose.wtL _ _ = 1 + Rose.wtL _ _
    rw [Rose.wtL_cons, Rose.wtL_nil]
    simp
  have := h.1
  omega

open Classical in
/-- What FormatType answers. -/
noncomputable def fmtT (t : Tp) : ByteArray := if okT t then fmtS (enS t) else ⟨#[]⟩

end Go.Proofs.Ytliigpmpeldebaa
