/- A Type out of an SExpr: its size. Conditions: none. -/
import Derived.Test.YtliigpmpeldebaaTyN
namespace Go.Proofs.Ytliigpmpeldebaa
open Go.RowKit

theorem tl_size (s : ByteArray) : (tl s).size ≤ s.size := by
  show (s.data.toList.drop 1).length ≤ s.data.toList.length
  rw [List.length_drop]
  omega
theorem labAt_size {ks : List Sx} (h : Rose.AlL (fun s => s.size ≤ maxLen) ks) (i : Nat) : (labAt ks i).size ≤ maxLen := by
  unfold labAt
  cases ht : ks[i]? with
  | none => exact Nat.zero_le _
  | some t => exact (Rose.AlL_mem h (List.mem_of_getElem? ht)).1
theorem AlL_drop {α : Type} {p : α → Prop} {ks : List (Rose α)} (h : Rose.AlL p ks) (k : Nat) : Rose.AlL p (ks.drop k) := Rose.AlL_of fun t ht => Rose.AlL_mem h (List.mem_of_mem_drop ht)
theorem cnt_drop {α : Type} (ks : List (Rose α)) (k : Nat) : Rose.cnt (ks.drop k) ≤ Rose.cnt ks := by
  have := Rose.wtL_append (fun _ : α => 0) (ks.take k) (ks.drop k)
  rw [List.take_append_drop] at this
  have e1 : Rose.cnt ks = Rose.wtL (fun _ => 0) ks := rfl
  have e2 : Rose.cnt (ks.drop k) = Rose.wtL (fun _ => 0) (ks.drop k) := rfl
  omega
theorem cntC {α : Type} (t : Rose α) (ks : List (Rose α)) : Rose.cnt (t :: ks) = 1 + Rose.cnt t.kids + Rose.cnt ks := by
  show Rose.wtL _ _ = 1 + Rose.wtL _ _ + Rose.wtL _ _
  rw [Rose.wtL_cons]
theorem cntN {α : Type} : Rose.cnt ([] : List (Rose α)) = 0 := Rose.wtL_nil _

/-- A reading that puts its element's readings, some of the first ones left out, under a name that stands there. -/
def Rd (d : Sx → Tp) : Prop := ∀ (l : ByteArray) (ks : List Sx), (((d (.mk l ks)).lab.2 = em ∨ (d (.mk l ks)).lab.2 = l ∨ (d (.mk l ks)).lab.2 = tl l ∨ ∃ i, (d (.mk l ks)).lab.2 = labAt ks i)) ∧ ((d (.mk l ks)).kids = [] ∨ ∃ k, (d (.mk l ks)).kids = (ks.map d).drop k)
theorem rd_sz {d : Sx → Tp} (h : Rd d) (ks : List Sx) : Rose.AlL (fun s => s.size ≤ maxLen) ks → Rose.AlL (fun s : TLab => s.2.size ≤ maxLen) (ks.map d) ∧ Rose.cnt (ks.map d) ≤ Rose.cnt ks := by
  refine Rose.forest (p := fun ks => Rose.AlL (fun s => s.size ≤ maxLen) ks → Rose.AlL (fun s : TLab => s.2.size ≤ maxLen) (ks.map d) ∧ Rose.cnt (ks.map d) ≤ Rose.cnt ks) (fun ks ih => ?_) ks
  intro ha
  have one : ∀ t ∈ ks, (d t).lab.2.size ≤ maxLen ∧ Rose.AlL (fun s : TLab => s.2.size ≤ maxLen) (d t).kids ∧ Rose.cnt (d t).kids ≤ Rose.cnt t.kids := by
    intro t ht
    obtain ⟨hl, hk⟩ := Rose.AlL_mem ha ht
    obtain ⟨i1, i2⟩ := ih t ht hk
    cases t with
    | mk l ls =>
      obtain ⟨g1, g2⟩ := h l ls
      refine ⟨?_, ?_⟩
      · rcases g1 with g | g | g | ⟨i, g⟩
        · rw [g]; exact Nat.zero_le _
        · rw [g]; exact hl
        · rw [g]; exact Nat.le_trans (tl_size l) hl
        · rw [g]; exact labAt_size hk i
      · rcases g2 with g | ⟨k, g⟩
        · rw [g, cntN]
          exact ⟨Rose.AlL_of (by simp), Nat.zero_le _⟩
        · rw [g]
          exact ⟨AlL_drop i1 k, Nat.le_trans (cnt_drop _ k) i2⟩
  refine ⟨Rose.AlL_of fun u hu => ?_, ?_⟩
  · obtain ⟨t, ht, rfl⟩ := List.mem_map.1 hu
    exact ⟨(one t ht).1, (one t ht).2.1⟩
  · clear ih ha
    induction ks with
    | nil => rw [List.map_nil, cntN, cntN]; exact Nat.le_refl _
    | cons t ts iht =>
      rw [List.map_cons, cntC, cntC]
      have h1 := (one t List.mem_cons_self).2.2
      have h2 := iht fun u hu => one u (List.mem_cons_of_mem _ hu)
      omega
theorem rd_deS : Rd deS := by
  intro l ks
  rw [deS_eq, deSL_map]
  split
  · split
    · exact ⟨.inr (.inr (.inl rfl)), .inl rfl⟩
    · exact ⟨.inr (.inl rfl), .inl rfl⟩
  · split
    · exact ⟨.inl rfl, .inl rfl⟩
    · split
      · exact ⟨.inr (.inr (.inr ⟨1, rfl⟩)), .inr ⟨2, by simp [Rose.kids]⟩⟩
      · split
        · exact ⟨.inr (.inr (.inr ⟨1, rfl⟩)), .inl rfl⟩
        · exact ⟨.inr (.inr (.inr ⟨0, rfl⟩)), .inr ⟨1, rfl⟩⟩
theorem rd_deI : Rd deI := by
  intro l ks
  rw [deI_eq, deIL_map]
  split
  · split
    · exact ⟨.inr (.inr (.inl rfl)), .inl rfl⟩
    · exact ⟨.inr (.inl rfl), .inl rfl⟩
  · split
    · exact ⟨.inl rfl, .inl rfl⟩
    · split
      · exact ⟨.inr (.inr (.inr ⟨1, rfl⟩)), .inl rfl⟩
      · split
        · exact ⟨.inr (.inr (.inr ⟨1, rfl⟩)), .inr ⟨2, rfl⟩⟩
        · exact ⟨.inr (.inr (.inr ⟨0, rfl⟩)), .inr ⟨1, rfl⟩⟩
theorem rd_ok {d : Sx → Tp} (h : Rd d) {l : ByteArray} {ks : List Sx} (hl : l.size ≤ maxLen) (ha : Rose.AlL (fun s => s.size ≤ maxLen) ks) (hs : 1 + Rose.cnt ks ≤ 4294967296) : SzOk (d (.mk l ks)) := by
  obtain ⟨h1, h2⟩ := rd_sz h [.mk l ks] (Rose.AlL_of (by simpa [Rose.lab, Rose.kids] using ⟨hl, ha⟩))
  rw [List.map_cons, List.map_nil] at h1 h2
  rw [cntC, cntC, cntN, cntN] at h2
  have h3 := Rose.AlL_mem h1 List.mem_cons_self
  have h4 : (Rose.mk l ks).kids = ks := rfl
  rw [h4] at h2
  exact ⟨h3.1, h3.2, by omega⟩
theorem stT_cnt {l : ByteArray} {ks : List Sx} (hl : l.size ≤ maxLen) (ha : Rose.AlL (fun s => s.size ≤ maxLen) ks) : Rose.cnt ((stO (.mk l ks)).getD (.mk (0, em) [])).kids ≤ Rose.cnt ks := by
  obtain ⟨h1, h2⟩ := rd_sz rd_deI [.mk l ks] (Rose.AlL_of (by simpa [Rose.lab, Rose.kids] using ⟨hl, ha⟩))
  rw [List.map_cons, List.map_nil, cntC, cntC, cntN, cntN] at h2
  have h4 : (Rose.mk l ks).kids = ks := rfl
  rw [h4] at h2
  unfold stO
  split
  · show Rose.cnt (deI (.mk l ks)).kids ≤ _
    omega
  · show Rose.cnt ([] : List Tp) ≤ _
    rw [cntN]
    omega
end Go.Proofs.Ytliigpmpeldebaa
