/- The texts of valid Types read back, plain; Draws: DrawIsValidType; The engine: the check of a long region's order by a table of what each operation waits for; Contract: laws.big. Conditions: none. -/
import Derived.Test.YtliigpmpeldebaaGreatJTyO
import Derived.Test.YtliigpmpeldebaaGreatTyQ
import Derived.Test.YtliigpmpeldebaaGreatJDrawE
import Derived.Test.YtliigpmpeldebaaGreatJStrH
namespace Go.Proofs.YtliigpmpeldebaaGreat
open Go.RowKit

theorem name_chars {s : ByteArray} (h : NameOk s) : ∀ i, ∀ hi : i < s.size, AtomP s[i].toNat := fun i hi => by
  rcases h.1 i hi with h | ⟨_, h⟩
  · exact .inl h
  · exact .inr (.inl h)
theorem name_atom {s : ByteArray} (h : NameOk s) : AtomOk s := ⟨name_chars h, h.2.1, Nat.le_trans h.2.2.1 (by decide)⟩
theorem q_atom {s : ByteArray} (h : NameOk s) : AtomOk (⟨#[39]⟩ ++ s) := by
  have hz : (ByteArray.mk #[39] ++ s).size = 1 + s.size := by rw [size_app]; rfl
  have h1 := h.2.1
  have h8 := h.2.2.1
  refine ⟨fun i hi => ?_, by omega, by omega⟩
  have e : (ByteArray.mk #[39] ++ s).data.toList = 39 :: s.data.toList := by rw [ByteArray.data_append]; simp
  have hg : (ByteArray.mk #[39] ++ s).data.toList[i]? = some (ByteArray.mk #[39] ++ s)[i] := by
    have h3 : i < (ByteArray.mk #[39] ++ s).data.toList.length := hi
    rw [List.getElem?_eq_getElem h3]
    rfl
  rw [e] at hg
  cases i with
  | zero =>
    obtain h4 : (39 : UInt8) = (ByteArray.mk #[39] ++ s)[0] := by simpa using hg
    rw [← h4]
    exact .inr (.inr (.inl rfl))
  | succ j =>
    have hj : j < s.size := by omega
    have h5 : s.data.toList[j]? = some s[j] := by
      have h3 : j < s.data.toList.length := hj
      rw [List.getElem?_eq_getElem h3]
      rfl
    rw [List.getElem?_cons_succ, h5] at hg
    have h6 : s[j] = (ByteArray.mk #[39] ++ s)[j + 1] := Option.some.inj hg
    rw [← h6]
    exact name_chars h j hj
theorem atom_ne {s : ByteArray} (h : AtomOk s) : s ≠ em := fun e => by
  have := h.2.1
  rw [e] at this
  exact absurd this (by decide)
theorem fmS_at {s : ByteArray} (h : AtomOk s) : fmS (at_ s) := (fmS_atom (atom_ne h)).2 ⟨h, rfl⟩
theorem dpS_atA {s : ByteArray} (h : AtomOk s) : dpS (at_ s) = 0 := dpS_atom (atom_ne h)
theorem head_atom {l : TLab} {n : Nat} (h : headP l n) : AtomOk l.2 := by
  rcases h with ⟨_, h, _⟩ | ⟨_, h, _⟩ | ⟨_, ⟨h, _⟩ | ⟨h, _⟩⟩
  · exact name_atom h
  · exact name_atom h
  · exact name_atom h
  · unfold baseN at h
    simp only [Bool.or_eq_true, decide_eq_true_eq] at h
    rcases h with h | h <;> (rw [h]; decide +kernel)
theorem enL_mem {ks : List Tp} {x : Sx} (h : x ∈ enL ks) : ∃ t ∈ ks, enS t = x := by
  rw [enL_map] at h
  exact List.mem_map.1 h
theorem dpSL_leA {ks : List Sx} {n : Nat} (h : ∀ t ∈ ks, dpS t ≤ n) : dpSL ks ≤ n := by
  induction ks with
  | nil => simp [dpSL]
  | cons k ks ih =>
    rw [dpSL_cons]
    have h1 := h k List.mem_cons_self
    have h2 := ih fun t ht => h t (List.mem_cons_of_mem _ ht)
    omega
theorem fm_en (ks : List Tp) : (∀ t ∈ ks, fmT t) → ∀ t ∈ ks, fmS (enS t) ∧ dpS (enS t) ≤ 1 + dpTL t.kids := by
  refine Rose.forest (p := fun ks => (∀ t ∈ ks, fmT t) → ∀ t ∈ ks, fmS (enS t) ∧ dpS (enS t) ≤ 1 + dpTL t.kids) (fun ks ih => ?_) ks
  intro hf t ht
  have hft := hf t ht
  have iht := ih t ht
  cases t with
  | mk l ls =>
    rw [fmT_iff] at hft
    have iht : ∀ u ∈ ls, fmS (enS u) ∧ dpS (enS u) ≤ 1 + dpTL u.kids := iht hft.2
    have hat := head_atom hft.1
    have hA : AtomOk sAssoc := by decide +kernel
    have hD : AtomOk sDyn := by decide +kernel
    have hfl : ∀ x ∈ enL ls, fmS x ∧ dpS x ≤ dpTL ls := fun x hx => by
      obtain ⟨u, hu, rfl⟩ := enL_mem hx
      have h1 := iht u hu
      have h2 := dpTL_mem hu
      exact ⟨h1.1, by omega⟩
    show fmS (enS (.mk l ls)) ∧ dpS (enS (.mk l ls)) ≤ 1 + dpTL ls
    rw [enS_eq]
    by_cases h1 : l.1 = 1
    · rw [if_pos h1]
      have hnm : NameOk l.2 := head_name hft.1 (.inl h1)
      exact ⟨fmS_at (q_atom hnm), by rw [dpS_atA (q_atom hnm)]; omega⟩
    rw [if_neg h1]
    by_cases h4 : l.1 = 4
    · rw [if_pos h4]
      refine ⟨(fmS_list rfl).2 fun x hx => ?_, ?_⟩
      · rcases List.mem_cons.1 hx with rfl | hx
        · exact fmS_at hD
        · obtain rfl := List.mem_singleton.1 hx
          exact fmS_at hat
      · rw [dpS_list rfl]
        have := dpSL_leA (n := 0) (ks := [at_ sDyn, at_ l.2]) fun x hx => by
          rcases List.mem_cons.1 hx with rfl | hx
          · rw [dpS_atA hD]; exact Nat.le_refl _
          · obtain rfl := List.mem_singleton.1 hx
            rw [dpS_atA hat]; exact Nat.le_refl _
        omega
    rw [if_neg h4]
    by_cases h3 : l.1 = 3
    · rw [if_pos h3]
      refine ⟨(fmS_list rfl).2 fun x hx => ?_, ?_⟩
      · rcases List.mem_cons.1 hx with rfl | hx
        · exact fmS_at hA
        · rcases List.mem_cons.1 hx with rfl | hx
          · exact fmS_at hat
          · exact (hfl x hx).1
      · rw [dpS_list rfl]
        have := dpSL_leA (n := dpTL ls) (ks := at_ sAssoc :: at_ l.2 :: enL ls) fun x hx => by
          rcases List.mem_cons.1 hx with rfl | hx
          · rw [dpS_atA hA]; exact Nat.zero_le _
          · rcases List.mem_cons.1 hx with rfl | hx
            · rw [dpS_atA hat]; exact Nat.zero_le _
            · exact (hfl x hx).2
        omega
    rw [if_neg h3]
    by_cases h0 : ls.length = 0
    · rw [if_pos h0]
      exact ⟨fmS_at hat, by rw [dpS_atA hat]; omega⟩
    · rw [if_neg h0]
      refine ⟨(fmS_list rfl).2 fun x hx => ?_, ?_⟩
      · rcases List.mem_cons.1 hx with rfl | hx
        · exact fmS_at hat
        · exact (hfl x hx).1
      · rw [dpS_list rfl]
        have := dpSL_leA (n := dpTL ls) (ks := at_ l.2 :: enL ls) fun x hx => by
          rcases List.mem_cons.1 hx with rfl | hx
          · rw [dpS_atA hat]; exact Nat.zero_le _
          · exact (hfl x hx).2
        omega
theorem okS_en {t : Tp} (h : okT t) : okS (enS t) := by
  obtain ⟨h1, h2, h3⟩ := h
  obtain ⟨h4, h5⟩ := fm_en [t] (by simpa using h2) t List.mem_cons_self
  refine ⟨?_, h4, by omega⟩
  cases t with
  | mk l ls =>
    have := enS_kids l ls
    have h1 : 1 + Rose.cnt ls ≤ 60 := h1
    omega
theorem stO_en {t : Tp} (h : okT t) : stO (enS t) = some t := by
  have h1 := (de_en [t] (by simpa using h.2.1) t List.mem_cons_self).2
  unfold stO
  rw [h1, if_pos ⟨h, rfl⟩]
theorem stO_some {x : Sx} {t : Tp} (h : stO x = some t) : okT t ∧ enS t = x := by
  unfold stO at h
  split at h
  · rename_i hc
    obtain rfl := Option.some.inj h
    exact hc
  · cases h
theorem ptO_fmt (t : Tp) : (okT t ∧ ptO (fmtT t).data.toList = some t) ∨ (¬ okT t ∧ ptO (fmtT t).data.toList = none) := by
  unfold ptO fmtT
  by_cases h : okT t
  · refine .inl ⟨h, ?_⟩
    rw [if_pos h]
    unfold fmtS
    rw [if_pos (okS_en h)]
    have : prO (tb (txS (enS t))).data.toList = some (enS t) := by
      have := prO_some (prs_txS (okS_en h))
      simpa [tb] using this
    rw [this]
    exact stO_en h
  · refine .inr ⟨h, ?_⟩
    rw [if_neg h]
    have : prO (⟨#[]⟩ : ByteArray).data.toList = none := prO_none not_prs_nil
    rw [this]
    rfl
end Go.Proofs.YtliigpmpeldebaaGreat

namespace Go.Proofs.YtliigpmpeldebaaGreat
open Go.RowKit

theorem Nm.big {l : TLab} {ks : List Tp} (h : Nm (.mk l ks)) : l.2.size ≤ maxLen ∧ Rose.AlL (fun s => s.2.size ≤ maxLen) ks :=
  ⟨Nat.le_trans h.1 (by decide), Rose.AlL_imp (q := fun s : TLab => s.2.size ≤ maxLen) (fun _ h => Nat.le_trans h (by decide)) _ h.2⟩

end Go.Proofs.YtliigpmpeldebaaGreat

namespace Go.Proofs.YtliigpmpeldebaaGreat
open Go.RowKit

def precT (tab : List Nat) (j i : Nat) : Bool := Nat.testBit (tab.getD i 0) j
def rowT (tab : List Nat) (i : Nat) (o : Oper) : Nat := o.after.toList.foldl (fun m e => match Region.binds .any e && Nat.blt e.on i with
  | true => m ||| ((1 <<< e.on) ||| tab.getD e.on 0)
  | false => m) 0
def tabOk (ops : Array Oper) (tab : List Nat) : Bool := Nat.ble tab.length ops.size && (List.range ops.size).all fun i => match ops[i]? with
  | some o => Nat.beq (tab.getD i 0) (rowT tab i o)
  | none => false
def pairT (ops : Array Oper) (tab : List Nat) (late : Nat → Bool) (j i : Nat) : Bool :=
  match ops[j]?, ops[i]? with
  | some oj, some oi => (precT tab j i || (!(Nat.beq (kindOf oj.op) 2) && oj.apart ops oi)) &&
      (oj.after.toList.all fun e => !(Region.binds .any e && Nat.beq e.on i)) && (!(Nat.beq (kindOf oj.op) 1) || precT tab j i || late i)
  | _, _ => false
def pairsT (ops : Array Oper) (tab : List Nat) (late : Nat → Bool) : List Nat → Bool
  | [] => true
  | j :: r => r.all (pairT ops tab late j) && !r.contains j && pairsT ops tab late r
def eagerT (ops : Array Oper) (tab : List Nat) (late : Nat → Bool) (l : List Nat) : Bool :=
  tabOk ops tab && (Region.noSelect ops && pairsT ops tab late l && ((List.range ops.size).all fun i => l.contains i) && (l.all fun i => Nat.blt i ops.size) &&
    l.all fun i => match ops[i]? with
      | some o => o.after.toList.all fun e => !(Region.binds .any e) || (Nat.blt e.on ops.size && !(Nat.beq e.on i))
      | none => false)

theorem precB_succ (ops : Array Oper) : ∀ (n j i : Nat), precB ops n j i = true → precB ops (n + 1) j i = true
  | 0, j, i, h => by simp [precB] at h
  | n + 1, j, i, h => by
    unfold precB at h ⊢
    split at h
    · rename_i o ho
      simp only [List.any_eq_true] at h ⊢
      obtain ⟨e, he, h1⟩ := h
      refine ⟨e, he, ?_⟩
      simp only [Bool.and_eq_true, Bool.or_eq_true] at h1 ⊢
      exact ⟨h1.1, h1.2.imp id (precB_succ ops n j e.on)⟩
    · cases h
theorem precB_le (ops : Array Oper) {n m : Nat} (h : n ≤ m) {j i : Nat} (hp : precB ops n j i = true) : precB ops m j i = true := by
  induction h with
  | refl => exact hp
  | step _ ih => exact precB_succ ops _ j i ih
theorem foldT (tab : List Nat) (i j : Nat) : ∀ (l : List Edge) (m : Nat), Nat.testBit (l.foldl (fun m e => match Region.binds .any e && Nat.blt e.on i with
    | true => m ||| ((1 <<< e.on) ||| tab.getD e.on 0)
    | false => m) m) j = true → Nat.testBit m j = true ∨ ∃ e ∈ l, Region.binds .any e = true ∧ e.on < i ∧ (e.on = j ∨ Nat.testBit (tab.getD e.on 0) j = true)
  | [], m, h => .inl h
  | e :: l, m, h => by
    rw [List.foldl_cons] at h
    rcases foldT tab i j l _ h with h1 | ⟨e', he, h2⟩
    · cases hb : (Region.binds .any e && Nat.blt e.on i) with
      | false => rw [hb] at h1; exact .inl h1
      | true =>
        rw [hb] at h1
        simp only [Nat.testBit_or, Nat.one_shiftLeft, Nat.testBit_two_pow, Bool.or_eq_true, decide_eq_true_eq] at h1
        simp only [Bool.and_eq_true] at hb
        have h3 : e.on < i := Nat.blt_eq ▸ hb.2
        rcases h1 with h1 | h1 | h1
        · exact .inl h1
        · exact .inr ⟨e, List.mem_cons_self, hb.1, h3, .inl h1⟩
        · exact .inr ⟨e, List.mem_cons_self, hb.1, h3, .inr h1⟩
    · exact .inr ⟨e', List.mem_cons_of_mem _ he, h2⟩
theorem precT_B {ops : Array Oper} {tab : List Nat} (hok : tabOk ops tab = true) : ∀ (i j : Nat), precT tab j i = true → precB ops ops.size j i = true := by
  simp only [tabOk, Bool.and_eq_true, List.all_eq_true] at hok
  obtain ⟨hlen, hrow⟩ := hok
  have hlen : tab.length ≤ ops.size := Nat.le_of_ble_eq_true hlen
  have key : ∀ (i j : Nat), precT tab j i = true → i < ops.size ∧ precB ops (i + 1) j i = true := by
    intro i
    induction i using Nat.strongRecOn with
    | _ i ih =>
      intro j h
      have hi : i < ops.size := by
        rcases Nat.lt_or_ge i tab.length with h1 | h1
        · omega
        · unfold precT at h
          rw [List.getD_eq_getElem?_getD, List.getElem?_eq_none h1] at h
          simp at h
      refine ⟨hi, ?_⟩
      have h1 := hrow i (List.mem_range.2 hi)
      have ho : ops[i]? = some ops[i] := Array.getElem?_eq_getElem hi
      rw [ho] at h1
      have h1 := Nat.eq_of_beq_eq_true h1
      unfold precT at h
      rw [h1] at h
      unfold rowT at h
      rcases foldT tab i j _ _ h with h2 | ⟨e, he, hb, hlt, h3⟩
      · simp at h2
      · unfold precB
        simp only [ho]
        rw [List.any_eq_true]
        refine ⟨e, he, ?_⟩
        rw [hb, Bool.true_and, Bool.or_eq_true]
        rcases h3 with h3 | h3
        · left; rw [h3]; exact Nat.beq_refl j
        · right
          exact precB_le ops (by omega) (ih e.on hlt j h3).2
  intro i j h
  obtain ⟨h1, h2⟩ := key i j h
  exact precB_le ops (by omega) h2
theorem pairT_G {ops : Array Oper} {tab : List Nat} (hok : tabOk ops tab = true) {late : Nat → Bool} {j i : Nat} (h : pairT ops tab late j i = true) : pairG ops [] late j i = true := by
  unfold pairT at h
  unfold pairG
  split at h
  · rename_i oj oi hj hi
    simp only [hj, hi]
    simp only [Bool.and_eq_true, Bool.or_eq_true] at h ⊢
    obtain ⟨⟨h1, h2⟩, h3⟩ := h
    refine ⟨⟨h1.imp (precT_B hok i j) .inl, h2⟩, h3.imp (Or.imp id (precT_B hok i j)) id⟩
  · cases h
theorem pairsT_G {ops : Array Oper} {tab : List Nat} (hok : tabOk ops tab = true) {late : Nat → Bool} : ∀ {l : List Nat}, pairsT ops tab late l = true → pairsG ops [] late l = true
  | [], _ => rfl
  | j :: r, h => by
    simp only [pairsT, pairsG, Bool.and_eq_true, List.all_eq_true] at h ⊢
    exact ⟨⟨fun i hi => pairT_G hok (h.1.1 i hi), h.1.2⟩, pairsT_G hok h.2⟩
theorem eagerT_G {ops : Array Oper} {tab : List Nat} {late : Nat → Bool} {l : List Nat} (h : eagerT ops tab late l = true) : eagerG ops [] late l = true := by
  simp only [eagerT, Bool.and_eq_true] at h
  obtain ⟨hok, ⟨⟨⟨h1, h2⟩, h3⟩, h4⟩, h5⟩ := h
  simp only [eagerG, Bool.and_eq_true]
  exact ⟨⟨⟨⟨h1, pairsT_G hok h2⟩, h3⟩, h4⟩, h5⟩

/-- The rule for a long region that draws its order: 'tab' has, for each operation, the bits of those that it waits for; 'lt': behind what a load may come up that stands ahead of it in 'l'. -/
theorem Dr.t {P : Program} {n : Nat} {T : TT} {ops : Array Oper} {F : Fr} {w : World} {K : Fr → World → Prop} (l tab lt : List Nat) (hT : TOk P T) (hv : vce P T ops.toList [] (lateG lt) K l l F (fun u => Ext w u))
    (hm : P.follows .mixedOrders = true := by kernel_rfl) (hok : opsOk n ops.toList = true := by kernel_rfl) (hl : eagerT ops tab (lateG lt) l = true := by kernel_rfl) (hle : Nat.ble l.length ops.size = true := by kernel_rfl) : Dr P n T ops F w K :=
  Dr.g l [] lt hT hv hm hok (eagerT_G hl) hle
end Go.Proofs.YtliigpmpeldebaaGreat

namespace Go.Proofs.YtliigpmpeldebaaGreat
open Go.ChangeShapes Go.WideShapes Go.ChangeAt Go.RowKit

/-- laws.big -/
theorem c_big {w : World} {v : Value} (hv : OCode w v) : Ret Tryz.prog 4 [v] w fun r w' => (∃ b, r = .bool b) ∧ w' = w := by
  obtain ⟨zs, bs, hr⟩ := hv
  obtain ⟨ao, cap, rfl, hm, hcap⟩ := hr.form
  refine ret_of_vc ttOkD Tryz.func4 rfl (by kernel_rfl) (by kernel_rfl) ?_
  exact Cm.s (fun _ => ⟨⟨_, rfl⟩, rfl⟩) (fun _ => ⟨⟨_, rfl⟩, rfl⟩)

end Go.Proofs.YtliigpmpeldebaaGreat
