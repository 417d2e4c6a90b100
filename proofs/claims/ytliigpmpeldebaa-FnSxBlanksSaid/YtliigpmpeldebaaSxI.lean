/- The reference's ParseSExpr. Conditions: none. -/
import Derived.Test.YtliigpmpeldebaaSxH
import Derived.Test.YtliigpmpeldebaaGrowU
namespace Go.Proofs.Ytliigpmpeldebaa
open Go.RowKit

theorem lexA_cur : ∀ {bs cur : List UInt8} {ts : List Wd}, cur ≠ [] → lexA cur bs = some ts → ∃ a r, ts = .at a :: r := by
  have fl : ∀ {cur : List UInt8} {r : List Wd}, cur ≠ [] → ∃ a r', flu cur r = .at a :: r' := by
    intro cur r h
    cases cur with
    | nil => exact absurd rfl h
    | cons c cs => exact ⟨_, _, rfl⟩
  intro bs
  induction bs with
  | nil =>
    intro cur ts h e
    simp only [lexA, Option.some.injEq] at e
    rw [← e]; exact fl h
  | cons b bs ih =>
    intro cur ts h e
    rw [lexA] at e
    split at e
    · exact ih (by simp) e
    · split at e
      · obtain ⟨x, _, rfl⟩ := Option.map_eq_some_iff.1 e
        exact fl h
      · split at e
        · obtain ⟨x, _, rfl⟩ := Option.map_eq_some_iff.1 e
          exact fl h
        · split at e
          · obtain ⟨x, _, rfl⟩ := Option.map_eq_some_iff.1 e
            exact fl h
          · cases e
theorem lex_rp {b : UInt8} {bs : List UInt8} {r : List Wd} (hb : ¬ (b.toNat = 32 ∨ b.toNat = 10)) (h : lexA [] (b :: bs) = some (.rp :: r)) : b.toNat = 41 := by
  by_cases ha : AtomP b.toNat
  · rw [lexA, if_pos (by simpa [atB] using ha)] at h
    obtain ⟨a, r', e⟩ := lexA_cur (by simp) h
    cases e
  · by_cases h40 : b.toNat = 40
    · rw [lexA_lp h40] at h
      obtain ⟨x, _, e⟩ := Option.map_eq_some_iff.1 h
      simp [flu] at e
    · by_cases h41 : b.toNat = 41
      · exact h41
      · rw [lexA_bad ha hb h40 h41] at h
        cases h
theorem rnS_at_head {y : Sx} {a : List UInt8} {r T : List Wd} (h : Wd.at a :: r = rnS y ++ T) : ¬ y.lab = em := by
  intro e
  cases y with
  | mk l ks =>
    rw [rnS_list (show l = em from e)] at h
    simp at h
theorem rnS_lp_head {y : Sx} {r T : List Wd} (h : Wd.lp :: r = rnS y ++ T) : y.lab = em ∧ r = rnL y.kids ++ .rp :: T := by
  cases y with
  | mk l ks =>
    by_cases e : l = em
    · rw [rnS_list e] at h
      simp only [List.cons_append, List.append_assoc, List.nil_append, List.cons.injEq, true_and] at h
      exact ⟨e, h⟩
    · rw [rnS_atom e] at h
      simp at h
theorem dpS_at (y : Sx) : dpS y = if y.lab = em then dpSL y.kids + 1 else 0 := dpS_eq y

/-- What reading has read. -/
structure RdGood (s : ByteArray) (i d n j d' n' : Nat) (x : Sx) : Prop where
  hd : d' = d
  lt : i < j
  ws : wsS x
  lex : lexA [] (drp s i) = (lexA [] (drp s j)).map (rnS x ++ ·)
  hn : n' = n + 1 + Rose.cnt x.kids
  le : n' ≤ 900
  dp : d + dpS x ≤ 14
/-- Nothing small enough stands there. -/
def RdBad (s : ByteArray) (i d n : Nat) : Prop := ∀ (y : Sx) (rest : List Wd), wsS y → lexA [] (drp s i) = some (rnS y ++ rest) → 900 < n + 1 + Rose.cnt y.kids ∨ 14 < d + dpS y
def RdK (s : ByteArray) (g i d n : Nat) (w : World) (r : Value) (w' : World) : Prop := Chg (fun k => k = g) w w' ∧ ∃ (x : Sx) (v : Value) (bs : List Nat) (j d' n' : Nat) (b : Bool),
  r = .agg #[.string x.lab, v] ∧ Kids encS w' v x.kids bs ∧ Fresh w.heap.size w' bs ∧ Blk w' g 51 (stc s j d' n' b) ∧ (x.kids.length ≤ 1000 ∧ x.lab.size ≤ s.size ∧ Rose.AlL (fun l : ByteArray => l.size ≤ s.size) x.kids) ∧ j ≤ s.size ∧
  (b = false → RdGood s i d n j d' n' x) ∧ (b = true → RdBad s i d n)

def ReadSaid (m : Nat) : Prop := ∀ {w : World} {g : Nat} {s : ByteArray} {i d n : Nat}, d + m = 14 → Blk w g 51 (stc s i d n false) → i ≤ s.size → s.size ≤ 2097152 → n ≤ 900 →
  Ret Try.prog 23 [.pointer (some ⟨g, 0, none⟩)] w (RdK s g i d n w)

/-- The loop's bad end: an element was bad. -/
theorem bad_elem {s : ByteArray} {i d n j jj nn : Nat} {ts : List Sx} (hij : lexA [] (drp s i) = lexA [] (drp s j)) (hj : ∃ h : j < s.size, s[j].toNat = 40) (hws : wsL ts)
    (hlex : lexA [] (drp s (j + 1)) = (lexA [] (drp s jj)).map (rnL ts ++ ·)) (hn : nn = n + 1 + Rose.cnt ts) (h41 : ∀ h : jj < s.size, ¬ (s[jj].toNat = 32 ∨ s[jj].toNat = 10) ∧ s[jj].toNat ≠ 41) (hb : RdBad s jj (d + 1) nn) : RdBad s i d n := by
  intro y rest hy h
  obtain ⟨hjs, h40⟩ := hj
  rw [hij, drp_cons hjs, lexA_lp h40, hlex] at h
  cases hT : lexA [] (drp s jj) with
  | none => rw [hT] at h; simp at h
  | some T =>
    rw [hT] at h
    simp only [Option.map_some, flu, Option.some.injEq] at h
    obtain ⟨hl, he⟩ := rnS_lp_head h
    have hyk : wsL y.kids := by
      cases y with
      | mk l ks => exact (wsS_list hl).1 hy
    obtain ⟨zs, hz, hT2⟩ := cnl ts hws y.kids T rest hyk he
    cases zs with
    | nil =>
      exfalso
      rw [rnL_nil, List.nil_append] at hT2
      subst hT2
      by_cases hjj : jj < s.size
      · rw [drp_cons hjj] at hT
        exact (h41 hjj).2 (lex_rp (h41 hjj).1 hT)
      · rw [drp_end (by omega), lexA_nil] at hT
        cases hT
    | cons z zs =>
      rw [rnL_cons, List.append_assoc] at hT2
      have hzw : wsS z := (wsL_iff _).1 hyk z (by rw [hz]; simp)
      have := hb z _ hzw (by rw [hT, hT2])
      have hc : Rose.cnt y.kids = Rose.cnt ts + (1 + Rose.cnt z.kids + Rose.cnt zs) := by
        rw [hz]
        show Rose.wtL _ _ = Rose.wtL _ _ + (1 + Rose.wtL _ _ + Rose.wtL _ _)
        rw [Rose.wtL_append, Rose.wtL_cons]
      have hd : dpS y = dpSL y.kids + 1 := by rw [dpS_at, if_pos hl]
      have hd2 : dpS z ≤ dpSL y.kids := dpSL_mem (by rw [hz]; simp)
      omega

/-- spec.l2Read, one step -/
theorem c_l2Read' (m : Nat) (ih : ∀ m', m = m' + 1 → ReadSaid m') : ReadSaid m := by
  intro w g s i d n hdm hb hi hs hn
  have hM : maxLen = 9223372036854775807 := rfl
  have hg := hb.lt
  refine ret_of_vc ttOkP Try.func23 rfl (by kernel_rfl) (by kernel_rfl) ?_
  refine Go1.al tiSx ?_
  intro w1 hx1 hbR
  have ltR := hbR.lt
  have sz1 := hx1.size
  refine (c_l2Skip (hb.ext hx1) hi (by omega)).mono ?_
  rintro _ w2 ⟨j, hc2, hb2, ⟨hij, hj⟩, hl2, hbl⟩
  have sz2 := hc2.size
  refine Go1.np (Go1.fl 3 (Ld.one (hb2.at_ 3 rfl) ?_))
  refine Wr.n (n + 1) (by simp) (by omega) ?_
  refine Go1.np (Go1.fl 3 ?_)
  refine Go0.st (off := 3) (vs := [.int .i64 (n + 1 : Nat)]) hb2 (by rw [Addr.add_lit]) rfl (by simp) (by simp [Value.oneCell']) ?_
  intro w3 hc3 hb3 _
  have sz3 := hc3.size
  have hb3 : Blk w3 g 51 (stc s j d (n + 1) false) := hb3
  have hbR3 : Blk w3 w.heap.size 27 [.string em, .slice none 0 0] := (hbR.chg hc2 (by omega)).chg hc3 (by omega)
  have hc03 : Chg (fun k => k = g) w w3 := (hx1.chgM hc2).trans' hc3
  have badK : ∀ w', Chg (fun k => k = g) w w' → Blk w' g 51 (stc s j d (n + 1) true) → RdBad s i d n → RdK s g i d n w (.agg #[.string em, .slice none 0 0]) w' := fun w' hc hb hbad =>
    ⟨hc, .mk em [], _, [], j, d, n + 1, true, rfl, Kids.nil, Fresh.nil _ _, hb, ⟨Nat.zero_le _, Nat.zero_le _, Rose.AlL_of (by simp [Rose.kids])⟩, hj, fun h => by simp at h, fun _ => hbad⟩
  refine Dr.cut (β := Bool) (fun t => [(0, .pointer (some ⟨g, 0, none⟩)), (2, .pointer (some ⟨w.heap.size, 0, none⟩)), (31, .bool t)]) (fun t w' => Ext w3 w' ∧ (t = true → s.size ≤ j ∨ 900 < n + 1) ∧ (t = false → j < s.size ∧ n + 1 ≤ 900)) ?_ ?_
  · refine Dr.x [0, 1, 2, 3, 4, 5, 6, 7, 8, 9, 10, 11, 12, 13, 14, 15, 16] ttOkP ?_
    refine GoS.np (GoS.fl 1 (LdS.x1 (hb3.at_ 1 rfl) ?_))
    refine GoS.np (GoS.fl 0 (LdS.x1 (hb3.at_ 0 rfl) ?_))
    refine Cm.s (fun hge => ?_) (fun hlt => ?_)
    · intro w4 hx4
      exact ⟨true, ⟨rfl, rfl, rfl, trivial⟩, hx4, fun _ => .inl (by omega), fun h => by simp at h⟩
    · refine GoS.np (GoS.fl 3 (LdS.x1 (hb3.at_ 3 rfl) ?_))
      refine Cm.s (fun hgt => ?_) (fun hle => ?_)
      · intro w4 hx4
        exact ⟨true, ⟨rfl, rfl, rfl, trivial⟩, hx4, fun _ => .inr (by omega), fun h => by simp at h⟩
      · intro w4 hx4
        exact ⟨false, ⟨rfl, rfl, rfl, trivial⟩, hx4, fun h => by simp at h, fun _ => ⟨by omega, by omega⟩⟩
  rintro t w4 ⟨hx4, ht1, ht2⟩
  have hb4 := hb3.ext hx4
  have hbR4 := hbR3.ext hx4
  have hc04 := hc03.ext hx4
  have sz4 := hx4.size
  cases t with
  | true =>
    refine Go1.np (Go1.fl 4 ?_)
    refine Go0.st (off := 4) (vs := [.bool true]) hb4 (by rw [Addr.add_lit]) rfl (by simp) (by simp [Value.oneCell']) ?_
    intro w5 hc5 hb5 _
    refine Go1.bd [.string em, .slice none 0 0] ?_
    refine Go0.st (off := 0) (vs := [.string em, .slice none 0 0]) (hbR4.chg hc5 (by omega)) rfl rfl (by simp) (by simp [Value.oneCell']) ?_
    intro w6 hc6 hb6 _
    have hb6 : Blk w6 w.heap.size 27 [.string em, .slice none 0 0] := hb6
    refine Ld.agg (vs := [.string em, .slice none 0 0]) (Blk.lc0 (post := []) hb6) ?_
    refine badK w6 ((Chg.trans (hc04.trans' hc5) hc6).mono fun x hx h => by omega) (Blk.chg hc6 (by omega) hb5) ?_
    intro y rest hy h
    rcases ht1 rfl with h1 | h1
    · exfalso
      rw [← hl2, drp_end h1, lexA_nil] at h
      simp only [Option.some.injEq] at h
      exact rnS_ne_nil (List.append_eq_nil_iff.1 h.symm).1
    · left; omega
  | false =>
  obtain ⟨hjs, hn9⟩ := ht2 rfl
  refine Go1.np (Go1.fl 1 (Ld.one (hb4.at_ 1 rfl) ?_))
  refine Lp.go ttOkP (by kernel_rfl) (fun _ : Nat => [(0, .pointer (some ⟨g, 0, none⟩)), (2, .pointer (some ⟨w.heap.size, 0, none⟩)), (3, .int .i64 (j : Nat))])
    (fun k w' => Chg (fun k => k = g) w w' ∧ Blk w' g 51 (stc s k d (n + 1) false) ∧ Blk w' w.heap.size 27 [.string em, .slice none 0 0] ∧ (j ≤ k ∧ k ≤ s.size) ∧ w1.heap.size ≤ w'.heap.size ∧ ∀ b ∈ (drp s j).take (k - j), atB b = true) (fun k => s.size - k) j
    ⟨rfl, rfl, rfl, trivial⟩ ⟨hc04, hb4, hbR4, ⟨Nat.le_refl _, hj⟩, by omega, by simp⟩ ?_
  rintro k w5 ⟨hc5, hb5, hbR5, ⟨hjk, hk⟩, hz5, hat⟩
  refine Dr.cut (β := Bool) (fun t => [(0, .pointer (some ⟨g, 0, none⟩)), (2, .pointer (some ⟨w.heap.size, 0, none⟩)), (3, .int .i64 (j : Nat)), (61, .bool t)]) (fun t w' => Ext w5 w' ∧ (t = true ↔ ∃ h : k < s.size, AtomP s[k].toNat)) ?_ ?_
  · refine Dr.x [0, 1, 2, 3, 4, 5, 6, 7, 8, 9, 10, 11, 12, 13, 14, 15, 16, 17, 18, 19, 20, 21] ttOkP ?_
    refine GoS.np (GoS.fl 1 (LdS.x1 (hb5.at_ 1 rfl) ?_))
    refine GoS.np (GoS.fl 0 (LdS.x1 (hb5.at_ 0 rfl) ?_))
    refine Cm.s (fun hlt => ?_) (fun hge => ?_)
    · have hlt : k < s.size := by omega
      refine GoS.np (GoS.fl 0 (LdS.x1 (hb5.at_ 0 rfl) ?_))
      refine GoS.np (GoS.fl 1 (LdS.x1 (hb5.at_ 1 rfl) (GoS.ixS hlt ?_)))
      refine ⟨fun u hu => ?_⟩
      refine (c_l2Byte _).mono ?_
      rintro _ u2 ⟨rfl, hu2⟩
      obtain rfl : u = u2 := hu2.symm
      refine Af.ext hu ?_
      intro w6 hx6
      exact ⟨decide (AtomP s[k].toNat), ⟨rfl, rfl, rfl, rfl, trivial⟩, hu.trans hx6, by simp [hlt]⟩
    · intro w6 hx6
      exact ⟨false, ⟨rfl, rfl, rfl, rfl, trivial⟩, hx6, by simp; intro h; omega⟩
  rintro t w6 ⟨hx6, ht⟩
  have hb6 := hb5.ext hx6
  have hbR6 := hbR5.ext hx6
  have sz6 := hx6.size
  cases t with
  | true =>
    obtain ⟨hks, hka⟩ := ht.1 rfl
    refine Go1.np (Go1.fl 1 (Ld.one (hb6.at_ 1 rfl) ?_))
    refine Wr.n (k + 1) (by simp) (by omega) ?_
    refine Go1.np (Go1.fl 1 ?_)
    refine Go0.st (off := 1) (vs := [.int .i64 (k + 1 : Nat)]) hb6 (by rw [Addr.add_lit]) rfl (by simp) (by simp [Value.oneCell']) ?_
    intro w7 hc7 hb7 _
    have hb7 : Blk w7 g 51 (stc s (k + 1) d (n + 1) false) := hb7
    have sz7 := hc7.size
    refine ⟨k + 1, ⟨rfl, rfl, rfl, trivial⟩, ⟨(hc5.ext hx6).trans' hc7, hb7, hbR6.chg hc7 (by omega), ⟨by omega, hks⟩, by omega, ?_⟩, by omega⟩
    have hjk' : k - j < (drp s j).length := by simp; omega
    have e : k + 1 - j = (k - j) + 1 := by omega
    rw [e, List.take_succ_eq_append_getElem hjk']
    intro b hb
    rcases List.mem_append.1 hb with hb | hb
    · exact hat b hb
    · have hbk : b = s[k] := by
        have h1 : b = (drp s j)[k - j] := by simpa using hb
        rw [h1, List.getElem_drop]
        have : j + (k - j) = k := by omega
        simp only [this]
        rfl
      rw [hbk]
      simpa [atB] using hka
  | false =>
  have hends : Ends (drp s k) := by
    by_cases hks : k < s.size
    · rw [drp_cons hks]
      simp only [Ends]
      cases h : atB s[k] with
      | false => rfl
      | true => exact absurd (ht.2 ⟨hks, by simpa [atB] using h⟩) (by simp)
    · rw [drp_end (by omega)]; trivial
  refine Go1.np (Go1.fl 1 (Ld.one (hb6.at_ 1 rfl) ?_))
  refine Cm.s (fun hgt => ?_) (fun hle => ?_)
  · have hgt : j < k := by omega
    refine Dr.x [0, 1, 2, 3, 4, 5, 6, 7, 8, 9, 10, 11] ttOkP ?_
    refine GoS.np (GoS.fl 0 (LdS.x1 (hb6.at_ 0 rfl) ?_))
    refine GoS.np (GoS.fl 1 (LdS.x1 (hb6.at_ 1 rfl) ?_))
    refine GoS.of1 (run_sub Try.underlying9 hjk hk) ?_
    refine GoS.bd [.string (s.extract j k), .slice none 0 0] ?_
    refine ⟨fun u hu => ?_⟩
    refine Go0.st (off := 0) (vs := [.string (s.extract j k), .slice none 0 0]) (hbR6.ext hu) rfl rfl (by simp) (by simp [Value.oneCell']) ?_
    intro u2 hcu hbu _
    have hbu : Blk u2 w.heap.size 27 [.string (s.extract j k), .slice none 0 0] := hbu
    refine Af.nw ?_
    intro w7 hx7
    refine Ld.agg (vs := [.string (s.extract j k), .slice none 0 0]) (Blk.lc0 (post := []) (hbu.ext hx7)) ?_
    have hsz : (s.extract j k).size = k - j := by
      rw [ByteArray.size_extract]; omega
    have hne : s.extract j k ≠ em := fun e => by
      rw [e] at hsz
      have : em.size = 0 := rfl
      omega
    refine ⟨(Chg.trans ((hc5.ext hx6).ext hu) hcu).mono (fun x hx h => by omega) |>.ext hx7, .mk (s.extract j k) [], _, [], k, d, n + 1, false, rfl, Kids.nil, Fresh.nil _ _, ((hb6.ext hu).chg hcu (by omega)).ext hx7, ⟨Nat.zero_le _, by show (s.extract j k).size ≤ _; omega, Rose.AlL_of (by simp [Rose.kids])⟩, hk, fun _ => ?_, fun h => by simp at h⟩
    refine ⟨rfl, by omega, (wsS_atom hne).2 rfl, ?_, ?_, hn9, ?_⟩
    · rw [← hl2, rnS_atom hne, sub_list]
      have e : drp s j = (drp s j).take (k - j) ++ drp s k := by
        conv => lhs; rw [← List.take_append_drop (k - j) (drp s j)]
        rw [List.drop_drop]
        congr 2
        omega
      conv => lhs; rw [e]
      refine lexA_at hat (fun h => ?_) hends
      have h1 := congrArg List.length h
      simp at h1
      omega
    · show n + 1 = n + 1 + Rose.cnt ([] : List Sx)
      rw [cnt_nil]
    · rw [dpS_atom hne]
      omega
  · have hkj : k = j := by omega
    subst hkj
    have hna : ¬ AtomP s[k].toNat := fun h => by simpa using ht.2 ⟨hjs, h⟩
    refine Dr.cut (β := Bool) (fun t => [(0, .pointer (some ⟨g, 0, none⟩)), (2, .pointer (some ⟨w.heap.size, 0, none⟩)), (103, .bool t)]) (fun t w' => Ext w6 w' ∧ (t = true → s[k].toNat ≠ 40 ∨ d = 14) ∧ (t = false → s[k].toNat = 40 ∧ d ≠ 14)) ?_ ?_
    · refine Dr.x [0, 1, 2, 3, 4, 5, 6, 7, 8, 9, 10, 11, 12, 13, 14, 15, 16] ttOkP ?_
      refine GoS.np (GoS.fl 0 (LdS.x1 (hb6.at_ 0 rfl) ?_))
      refine GoS.np (GoS.fl 1 (LdS.x1 (hb6.at_ 1 rfl) (GoS.ixS hjs ?_)))
      refine Cm.ns (fun hne => ?_) (fun he => ?_)
      · intro w7 hx7
        exact ⟨true, ⟨rfl, rfl, rfl, trivial⟩, hx7, fun _ => .inl (by omega), fun h => by simp at h⟩
      · refine GoS.np (GoS.fl 2 (LdS.x1 (hb6.at_ 2 rfl) ?_))
        refine Cm.s (fun h14 => ?_) (fun h14 => ?_)
        · intro w7 hx7
          exact ⟨true, ⟨rfl, rfl, rfl, trivial⟩, hx7, fun _ => .inr (by omega), fun h => by simp at h⟩
        · intro w7 hx7
          exact ⟨false, ⟨rfl, rfl, rfl, trivial⟩, hx7, fun h => by simp at h, fun _ => ⟨by omega, by omega⟩⟩
    rintro t w7 ⟨hx7, hq1, hq2⟩
    have hb7 := hb6.ext hx7
    have hbR7 := hbR6.ext hx7
    have hc07 := (hc5.ext hx6).ext hx7
    have sz7 := hx7.size
    cases t with
    | true =>
      refine Go1.np (Go1.fl 4 ?_)
      refine Go0.st (off := 4) (vs := [.bool true]) hb7 (by rw [Addr.add_lit]) rfl (by simp) (by simp [Value.oneCell']) ?_
      intro w8 hc8 hb8 _
      refine Go1.bd [.string em, .slice none 0 0] ?_
      refine Go0.st (off := 0) (vs := [.string em, .slice none 0 0]) (hbR7.chg hc8 (by omega)) rfl rfl (by simp) (by simp [Value.oneCell']) ?_
      intro w9 hc9 hb9 _
      have hb9 : Blk w9 w.heap.size 27 [.string em, .slice none 0 0] := hb9
      refine Ld.agg (vs := [.string em, .slice none 0 0]) (Blk.lc0 (post := []) hb9) ?_
      refine badK w9 ((Chg.trans (hc07.trans' hc8) hc9).mono fun x hx h => by omega) (Blk.chg hc9 (by omega) hb8) ?_
      intro y rest hy h
      have hbk := hbl hjs
      rw [← hl2, drp_cons hjs] at h
      by_cases h40 : s[k].toNat = 40
      · rcases hq1 rfl with h1 | h1
        · exact absurd h40 h1
        · rw [lexA_lp h40] at h
          obtain ⟨T, _, hT⟩ := Option.map_eq_some_iff.1 h
          obtain ⟨hl, _⟩ := rnS_lp_head (show Wd.lp :: T = _ from hT)
          right
          rw [dpS_at, if_pos hl]
          omega
      · exfalso
        by_cases h41 : s[k].toNat = 41
        · rw [lexA_rp h41] at h
          obtain ⟨T, _, hT⟩ := Option.map_eq_some_iff.1 h
          exact rnS_ne_rp (show rnS y ++ rest = Wd.rp :: T from hT.symm)
        · rw [lexA_bad hna hbk h40 h41] at h
          cases h
    | false =>
    obtain ⟨h40, hd14⟩ := hq2 rfl
    obtain ⟨m', rfl⟩ : ∃ m', m = m' + 1 := ⟨m - 1, by omega⟩
    have ih : ReadSaid m' := ih m' rfl
    refine Go1.np (Go1.fl 1 (Ld.one (hb7.at_ 1 rfl) ?_))
    refine Wr.n (k + 1) (by simp) (by omega) ?_
    refine Go1.np (Go1.fl 1 ?_)
    refine Go0.st (off := 1) (vs := [.int .i64 (k + 1 : Nat)]) hb7 (by rw [Addr.add_lit]) rfl (by simp) (by simp [Value.oneCell']) ?_
    intro w8 hc8 hb8 _
    have hb8 : Blk w8 g 51 (stc s (k + 1) d (n + 1) false) := hb8
    refine Go1.np (Go1.fl 2 (Ld.one (hb8.at_ 2 rfl) ?_))
    refine Wr.n (d + 1) (by simp) (by omega) ?_
    refine Go1.np (Go1.fl 2 ?_)
    refine Go0.st (off := 2) (vs := [.int .i64 (d + 1 : Nat)]) hb8 (by rw [Addr.add_lit]) rfl (by simp) (by simp [Value.oneCell']) ?_
    intro w9 hc9 hb9 _
    have hb9 : Blk w9 g 51 (stc s (k + 1) (d + 1) (n + 1) false) := hb9
    have sz8 := hc8.size
    have sz9 := hc9.size
    have hc79 := hc8.trans' hc9
    have hbR9 := hbR7.chg hc79 (by omega)
    have hc09 := hc07.trans' hc79
    refine Go1.bd [.string em, .slice none 0 0] ?_
    refine Go1.al tiSx ?_
    intro wa hxa hba
    have lta := hba.lt
    have sza := hxa.size
    refine Go0.st (off := 0) (vs := [.string em, .slice none 0 0]) hba rfl rfl (by simp [Value.cells]) (by simp [Value.oneCell']) ?_
    intro wb hcb hbX _
    have szb := hcb.size
    have hbX : Blk wb w9.heap.size 27 [.string em, .slice none 0 0] := hbX
    have ltb := hbX.lt
    have hx9b : Ext w9 wb := hxa.chg hcb (by omega)
    refine Lp.go ttOkP (by kernel_rfl) (fun _ : Nat × Bool => [(0, .pointer (some ⟨g, 0, none⟩)), (2, .pointer (some ⟨w.heap.size, 0, none⟩)), (4, .pointer (some ⟨w9.heap.size, 0, none⟩))])
      (fun q w' => Chg (fun k => k = g) w w' ∧ wb.heap.size ≤ w'.heap.size ∧ q.1 ≤ s.size ∧ Blk w' w.heap.size 27 [.string em, .slice none 0 0] ∧ ∃ (ts : List Sx) (r : Value) (O cs : List Nat) (dd nn : Nat),
        Blk w' g 51 (stc s q.1 dd nn q.2) ∧ Blk w' w9.heap.size 27 [.string em, r] ∧ GrowT encS 27 2 wb.heap.size w' r ts O cs ∧ (ts.length ≤ 901 ∧ Rose.AlL (fun l : ByteArray => l.size ≤ s.size) ts) ∧
        (q.2 = false → dd = d + 1 ∧ k < q.1 ∧ wsL ts ∧ lexA [] (drp s (k + 1)) = (lexA [] (drp s q.1)).map (rnL ts ++ ·) ∧ nn = n + 1 + Rose.cnt ts ∧ nn ≤ 900 ∧ d + 1 + dpSL ts ≤ 14) ∧ (q.2 = true → RdBad s i d n))
      (fun q => match q.2 with | true => 0 | false => 1 + (s.size - q.1)) (k + 1, false)
      ⟨rfl, rfl, rfl, trivial⟩ ⟨hc09.ext hx9b, Nat.le_refl _, hjs, hbR9.ext hx9b, [], _, [], [], d + 1, n + 1, hb9.ext hx9b, hbX, GrowT.nil, ⟨Nat.zero_le _, Rose.AlL_of (by simp)⟩, fun _ => ⟨rfl, by omega, by simp [wsL], by rw [rnL_nil]; cases lexA [] (drp s (k + 1)) <;> rfl, by rw [cnt_nil], hn9, by rw [dpSL_nil]; omega⟩, fun h => by simp at h⟩ ?_
    rintro ⟨q, bad⟩ wc ⟨hcc, hzc, hqs, hbRc, ts, r, O, cs, dd, nn, hbc, hbXc, hgt, ⟨htl, htA⟩, hgood, hbad⟩
    dsimp only at hqs hbc hgood hbad
    have hgw : ∀ b ∈ O ++ cs, b ≠ g := fun b hb => by have := hgt.lo b hb; omega
    refine Go1.np (Go1.fl 4 (Ld.one (hbc.at_ 4 rfl) ?_))
    cases bad with
    | true =>
      obtain ⟨ds, hkd, hfd⟩ := hgt.kids (by omega)
      obtain ⟨ao, cap, rfl, _, _⟩ := hkd.form
      refine Ld.agg (vs := [.string em, .slice ao ts.length cap]) (Blk.lc0 (post := []) hbXc) ?_
      refine Go0.st (off := 0) (vs := [.string em, .slice ao ts.length cap]) hbRc rfl rfl (by simp) (by simp [Value.oneCell']) ?_
      intro wd hcd hbd _
      have hbd : Blk wd w.heap.size 27 [.string em, .slice ao ts.length cap] := hbd
      refine Ld.agg (vs := [.string em, .slice ao ts.length cap]) (Blk.lc0 (post := []) hbd) ?_
      have hn2 : ∀ b ∈ ds, ¬ b = w.heap.size := fun b hb => by have := hfd.lo b hb; omega
      exact ⟨(Chg.trans hcc hcd).mono fun x hx h => by omega, .mk em ts, _, ds, q, dd, nn, true, rfl, hkd.chg hcd hn2, (hfd.chg hcd hn2).mono (by omega), hbc.chg hcd (by omega), ⟨by show ts.length ≤ 1000; omega, Nat.zero_le _, htA⟩, hqs, fun h => by simp at h, fun _ => hbad rfl⟩
    | false =>
    obtain ⟨rfl, hkq, hws, hlex, hnn, hn900, hdp⟩ := hgood rfl
    have htc : ts.length ≤ Rose.cnt ts := Rose.wtL_length _ _
    refine (c_l2Skip hbc hqs (by omega)).mono ?_
    rintro _ wd ⟨jj, hcd, hbd, ⟨hqj, hjj⟩, hlj, hblj⟩
    have szd := hcd.size
    have hbRd := hbRc.chg hcd (by omega)
    have hbXd := hbXc.chg hcd (by omega)
    have hgtd := hgt.chg hcd hgw
    have hcdd := hcc.trans' hcd
    rw [← hlj] at hlex
    refine Dr.cut (β := Bool) (fun t => [(0, .pointer (some ⟨g, 0, none⟩)), (2, .pointer (some ⟨w.heap.size, 0, none⟩)), (4, .pointer (some ⟨w9.heap.size, 0, none⟩)), (153, .bool t)]) (fun t w' => Ext wd w' ∧ (t = true → ∃ h : jj < s.size, s[jj].toNat = 41) ∧ (t = false → ∀ h : jj < s.size, s[jj].toNat ≠ 41)) ?_ ?_
    · refine Dr.x [0, 1, 2, 3, 4, 5, 6, 7, 8, 9, 10, 11, 12, 13, 14, 15, 16, 17, 18, 19, 20, 21] ttOkP ?_
      refine GoS.np (GoS.fl 1 (LdS.x1 (hbd.at_ 1 rfl) ?_))
      refine GoS.np (GoS.fl 0 (LdS.x1 (hbd.at_ 0 rfl) ?_))
      refine Cm.s (fun hlt => ?_) (fun hge => ?_)
      · have hlt : jj < s.size := by omega
        refine GoS.np (GoS.fl 0 (LdS.x1 (hbd.at_ 0 rfl) ?_))
        refine GoS.np (GoS.fl 1 (LdS.x1 (hbd.at_ 1 rfl) (GoS.ixS hlt ?_)))
        refine Cm.s (fun h41 => ?_) (fun h41 => ?_)
        · intro we hxe
          exact ⟨true, ⟨rfl, rfl, rfl, rfl, trivial⟩, hxe, fun _ => ⟨hlt, by omega⟩, fun h => by simp at h⟩
        · intro we hxe
          exact ⟨false, ⟨rfl, rfl, rfl, rfl, trivial⟩, hxe, fun h => by simp at h, fun _ _ h => h41 (by omega)⟩
      · intro we hxe
        exact ⟨false, ⟨rfl, rfl, rfl, rfl, trivial⟩, hxe, fun h => by simp at h, fun _ h => absurd h (by omega)⟩
    rintro t we ⟨hxe, hr1, hr2⟩
    have sze := hxe.size
    have hbe := hbd.ext hxe
    have hbRe := hbRd.ext hxe
    have hbXe := hbXd.ext hxe
    have hgte := hgtd.ext hxe
    have hce := hcdd.ext hxe
    cases t with
    | true =>
      obtain ⟨hjs2, h41⟩ := hr1 rfl
      refine Go1.np (Go1.fl 1 (Ld.one (hbe.at_ 1 rfl) ?_))
      refine Wr.n (jj + 1) (by simp) (by omega) ?_
      refine Go1.np (Go1.fl 1 ?_)
      refine Go0.st (off := 1) (vs := [.int .i64 (jj + 1 : Nat)]) hbe (by rw [Addr.add_lit]) rfl (by simp) (by simp [Value.oneCell']) ?_
      intro wf hcf hbf _
      have hbf : Blk wf g 51 (stc s (jj + 1) (d + 1) nn false) := hbf
      refine Go1.np (Go1.fl 2 (Ld.one (hbf.at_ 2 rfl) ?_))
      refine Wr.n d (by simp) (by omega) ?_
      refine Go1.np (Go1.fl 2 ?_)
      refine Go0.st (off := 2) (vs := [.int .i64 (d : Nat)]) hbf (by rw [Addr.add_lit]) rfl (by simp) (by simp [Value.oneCell']) ?_
      intro wg hcg hbg _
      have hbg : Blk wg g 51 (stc s (jj + 1) d nn false) := hbg
      have heg := hcf.trans' hcg
      have hgtg := hgte.chg heg hgw
      obtain ⟨ds, hkd, hfd⟩ := hgtg.kids (by omega)
      obtain ⟨ao, cap, rfl, _, _⟩ := hkd.form
      refine Ld.agg (vs := [.string em, .slice ao ts.length cap]) (Blk.lc0 (post := []) (hbXe.chg heg (by omega))) ?_
      refine Go0.st (off := 0) (vs := [.string em, .slice ao ts.length cap]) (hbRe.chg heg (by omega)) rfl rfl (by simp) (by simp [Value.oneCell']) ?_
      intro wh hch hbh _
      have hbh : Blk wh w.heap.size 27 [.string em, .slice ao ts.length cap] := hbh
      refine Ld.agg (vs := [.string em, .slice ao ts.length cap]) (Blk.lc0 (post := []) hbh) ?_
      have hn2 : ∀ b ∈ ds, ¬ b = w.heap.size := fun b hb => by have := hfd.lo b hb; omega
      refine ⟨(Chg.trans (hce.trans' heg) hch).mono fun x hx h => by omega, .mk em ts, _, ds, jj + 1, d, nn, false, rfl, hkd.chg hch hn2, (hfd.chg hch hn2).mono (by omega), hbg.chg hch (by omega), ⟨by show ts.length ≤ 1000; omega, Nat.zero_le _, htA⟩, hjs2, fun _ => ?_, fun h => by simp at h⟩
      refine ⟨rfl, by omega, (wsS_list rfl).2 hws, ?_, hnn, hn900, ?_⟩
      · rw [← hl2, drp_cons hjs, lexA_lp h40, hlex, drp_cons hjs2, lexA_rp h41, rnS_list rfl]
        cases lexA [] (drp s (jj + 1)) <;> simp [flu]
      · rw [dpS_list rfl]
        omega
    | false =>
      have hr2 := hr2 rfl
      have hne2 : w9.heap.size ≠ g := by omega
      refine Dr.g [0, 2, 3, 1, 4, 5, 6, 7] [(3, 1)] [4] ttOkP ?_
      refine GoS.fl 1 ?_
      refine ⟨?_, ?_⟩
      · refine ⟨fun u1 hu1 => ?_⟩
        have szu1 := hu1.size
        refine (ih (by omega) (hbe.ext hu1) hjj hs hn900).mono ?_
        rintro _ u2 ⟨hcu, x, v, bs, j3, d3, n3, b3, rfl, hkx, hfx, hb3, ⟨hxl, hxs, hxA⟩, hj3, hgo, hba⟩
        have szu2 := hcu.size
        obtain ⟨aox, capx, rfl, _, _⟩ := hkx.form
        refine Af.nw ?_
        refine LdS.x1 (((hbXe.ext hu1).chg hcu (by omega)).at_ 1 rfl) ?_
        refine ⟨fun u3 hu3 => ?_⟩
        have szu3 := hu3.size
        refine Go1.bs 27 [.string x.lab, .slice aox x.kids.length capx] (size := 2) (bytes := 40) Try.underlying25 tiSx (by decide) (by decide) (by kernel_rfl) ?_
        intro u4 hx4 hb4
        have szu4 := hx4.size
        refine Af.ext (hu3.trans hx4) ?_
        refine ⟨fun u5 hu5 => ?_⟩
        have szu5 := hu5.size
        have h25 := (hu3.trans hx4).trans hu5
        have hg5 := (((hgte.ext hu1).chg hcu hgw).ext h25)
        obtain ⟨vsT, hgrT, hklT, hfrT⟩ := hg5
        refine Go1.app (size := 2) (bytes := 40) Try.underlying25 tiSx (by rfl) (by decide) hgrT (m := 1) (news := [.string x.lab, .slice aox x.kids.length capx]) (Blk.lc0 (post := []) (hb4.ext hu5)) (by simp) (by simp [Value.oneCell']) (by omega) (by decide) ?_
        intro rf u6 Of hcf hgf hOf
        have szu6 := hcf.size
        have hgF := GrowT.snocE (t := x) (v := .slice aox x.kids.length capx) hklT hfrT (hkx.ext h25) (hfx.ext h25) (fun b hb h => by have := hgt.lt b h; have := hfx.lo b hb; omega) hcf hgf hOf (by omega) (by omega)
        have hloT : ∀ b ∈ O, wb.heap.size ≤ b := fun b hb => hfrT.lo b (List.mem_append_left _ hb)
        obtain ⟨dsF, hkF, _⟩ := hgF.kids (by simp; omega)
        obtain ⟨aof, capf, hrf, _, _⟩ := hkF.form
        generalize hmm : (ts ++ [x]).length = qn at hrf
        subst hrf
        refine Af.nw ?_
        refine GoS.fl 1 ?_
        refine ⟨fun u7 hu7 => ?_⟩
        have hnX : ∀ b ∈ O, w9.heap.size ≠ b := fun b hb => by have := hloT b hb; omega
        have hnR : ∀ b ∈ O, w.heap.size ≠ b := fun b hb => by have := hloT b hb; omega
        have hnG : ∀ b ∈ O, g ≠ b := fun b hb => by have := hloT b hb; omega
        refine Go0.st (off := 1) (vs := [.slice aof qn capf]) (((((hbXe.ext hu1).chg hcu (by omega)).ext h25).chg hcf fun h => hnX _ h rfl).ext hu7) (by rw [Addr.add_lit]) rfl (by simp [Value.cells]) (by simp [Value.oneCell']) ?_
        intro u8 hc8' hb8' _
        have hb8' : Blk u8 w9.heap.size 27 [.string em, .slice aof qn capf] := hb8'
        refine Af.nw ?_
        intro u9 hu9
        have sz7' := hu7.size
        have sz8' := hc8'.size
        have sz9' := hu9.size
        have hcE : Chg (fun k => k = g) w u9 := by
          have h1 := (hce.ext hu1).trans' hcu |>.ext h25
          have h2 := (Chg.trans h1 hcf).mono (M' := fun k => k = g) fun y hy h => h.elim id fun h => by have := hloT y h; omega
          exact ((Chg.trans (h2.ext hu7) hc8').mono fun y hy h => by omega).ext hu9
        refine ⟨(j3, b3), ⟨rfl, rfl, rfl, trivial⟩, ⟨hcE, by omega, hj3, ?_, ts ++ [x], _, Of, cs ++ bs, d3, n3, ?_, hb8'.ext hu9, ?_, ⟨by simp; omega, ?_⟩, fun hb => ?_, fun hb => bad_elem hl2.symm ⟨hjs, h40⟩ hws hlex hnn (fun h => ⟨hblj h, hr2 h⟩) (hba hb)⟩, ?_⟩
        · exact (((((hbRe.ext hu1).chg hcu (by omega)).ext h25).chg hcf fun h => hnR _ h rfl).ext hu7 |>.chg hc8' (by omega)).ext hu9
        · exact ((((hb3.ext h25).chg hcf fun h => hnG _ h rfl).ext hu7).chg hc8' (by omega)).ext hu9
        · exact ((hgF.ext hu7).chg hc8' fun b hb => by have := hgF.lo b hb; omega).ext hu9
        · exact Rose.AlL_of fun y hy => by
            rcases List.mem_append.1 hy with hy | hy
            · exact Rose.AlL_mem htA hy
            · obtain rfl : y = x := by simpa using hy
              exact ⟨hxs, hxA⟩
        · obtain ⟨g1, g2, g3, g4, g5, g6, g7⟩ := hgo hb
          refine ⟨g1, by show k < j3; omega, (wsL_iff _).2 fun y hy => ?_, ?_, ?_, g6, ?_⟩
          · rcases List.mem_append.1 hy with hy | hy
            · exact (wsL_iff _).1 hws y hy
            · obtain rfl : y = x := by simpa using hy
              exact g3
          · rw [hlex, g4, rnL_append, rnL_one]
            show _ = (lexA [] (drp s j3)).map _
            cases lexA [] (drp s j3) <;> simp
          · have : Rose.cnt (ts ++ [x]) = Rose.cnt ts + (1 + Rose.cnt x.kids) := by
              show Rose.wtL _ _ = Rose.wtL _ _ + (1 + Rose.wtL _ _)
              rw [Rose.wtL_append, Rose.wtL_cons, Rose.wtL_nil]
              simp
            omega
          · rw [dpSL_append, dpSL_cons, dpSL_nil]
            omega
        · cases b3 with
          | true => show 0 < 1 + (s.size - q); omega
          | false =>
            have := (hgo rfl).lt
            show 1 + (s.size - j3) < 1 + (s.size - q)
            omega
      · refine LdS.x1 (hbXe.at_ 1 rfl) ?_
        refine ⟨fun u1 hu1 => ?_⟩
        have szu1 := hu1.size
        refine (ih (by omega) (hbe.ext hu1) hjj hs hn900).mono ?_
        rintro _ u2 ⟨hcu, x, v, bs, j3, d3, n3, b3, rfl, hkx, hfx, hb3, ⟨hxl, hxs, hxA⟩, hj3, hgo, hba⟩
        have szu2 := hcu.size
        obtain ⟨aox, capx, rfl, _, _⟩ := hkx.form
        refine Af.nw ?_
        refine ⟨fun u3 hu3 => ?_⟩
        have szu3 := hu3.size
        refine Go1.bs 27 [.string x.lab, .slice aox x.kids.length capx] (size := 2) (bytes := 40) Try.underlying25 tiSx (by decide) (by decide) (by kernel_rfl) ?_
        intro u4 hx4 hb4
        have szu4 := hx4.size
        refine Af.ext (hu3.trans hx4) ?_
        refine ⟨fun u5 hu5 => ?_⟩
        have szu5 := hu5.size
        have h25 := (hu3.trans hx4).trans hu5
        have hg5 := (((hgte.ext hu1).chg hcu hgw).ext h25)
        obtain ⟨vsT, hgrT, hklT, hfrT⟩ := hg5
        refine Go1.app (size := 2) (bytes := 40) Try.underlying25 tiSx (by rfl) (by decide) hgrT (m := 1) (news := [.string x.lab, .slice aox x.kids.length capx]) (Blk.lc0 (post := []) (hb4.ext hu5)) (by simp) (by simp [Value.oneCell']) (by omega) (by decide) ?_
        intro rf u6 Of hcf hgf hOf
        have szu6 := hcf.size
        have hgF := GrowT.snocE (t := x) (v := .slice aox x.kids.length capx) hklT hfrT (hkx.ext h25) (hfx.ext h25) (fun b hb h => by have := hgt.lt b h; have := hfx.lo b hb; omega) hcf hgf hOf (by omega) (by omega)
        have hloT : ∀ b ∈ O, wb.heap.size ≤ b := fun b hb => hfrT.lo b (List.mem_append_left _ hb)
        obtain ⟨dsF, hkF, _⟩ := hgF.kids (by simp; omega)
        obtain ⟨aof, capf, hrf, _, _⟩ := hkF.form
        generalize hmm : (ts ++ [x]).length = qn at hrf
        subst hrf
        refine Af.nw ?_
        refine GoS.fl 1 ?_
        refine ⟨fun u7 hu7 => ?_⟩
        have hnX : ∀ b ∈ O, w9.heap.size ≠ b := fun b hb => by have := hloT b hb; omega
        have hnR : ∀ b ∈ O, w.heap.size ≠ b := fun b hb => by have := hloT b hb; omega
        have hnG : ∀ b ∈ O, g ≠ b := fun b hb => by have := hloT b hb; omega
        refine Go0.st (off := 1) (vs := [.slice aof qn capf]) (((((hbXe.ext hu1).chg hcu (by omega)).ext h25).chg hcf fun h => hnX _ h rfl).ext hu7) (by rw [Addr.add_lit]) rfl (by simp [Value.cells]) (by simp [Value.oneCell']) ?_
        intro u8 hc8' hb8' _
        have hb8' : Blk u8 w9.heap.size 27 [.string em, .slice aof qn capf] := hb8'
        refine Af.nw ?_
        intro u9 hu9
        have sz7' := hu7.size
        have sz8' := hc8'.size
        have sz9' := hu9.size
        have hcE : Chg (fun k => k = g) w u9 := by
          have h1 := (hce.ext hu1).trans' hcu |>.ext h25
          have h2 := (Chg.trans h1 hcf).mono (M' := fun k => k = g) fun y hy h => h.elim id fun h => by have := hloT y h; omega
          exact ((Chg.trans (h2.ext hu7) hc8').mono fun y hy h => by omega).ext hu9
        refine ⟨(j3, b3), ⟨rfl, rfl, rfl, trivial⟩, ⟨hcE, by omega, hj3, ?_, ts ++ [x], _, Of, cs ++ bs, d3, n3, ?_, hb8'.ext hu9, ?_, ⟨by simp; omega, ?_⟩, fun hb => ?_, fun hb => bad_elem hl2.symm ⟨hjs, h40⟩ hws hlex hnn (fun h => ⟨hblj h, hr2 h⟩) (hba hb)⟩, ?_⟩
        · exact (((((hbRe.ext hu1).chg hcu (by omega)).ext h25).chg hcf fun h => hnR _ h rfl).ext hu7 |>.chg hc8' (by omega)).ext hu9
        · exact ((((hb3.ext h25).chg hcf fun h => hnG _ h rfl).ext hu7).chg hc8' (by omega)).ext hu9
        · exact ((hgF.ext hu7).chg hc8' fun b hb => by have := hgF.lo b hb; omega).ext hu9
        · exact Rose.AlL_of fun y hy => by
            rcases List.mem_append.1 hy with hy | hy
            · exact Rose.AlL_mem htA hy
            · obtain rfl : y = x := by simpa using hy
              exact ⟨hxs, hxA⟩
        · obtain ⟨g1, g2, g3, g4, g5, g6, g7⟩ := hgo hb
          refine ⟨g1, by show k < j3; omega, (wsL_iff _).2 fun y hy => ?_, ?_, ?_, g6, ?_⟩
          · rcases List.mem_append.1 hy with hy | hy
            · exact (wsL_iff _).1 hws y hy
            · obtain rfl : y = x := by simpa using hy
              exact g3
          · rw [hlex, g4, rnL_append, rnL_one]
            show _ = (lexA [] (drp s j3)).map _
            cases lexA [] (drp s j3) <;> simp
          · have : Rose.cnt (ts ++ [x]) = Rose.cnt ts + (1 + Rose.cnt x.kids) := by
              show Rose.wtL _ _ = Rose.wtL _ _ + (1 + Rose.wtL _ _)
              rw [Rose.wtL_append, Rose.wtL_cons, Rose.wtL_nil]
              simp
            omega
          · rw [dpSL_append, dpSL_cons, dpSL_nil]
            omega
        · cases b3 with
          | true => show 0 < 1 + (s.size - q); omega
          | false =>
            have := (hgo rfl).lt
            show 1 + (s.size - j3) < 1 + (s.size - q)
            omega
/-- spec.l2Read -/
theorem c_l2Read (m : Nat) : ReadSaid m := by
  induction m with
  | zero => exact c_l2Read' 0 fun m' h => by omega
  | succ m ih => exact c_l2Read' (m + 1) fun m' h => by obtain rfl : m = m' := by omega
                                                        exact ih
/-- What is read: the tree, and whether there is one. -/
def NewSxB (w : World) (o : Option Sx) (r : Value) (w' : World) : Prop := Ext w w' ∧ ∃ v bs, r = .tuple #[.agg #[.string (o.getD (.mk em [])).lab, v], .bool o.isSome] ∧ Kids encS w' v (o.getD (.mk em [])).kids bs ∧ Fresh w.heap.size w' bs
theorem drp0 (s : ByteArray) : drp s 0 = s.data.toList := by simp
/-- spec.ParseSExpr -/
theorem c_sParseSExpr {s : ByteArray} (hs : s.size ≤ 2097152) {w : World} : Ret Try.prog 8 [.string s] w (NewSxB w (prO s.data.toList)) := by
  have hM : maxLen = 9223372036854775807 := rfl
  refine ret_of_vc ttOkP Try.func8 rfl (by kernel_rfl) (by kernel_rfl) ?_
  refine Go1.al tiSx ?_
  intro w1 hx1 hbR
  have ltR := hbR.lt
  refine Go1.bd (stc s 0 0 0 false) ?_
  refine Go1.bx ?_
  intro w2 hx2 hb2
  have lt2 := hb2.lt
  have sz1 := hx1.size
  have sz2 := hx2.size
  refine (c_l2Read 14 (by omega) hb2 (Nat.zero_le _) hs (by omega)).mono ?_
  rintro _ w3 ⟨hc3, x, v, bs, j, d', n', b, rfl, hk3, hf3, hb3, ⟨hxl, hxs, hxA⟩, hj, hgood, hbad⟩
  have sz3 := hc3.size
  obtain ⟨ao, cap, rfl, _, _⟩ := hk3.form
  refine Go1.al tiSx ?_
  intro w4 hx4 hb4
  have lt4 := hb4.lt
  have sz4 := hx4.size
  refine Go0.st (off := 0) (vs := [.string x.lab, .slice ao x.kids.length cap]) hb4 rfl rfl (by simp [Value.cells]) (by simp [Value.oneCell']) ?_
  intro w5 hc5 hbX _
  have hbX : Blk w5 w3.heap.size 27 [.string x.lab, .slice ao x.kids.length cap] := hbX
  have hx35 : Ext w3 w5 := hx4.chg hc5 (by omega)
  have ltX := hbX.lt
  refine (c_l2Skip (hb3.ext hx35) hj (by omega)).mono ?_
  rintro _ w6 ⟨jj, hc6, hb6, ⟨hjj, hjs⟩, hl6, hbl⟩
  have sz6 := hc6.size
  have hk6 := (hk3.ext hx35).chg hc6 (fun b hb => by have := hf3.lo b hb; omega)
  have hf6 := (hf3.ext hx35).chg hc6 (fun b hb => by have := hf3.lo b hb; omega)
  have hbX6 := hbX.chg hc6 (by omega)
  have hbR6 : Blk w6 w.heap.size 27 [.string em, .slice none 0 0] := (((hbR.ext hx2).chg hc3 (by omega)).ext hx35).chg hc6 (by omega)
  have hx06 : Ext w w6 := ((((hx1.trans hx2).chg hc3 (fun x hx => by omega)).trans hx35).chg hc6 (fun x hx => by omega))
  have noK : ∀ w', Ext w6 w' → Blk w' w.heap.size 27 [.string em, .slice none 0 0] → (∀ y, ¬ Prs s.data.toList y) → ∀ u, Chg (fun k => k = w.heap.size) w' u → NewSxB w (prO s.data.toList) (.tuple #[.agg #[.string em, .slice none 0 0], .bool false]) u := by
    intro w' hx' _ hno u hcu
    rw [prO_none hno]
    exact ⟨(hx06.trans hx').chg hcu (by omega), _, [], rfl, Kids.nil, Fresh.nil _ _⟩
  have lexS : lexA [] s.data.toList = lexA [] (drp s 0) := by rw [drp0]
  refine Go1.np (Go1.fl 4 (Ld.one (hb6.at_ 4 rfl) ?_))
  cases b with
  | true =>
    refine Go1.bd [.string em, .slice none 0 0] ?_
    refine Go0.st (off := 0) (vs := [.string em, .slice none 0 0]) hbR6 rfl rfl (by simp) (by simp [Value.oneCell']) ?_
    intro w7 hc7 hb7 _
    have hb7 : Blk w7 w.heap.size 27 [.string em, .slice none 0 0] := hb7
    refine Ld.agg (vs := [.string em, .slice none 0 0]) (Blk.lc0 (post := []) hb7) ?_
    refine noK w6 (Chg.refl _ _) hbR6 (fun y hy => ?_) w7 hc7
    have h1 := hbad rfl y [] (wsS_of_fm hy.2.2.1) (by rw [← lexS, hy.1, List.append_nil])
    have h2 := hy.2.1
    have h3 := hy.2.2.2
    omega
  | false =>
  have hg := hgood rfl
  have hgl := hg.lex
  rw [← hl6, ← lexS] at hgl
  refine Go1.np (Go1.fl 1 (Ld.one (hb6.at_ 1 rfl) ?_))
  refine Cm.ns (fun hne => ?_) (fun he => ?_)
  · refine Go1.bd [.string em, .slice none 0 0] ?_
    refine Go0.st (off := 0) (vs := [.string em, .slice none 0 0]) hbR6 rfl rfl (by simp) (by simp [Value.oneCell']) ?_
    intro w7 hc7 hb7 _
    have hb7 : Blk w7 w.heap.size 27 [.string em, .slice none 0 0] := hb7
    refine Ld.agg (vs := [.string em, .slice none 0 0]) (Blk.lc0 (post := []) hb7) ?_
    refine noK w6 (Chg.refl _ _) hbR6 (fun y hy => ?_) w7 hc7
    have hlt : jj < s.size := by omega
    rw [hy.1] at hgl
    cases hT : lexA [] (drp s jj) with
    | none => rw [hT] at hgl; simp at hgl
    | some T =>
      rw [hT] at hgl
      simp only [Option.map_some, Option.some.injEq] at hgl
      have := (cnlS (x := x) (y := y) (T := T) (U := []) hg.ws (wsS_of_fm hy.2.2.1) (by rw [List.append_nil]; exact hgl.symm)).2
      subst this
      rw [drp_cons hlt] at hT
      have hb := hbl hlt
      by_cases ha : AtomP s[jj].toNat
      · rw [lexA, if_pos (by simpa [atB] using ha)] at hT
        obtain ⟨a, r, e⟩ := lexA_cur (by simp) hT
        cases e
      · by_cases h40 : s[jj].toNat = 40
        · rw [lexA_lp h40] at hT
          obtain ⟨T, _, e⟩ := Option.map_eq_some_iff.1 hT
          simp [flu] at e
        · by_cases h41 : s[jj].toNat = 41
          · rw [lexA_rp h41] at hT
            obtain ⟨T, _, e⟩ := Option.map_eq_some_iff.1 hT
            simp [flu] at e
          · rw [lexA_bad ha hb h40 h41] at hT
            cases hT
  · have hje : jj = s.size := by omega
    rw [drp_end (by omega), lexA_nil] at hgl
    have hgl : lexA [] s.data.toList = some (rnS x) := by rw [hgl]; simp
    refine Ld.agg (vs := [.string x.lab, .slice ao x.kids.length cap]) (Blk.lc0 (post := []) hbX6) ?_
    refine (c_sIsValidSExpr (by omega) (Rose.AlL_imp (fun _ h => Nat.le_trans h (by omega)) _ hxA) hk6).mono ?_
    rw [x.eta]
    rintro _ w7 ⟨⟨b, rfl, hb⟩, hx7⟩
    have hbR7 := hbR6.ext hx7
    cases b with
    | false =>
      refine Go1.bd [.string em, .slice none 0 0] ?_
      refine Go0.st (off := 0) (vs := [.string em, .slice none 0 0]) hbR7 rfl rfl (by simp) (by simp [Value.oneCell']) ?_
      intro w8 hc8 hb8 _
      have hb8 : Blk w8 w.heap.size 27 [.string em, .slice none 0 0] := hb8
      refine Ld.agg (vs := [.string em, .slice none 0 0]) (Blk.lc0 (post := []) hb8) ?_
      refine noK w7 hx7 hbR7 (fun y hy => ?_) w8 hc8
      have e := hgl.symm.trans hy.1
      simp only [Option.some.injEq] at e
      obtain ⟨rfl, _⟩ := cnlS (x := x) (y := y) (T := []) (U := []) hg.ws (wsS_of_fm hy.2.2.1) (by rw [e])
      simpa using hb.2 hy.2
    | true =>
      rw [prO_some ⟨hgl, hb.1 rfl⟩]
      refine Ld.agg (vs := [.string x.lab, .slice ao x.kids.length cap]) (Blk.lc0 (post := []) (hbX6.ext hx7)) ?_
      refine Go0.st (off := 0) (vs := [.string x.lab, .slice ao x.kids.length cap]) hbR7 rfl rfl (by simp) (by simp [Value.oneCell']) ?_
      intro w8 hc8 hb8 _
      have hb8 : Blk w8 w.heap.size 27 [.string x.lab, .slice ao x.kids.length cap] := hb8
      refine Ld.agg (vs := [.string x.lab, .slice ao x.kids.length cap]) (Blk.lc0 (post := []) hb8) ?_
      exact ⟨(hx06.trans hx7).chg hc8 (by omega), _, bs, rfl, (hk6.ext hx7).chg hc8 (fun b hb => by have := hf3.lo b hb; omega), ((hf6.ext hx7).chg hc8 (fun b hb => by have := hf3.lo b hb; omega)).mono (by omega)⟩
end Go.Proofs.Ytliigpmpeldebaa
