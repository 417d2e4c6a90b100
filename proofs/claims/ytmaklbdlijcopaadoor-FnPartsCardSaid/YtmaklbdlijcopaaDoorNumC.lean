/- Contract: the reference's reading of numerals. Conditions: none. -/
import Derived.Test.YtmaklbdlijcopaaDoorNumB
namespace Go.Proofs.YtmaklbdlijcopaaDoor
open Go.RowKit

theorem get_list {s : ByteArray} {i : Nat} (h : i < s.size) : s.data.toList[i]? = some s[i] := by
  have h3 : i < s.data.toList.length := h
  rw [List.getElem?_eq_getElem h3]
  rfl
theorem ba_list {s t : ByteArray} (h : s.data.toList = t.data.toList) : s = t := by
  refine ByteArray.ext ?_
  exact Array.toList_inj.1 h
/-- What lies behind the sign. -/
def tlN (s : ByteArray) : ByteArray := ⟨(s.data.toList.drop 1).toArray⟩
theorem tlN_ex (s : ByteArray) : s.extract 1 s.size = tlN s := by
  apply ByteArray.ext
  unfold tlN
  rw [ByteArray.data_extract]
  apply Array.ext'
  simp
  rw [show s.size = s.data.toList.length from rfl]
  rw [← List.length_drop, List.drop_one, List.take_length]
theorem tlN_size (s : ByteArray) : (tlN s).size = s.size - 1 := by
  show (s.data.toList.drop 1).length = _
  rw [List.length_drop]
  rfl
theorem run_behind {P : Program} {t : TypeId} (ht : P.underlying t = some .string) {s : ByteArray} (hk : 1 ≤ s.size) {kd : IntKind} (w : World) :
    (Instr.sliceAt t (.string s) (some (.int kd (1 : Int))) none none).run P w = .ok (.string (tlN s)) w := by
  have : (1 : Int) ≤ (s.size : Int) := by omega
  rw [← tlN_ex]
  simp [Instr.sliceAt, Instr.slice, run_underlying ht, Instr.sliceBounds, Instr.sliceBound, asIntOf, this]

/-- What the reference's reading of a numeral of at most k digits asks of the text behind the sign. -/
theorem num_tail {s : ByteArray} {n : Int} {k : Nat} (h : itoaB n = s) (h1 : n.natAbs < 10 ^ k) (hk : 1 ≤ k) : tail_ s.data.toList = Lib.decDigits n.natAbs ∧ 1 ≤ (Lib.decDigits n.natAbs).length ∧ (Lib.decDigits n.natAbs).length ≤ k := by
  subst h
  have e : (itoaB n).data.toList = Lib.itoa n := by show (Lib.itoa n).toArray.toList = _; simp
  rw [e]
  refine ⟨(itoa_tail n).1, ?_, ?_⟩
  · rw [Lib.decDigits_length]; exact Lib.nDigits_pos _
  · rw [Lib.decDigits_length]; exact nDigits_le hk h1
theorem tail_neg {l : List UInt8} (h : l.head? = some 45) : tail_ l = l.drop 1 := by
  cases l with
  | nil => cases h
  | cons c r =>
    obtain rfl : c = 45 := by simpa using h
    rfl
theorem tail_pos {l : List UInt8} (h : l.head? ≠ some 45) : tail_ l = l := by
  unfold tail_
  split
  · exact absurd rfl h
  · rfl

/-- What is read: the numeral's number, of at most k digits. -/
noncomputable abbrev rdO (k : Nat) (s : ByteArray) : Option Int := numO (-((10 ^ k : Nat) : Int) + 1) (((10 ^ k : Nat) : Int) - 1) s
theorem rdO_none {k : Nat} {s : ByteArray} (hk : 1 ≤ k) (h : ∀ n : Int, itoaB n = s → tail_ s.data.toList = Lib.decDigits n.natAbs → 1 ≤ (Lib.decDigits n.natAbs).length → (Lib.decDigits n.natAbs).length ≤ k → False) : rdO k s = none :=
  numO_none fun n h0 h1 h2 => by
    have hn : n.natAbs < 10 ^ k := by
      generalize 10 ^ k = q at h1 h2 ⊢
      omega
    obtain ⟨a, b, c⟩ := num_tail h0 hn hk
    exact h n h0 a b c
/-- Behind the loop: the digits' number, with its sign. -/
theorem rdO_val {k : Nat} {s t : ByteArray} {m : Nat} {z : Int} (ht : tail_ s.data.toList = t.data.toList) (hk : 1 ≤ k) (hz : z.natAbs = m) (hs : (s.data.toList.head? = some 45 ∧ z ≤ 0) ∨ (s.data.toList.head? ≠ some 45 ∧ 0 ≤ z)) (hd : ∀ c ∈ t.data.toList, digB c = true) (hl : t.size ≤ k) (hm : m = rdN 0 t.data.toList) : rdO k s = if itoaB z = s then some z else none := by
  have hb : m < 10 ^ k := by
    have h1 := rdN_lt t.data.toList 0 hd
    have h2 : t.data.toList.length = t.size := rfl
    have h3 : 10 ^ t.size ≤ 10 ^ k := Nat.pow_le_pow_right (by decide) hl
    rw [h2] at h1
    omega
  by_cases h : itoaB z = s
  · rw [if_pos h]
    refine numO_some h ?_ ?_
    · generalize 10 ^ k = q at hb ⊢
      omega
    · generalize 10 ^ k = q at hb ⊢
      omega
  · rw [if_neg h]
    refine rdO_none hk fun n h0 h1 _ _ => h ?_
    have e1 : n.natAbs = m := by
      rw [hm, ← ht, h1, rdN_decDigits]
    have e : s.data.toList = Lib.itoa n := by rw [← h0]
    have hne := decDigits_ne n.natAbs
    have hsg : (n < 0 → s.data.toList.head? = some 45) ∧ (0 ≤ n → s.data.toList.head? ≠ some 45) := by
      refine ⟨fun hn => ?_, fun hn => ?_⟩
      · rw [e]
        unfold Lib.itoa
        rw [if_pos hn]
        rfl
      · rw [e]
        unfold Lib.itoa
        rw [if_neg (by omega)]
        have hd := decDigits_dig n.toNat
        generalize Lib.decDigits n.toNat = l at hd
        intro hh
        cases l with
        | nil => cases hh
        | cons c r =>
          obtain rfl : c = 45 := by simpa using hh
          exact absurd (hd 45 List.mem_cons_self) (by decide)
    have : n = z := by
      rcases hs with ⟨a, b⟩ | ⟨a, b⟩
      · have : ¬ 0 ≤ n := fun hn => hsg.2 hn a
        omega
      · have : ¬ n < 0 := fun hn => a (hsg.1 hn)
        omega
    rw [← this]
    exact h0
theorem wrap_sub {q : Nat} (h : 48 ≤ q) (h2 : q < 256) : IntKind.u8.wrap ((q : Int) - 48) = ((q - 48 : Nat) : Int) := by
  have e : ((q : Int) - 48) = ((q - 48 : Nat) : Int) := by omega
  rw [e]
  have : q - 48 < 256 := by omega
  generalize q - 48 = r at this ⊢
  have : ∀ q : Fin 256, IntKind.u8.wrap (q.val : Int) = (q.val : Int) := by decide +kernel
  exact this ⟨r, by omega⟩
/-- A number and whether there is one. -/
noncomputable def numV (o : Option Int) : Value := .tuple #[.int .i64 (o.getD 0), .bool o.isSome]
/-- spec.l1Read -/
theorem c_l1Read {k : Nat} (hk1 : 1 ≤ k) (hk12 : k ≤ 12) {s : ByteArray} (hs : s.size ≤ 9223372036854775806) {w : World} : Ret Tryd.prog 32 [.string s, .int .i64 k] w fun r w' => r = numV (rdO k s) ∧ Ext w w' := by
  have hM : maxLen = 9223372036854775807 := rfl
  refine ret_of_vc ttOk Tryd.func32 rfl (by kernel_rfl) (by kernel_rfl) ?_
  refine Cm.s (fun h0 => ?_) (fun h0 => ?_)
  · have h0 : 0 < s.size := by have : (0 : Int) < (s.size : Int) := h0; omega
    have hh := get_list h0
    have hhd : s.data.toList.head? = some s[0] := by rw [List.head?_eq_getElem?]; exact hh
    refine Go1.ixS h0 ?_
    refine Cm.s (fun hm => ?_) (fun hm => ?_)
    · have h45 : s[0] = 45 := UInt8.toNat_inj.1 (by have : ((s[0].toNat : Nat) : Int) = 45 := hm; show s[0].toNat = 45; omega)
      have hhead : s.data.toList.head? = some 45 := by rw [hhd, h45]
      have htl : tail_ s.data.toList = (tlN s).data.toList := by
        rw [tail_neg hhead]
        rfl
      refine Go1.go (run_behind Tryd.underlying9 (by omega) _) ?_
      have hts : (tlN s).size ≤ s.size := by rw [tlN_size]; omega
      refine Cm.s (fun hlt => ?_) (fun hge => ?_)
      · have hlt : (tlN s).size < 1 := by have : ((tlN s).size : Int) < 1 := hlt; omega
        refine ⟨?_, Chg.refl _ _⟩
        rw [rdO_none hk1 fun n _ h1 h2 _ => by
          have e : ((tlN s).data.toList).length = (tlN s).size := rfl
          rw [htl] at h1
          rw [← h1] at h2
          omega]
        rfl
      have hge : 1 ≤ (tlN s).size := by have : ¬ ((tlN s).size : Int) < 1 := hge; omega
      refine Cm.s (fun hgt => ?_) (fun hle => ?_)
      · have hgt : k < (tlN s).size := by have : (k : Int) < ((tlN s).size : Int) := hgt; omega
        refine ⟨?_, Chg.refl _ _⟩
        rw [rdO_none hk1 fun n _ h1 _ h3 => by
          have e : ((tlN s).data.toList).length = (tlN s).size := rfl
          rw [htl] at h1
          rw [← h1] at h3
          omega]
        rfl
      have hle : (tlN s).size ≤ k := by have : ¬ (k : Int) < ((tlN s).size : Int) := hle; omega
      refine Lp.go ttOk (by kernel_rfl) (fun x : Nat × Nat => [(0, .string s), (1, .int .i64 k), (6, .bool true), (7, .string (tlN s)), (8, .int .i64 x.1), (9, .int .i64 x.2)])
        (fun x w' => w' = w ∧ x.2 ≤ (tlN s).size ∧ (∀ c ∈ (tlN s).data.toList.take x.2, digB c = true) ∧ x.1 = rdN 0 ((tlN s).data.toList.take x.2)) (fun x => (tlN s).size - x.2) (0, 0)
        ⟨rfl, rfl, rfl, rfl, rfl, rfl, trivial⟩ ⟨rfl, Nat.zero_le _, by simp, rfl⟩ ?_
      rintro ⟨m, i⟩ w' ⟨rfl, hi, hd, hm⟩
      simp only at hi hd hm
      have hmb : m < 10 ^ 12 := by
        have h1 := rdN_lt _ 0 hd
        have h2 : ((tlN s).data.toList.take i).length ≤ 12 := by rw [List.length_take]; omega
        have h3 : 10 ^ ((tlN s).data.toList.take i).length ≤ 10 ^ 12 := Nat.pow_le_pow_right (by decide) h2
        omega
      refine Cm.s (fun hlt => ?_) (fun hge2 => ?_)
      · have hlt : i < (tlN s).size := by have : (i : Int) < ((tlN s).size : Int) := hlt; omega
        have hgl := get_list hlt
        have hu : (tlN s)[i].toNat < 256 := UInt8.toNat_lt _
        have hmem : (tlN s)[i] ∈ (tlN s).data.toList := List.mem_of_getElem? hgl
        have bad : ¬ digB (tlN s)[i] = true → rdO k s = none := fun hb => rdO_none hk1 fun n _ h1 _ _ => hb (decDigits_dig n.natAbs _ (by rw [← h1, htl]; exact hmem))
        refine Go1.ixS hlt ?_
        refine Cm.s (fun hlo => ?_) (fun hlo => ?_)
        · have hlo : (tlN s)[i].toNat < 48 := by have : (((tlN s)[i].toNat : Nat) : Int) < 48 := hlo; omega
          refine ⟨?_, Chg.refl _ _⟩
          rw [bad fun h => by have := digB_iff.1 h; omega]
          rfl
        have hlo : 48 ≤ (tlN s)[i].toNat := by have : ¬ (((tlN s)[i].toNat : Nat) : Int) < 48 := hlo; omega
        refine Go1.ixS hlt ?_
        refine Cm.s (fun hhi => ?_) (fun hhi => ?_)
        · have hhi : 57 < (tlN s)[i].toNat := by have : (57 : Int) < (((tlN s)[i].toNat : Nat) : Int) := hhi; omega
          refine ⟨?_, Chg.refl _ _⟩
          rw [bad fun h => by have := digB_iff.1 h; omega]
          rfl
        have hhi : (tlN s)[i].toNat ≤ 57 := by have : ¬ (57 : Int) < (((tlN s)[i].toNat : Nat) : Int) := hhi; omega
        have hdg : digB (tlN s)[i] = true := digB_iff.2 ⟨by omega, by omega⟩
        refine Wr.n (10 * m) (by simp) (by omega) ?_
        refine Go1.ixS hlt ?_
        refine Wr.go (r := (((tlN s)[i].toNat - 48 : Nat) : Int)) (wrap_sub (by omega) (by omega)) ?_
        refine Go1.cvi Tryd.underlying5 Tryd.underlying3 ?_
        rw [show IntKind.i64.wrap (((tlN s)[i].toNat - 48 : Nat) : Int) = (((tlN s)[i].toNat - 48 : Nat) : Int) from IntWalk.i64_in _ ⟨by omega, by omega⟩]
        refine Wr.n (10 * m + ((tlN s)[i].toNat - 48)) (by simp) (by omega) ?_
        refine Wr.n (i + 1) (by simp) (by omega) ?_
        have htk : (tlN s).data.toList.take (i + 1) = (tlN s).data.toList.take i ++ [(tlN s)[i]] := by
          rw [List.take_add_one, hgl]
          rfl
        refine ⟨(10 * m + ((tlN s)[i].toNat - 48), i + 1), ⟨rfl, rfl, rfl, rfl, rfl, rfl, trivial⟩, ⟨rfl, hlt, ?_, ?_⟩, by simp only; omega⟩
        · intro c hc
          simp only at hc
          rw [htk] at hc
          rcases List.mem_append.1 hc with hc | hc
          · exact hd c hc
          · obtain rfl := List.mem_singleton.1 hc
            exact hdg
        · simp only
          rw [htk, rdN_append, ← hm, rdN_cons, rdN_nil]
      · have hie : i = (tlN s).size := by have : ¬ (i : Int) < ((tlN s).size : Int) := hge2; omega
        have htk : (tlN s).data.toList.take i = (tlN s).data.toList := by
          rw [hie]
          exact List.take_length
        rw [htk] at hd hm
        have hv := rdO_val (z := (-(m : Int))) htl hk1 (by omega) (.inl ⟨hhead, by omega⟩) hd hle hm
        refine Wr.i (r := -(m : Int)) (by omega) (by omega) (by omega) ?_
        refine (c_sFormatInt (-(m : Int)) (by omega) (by omega)).mono ?_
        rintro _ w2 ⟨rfl, hx2⟩
        refine Cm.ns (fun hne => ?_) (fun he => ?_)
        · refine ⟨?_, hx2⟩
          rw [hv, if_neg hne]
          rfl
        · refine ⟨?_, hx2⟩
          rw [hv, if_pos he]
          rfl
    · have hhead : s.data.toList.head? ≠ some 45 := by
        rw [hhd]
        intro e
        have e : s[0] = 45 := Option.some.inj e
        exact hm (by rw [e]; rfl)
      have htl : tail_ s.data.toList = s.data.toList := tail_pos hhead
      have hts : s.size ≤ s.size := Nat.le_refl _
      refine Cm.s (fun hlt => ?_) (fun hge => ?_)
      · have hlt : s.size < 1 := by have : (s.size : Int) < 1 := hlt; omega
        refine ⟨?_, Chg.refl _ _⟩
        rw [rdO_none hk1 fun n _ h1 h2 _ => by
          have e : (s.data.toList).length = s.size := rfl
          rw [htl] at h1
          rw [← h1] at h2
          omega]
        rfl
      have hge : 1 ≤ s.size := by have : ¬ (s.size : Int) < 1 := hge; omega
      refine Cm.s (fun hgt => ?_) (fun hle => ?_)
      · have hgt : k < s.size := by have : (k : Int) < (s.size : Int) := hgt; omega
        refine ⟨?_, Chg.refl _ _⟩
        rw [rdO_none hk1 fun n _ h1 _ h3 => by
          have e : (s.data.toList).length = s.size := rfl
          rw [htl] at h1
          rw [← h1] at h3
          omega]
        rfl
      have hle : s.size ≤ k := by have : ¬ (k : Int) < (s.size : Int) := hle; omega
      refine Lp.go ttOk (by kernel_rfl) (fun x : Nat × Nat => [(0, .string s), (1, .int .i64 k), (6, .bool false), (7, .string s), (8, .int .i64 x.1), (9, .int .i64 x.2)])
        (fun x w' => w' = w ∧ x.2 ≤ s.size ∧ (∀ c ∈ s.data.toList.take x.2, digB c = true) ∧ x.1 = rdN 0 (s.data.toList.take x.2)) (fun x => s.size - x.2) (0, 0)
        ⟨rfl, rfl, rfl, rfl, rfl, rfl, trivial⟩ ⟨rfl, Nat.zero_le _, by simp, rfl⟩ ?_
      rintro ⟨m, i⟩ w' ⟨rfl, hi, hd, hm⟩
      simp only at hi hd hm
      have hmb : m < 10 ^ 12 := by
        have h1 := rdN_lt _ 0 hd
        have h2 : (s.data.toList.take i).length ≤ 12 := by rw [List.length_take]; omega
        have h3 : 10 ^ (s.data.toList.take i).length ≤ 10 ^ 12 := Nat.pow_le_pow_right (by decide) h2
        omega
      refine Cm.s (fun hlt => ?_) (fun hge2 => ?_)
      · have hlt : i < s.size := by have : (i : Int) < (s.size : Int) := hlt; omega
        have hgl := get_list hlt
        have hu : s[i].toNat < 256 := UInt8.toNat_lt _
        have hmem : s[i] ∈ s.data.toList := List.mem_of_getElem? hgl
        have bad : ¬ digB s[i] = true → rdO k s = none := fun hb => rdO_none hk1 fun n _ h1 _ _ => hb (decDigits_dig n.natAbs _ (by rw [← h1, htl]; exact hmem))
        refine Go1.ixS hlt ?_
        refine Cm.s (fun hlo => ?_) (fun hlo => ?_)
        · have hlo : s[i].toNat < 48 := by have : ((s[i].toNat : Nat) : Int) < 48 := hlo; omega
          refine ⟨?_, Chg.refl _ _⟩
          rw [bad fun h => by have := digB_iff.1 h; omega]
          rfl
        have hlo : 48 ≤ s[i].toNat := by have : ¬ ((s[i].toNat : Nat) : Int) < 48 := hlo; omega
        refine Go1.ixS hlt ?_
        refine Cm.s (fun hhi => ?_) (fun hhi => ?_)
        · have hhi : 57 < s[i].toNat := by have : (57 : Int) < ((s[i].toNat : Nat) : Int) := hhi; omega
          refine ⟨?_, Chg.refl _ _⟩
          rw [bad fun h => by have := digB_iff.1 h; omega]
          rfl
        have hhi : s[i].toNat ≤ 57 := by have : ¬ (57 : Int) < ((s[i].toNat : Nat) : Int) := hhi; omega
        have hdg : digB s[i] = true := digB_iff.2 ⟨by omega, by omega⟩
        refine Wr.n (10 * m) (by simp) (by omega) ?_
        refine Go1.ixS hlt ?_
        refine Wr.go (r := ((s[i].toNat - 48 : Nat) : Int)) (wrap_sub (by omega) (by omega)) ?_
        refine Go1.cvi Tryd.underlying5 Tryd.underlying3 ?_
        rw [show IntKind.i64.wrap ((s[i].toNat - 48 : Nat) : Int) = ((s[i].toNat - 48 : Nat) : Int) from IntWalk.i64_in _ ⟨by omega, by omega⟩]
        refine Wr.n (10 * m + (s[i].toNat - 48)) (by simp) (by omega) ?_
        refine Wr.n (i + 1) (by simp) (by omega) ?_
        have htk : s.data.toList.take (i + 1) = s.data.toList.take i ++ [s[i]] := by
          rw [List.take_add_one, hgl]
          rfl
        refine ⟨(10 * m + (s[i].toNat - 48), i + 1), ⟨rfl, rfl, rfl, rfl, rfl, rfl, trivial⟩, ⟨rfl, hlt, ?_, ?_⟩, by simp only; omega⟩
        · intro c hc
          simp only at hc
          rw [htk] at hc
          rcases List.mem_append.1 hc with hc | hc
          · exact hd c hc
          · obtain rfl := List.mem_singleton.1 hc
            exact hdg
        · simp only
          rw [htk, rdN_append, ← hm, rdN_cons, rdN_nil]
      · have hie : i = s.size := by have : ¬ (i : Int) < (s.size : Int) := hge2; omega
        have htk : s.data.toList.take i = s.data.toList := by
          rw [hie]
          exact List.take_length
        rw [htk] at hd hm
        have hv := rdO_val (z := ((m : Nat) : Int)) htl hk1 (by omega) (.inr ⟨hhead, by omega⟩) hd hle hm
        skip
        refine (c_sFormatInt ((m : Nat) : Int) (by omega) (by omega)).mono ?_
        rintro _ w2 ⟨rfl, hx2⟩
        refine Cm.ns (fun hne => ?_) (fun he => ?_)
        · refine ⟨?_, hx2⟩
          rw [hv, if_neg hne]
          rfl
        · refine ⟨?_, hx2⟩
          rw [hv, if_pos he]
          rfl
  · have h0 : s.size = 0 := by have : ¬ (0 : Int) < (s.size : Int) := h0; omega
    have hnil : s.data.toList = [] := List.eq_nil_of_length_eq_zero h0
    refine Cm.t (by omega) ?_
    refine ⟨?_, Chg.refl _ _⟩
    rw [rdO_none hk1 fun n _ h1 h2 _ => by
      rw [hnil] at h1
      rw [← h1] at h2
      exact absurd h2 (by decide)]
    rfl
/-- spec.ParseInt -/
theorem c_sParseInt {s : ByteArray} (hs : s.size ≤ 9223372036854775806) {w : World} : Ret Tryd.prog 25 [.string s] w fun r w' => r = numV (numO (-999999999999) 999999999999 s) ∧ Ext w w' := by
  refine ret_of_vc ttOk Tryd.func25 rfl (by kernel_rfl) (by kernel_rfl) ?_
  refine (c_l1Read (k := 12) (by decide) (by decide) hs).mono ?_
  rintro _ w1 ⟨rfl, hx1⟩
  exact ⟨rfl, hx1⟩
theorem numO_sub {lo hi lo' hi' : Int} {s : ByteArray} (h1 : lo ≤ lo') (h2 : hi' ≤ hi) : numO lo' hi' s = (numO lo hi s).bind fun n => if lo' ≤ n ∧ n ≤ hi' then some n else none := by
  cases h : numO lo hi s with
  | none =>
    refine numO_none fun n a b c => ?_
    rw [numO_some a (by omega) (by omega)] at h
    cases h
  | some n =>
    obtain ⟨a, b, c⟩ := numO_eq h
    show _ = if lo' ≤ n ∧ n ≤ hi' then some n else none
    by_cases hn : lo' ≤ n ∧ n ≤ hi'
    · rw [if_pos hn]
      exact numO_some a hn.1 hn.2
    · rw [if_neg hn]
      refine numO_none fun m a' b' c' => hn ?_
      have := itoaB_inj (a'.trans a.symm)
      omega
/-- spec.ParseNumber -/
theorem c_sParseNumber {s : ByteArray} (hs : s.size ≤ 9223372036854775806) {w : World} : Ret Tryd.prog 15 [.string s] w fun r w' => r = numV (numO 0 999999 s) ∧ Ext w w' := by
  refine ret_of_vc ttOk Tryd.func15 rfl (by kernel_rfl) (by kernel_rfl) ?_
  refine (c_l1Read (k := 6) (by decide) (by decide) hs).mono ?_
  have e : rdO 6 s = numO (-999999) 999999 s := rfl
  rw [e, numO_sub (lo := -999999) (hi := 999999) (lo' := 0) (hi' := 999999) (by decide) (by decide)]
  cases h : numO (-999999) 999999 s with
  | none =>
    rintro _ w1 ⟨rfl, hx1⟩
    exact ⟨rfl, hx1⟩
  | some n =>
    obtain ⟨_, a, b⟩ := numO_eq h
    rintro _ w1 ⟨rfl, hx1⟩
    have e2 : ((some n).bind fun n : Int => if 0 ≤ n ∧ n ≤ 999999 then some n else none) = if 0 ≤ n ∧ n ≤ 999999 then some n else none := rfl
    rw [e2]
    refine Cm.s (fun hn => ?_) (fun hn => ?_)
    · have hn : n < 0 := hn
      rw [if_neg (by omega)]
      exact ⟨rfl, hx1⟩
    · have hn : ¬ n < 0 := hn
      rw [if_pos (by omega)]
      exact ⟨rfl, hx1⟩
end Go.Proofs.YtmaklbdlijcopaaDoor
