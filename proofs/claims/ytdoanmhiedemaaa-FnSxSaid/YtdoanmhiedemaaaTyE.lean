/- Contracts: what a Type's labels tell: counts of variables, names put together. Conditions: none. -/
import Derived.Test.YtdoanmhiedemaaaTyD
import Derived.Test.YtdoanmhiedemaaaGrow
import Derived.Test.YtdoanmhiedemaaaStrA
import Derived.Test.YtdoanmhiedemaaaStrE
import Derived.IntWalk
namespace Go.Proofs.Ytdoanmhiedemaaa
open Go.RowKit

/-- How often the variable s occurs. -/
def cntV (s : ByteArray) (xs : List TLab) : Nat := xs.countP fun x => decide (x.1 = 1 ∧ x.2 = s)
theorem cntV_append (s : ByteArray) (xs ys : List TLab) : cntV s (xs ++ ys) = cntV s xs + cntV s ys := List.countP_append ..
theorem cntV_cons (s : ByteArray) (x : TLab) (xs : List TLab) : cntV s (x :: xs) = cntV s [x] + cntV s xs := cntV_append s [x] xs
theorem cntV_1 {s : ByteArray} {x : TLab} (h1 : x.1 = 1) (h2 : x.2 = s) : cntV s [x] = 1 := by simp [cntV, h1, h2]
theorem cntV_0 {s : ByteArray} {x : TLab} (h : ¬ (x.1 = 1 ∧ x.2 = s)) : cntV s [x] = 0 := by simp [cntV, h]
theorem cntV_le (s : ByteArray) (xs : List TLab) : cntV s xs ≤ xs.length := List.countP_le_length
theorem preL_length {α : Type} (ks : List (Rose α)) : (Rose.preL ks).length = Rose.cnt ks := by
  refine Rose.forest (p := fun ks => (Rose.preL ks).length = Rose.cnt ks) (fun ks ih => ?_) ks
  induction ks with
  | nil => rw [Rose.preL_nil, Rose.cnt_nil]; rfl
  | cons k ks ihk =>
    have h1 := ih k List.mem_cons_self
    have h2 := ihk fun t ht => ih t (List.mem_cons_of_mem _ ht)
    rw [Rose.preL_cons]
    show _ = Rose.wtL _ _
    rw [Rose.wtL_cons]
    simp only [List.length_append, List.length_cons]
    have h1 : _ = Rose.wtL (fun _ => 0) k.kids := h1
    have h2 : _ = Rose.wtL (fun _ => 0) ks := h2
    omega


def stepV (s : ByteArray) (n : Int) (x : TLab) : Int := if x.1 = 1 ∧ x.2 = s then IntKind.i64.wrap (n + 1) else n
def cI (s : ByteArray) (xs : List TLab) : Int := xs.foldl (stepV s) 0
theorem cI_snoc (s : ByteArray) (xs : List TLab) (l : TLab) : cI s (xs ++ [l]) = stepV s (cI s xs) l := by simp [cI]
theorem cI_from (s : ByteArray) : ∀ (xs : List TLab) (n : Nat), n + xs.length ≤ 1099511627776 → xs.foldl (stepV s) (n : Int) = ((n + cntV s xs : Nat) : Int)
  | [], n, _ => by simp [cntV]
  | x :: xs, n, h => by
    simp only [List.length_cons] at h
    rw [List.foldl_cons, cntV_cons]
    by_cases hx : x.1 = 1 ∧ x.2 = s
    · rw [stepV, if_pos hx, Go.IntWalk.i64_in _ (by omega), cntV_1 hx.1 hx.2]
      have := cI_from s xs (n + 1) (by omega)
      rw [show ((n : Int) + 1) = ((n + 1 : Nat) : Int) by omega, this]
      omega
    · rw [stepV, if_neg hx, cntV_0 hx, cI_from s xs n (by omega)]
      omega
def CntW (s : ByteArray) (bv bn : Nat) (O : List Nat) (xs : List TLab) (w : World) : Prop := O = [bn] ∧ bv ≠ bn ∧ Blk w bv 9 [.string s] ∧ Blk w bn 3 [.int .i64 (cI s xs)]
theorem cntW (s : ByteArray) (bv bn : Nat) : Walk (CntW s bv bn) := by
  refine ⟨?_, ?_⟩
  · rintro O xs w ⟨rfl, _, _, hb⟩ c hc
    obtain rfl : c = bn := by simpa using hc
    exact hb.lt
  · rintro O xs w w' ⟨rfl, h1, h2, h3⟩ hx
    exact ⟨rfl, h1, h2.ext hx, h3.ext hx⟩

/-- impl.CountTypeVariable -/
theorem c_iCount (s : ByteArray) {l : TLab} {ks : List Tp} (hs : Rose.cnt ks ≤ 4294967296) {w : World} {v : Value} {bs : List Nat} (hk : Kids encT w v ks bs) :
    Ret Try.prog 48 [.agg #[.int .i64 l.1, .string l.2, v], .string s] w fun r w' => r = .int .i64 (cntV s (l :: Rose.preL ks) : Nat) ∧ Ext w w' := by
  obtain ⟨ao, cap, rfl, hm, hcap⟩ := hk.form
  refine ret_of_vc ttOk Try.func48 rfl (by kernel_rfl) (by kernel_rfl) ?_
  refine Go1.bx ?_
  intro w1 hx1 hb1
  refine Go1.bx ?_
  intro wv hxv hbv
  refine Go1.al (z := .int .i64 0) (size := 1) (bytes := 8) (TyI.of (by kernel_rfl)) ?_
  intro w2 hx2 hb2
  refine Go0.st (off := 0) (vs := [.int .i64 0]) hb2 rfl rfl (by simp [Value.cells]) (by simp [Value.oneCell']) ?_
  intro w3 hx3 hb3 _
  have hb3 : Blk w3 wv.heap.size 3 [.int .i64 0] := hb3
  have hbv : Blk wv w1.heap.size 9 [.string s] := hbv
  have lt2 := hb2.lt
  have lt1 := hb1.lt
  have ltv := hbv.lt
  have sz1 := hx1.size
  have szv := hxv.size
  have hxv3 : Ext wv w3 := hx2.chg hx3 (by omega)
  refine Ld.agg (vs := [.int .i64 l.1, .string l.2, .slice ao ks.length cap]) (Blk.lc0 (post := []) ((hb1.ext hxv).ext hxv3)) ?_
  have hbl := Kids.lt encT_ne ks hk
  refine (c_eachType (cntW s w1.heap.size wv.heap.size) (g := 91) (cap := [.pointer (some ⟨w1.heap.size, 0, none⟩), .pointer (some ⟨wv.heap.size, 0, none⟩)]) ?_ ks l w3 _ bs [wv.heap.size] [] (((hk.ext hx1).ext hxv).ext hxv3) ⟨rfl, by omega, hbv.ext hxv3, hb3⟩ ?_).mono ?_
  · rintro O xs l v w ⟨rfl, hne, hb, hn⟩
    refine ret_of_vc ttOk Try.func91 rfl (by kernel_rfl) (by kernel_rfl) ?_
    refine Go1.bx ?_
    intro w1' hx1' hb1'
    have same : ¬ (l.1 = 1 ∧ l.2 = s) → Steps (CntW s w1.heap.size wv.heap.size) [wv.heap.size] (xs ++ [l]) w w1' := by
      intro h0
      refine ⟨_, ⟨rfl, hne, hb.ext hx1', ?_⟩, hx1'.mono fun _ _ h => h.elim, fun b h => .inl h⟩
      rw [cI_snoc, stepV, if_neg h0]
      exact hn.ext hx1'
    refine Go1.fl 0 (Ld.one hb1'.at0 ?_)
    refine Cm.s (fun h1 => ?_) (fun h1 => ?_)
    · refine Go1.fl 1 (Ld.one hb1'.at1 ?_)
      refine Ld.one ((hb.ext hx1').at0) ?_
      refine Cm.s (fun h2 => ?_) (fun h2 => ?_)
      · refine Ld.one ((hn.ext hx1').at0) ?_
        obtain ⟨c, hc⟩ : ∃ c, c = cI s (xs ++ [l]) := ⟨_, rfl⟩
        have heq : IntKind.i64.wrap (cI s xs + 1) = c := by rw [hc, cI_snoc, stepV, if_pos ⟨h1, h2⟩]
        refine Wr.go heq ?_
        refine Go0.st (off := 0) (vs := [.int .i64 c]) (hn.ext hx1') rfl rfl (by simp) (by simp [Value.oneCell']) ?_
        intro w2' hx2' hb2' _
        have hlt' := hn.lt
        have hltv := hb.lt
        refine ⟨_, ⟨rfl, hne, (hb.ext hx1').chg hx2' hne, ?_⟩, (hx1'.chgM hx2').mono (fun k _ h => by simpa using h), fun b h => .inl h⟩
        rw [← hc]
        exact hb2'
      · exact same fun h => h2 h.2
    · exact same fun h => h1 h.1
  · intro b hb hc
    have := hbl b hb
    obtain rfl : b = wv.heap.size := by simpa using hc
    omega
  · rintro r w4 ⟨O4, ⟨rfl, _, _, hb4⟩, hx4, _⟩
    refine Ld.one (hb4.at0) ?_
    have hx4' : Chg (fun k => k = wv.heap.size) w3 w4 := hx4.mono fun k _ h => by simpa using h
    refine ⟨?_, ((hx1.trans hxv).trans hxv3).chg hx4' (by omega)⟩
    have e2 := preL_length ks
    have := cI_from s (l :: Rose.preL ks) 0 (by simp only [List.length_cons]; omega)
    rw [List.nil_append]
    show Value.int .i64 (List.foldl (stepV s) 0 _) = _
    rw [show (0 : Int) = ((0 : Nat) : Int) from rfl, this, Nat.zero_add]
end Go.Proofs.Ytdoanmhiedemaaa
