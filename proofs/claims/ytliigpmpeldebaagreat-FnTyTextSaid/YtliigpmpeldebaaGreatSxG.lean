/- Draws: an SExpr, bent. Conditions: none. -/
import Derived.Test.YtliigpmpeldebaaGreatSxF
namespace Go.Proofs.YtliigpmpeldebaaGreat
open Go.RowKit

/-- spec.l2List of one -/
theorem c_l2List1 {t : Sx} {v : Value} {n0 gb : Nat} {w : World} {bs : List Nat} (hb : Blk w gb 33 [.string t.lab, v]) (hk : Kids encS w v t.kids bs) (hf : Fresh n0 w bs) (hn : n0 ≤ w.heap.size) :
    Ret Tryz.prog 54 [.slice (some ⟨gb, 0, none⟩) 1 1] w fun r w' => Ext w w' ∧ ∃ (v' : Value) (O cs : List Nat), r = .agg #[.string em, v'] ∧ GrowT encS 33 2 n0 w' v' [t] O cs ∧ ∀ b ∈ O ++ cs, b ∈ bs ∨ w.heap.size ≤ b := by
  obtain ⟨ao, cap, rfl, _, _⟩ := hk.form
  have hlt := hf.lt
  refine ret_of_vc ttOkD Tryz.func54 rfl (by kernel_rfl) (by kernel_rfl) ?_
  refine Go1.al tiSx ?_
  intro w1 hx1 hb1
  have lt1 := hb1.lt
  have sz1 := hx1.size
  refine Go1.b0 33 (size := 2) (bytes := 40) Tryz.underlying31 tiSx ?_
  intro w2 u hx2 hg2 hu
  subst hu
  have sz2 := hx2.size
  have hx02 := hx1.trans hx2
  refine Go1.app (size := 2) (bytes := 40) Tryz.underlying31 tiSx (by rfl) (by decide) hg2 (m := 1) (news := [.string t.lab, .slice ao t.kids.length cap]) (Blk.lc0 (post := []) (hb.ext hx02)) (by simp) (by simp [Value.oneCell']) (by omega) (by decide) ?_
  intro r3 w3 O3 hc3 hg3 hO3
  have hgt := GrowT.snocE (ts := []) (cs := []) (vs := []) (n0 := n0) (v := .slice ao t.kids.length cap) (enc := encS) (t := t) rfl (by simpa using hg2.fresh (by simp; omega)) (hk.ext hx02) (hf.ext hx02) (fun b hb h => by
    have : b = w1.heap.size := by simpa using h
    have := hlt b hb
    omega) hc3 (by simpa [fl, encS] using hg3) hO3 (by omega) (Nat.le_refl _)
  obtain ⟨ds, hk3, _⟩ := hgt.kids (by simp; decide)
  obtain ⟨ao3, cap3, rfl, _, _⟩ := hk3.form
  refine Go1.bd [.string em, .slice ao3 ([] ++ [t]).length cap3] ?_
  have hx03 : Ext w w3 := hx02.chg hc3 fun x hx => by have : x = w1.heap.size := by simpa using hx
                                                      omega
  refine Go0.st (off := 0) (vs := [.string em, .slice ao3 ([] ++ [t]).length cap3]) ((hb1.ext hx2).chg hc3 (by simp; omega)) rfl rfl (by simp [Value.cells]) (by simp [Value.oneCell']) ?_
  intro w4 hc4 hb4 _
  have hb4 : Blk w4 w.heap.size 33 [.string em, .slice ao3 ([] ++ [t]).length cap3] := hb4
  refine Ld.agg (vs := [.string em, .slice ao3 ([] ++ [t]).length cap3]) (Blk.lc0 (post := []) hb4) ?_
  have hO3n : ∀ b ∈ O3 ++ ([] ++ bs), ¬ b = w.heap.size := fun b hb => by
    rcases List.mem_append.1 hb with h | h
    · rcases hO3 b h with h | h
      · have : b = w1.heap.size := by simpa using h
        omega
      · omega
    · have := hlt b (by simpa using h)
      omega
  exact ⟨hx03.chg hc4 (by omega), _, O3, [] ++ bs, rfl, by simpa using hgt.chg hc4 hO3n, fun b hb => by
    rcases List.mem_append.1 hb with h | h
    · rcases hO3 b h with h | h
      · have : b = w1.heap.size := by simpa using h
        right; omega
      · right; omega
    · exact .inl (by simpa using h)⟩

theorem pickB1 : ∀ s ∈ ([⟨#[]⟩, ⟨#[65]⟩, ⟨#[97, 32, 98]⟩, ⟨#[97, 98, 99, 100, 101, 102, 103, 104, 105, 106, 107, 108]⟩, ⟨#[97, 98, 99, 100, 101, 102, 103, 104, 105, 106, 107, 108, 109]⟩] : List ByteArray), s.size ≤ 16 := by decide
theorem pickB2 : ∀ s ∈ ([⟨#[]⟩, ⟨#[65]⟩, ⟨#[122]⟩] : List ByteArray), s.size ≤ 16 := by decide
/-- spec.l2Bent -/
theorem c_l2Bent {w : World} {g : Nat} (hc : Cu w g) : Ret Tryz.prog 24 [.pointer (some ⟨g, 0, none⟩)] w (DrX g 128 w) := by
  have hgw := hc.lt
  have hM : maxLen = 9223372036854775807 := rfl
  have h43 : 4 ^ 3 = 64 := by decide
  refine ret_of_vc ttOkD Tryz.func24 rfl (by kernel_rfl) (by kernel_rfl) ?_
  refine Go1.al tiSx ?_
  intro w1 hx1 hb1
  have lt1 := hb1.lt
  have sz1 := hx1.size
  have hd1 : Dw g w w1 := (Dw.refl hc).ext hx1
  refine (c_l2Sx 3 (by decide) hd1.2).mono ?_
  rintro _ w2 ⟨T, v2, O2, c2, rfl, hg2, ⟨hcn2, hsT⟩, hd12⟩
  obtain ⟨bs2, hk2, _⟩ := hg2.kids (by have : T.kids.length ≤ Rose.cnt T.kids := Rose.wtL_length _ _; omega)
  obtain ⟨ao2, cap2, rfl, _, _⟩ := hk2.form
  refine Go1.al tiSx ?_
  intro w3 hx3 hb3
  have lt3 := hb3.lt
  have sz2 := hd12.size
  have sz3 := hx3.size
  refine Go0.st (off := 0) (vs := [.string T.lab, .slice ao2 T.kids.length cap2]) hb3 rfl rfl (by simp [Value.cells]) (by simp [Value.oneCell']) ?_
  intro w4 hc4 hb4 _
  have hb4 : Blk w4 w2.heap.size 33 [.string T.lab, .slice ao2 T.kids.length cap2] := hb4
  have lt4 := hb4.lt
  have hx24 : Ext w2 w4 := hx3.chg hc4 (by omega)
  have hd4 : Dw g w w4 := (hd1.trans hd12).ext hx24
  have hbr4 := Blk.ext hx24 (hd12.blk hb1 (by omega))
  have hg4 := hg2.ext hx24
  have hO2 := hg2.lt
  refine (c_l1Below hd4.2 10 (by decide) (by decide)).mono ?_
  rintro _ w5 ⟨⟨m, rfl, hm⟩, hd45⟩
  have hd5 := hd4.trans hd45
  have sz5 := hd45.size
  have hb5 := hd45.blk hb4 (by omega)
  have hbr5 := hd45.blk hbr4 (by omega)
  have hg5 := hg4.chg hd45.1 (fun b hb h => by have := hg4.lo b hb; omega)
  refine Cm.s (fun h0 => ?_) (fun h0 => ?_)
  · refine Go1.bs 9 ([⟨#[]⟩, ⟨#[65]⟩, ⟨#[97, 32, 98]⟩, ⟨#[97, 98, 99, 100, 101, 102, 103, 104, 105, 106, 107, 108]⟩, ⟨#[97, 98, 99, 100, 101, 102, 103, 104, 105, 106, 107, 108, 109]⟩].map Value.string) (size := 1) (bytes := 16) Tryz.underlying57 tiStr (by decide) (by decide) (by kernel_rfl) ?_
    intro w6 hx6 hb6
    have sz6 := hx6.size
    refine (c_l1Pick (hd5.2.ext hx6) (lit_strs hb6 (by decide) rfl) (by simp; omega) (by decide) (by decide)).mono ?_
    rintro _ w7 ⟨⟨s, rfl, hsm⟩, hd67⟩
    have hd7 := (hd5.ext hx6).trans hd67
    have hb7 := hd67.blk (hb5.ext hx6) (by omega)
    have hbr7 := hd67.blk (hbr5.ext hx6) (by omega)
    have hg7 := (hg5.ext hx6).chg hd67.1 (fun b hb h => by have := hg5.lo b hb; omega)
    have hlt5 := hg5.lt
    refine Go1.fl 0 ?_
    refine Go0.st (off := 0) (vs := [.string s]) hb7 (by rw [Addr.add_lit]) rfl (by simp [Value.cells]) (by simp [Value.oneCell']) ?_
    intro w8 hc8 hb8 _
    have hb8 : Blk w8 w2.heap.size 33 [.string s, .slice ao2 T.kids.length cap2] := hb8
    have hd8 : Dw g w w8 := hd7.big hc8 (fun x hx => by omega) hgw
    have hg8 := hg7.chg hc8 (fun b hb h => by have := hO2 b hb; omega)
    refine Ld.agg (vs := [.string s, .slice ao2 T.kids.length cap2]) (Blk.lc0 (post := []) (hb8)) ?_
    refine Go0.st (off := 0) (vs := [.string s, .slice ao2 T.kids.length cap2]) (hbr7.chg hc8 (by omega)) rfl rfl (by simp [Value.cells]) (by simp [Value.oneCell']) ?_
    intro wz hcz hbz _
    have hbz : Blk wz w.heap.size 33 [.string s, .slice ao2 T.kids.length cap2] := hbz
    refine Ld.agg (vs := [.string s, .slice ao2 T.kids.length cap2]) (Blk.lc0 (post := []) hbz) ?_
    exact ⟨.mk s T.kids, _, _, _, rfl, (hg8).chg hcz (fun b hb => by have := (hg8).lo b hb; omega) |>.mono (by omega), ⟨by show 1 + Rose.cnt T.kids ≤ _; omega, Sm.node hsT.2 (pickB1 s hsm)⟩, (hd8).big hcz (fun x hx => by omega) hgw⟩
  refine Cm.s (fun h1 => ?_) (fun h1 => ?_)
  · refine Dr.d hd5.2 [0, 1, 2, 3, 4, 5, 6, 7, 8, 9] ttOkD ?_
    have hg2' : w2.heap.size ≠ g := by omega
    refine GoS.fl 1 (LdS.one (fun u hu => (Dw.blk hu hb5 hg2').at1) ?_)
    refine ⟨fun wa hda => ?_⟩
    refine Go1.bs 9 ([⟨#[]⟩, ⟨#[65]⟩, ⟨#[122]⟩].map Value.string) (size := 1) (bytes := 16) Tryz.underlying57 tiStr (by decide) (by decide) (by kernel_rfl) ?_
    intro wb hxb hbb
    refine Af.dw (hda.ext hxb) ?_
    refine ⟨fun wc hdc => ?_⟩
    have sza := hda.size
    have szb := hxb.size
    have szc := hdc.size
    refine (c_l1Pick hdc.2 (lit_strs (hdc.blk hbb (by omega)) (by decide) rfl) (by simp; omega) (by decide) (by decide)).mono ?_
    rintro _ wd ⟨⟨s, rfl, hsm⟩, hdd⟩
    refine Af.dw (hdc.trans hdd) ?_
    refine ⟨fun we hde => ?_⟩
    refine (c_l2AtomD s).mono ?_
    rintro _ wf ⟨hxf, rfl⟩
    refine Af.dw (hde.ext hxf) ?_
    refine ⟨fun wg hdg => ?_⟩
    refine Go1.bs 33 [.string s, .slice none 0 0] (size := 2) (bytes := 40) Tryz.underlying31 tiSx (by decide) (by decide) (by kernel_rfl) ?_
    intro wh hxh hbh
    refine Af.dw (hdg.ext hxh) ?_
    refine ⟨fun wi hdi => ?_⟩
    have h5i := ((((((hda.ext hxb).trans hdc).trans hdd).trans hde).ext hxf).trans hdg).ext hxh |>.trans hdi
    have szd := hdd.size
    have sze := hde.size
    have szf := hxf.size
    have szg := hdg.size
    have szh := hxh.size
    have szi := hdi.size
    have hgi := hg5.chg h5i.1 (fun b hb h => by have := hg5.lo b hb; omega)
    have hlk : T.kids.length ≤ Rose.cnt T.kids := Rose.wtL_length _ _
    obtain ⟨vsT, hgrT, hklT, hfrT⟩ := hgi
    refine Go1.app (size := 2) (bytes := 40) Tryz.underlying31 tiSx (by rfl) (by decide) hgrT (m := 1) (news := [.string s, .slice none 0 0]) (Blk.lc0 (post := []) (hdi.blk hbh (by omega))) (by simp) (by simp [Value.oneCell']) (by omega) (by decide) ?_
    intro rf wj Of hcf hgf hOf
    have hgF := GrowT.snocE (t := at_D s) (v := .slice none 0 0) (c1 := []) (m := w1.heap.size) hklT hfrT Kids.nil (Fresh.nil _ _) (by simp) hcf hgf hOf (by omega) (Nat.le_refl _)
    have hloT : ∀ b ∈ O2, w1.heap.size ≤ b := fun b hb => hfrT.lo b (List.mem_append_left _ hb)
    obtain ⟨dsF, hkF, _⟩ := hgF.kids (by simp; omega)
    obtain ⟨aof, capf, hrf, _, _⟩ := hkF.form
    generalize hmm : (T.kids ++ [at_D s]).length = q at hrf
    subst hrf
    refine Af.nw ?_
    refine GoS.fl 1 ?_
    refine ⟨fun wk hxk => ?_⟩
    have hnT : ∀ b ∈ O2, w2.heap.size ≠ b := fun b hb => by have := hO2 b (List.mem_append_left _ hb); omega
    have hnR : ∀ b ∈ O2, w.heap.size ≠ b := fun b hb => by have := hloT b hb; omega
    have hdi5 : Dw g w wi := hd5.trans h5i
    refine Go0.st (off := 1) (vs := [.slice aof q capf]) (((h5i.blk hb5 hg2').chg hcf fun h => hnT _ h rfl).ext hxk) (by rw [Addr.add_lit]) rfl (by simp [Value.cells]) (by simp [Value.oneCell']) ?_
    intro wl hcl hbl _
    have hbl : Blk wl w2.heap.size 33 [.string T.lab, .slice aof q capf] := hbl
    refine Af.nw ?_
    intro wm hxm
    have hdJ : Dw g w wj := hdi5.big hcf (fun x hx => by have := hloT x hx; omega) hgw
    have hdM : Dw g w wm := ((hdJ.ext hxk).big hcl (fun x hx => by omega) hgw).ext hxm
    have hg2s : ∀ b ∈ Of ++ (c2 ++ []), b ≠ w2.heap.size := fun b hb h => by
      rcases List.mem_append.1 hb with h' | h'
      · rcases hOf b h' with h2 | h2
        · exact hnT b h2 h.symm
        · omega
      · have := hO2 b (List.mem_append_right _ (by simpa using h'))
        omega
    have hgM := ((hgF.ext hxk).chg hcl fun b hb h => hg2s b hb h).ext hxm
    have hbrM := ((((h5i.blk hbr5 (by omega)).chg hcf fun h => hnR _ h rfl).ext hxk).chg hcl (by omega)).ext hxm
    refine Ld.agg (vs := [.string T.lab, .slice aof q capf]) (Blk.lc0 (post := []) (hbl.ext hxm)) ?_
    refine Go0.st (off := 0) (vs := [.string T.lab, .slice aof q capf]) (hbrM) rfl rfl (by simp [Value.cells]) (by simp [Value.oneCell']) ?_
    intro wz hcz hbz _
    have hbz : Blk wz w.heap.size 33 [.string T.lab, .slice aof q capf] := hbz
    refine Ld.agg (vs := [.string T.lab, .slice aof q capf]) (Blk.lc0 (post := []) hbz) ?_
    exact ⟨.mk T.lab (T.kids ++ [at_D s]), _, _, _, rfl, (hgM).chg hcz (fun b hb => by have := (hgM).lo b hb; omega) |>.mono (by omega), ⟨by show 1 + Rose.cnt (T.kids ++ [at_D s]) ≤ _; rw [cntWx]; show 1 + (Rose.cnt T.kids + (1 + Rose.cnt ([] : List Sx))) ≤ _; rw [show Rose.cnt ([] : List Sx) = 0 from Rose.wtL_nil _]; omega, Sm.node (hsT.2.snoc (Sm.atom (pickB2 s hsm))) hsT.1⟩, (hdM).big hcz (fun x hx => by omega) hgw⟩
  refine Cm.s (fun h2 => ?_) (fun h2 => ?_)
  · refine (c_l1Below hd5.2 4 (by decide) (by decide)).mono ?_
    rintro _ w6 ⟨⟨j, rfl, hj⟩, hd56⟩
    have hd6 := hd5.trans hd56
    have sz6 := hd56.size
    refine Wr.n (12 + j) (by simp) (by omega) ?_
    refine Lp.go ttOkD (by kernel_rfl) (fun k : Nat => [(2, .pointer (some ⟨w.heap.size, 0, none⟩)), (3, .pointer (some ⟨w2.heap.size, 0, none⟩)), (4, .int .i64 (12 + j : Nat)), (5, .int .i64 k)])
      (fun k w' => Dw g w w' ∧ k ≤ 12 + j ∧ w6.heap.size ≤ w'.heap.size ∧ Blk w' w.heap.size 33 [.string em, .slice none 0 0] ∧ ∃ (t : Sx) (v : Value) (O cs : List Nat), Blk w' w2.heap.size 33 [.string t.lab, v] ∧ GrowT encS 33 2 w1.heap.size w' v t.kids O cs ∧ (∀ b ∈ O ++ cs, b ≠ w2.heap.size) ∧ 1 + Rose.cnt t.kids ≤ 64 + k ∧ Sm t) (fun k => 12 + j - k) 0
      ⟨rfl, rfl, rfl, rfl, trivial⟩ ⟨hd6, Nat.zero_le _, Nat.le_refl _, hd56.blk hbr5 (by omega), T, _, O2, c2, hd56.blk hb5 (by omega), hg5.chg hd56.1 (fun b hb h => by have := hg5.lo b hb; omega), fun b hb h => by have := hO2 b hb; omega, by omega, hsT⟩ ?_
    rintro k w7 ⟨hd7, hk, hz7, hbr7, t, v, O, cs, hb7, hg7, hne7, hcn7, hst7⟩
    obtain ⟨bs7, hk7, hf7, hs7⟩ := hg7.kids2 (by have : t.kids.length ≤ Rose.cnt t.kids := Rose.wtL_length _ _; omega)
    obtain ⟨ao7, cap7, rfl, _, _⟩ := hk7.form
    have sz7 := hd7.size
    refine Cm.s (fun hlt => ?_) (fun hge => ?_)
    · have hlt : k < 12 + j := by have : (k : Int) < (12 + j : Nat) := hlt; omega
      refine Ld.agg (vs := [.string t.lab, .slice ao7 t.kids.length cap7]) (Blk.lc0 (post := []) hb7) ?_
      refine Go1.bs 33 [.string t.lab, .slice ao7 t.kids.length cap7] (size := 2) (bytes := 40) Tryz.underlying31 tiSx (by decide) (by decide) (by kernel_rfl) ?_
      intro w8 hx8 hb8
      have sz8 := hx8.size
      refine (c_l2List1 (n0 := w1.heap.size) hb8 (hk7.ext hx8) (hf7.ext hx8) (by omega)).mono ?_
      rintro _ w9 ⟨hx9, v9, O9, c9, rfl, hg9, hin9⟩
      obtain ⟨bs9, hk9, _⟩ := hg9.kids (by simp; decide)
      obtain ⟨ao9, cap9, rfl, _, _⟩ := hk9.form
      have hx79 := hx8.trans hx9
      refine Go0.st (off := 0) (vs := [.string em, .slice ao9 [t].length cap9]) (hb7.ext hx79) rfl rfl (by simp [Value.cells]) (by simp [Value.oneCell']) ?_
      intro wa hca hba _
      have hba : Blk wa w2.heap.size 33 [.string em, .slice ao9 [t].length cap9] := hba
      have hne9 : ∀ b ∈ O9 ++ c9, b ≠ w2.heap.size := fun b hb h => by
        rcases hin9 b hb with h' | h'
        · exact hne7 b (hs7 b h') h
        · omega
      have szx := hx79.size
      have sza := hca.size
      refine Wr.n (k + 1) (by simp) (by omega) ?_
      refine ⟨k + 1, ⟨rfl, rfl, rfl, rfl, trivial⟩, ⟨(hd7.ext hx79).big hca (fun x hx => by omega) hgw, by omega, by omega, (hbr7.ext hx79).chg hca (by omega), .mk em [t], _, O9, c9, hba, hg9.chg hca (fun b hb h => hne9 b hb h), hne9, ?_, Sm.node (SmL.snoc (ts := []) SmL.nil hst7) (by decide)⟩, by omega⟩
      show 1 + Rose.cnt [t] ≤ _
      have := cntWx [] t
      rw [List.nil_append, show Rose.cnt ([] : List Sx) = 0 from Rose.wtL_nil _] at this
      omega
    · have hke : k = 12 + j := by have : ¬ (k : Int) < (12 + j : Nat) := hge; omega
      subst hke
      refine Ld.agg (vs := [.string t.lab, .slice ao7 t.kids.length cap7]) (Blk.lc0 (post := []) (hb7)) ?_
      refine Go0.st (off := 0) (vs := [.string t.lab, .slice ao7 t.kids.length cap7]) (hbr7) rfl rfl (by simp [Value.cells]) (by simp [Value.oneCell']) ?_
      intro wz hcz hbz _
      have hbz : Blk wz w.heap.size 33 [.string t.lab, .slice ao7 t.kids.length cap7] := hbz
      refine Ld.agg (vs := [.string t.lab, .slice ao7 t.kids.length cap7]) (Blk.lc0 (post := []) hbz) ?_
      exact ⟨t, _, _, _, rfl, (hg7).chg hcz (fun b hb => by have := (hg7).lo b hb; omega) |>.mono (by omega), ⟨by omega, hst7⟩, (hd7).big hcz (fun x hx => by omega) hgw⟩
  refine Ld.agg (vs := [.string T.lab, .slice ao2 T.kids.length cap2]) (Blk.lc0 (post := []) (hb5)) ?_
  refine Go0.st (off := 0) (vs := [.string T.lab, .slice ao2 T.kids.length cap2]) (hbr5) rfl rfl (by simp [Value.cells]) (by simp [Value.oneCell']) ?_
  intro wz hcz hbz _
  have hbz : Blk wz w.heap.size 33 [.string T.lab, .slice ao2 T.kids.length cap2] := hbz
  refine Ld.agg (vs := [.string T.lab, .slice ao2 T.kids.length cap2]) (Blk.lc0 (post := []) hbz) ?_
  exact ⟨T, _, _, _, rfl, (hg5).chg hcz (fun b hb => by have := (hg5).lo b hb; omega) |>.mono (by omega), ⟨by omega, hsT⟩, (hd5).big hcz (fun x hx => by omega) hgw⟩
end Go.Proofs.YtliigpmpeldebaaGreat
