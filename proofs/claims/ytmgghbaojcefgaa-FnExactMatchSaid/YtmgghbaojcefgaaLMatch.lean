/- FnExactMatch returns true, for all arguments. Conditions: none. -/
import Derived.Test.YtmgghbaojcefgaaLawB
import Derived.Test.YtmgghbaojcefgaaBdI
import Derived.Test.YtmgghbaojcefgaaBdE
namespace Go.Proofs.Ytmgghbaojcefgaa
open Go.ChangeShapes Go.WideShapes Go.ChangeAt Go.RowKit

theorem fnExactMatch_ret {W : World} {a0 a1 : Value} (g0 : OTy W a0) (g1 : OTy W a1) : Ret Try.prog 13 [a0, a1] W fun r w' => r = .bool true ∧ Ext W w' := by
  obtain ⟨l0, ks0, v0, bs0, rfl, hk0, hl0, ha0⟩ := g0
  obtain ⟨ao0, cap0, rfl, _, _⟩ := hk0.form
  obtain ⟨l1, ks1, v1, bs1, rfl, hk1, hl1, ha1⟩ := g1
  obtain ⟨ao1, cap1, rfl, _, _⟩ := hk1.form
  refine ret_of_vc ttOk Try.func13 rfl (by kernel_rfl) (by kernel_rfl) ?_
  refine Go1.bx ?_
  intro w1 hw1 hb0
  refine Go1.bx ?_
  intro w2 hw2 hb1
  refine Ld.agg (vs := [.int .i64 l0.1, .string l0.2, .slice ao0 ks0.length cap0]) (Blk.lc0 (post := []) (hb0.ext hw2)) ?_
  refine (c_szType hl0 ha0 (hk0.ext (hw1.trans hw2)) 1048576 (by omega)).mono ?_
  rintro r w3 ⟨hw3, rfl | ⟨m0, rfl, hm0⟩⟩
  · refine Cm.t (by omega) ?_
    exact ⟨rfl, ((hw1.trans hw2).trans hw3)⟩
  refine Cm.f (by omega) ?_
  have hc0 : Rose.cnt ks0 ≤ 1048576 := by have := Rose.cnt_le (fun l : TLab => l.2.size) ks0; simp only [szT] at hm0; omega
  have hq0 := hc0
  have hg0 := Nat.le_trans hc0 (show 1048576 ≤ 4294967000 by decide)
  replace hc0 := Nat.le_trans hc0 (show 1048576 ≤ 4294967296 by decide)
  refine Ld.agg (vs := [.int .i64 l1.1, .string l1.2, .slice ao1 ks1.length cap1]) (Blk.lc0 (post := []) (hb1.ext hw3)) ?_
  refine (c_szType hl1 ha1 (hk1.ext ((hw1.trans hw2).trans hw3)) m0 (by omega)).mono ?_
  rintro r w4 ⟨hw4, rfl | ⟨m1, rfl, hm1⟩⟩
  · refine Cm.t (by omega) ?_
    exact ⟨rfl, (((hw1.trans hw2).trans hw3).trans hw4)⟩
  refine Cm.f (by omega) ?_
  have hc1 : Rose.cnt ks1 ≤ 1048576 := by have := Rose.cnt_le (fun l : TLab => l.2.size) ks1; simp only [szT] at hm1; omega
  have hq1 := hc1
  have hg1 := Nat.le_trans hc1 (show 1048576 ≤ 4294967000 by decide)
  replace hc1 := Nat.le_trans hc1 (show 1048576 ≤ 4294967296 by decide)
  have hmb := markB_le ((mAll [.mk l0 ks0] [.mk l1 ks1] []).getD [])
  have hmc := @mAll_cnt [.mk l0 ks0] [.mk l1 ks1]
  have hm1 : Rose.cnt [Rose.mk l1 ks1] = 1 + Rose.cnt ks1 := (Rose.wtL_cons ..).trans (by rw [Rose.wtL_nil]; simp [Rose.kids])
  refine Dr.x [0, 2, 1, 3, 4, 5, 6, 7, 8, 9] ttOk ?_
  refine LdS.xn (vs := [.int .i64 l0.1, .string l0.2, .slice ao0 ks0.length cap0]) (Blk.lc0 (post := []) (hb0.ext ((hw2.trans hw3).trans hw4))) ?_
  refine LdS.xn (vs := [.int .i64 l1.1, .string l1.2, .slice ao1 ks1.length cap1]) (Blk.lc0 (post := []) (hb1.ext (hw3.trans hw4))) ?_
  refine ⟨fun w5 hw5 => ?_⟩
  refine (c_toType hc0 (hk0.ext ((((hw1.trans hw2).trans hw3).trans hw4).trans hw5))).mono ?_
  rintro r w6 ⟨hw6, vu0, bsu0, rfl, ku0, fu0⟩
  refine Af.ext (hw5.trans hw6) ?_
  refine ⟨fun w7 hw7 => ?_⟩
  refine (c_toType hc1 (hk1.ext ((((((hw1.trans hw2).trans hw3).trans hw4).trans hw5).trans hw6).trans hw7))).mono ?_
  rintro r w8 ⟨hw8, vu1, bsu1, rfl, ku1, fu1⟩
  refine Af.ext (hw7.trans hw8) ?_
  refine ⟨fun w9 hw9 => ?_⟩
  refine (c_sMatch (by omega) (ku0.ext ((hw7.trans hw8).trans hw9)) (ku1.ext hw9)).mono ?_
  rintro _ w10 ⟨hw10, rw, bsw, rfl, kw, fw⟩
  have low := fw.lo
  have hiw := fw.lt
  refine Af.ext (hw9.trans hw10) ?_
  intro w11 hw11
  refine Ld.agg (vs := [.int .i64 l0.1, .string l0.2, .slice ao0 ks0.length cap0]) (Blk.lc0 (post := []) (hb0.ext (((((((((hw2.trans hw3).trans hw4).trans hw5).trans hw6).trans hw7).trans hw8).trans hw9).trans hw10).trans hw11))) ?_
  refine (c_toType hc0 (hk0.ext ((((((((((hw1.trans hw2).trans hw3).trans hw4).trans hw5).trans hw6).trans hw7).trans hw8).trans hw9).trans hw10).trans hw11))).mono ?_
  rintro r w12 ⟨hw12, vx0, bsx0, rfl, kx0, fx0⟩
  obtain ⟨ax0, cx0, rfl, _, _⟩ := kx0.form
  refine Go1.al tiTy ?_
  intro w13 hw13 hbw13
  have ltw13 := hbw13.lt
  have szw13 := hw13.size
  refine Go0.st (off := 0) (vs := [.int .i64 l0.1, .string l0.2, .slice ax0 ks0.length cx0]) hbw13 rfl rfl (by simp [Value.cells]) (by simp [Value.oneCell']) ?_
  intro w14 hcw14 hb0w14 _
  have hxb0 : Blk w14 w12.heap.size 29 [.int .i64 l0.1, .string l0.2, .slice ax0 ks0.length cx0] := hb0w14
  have hw14 : Ext w12 w14 := hw13.chg hcw14 (by omega)
  refine Ld.agg (vs := [.int .i64 l1.1, .string l1.2, .slice ao1 ks1.length cap1]) (Blk.lc0 (post := []) (hb1.ext ((((((((((hw3.trans hw4).trans hw5).trans hw6).trans hw7).trans hw8).trans hw9).trans hw10).trans hw11).trans hw12).trans hw14))) ?_
  refine (c_toType hc1 (hk1.ext ((((((((((((hw1.trans hw2).trans hw3).trans hw4).trans hw5).trans hw6).trans hw7).trans hw8).trans hw9).trans hw10).trans hw11).trans hw12).trans hw14))).mono ?_
  rintro r w15 ⟨hw15, vx1, bsx1, rfl, kx1, fx1⟩
  obtain ⟨ax1, cx1, rfl, _, _⟩ := kx1.form
  refine Go1.al tiTy ?_
  intro w16 hw16 hbw16
  have ltw16 := hbw16.lt
  have szw16 := hw16.size
  refine Go0.st (off := 0) (vs := [.int .i64 l1.1, .string l1.2, .slice ax1 ks1.length cx1]) hbw16 rfl rfl (by simp [Value.cells]) (by simp [Value.oneCell']) ?_
  intro w17 hcw17 hb0w17 _
  have hxb1 : Blk w17 w15.heap.size 29 [.int .i64 l1.1, .string l1.2, .slice ax1 ks1.length cx1] := hb0w17
  have hw17 : Ext w15 w17 := hw16.chg hcw17 (by omega)
  have lox0 := fx0.lo
  have hix0 := fx0.lt
  have lox1 := fx1.lo
  have hix1 := fx1.lt
  refine Ld.agg (vs := [.int .i64 l0.1, .string l0.2, .slice ax0 ks0.length cx0]) (Blk.lc0 (post := []) (hxb0.ext (hw15.trans hw17))) ?_
  refine Ld.agg (vs := [.int .i64 l1.1, .string l1.2, .slice ax1 ks1.length cx1]) (Blk.lc0 (post := []) hxb1) ?_
  refine (c_iMatch (by omega) (kx0.ext ((hw14.trans hw15).trans hw17)) (kx1.ext hw17)).mono ?_
  rintro _ w18 ⟨hw18, rg, bsg, rfl, kg, fg⟩
  have log := fg.lo
  have hig := fg.lt
  refine (c_eqBindingS kg (kw.ext (((((hw11.trans hw12).trans hw14).trans hw15).trans hw17).trans hw18))).mono ?_
  rintro r w19 ⟨⟨b, rfl, hb⟩, hw19⟩
  obtain rfl : b = true := hb.2 rfl
  refine Cm.v (c := false) (by simp) ?_
  refine Dr.x [0, 1, 2, 3, 4] ttOk ?_
  refine LdS.xn (vs := [.int .i64 l0.1, .string l0.2, .slice ax0 ks0.length cx0]) (Blk.lc0 (post := []) (hxb0.ext (((hw15.trans hw17).trans hw18).trans hw19))) ?_
  refine LdS.xn (vs := [.int .i64 l0.1, .string l0.2, .slice ao0 ks0.length cap0]) (Blk.lc0 (post := []) (hb0.ext (((((((((((((((hw2.trans hw3).trans hw4).trans hw5).trans hw6).trans hw7).trans hw8).trans hw9).trans hw10).trans hw11).trans hw12).trans hw14).trans hw15).trans hw17).trans hw18).trans hw19))) ?_
  refine ⟨fun w20 hw20 => ?_⟩
  refine (c_toType hc0 (hk0.ext (((((((((((((((((hw1.trans hw2).trans hw3).trans hw4).trans hw5).trans hw6).trans hw7).trans hw8).trans hw9).trans hw10).trans hw11).trans hw12).trans hw14).trans hw15).trans hw17).trans hw18).trans hw19).trans hw20))).mono ?_
  rintro r w21 ⟨hw21, vy0, bsy0, rfl, ky0, fy0⟩
  refine Af.ext (hw20.trans hw21) ?_
  refine ⟨fun w22 hw22 => ?_⟩
  refine (c_eqType (kx0.ext (((((((hw14.trans hw15).trans hw17).trans hw18).trans hw19).trans hw20).trans hw21).trans hw22)) (ky0.ext hw22)).mono ?_
  rintro r w23 ⟨⟨b, rfl, hb⟩, hw23⟩
  obtain rfl : b = true := hb.2 ⟨rfl, rfl⟩
  refine Af.ext (hw22.trans hw23) ?_
  intro w24 hw24
  refine Dr.x [0, 1, 2, 3, 4] ttOk ?_
  refine LdS.xn (vs := [.int .i64 l1.1, .string l1.2, .slice ax1 ks1.length cx1]) (Blk.lc0 (post := []) (hxb1.ext ((((((hw18.trans hw19).trans hw20).trans hw21).trans hw22).trans hw23).trans hw24))) ?_
  refine LdS.xn (vs := [.int .i64 l1.1, .string l1.2, .slice ao1 ks1.length cap1]) (Blk.lc0 (post := []) (hb1.ext (((((((((((((((((((hw3.trans hw4).trans hw5).trans hw6).trans hw7).trans hw8).trans hw9).trans hw10).trans hw11).trans hw12).trans hw14).trans hw15).trans hw17).trans hw18).trans hw19).trans hw20).trans hw21).trans hw22).trans hw23).trans hw24))) ?_
  refine ⟨fun w25 hw25 => ?_⟩
  refine (c_toType hc1 (hk1.ext ((((((((((((((((((((((hw1.trans hw2).trans hw3).trans hw4).trans hw5).trans hw6).trans hw7).trans hw8).trans hw9).trans hw10).trans hw11).trans hw12).trans hw14).trans hw15).trans hw17).trans hw18).trans hw19).trans hw20).trans hw21).trans hw22).trans hw23).trans hw24).trans hw25))).mono ?_
  rintro r w26 ⟨hw26, vy1, bsy1, rfl, ky1, fy1⟩
  refine Af.ext (hw25.trans hw26) ?_
  refine ⟨fun w27 hw27 => ?_⟩
  refine (c_eqType (kx1.ext ((((((((((hw17.trans hw18).trans hw19).trans hw20).trans hw21).trans hw22).trans hw23).trans hw24).trans hw25).trans hw26).trans hw27)) (ky1.ext hw27)).mono ?_
  rintro r w28 ⟨⟨b, rfl, hb⟩, hw28⟩
  obtain rfl : b = true := hb.2 ⟨rfl, rfl⟩
  refine Af.ext (hw27.trans hw28) ?_
  intro w29 hw29
  refine Ld.agg (vs := [.int .i64 l0.1, .string l0.2, .slice ax0 ks0.length cx0]) (Blk.lc0 (post := []) (hxb0.ext (((((((((((((hw15.trans hw17).trans hw18).trans hw19).trans hw20).trans hw21).trans hw22).trans hw23).trans hw24).trans hw25).trans hw26).trans hw27).trans hw28).trans hw29))) ?_
  have zzw1 := hw1.size
  have zzw2 := hw2.size
  have zzw3 := hw3.size
  have zzw4 := hw4.size
  have zzw5 := hw5.size
  have zzw6 := hw6.size
  have zzw7 := hw7.size
  have zzw8 := hw8.size
  have zzw9 := hw9.size
  have zzw10 := hw10.size
  have zzw11 := hw11.size
  have zzw12 := hw12.size
  have zzw14 := hw14.size
  have zzw15 := hw15.size
  have zzw17 := hw17.size
  have zzw18 := hw18.size
  have zzw19 := hw19.size
  have zzw20 := hw20.size
  have zzw21 := hw21.size
  have zzw22 := hw22.size
  have zzw23 := hw23.size
  have zzw24 := hw24.size
  have zzw25 := hw25.size
  have zzw26 := hw26.size
  have zzw27 := hw27.size
  have zzw28 := hw28.size
  have zzw29 := hw29.size
  refine (c_markType (k := 1) (kx0.ext ((((((((((((((hw14.trans hw15).trans hw17).trans hw18).trans hw19).trans hw20).trans hw21).trans hw22).trans hw23).trans hw24).trans hw25).trans hw26).trans hw27).trans hw28).trans hw29)) (fx0.ext ((((((((((((((hw14.trans hw15).trans hw17).trans hw18).trans hw19).trans hw20).trans hw21).trans hw22).trans hw23).trans hw24).trans hw25).trans hw26).trans hw27).trans hw28).trans hw29)) (by omega)).mono ?_
  rintro r w30 ⟨rfl, hcw30, kmx0, fmx0⟩
  have zzw30 := hcw30.size
  have hWw30 : Ext W w30 := Chg.big ((((((((((((((((((((((((((hw1.trans hw2).trans hw3).trans hw4).trans hw5).trans hw6).trans hw7).trans hw8).trans hw9).trans hw10).trans hw11).trans hw12).trans hw14).trans hw15).trans hw17).trans hw18).trans hw19).trans hw20).trans hw21).trans hw22).trans hw23).trans hw24).trans hw25).trans hw26).trans hw27).trans hw28).trans hw29) hcw30 (fun b hb => by have := lox0 b hb; omega)
  replace fw := (fw.ext ((((((((((((((((hw11.trans hw12).trans hw14).trans hw15).trans hw17).trans hw18).trans hw19).trans hw20).trans hw21).trans hw22).trans hw23).trans hw24).trans hw25).trans hw26).trans hw27).trans hw28).trans hw29)).chg hcw30 (fun b hb hb' => by have := lox0 b hb'; have := hix0 b hb'; have := low b hb; have := hiw b hb; omega)
  replace kw := (kw.ext ((((((((((((((((hw11.trans hw12).trans hw14).trans hw15).trans hw17).trans hw18).trans hw19).trans hw20).trans hw21).trans hw22).trans hw23).trans hw24).trans hw25).trans hw26).trans hw27).trans hw28).trans hw29)).chg hcw30 (fun b hb hb' => by have := lox0 b hb'; have := hix0 b hb'; have := low b hb; have := hiw b hb; omega)
  replace fx1 := (fx1.ext ((((((((((((hw17.trans hw18).trans hw19).trans hw20).trans hw21).trans hw22).trans hw23).trans hw24).trans hw25).trans hw26).trans hw27).trans hw28).trans hw29)).chg hcw30 (fun b hb hb' => by have := lox0 b hb'; have := hix0 b hb'; have := lox1 b hb; have := hix1 b hb; omega)
  replace kx1 := (kx1.ext ((((((((((((hw17.trans hw18).trans hw19).trans hw20).trans hw21).trans hw22).trans hw23).trans hw24).trans hw25).trans hw26).trans hw27).trans hw28).trans hw29)).chg hcw30 (fun b hb hb' => by have := lox0 b hb'; have := hix0 b hb'; have := lox1 b hb; have := hix1 b hb; omega)
  replace fg := (fg.ext ((((((((((hw19.trans hw20).trans hw21).trans hw22).trans hw23).trans hw24).trans hw25).trans hw26).trans hw27).trans hw28).trans hw29)).chg hcw30 (fun b hb hb' => by have := lox0 b hb'; have := hix0 b hb'; have := log b hb; have := hig b hb; omega)
  replace kg := (kg.ext ((((((((((hw19.trans hw20).trans hw21).trans hw22).trans hw23).trans hw24).trans hw25).trans hw26).trans hw27).trans hw28).trans hw29)).chg hcw30 (fun b hb hb' => by have := lox0 b hb'; have := hix0 b hb'; have := log b hb; have := hig b hb; omega)
  have lthb0 := hb0.lt
  replace hb0 := (hb0.ext (((((((((((((((((((((((((hw2.trans hw3).trans hw4).trans hw5).trans hw6).trans hw7).trans hw8).trans hw9).trans hw10).trans hw11).trans hw12).trans hw14).trans hw15).trans hw17).trans hw18).trans hw19).trans hw20).trans hw21).trans hw22).trans hw23).trans hw24).trans hw25).trans hw26).trans hw27).trans hw28).trans hw29)).chg hcw30 (fun hb' => by have := lox0 _ hb'; have := hix0 _ hb'; omega)
  have lthb1 := hb1.lt
  replace hb1 := (hb1.ext ((((((((((((((((((((((((hw3.trans hw4).trans hw5).trans hw6).trans hw7).trans hw8).trans hw9).trans hw10).trans hw11).trans hw12).trans hw14).trans hw15).trans hw17).trans hw18).trans hw19).trans hw20).trans hw21).trans hw22).trans hw23).trans hw24).trans hw25).trans hw26).trans hw27).trans hw28).trans hw29)).chg hcw30 (fun hb' => by have := lox0 _ hb'; have := hix0 _ hb'; omega)
  have lthxb0 := hxb0.lt
  replace hxb0 := (hxb0.ext (((((((((((((hw15.trans hw17).trans hw18).trans hw19).trans hw20).trans hw21).trans hw22).trans hw23).trans hw24).trans hw25).trans hw26).trans hw27).trans hw28).trans hw29)).chg hcw30 (fun hb' => by have := lox0 _ hb'; have := hix0 _ hb'; omega)
  have lthxb1 := hxb1.lt
  replace hxb1 := (hxb1.ext (((((((((((hw18.trans hw19).trans hw20).trans hw21).trans hw22).trans hw23).trans hw24).trans hw25).trans hw26).trans hw27).trans hw28).trans hw29)).chg hcw30 (fun hb' => by have := lox0 _ hb'; have := hix0 _ hb'; omega)
  replace kx0 := kmx0
  replace fx0 := fmx0
  refine Ld.agg (vs := [.int .i64 l1.1, .string l1.2, .slice ax1 ks1.length cx1]) (Blk.lc0 (post := []) hxb1) ?_
  refine (c_markType (k := 1 + 2 * Rose.cnt ks0) kx1 fx1 (by omega)).mono ?_
  rintro r w31 ⟨rfl, hcw31, kmx1, fmx1⟩
  have zzw31 := hcw31.size
  have hWw31 : Ext W w31 := Chg.big hWw30 hcw31 (fun b hb => by have := lox1 b hb; omega)
  replace fw := fw.chg hcw31 (fun b hb hb' => by have := lox1 b hb'; have := hix1 b hb'; have := low b hb; have := hiw b hb; omega)
  replace kw := kw.chg hcw31 (fun b hb hb' => by have := lox1 b hb'; have := hix1 b hb'; have := low b hb; have := hiw b hb; omega)
  replace fx0 := fx0.chg hcw31 (fun b hb hb' => by have := lox1 b hb'; have := hix1 b hb'; have := lox0 b hb; have := hix0 b hb; omega)
  replace kx0 := kx0.chg hcw31 (fun b hb hb' => by have := lox1 b hb'; have := hix1 b hb'; have := lox0 b hb; have := hix0 b hb; omega)
  replace fg := fg.chg hcw31 (fun b hb hb' => by have := lox1 b hb'; have := hix1 b hb'; have := log b hb; have := hig b hb; omega)
  replace kg := kg.chg hcw31 (fun b hb hb' => by have := lox1 b hb'; have := hix1 b hb'; have := log b hb; have := hig b hb; omega)
  have lthb0 := hb0.lt
  replace hb0 := hb0.chg hcw31 (fun hb' => by have := lox1 _ hb'; have := hix1 _ hb'; omega)
  have lthb1 := hb1.lt
  replace hb1 := hb1.chg hcw31 (fun hb' => by have := lox1 _ hb'; have := hix1 _ hb'; omega)
  have lthxb0 := hxb0.lt
  replace hxb0 := hxb0.chg hcw31 (fun hb' => by have := lox1 _ hb'; have := hix1 _ hb'; omega)
  have lthxb1 := hxb1.lt
  replace hxb1 := hxb1.chg hcw31 (fun hb' => by have := lox1 _ hb'; have := hix1 _ hb'; omega)
  replace kx1 := kmx1
  replace fx1 := fmx1
  refine Cm.f (by omega) ?_
  refine (c_eqBindingS kg kw).mono ?_
  rintro r w32 ⟨⟨b, rfl, hb⟩, hw32⟩
  obtain rfl : b = true := hb.2 rfl
  refine Cm.v (c := false) (by simp) ?_
  have zzw32 := hw32.size
  refine (c_markBindingS (k := 1) (kg.ext hw32) (fg.ext hw32) (by omega)).mono ?_
  rintro r w33 ⟨rfl, hcw33, kmg, fmg⟩
  have zzw33 := hcw33.size
  have hWw33 : Ext W w33 := Chg.big (hWw31.trans hw32) hcw33 (fun b hb => by have := log b hb; omega)
  replace fw := (fw.ext hw32).chg hcw33 (fun b hb hb' => by have := log b hb'; have := hig b hb'; have := low b hb; have := hiw b hb; omega)
  replace kw := (kw.ext hw32).chg hcw33 (fun b hb hb' => by have := log b hb'; have := hig b hb'; have := low b hb; have := hiw b hb; omega)
  have lthb0 := hb0.lt
  replace hb0 := (hb0.ext hw32).chg hcw33 (fun hb' => by have := log _ hb'; have := hig _ hb'; omega)
  have lthb1 := hb1.lt
  replace hb1 := (hb1.ext hw32).chg hcw33 (fun hb' => by have := log _ hb'; have := hig _ hb'; omega)
  replace kg := kmg
  replace fg := fmg
  refine (c_heldBindingS (k := 1) kg (by omega)).mono ?_
  rintro r w34 ⟨rfl, hw34⟩
  refine Cm.f (by omega) ?_
  refine Cm.v (c := false) (by simp) ?_
  refine Dr.x [0, 2, 1, 3, 4, 5, 6, 7, 8, 9] ttOk ?_
  refine LdS.xn (vs := [.int .i64 l0.1, .string l0.2, .slice ao0 ks0.length cap0]) (Blk.lc0 (post := []) (hb0.ext hw34)) ?_
  refine LdS.xn (vs := [.int .i64 l1.1, .string l1.2, .slice ao1 ks1.length cap1]) (Blk.lc0 (post := []) (hb1.ext hw34)) ?_
  refine ⟨fun w35 hw35 => ?_⟩
  refine (c_toType hc0 (hk0.ext (hWw33.trans (hw34.trans hw35)))).mono ?_
  rintro r w36 ⟨hw36, vy0, bsy0, rfl, ky0, fy0⟩
  refine Af.ext (hw35.trans hw36) ?_
  refine ⟨fun w37 hw37 => ?_⟩
  refine (c_toType hc1 (hk1.ext (hWw33.trans (((hw34.trans hw35).trans hw36).trans hw37)))).mono ?_
  rintro r w38 ⟨hw38, vy1, bsy1, rfl, ky1, fy1⟩
  refine Af.ext (hw37.trans hw38) ?_
  refine ⟨fun w39 hw39 => ?_⟩
  refine (c_iMatch (by omega) (ky0.ext ((hw37.trans hw38).trans hw39)) (ky1.ext hw39)).mono ?_
  rintro _ w40 ⟨hw40, rh, bsh, rfl, kh, fh⟩
  have loh := fh.lo
  have hih := fh.lt
  refine Af.ext (hw39.trans hw40) ?_
  intro w41 hw41
  refine (c_eqBindingS (kh.ext hw41) (kw.ext (((((((hw34.trans hw35).trans hw36).trans hw37).trans hw38).trans hw39).trans hw40).trans hw41))).mono ?_
  rintro r w42 ⟨⟨b, rfl, hb⟩, hw42⟩
  obtain rfl : b = true := hb.2 rfl
  refine Cm.v (c := false) (by simp) ?_
  refine (c_heldBindingS (k := 1) (kg.ext ((((((((hw34.trans hw35).trans hw36).trans hw37).trans hw38).trans hw39).trans hw40).trans hw41).trans hw42)) (by omega)).mono ?_
  rintro r w43 ⟨rfl, hw43⟩
  refine Cm.f (by omega) ?_
  refine Cm.v (c := false) (by simp) ?_
  exact ⟨rfl, (hWw33.trans (((((((((hw34.trans hw35).trans hw36).trans hw37).trans hw38).trans hw39).trans hw40).trans hw41).trans hw42).trans hw43))⟩

set_option maxRecDepth 100000 in
theorem fnExactMatch_lifted (os : Os) (started : os.Started) (H : Type) (enc : TypeId × Value → H) :
    ReturnsInHanded {} Try.checked os 13 .any (Rows.fnExactMatchSpec.pre6 enc Try.prog Try.f13 Rows.fnExactMatchRow.domain false) (Rows.fnExactMatchSpec.post enc Try.prog Try.f13 false true false false) := by
  refine returnsInHanded_of_change (C := Try.checked) Try.own started (by kernel_rfl) Try.func13
    (ChangeSpec.witness6 (enc := enc) (C := Try.checked) false ⟨#[], #[.agg #[.int .i64 0, .string ⟨#[]⟩, .slice none 0 0], .agg #[.int .i64 0, .string ⟨#[]⟩, .slice none 0 0]], []⟩ 8 (by kernel_rfl) (by kernel_rfl) (by kernel_rfl) (by kernel_rfl)) ?_
  intro W base args ds gs before hval0 hW _ _
  have hval : ∀ (j : Nat) t v, Try.f13.params[j]? = some t → args[j]? = some v → Value.okWide Try.prog W .any base t v := hval0
  have hA0 := hW
  obtain ⟨p, q, hA1, _, _, _, _⟩ := hA0
  have hA : DataW.TrodAll enc Try.prog W 0 (fun _ => true) true Try.f13.params.toList args.toList ds p := hA1
  rw [Try.params13] at hA hval
  obtain ⟨v0, vs0, d0, ds0, p0, q0, hargs, rfl, rfl, h0, r0⟩ := trodAll_cons hA
  obtain ⟨v1, vs1, d1, ds1, p1, q1, rfl, rfl, rfl, h1, r1⟩ := trodAll_cons r0
  obtain ⟨rfl, rfl, rfl⟩ := trodAll_nil r1
  obtain rfl : args = #[v0, v1] := by cases args; simp_all
  have o0 := oTy (hval 0 24 v0 rfl rfl) h0
  have o1 := oTy (hval 1 24 v1 rfl rfl) h1
  refine (Ret.calls Try.func13 rfl (by kernel_rfl) (fnExactMatch_ret o0 o1)).mono ?_
  rintro e W' ⟨v, rfl, rfl, hx⟩
  exact ⟨_, rfl, law_post Try.laidOut (by kernel_rfl) rfl Try.underlying4 rfl rfl hW hx⟩

theorem fnExactMatch_holds : Rows.FnExactMatchSaid :=
  OpenClaim.holds_of_wide 13 Try.f13 rfl rfl rfl rfl rfl rfl rfl ⟨rfl, rfl, rfl, rfl, rfl⟩ rfl rfl rfl rfl rfl (by kernel_rfl) Try.func13 (by kernel_rfl)
    (of_decide_eq_true (by kernel_rfl)) (by unfold Func.isWrapper; first | (rw [if_pos (by decide +kernel)]; kernel_rfl) | (rw [if_neg (by decide +kernel)]; exact ⟨rfl, rfl⟩))
    (fun os started H enc _ => fnExactMatch_lifted os started H enc)
end Go.Proofs.Ytmgghbaojcefgaa
