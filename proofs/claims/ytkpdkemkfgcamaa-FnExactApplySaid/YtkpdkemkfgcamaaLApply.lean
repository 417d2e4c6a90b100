/- FnExactApply returns true, for all arguments. Conditions: none. -/
import Derived.Test.YtkpdkemkfgcamaaLawB
import Derived.Test.YtkpdkemkfgcamaaBdK
import Derived.Test.YtkpdkemkfgcamaaBdE
import Derived.Test.YtkpdkemkfgcamaaDrawC
namespace Go.Proofs.Ytkpdkemkfgcamaa
open Go.ChangeShapes Go.WideShapes Go.ChangeAt Go.RowKit

theorem fnExactApply_ret {W : World} {a0 a1 : Value} (g0 : OBds W a0) (g1 : OTy W a1) : Ret Try.prog 4 [a0, a1] W fun r w' => r = .bool true ∧ Ext W w' := by
  obtain ⟨ks0, bs0, hk0, ha0⟩ := g0
  obtain ⟨l1, ks1, v1, bs1, rfl, hk1, hl1, ha1⟩ := g1
  obtain ⟨ao1, cap1, rfl, _, _⟩ := hk1.form
  refine ret_of_vc ttOk Try.func4 rfl (by kernel_rfl) (by kernel_rfl) ?_
  refine Go1.bx ?_
  intro w1 hw1 hb1
  refine (c_szBindingS ha0 (hk0.ext hw1) 1048576 (by omega)).mono ?_
  rintro r w2 ⟨hw2, rfl | ⟨m0, rfl, hm0⟩⟩
  · refine Cm.t (by omega) ?_
    exact ⟨rfl, (hw1.trans hw2)⟩
  refine Cm.f (by omega) ?_
  have hc0 := szB_cnt hm0 (by omega)
  have hq0 := hc0
  have hg0 := Nat.le_trans hc0 (show 1048576 ≤ 4294967000 by decide)
  replace hc0 := Nat.le_trans hc0 (show 1048576 ≤ 4294967296 by decide)
  refine Ld.agg (vs := [.int .i64 l1.1, .string l1.2, .slice ao1 ks1.length cap1]) (Blk.lc0 (post := []) (hb1.ext hw2)) ?_
  refine (c_szType hl1 ha1 (hk1.ext (hw1.trans hw2)) m0 (by omega)).mono ?_
  rintro r w3 ⟨hw3, rfl | ⟨m1, rfl, hm1⟩⟩
  · refine Cm.t (by omega) ?_
    exact ⟨rfl, ((hw1.trans hw2).trans hw3)⟩
  refine Cm.f (by omega) ?_
  have hc1 : Rose.cnt ks1 ≤ 1048576 := by have := Rose.cnt_le (fun l : TLab => l.2.size) ks1; simp only [szT] at hm1; omega
  have hq1 := hc1
  have hg1 := Nat.le_trans hc1 (show 1048576 ≤ 4294967000 by decide)
  replace hc1 := Nat.le_trans hc1 (show 1048576 ≤ 4294967296 by decide)
  have hap := apT_cnt ks0 l1 ks1
  have hap2 : (1 + Rose.cnt ks1) * (1 + cntB ks0) ≤ 1048577 * 1048577 := Nat.mul_le_mul (by omega) (by omega)
  have hmb := markB_le ks0
  refine Dr.cutA (β := Nat × Value × List Nat) 5 6 (fun b => .pointer (some ⟨b.1, 0, none⟩)) (fun b w' => Ext w3 w' ∧ (∃ ar cr, b.2.1 = .slice ar ((apT ks0 (.mk l1 ks1)).kids).length cr ∧ Blk w' b.1 40 [.int .i64 (apT ks0 (.mk l1 ks1)).lab.1, .string (apT ks0 (.mk l1 ks1)).lab.2, .slice ar (apT ks0 (.mk l1 ks1)).kids.length cr]) ∧ Kids encT w' b.2.1 ((apT ks0 (.mk l1 ks1)).kids) b.2.2 ∧ Fresh w3.heap.size w' b.2.2) ?_ ?_
  · refine Dr.e [0, 2, 1, 3, 4, 5, 6] [(1, 5), (3, 5), (4, 5)] ttOk ?_
    refine LdS.xn (vs := [.int .i64 l1.1, .string l1.2, .slice ao1 ks1.length cap1]) (Blk.lc0 (post := []) (hb1.ext (hw2.trans hw3))) ?_
    refine ⟨?_, ?_⟩
    · refine ⟨fun w4 hw4 => ?_⟩
      refine (c_toBindingS (hk0.ext (((hw1.trans hw2).trans hw3).trans hw4)) hc0).mono ?_
      rintro xu0 w5 ⟨hw5, bsu0, ku0, fu0⟩
      refine Af.ext (hw4.trans hw5) ?_
      refine ⟨?_, ?_⟩
      · refine ⟨fun w6 hw6 => ?_⟩
        refine (c_toType hc1 (hk1.ext (((((hw1.trans hw2).trans hw3).trans hw4).trans hw5).trans hw6))).mono ?_
        rintro r w7 ⟨hw7, vu1, bsu1, rfl, ku1, fu1⟩
        refine Af.ext (hw6.trans hw7) ?_
        refine ⟨?_, ?_⟩
        · refine ⟨fun w8 hw8 => ?_⟩
          refine (c_sApply hc0 hc1 (ku0.ext ((hw6.trans hw7).trans hw8)) (ku1.ext hw8)).mono ?_
          rintro _ w9 ⟨hw9, vw, bsw, rfl, kw, fw⟩
          obtain ⟨arw, crw, rfl, _, _⟩ := kw.form
          refine Af.ext (hw8.trans hw9) ?_
          refine ⟨fun w10 hw10 => ?_⟩
          refine Go1.al tiTy ?_
          intro w11 hw11 hbw11
          have ltw11 := hbw11.lt
          refine Af.ext (hw10.trans hw11) ?_
          refine ⟨fun w12 hw12 => ?_⟩
          refine Go0.st (off := 0) (vs := [.int .i64 (apT ks0 (.mk l1 ks1)).lab.1, .string (apT ks0 (.mk l1 ks1)).lab.2, .slice arw (apT ks0 (.mk l1 ks1)).kids.length crw]) (hbw11.ext hw12) rfl rfl (by simp [Value.cells]) (by simp [Value.oneCell']) ?_
          intro w13 hcw13 hb0w13 _
          refine Af.new ?_
          intro w14 hw14
          have szw4 := hw4.size
          have szw5 := hw5.size
          have szw6 := hw6.size
          have szw7 := hw7.size
          have szw8 := hw8.size
          have szw9 := hw9.size
          have szw10 := hw10.size
          have szw11 := hw11.size
          have szw12 := hw12.size
          have hn : ∀ b ∈ bsw, ¬ b = w10.heap.size := fun b hb => by have := fw.lo b hb; have := fw.lt b hb; omega
          refine ⟨(w10.heap.size, _, bsw), ⟨rfl, rfl, rfl⟩, ((((((((((hw4.trans hw5).trans hw6).trans hw7).trans hw8).trans hw9).trans hw10).trans hw11).trans hw12)).chg hcw13 (by omega)).trans hw14, ⟨_, _, rfl, Blk.ext hw14 hb0w13⟩, ((kw.ext ((hw10.trans hw11).trans hw12)).chg hcw13 hn).ext hw14, (((fw.ext ((hw10.trans hw11).trans hw12)).chg hcw13 hn).ext hw14).mono (by omega)⟩
        · refine ⟨fun w15 hw15 => ?_⟩
          refine Go1.al tiTy ?_
          intro w16 hw16 hbw16
          have ltw16 := hbw16.lt
          refine Af.ext (hw15.trans hw16) ?_
          refine ⟨fun w17 hw17 => ?_⟩
          refine (c_sApply hc0 hc1 (ku0.ext ((((hw6.trans hw7).trans hw15).trans hw16).trans hw17)) (ku1.ext ((hw15.trans hw16).trans hw17))).mono ?_
          rintro _ w18 ⟨hw18, vw, bsw, rfl, kw, fw⟩
          obtain ⟨arw, crw, rfl, _, _⟩ := kw.form
          refine Af.ext (hw17.trans hw18) ?_
          refine ⟨fun w19 hw19 => ?_⟩
          refine Go0.st (off := 0) (vs := [.int .i64 (apT ks0 (.mk l1 ks1)).lab.1, .string (apT ks0 (.mk l1 ks1)).lab.2, .slice arw (apT ks0 (.mk l1 ks1)).kids.length crw]) (hbw16.ext ((hw17.trans hw18).trans hw19)) rfl rfl (by simp [Value.cells]) (by simp [Value.oneCell']) ?_
          intro w20 hcw20 hb0w20 _
          refine Af.new ?_
          intro w21 hw21
          have szw4 := hw4.size
          have szw5 := hw5.size
          have szw6 := hw6.size
          have szw7 := hw7.size
          have szw15 := hw15.size
          have szw16 := hw16.size
          have szw17 := hw17.size
          have szw18 := hw18.size
          have szw19 := hw19.size
          have hn : ∀ b ∈ bsw, ¬ b = w15.heap.size := fun b hb => by have := fw.lo b hb; have := fw.lt b hb; omega
          refine ⟨(w15.heap.size, _, bsw), ⟨rfl, rfl, rfl⟩, ((((((((((hw4.trans hw5).trans hw6).trans hw7).trans hw15).trans hw16).trans hw17).trans hw18).trans hw19)).chg hcw20 (by omega)).trans hw21, ⟨_, _, rfl, Blk.ext hw21 hb0w20⟩, ((kw.ext hw19).chg hcw20 hn).ext hw21, (((fw.ext hw19).chg hcw20 hn).ext hw21).mono (by omega)⟩
      · refine ⟨fun w22 hw22 => ?_⟩
        refine Go1.al tiTy ?_
        intro w23 hw23 hbw23
        have ltw23 := hbw23.lt
        refine Af.ext (hw22.trans hw23) ?_
        refine ⟨fun w24 hw24 => ?_⟩
        refine (c_toType hc1 (hk1.ext (((((((hw1.trans hw2).trans hw3).trans hw4).trans hw5).trans hw22).trans hw23).trans hw24))).mono ?_
        rintro r w25 ⟨hw25, vu1, bsu1, rfl, ku1, fu1⟩
        refine Af.ext (hw24.trans hw25) ?_
        refine ⟨fun w26 hw26 => ?_⟩
        refine (c_sApply hc0 hc1 (ku0.ext ((((hw22.trans hw23).trans hw24).trans hw25).trans hw26)) (ku1.ext hw26)).mono ?_
        rintro _ w27 ⟨hw27, vw, bsw, rfl, kw, fw⟩
        obtain ⟨arw, crw, rfl, _, _⟩ := kw.form
        refine Af.ext (hw26.trans hw27) ?_
        refine ⟨fun w28 hw28 => ?_⟩
        refine Go0.st (off := 0) (vs := [.int .i64 (apT ks0 (.mk l1 ks1)).lab.1, .string (apT ks0 (.mk l1 ks1)).lab.2, .slice arw (apT ks0 (.mk l1 ks1)).kids.length crw]) (hbw23.ext ((((hw24.trans hw25).trans hw26).trans hw27).trans hw28)) rfl rfl (by simp [Value.cells]) (by simp [Value.oneCell']) ?_
        intro w29 hcw29 hb0w29 _
        refine Af.new ?_
        intro w30 hw30
        have szw4 := hw4.size
        have szw5 := hw5.size
        have szw22 := hw22.size
        have szw23 := hw23.size
        have szw24 := hw24.size
        have szw25 := hw25.size
        have szw26 := hw26.size
        have szw27 := hw27.size
        have szw28 := hw28.size
        have hn : ∀ b ∈ bsw, ¬ b = w22.heap.size := fun b hb => by have := fw.lo b hb; have := fw.lt b hb; omega
        refine ⟨(w22.heap.size, _, bsw), ⟨rfl, rfl, rfl⟩, ((((((((((hw4.trans hw5).trans hw22).trans hw23).trans hw24).trans hw25).trans hw26).trans hw27).trans hw28)).chg hcw29 (by omega)).trans hw30, ⟨_, _, rfl, Blk.ext hw30 hb0w29⟩, ((kw.ext hw28).chg hcw29 hn).ext hw30, (((fw.ext hw28).chg hcw29 hn).ext hw30).mono (by omega)⟩
    · refine ⟨fun w31 hw31 => ?_⟩
      refine Go1.al tiTy ?_
      intro w32 hw32 hbw32
      have ltw32 := hbw32.lt
      refine Af.ext (hw31.trans hw32) ?_
      refine ⟨fun w33 hw33 => ?_⟩
      refine (c_toBindingS (hk0.ext (((((hw1.trans hw2).trans hw3).trans hw31).trans hw32).trans hw33)) hc0).mono ?_
      rintro xu0 w34 ⟨hw34, bsu0, ku0, fu0⟩
      refine Af.ext (hw33.trans hw34) ?_
      refine ⟨fun w35 hw35 => ?_⟩
      refine (c_toType hc1 (hk1.ext (((((((hw1.trans hw2).trans hw3).trans hw31).trans hw32).trans hw33).trans hw34).trans hw35))).mono ?_
      rintro r w36 ⟨hw36, vu1, bsu1, rfl, ku1, fu1⟩
      refine Af.ext (hw35.trans hw36) ?_
      refine ⟨fun w37 hw37 => ?_⟩
      refine (c_sApply hc0 hc1 (ku0.ext ((hw35.trans hw36).trans hw37)) (ku1.ext hw37)).mono ?_
      rintro _ w38 ⟨hw38, vw, bsw, rfl, kw, fw⟩
      obtain ⟨arw, crw, rfl, _, _⟩ := kw.form
      refine Af.ext (hw37.trans hw38) ?_
      refine ⟨fun w39 hw39 => ?_⟩
      refine Go0.st (off := 0) (vs := [.int .i64 (apT ks0 (.mk l1 ks1)).lab.1, .string (apT ks0 (.mk l1 ks1)).lab.2, .slice arw (apT ks0 (.mk l1 ks1)).kids.length crw]) (hbw32.ext ((((((hw33.trans hw34).trans hw35).trans hw36).trans hw37).trans hw38).trans hw39)) rfl rfl (by simp [Value.cells]) (by simp [Value.oneCell']) ?_
      intro w40 hcw40 hb0w40 _
      refine Af.new ?_
      intro w41 hw41
      have szw31 := hw31.size
      have szw32 := hw32.size
      have szw33 := hw33.size
      have szw34 := hw34.size
      have szw35 := hw35.size
      have szw36 := hw36.size
      have szw37 := hw37.size
      have szw38 := hw38.size
      have szw39 := hw39.size
      have hn : ∀ b ∈ bsw, ¬ b = w31.heap.size := fun b hb => by have := fw.lo b hb; have := fw.lt b hb; omega
      refine ⟨(w31.heap.size, _, bsw), ⟨rfl, rfl, rfl⟩, ((((((((((hw31.trans hw32).trans hw33).trans hw34).trans hw35).trans hw36).trans hw37).trans hw38).trans hw39)).chg hcw40 (by omega)).trans hw41, ⟨_, _, rfl, Blk.ext hw41 hb0w40⟩, ((kw.ext hw39).chg hcw40 hn).ext hw41, (((fw.ext hw39).chg hcw40 hn).ext hw41).mono (by omega)⟩
  rintro ⟨gw, vw, bsw⟩ w42 ⟨hw42, ⟨arw, crw, hvw, hrbw⟩, kw, fw⟩
  simp only at hvw hrbw kw fw
  subst hvw
  have gltw := hrbw.lt
  have low := fw.lo
  have hiw := fw.lt
  refine (c_toBindingS (hk0.ext (((hw1.trans hw2).trans hw3).trans hw42)) hc0).mono ?_
  rintro xx0 w43 ⟨hw43, bsx0, kx0, fx0⟩
  refine Ld.agg (vs := [.int .i64 l1.1, .string l1.2, .slice ao1 ks1.length cap1]) (Blk.lc0 (post := []) (hb1.ext (((hw2.trans hw3).trans hw42).trans hw43))) ?_
  refine (c_toType hc1 (hk1.ext ((((hw1.trans hw2).trans hw3).trans hw42).trans hw43))).mono ?_
  rintro r w44 ⟨hw44, vx1, bsx1, rfl, kx1, fx1⟩
  obtain ⟨ax1, cx1, rfl, _, _⟩ := kx1.form
  refine Go1.al tiTy ?_
  intro w45 hw45 hbw45
  have ltw45 := hbw45.lt
  have szw45 := hw45.size
  refine Go0.st (off := 0) (vs := [.int .i64 l1.1, .string l1.2, .slice ax1 ks1.length cx1]) hbw45 rfl rfl (by simp [Value.cells]) (by simp [Value.oneCell']) ?_
  intro w46 hcw46 hb0w46 _
  have hxb1 : Blk w46 w44.heap.size 40 [.int .i64 l1.1, .string l1.2, .slice ax1 ks1.length cx1] := hb0w46
  have hw46 : Ext w44 w46 := hw45.chg hcw46 (by omega)
  have lox0 := fx0.lo
  have hix0 := fx0.lt
  have lox1 := fx1.lo
  have hix1 := fx1.lt
  refine Ld.agg (vs := [.int .i64 l1.1, .string l1.2, .slice ax1 ks1.length cx1]) (Blk.lc0 (post := []) hxb1) ?_
  refine (c_iApply hc0 hc1 (kx0.ext (hw44.trans hw46)) (kx1.ext hw46)).mono ?_
  rintro _ w47 ⟨hw47, vg, bsg, rfl, kg, fg⟩
  obtain ⟨arg, crg, rfl, _, _⟩ := kg.form
  refine Go1.al tiTy ?_
  intro w48 hw48 hbw48
  have ltw48 := hbw48.lt
  have szw48 := hw48.size
  refine Go0.st (off := 0) (vs := [.int .i64 (apT ks0 (.mk l1 ks1)).lab.1, .string (apT ks0 (.mk l1 ks1)).lab.2, .slice arg (apT ks0 (.mk l1 ks1)).kids.length crg]) hbw48 rfl rfl (by simp [Value.cells]) (by simp [Value.oneCell']) ?_
  intro w49 hcw49 hb0w49 _
  have hrbg : Blk w49 w47.heap.size 40 [.int .i64 (apT ks0 (.mk l1 ks1)).lab.1, .string (apT ks0 (.mk l1 ks1)).lab.2, .slice arg (apT ks0 (.mk l1 ks1)).kids.length crg] := hb0w49
  have hw49 : Ext w47 w49 := hw48.chg hcw49 (by omega)
  have log := fg.lo
  have hig := fg.lt
  refine Ld.agg (vs := [.int .i64 (apT ks0 (.mk l1 ks1)).lab.1, .string (apT ks0 (.mk l1 ks1)).lab.2, .slice arg (apT ks0 (.mk l1 ks1)).kids.length crg]) (Blk.lc0 (post := []) hrbg) ?_
  refine Ld.agg (vs := [.int .i64 (apT ks0 (.mk l1 ks1)).lab.1, .string (apT ks0 (.mk l1 ks1)).lab.2, .slice arw (apT ks0 (.mk l1 ks1)).kids.length crw]) (Blk.lc0 (post := []) (hrbw.ext ((((hw43.trans hw44).trans hw46).trans hw47).trans hw49))) ?_
  refine (c_eqType (kg.ext hw49) (kw.ext ((((hw43.trans hw44).trans hw46).trans hw47).trans hw49))).mono ?_
  rintro r w50 ⟨⟨b, rfl, hb⟩, hw50⟩
  obtain rfl : b = true := hb.2 ⟨rfl, rfl⟩
  refine (c_toBindingS (hk0.ext (((((((((hw1.trans hw2).trans hw3).trans hw42).trans hw43).trans hw44).trans hw46).trans hw47).trans hw49).trans hw50)) hc0).mono ?_
  rintro xy0 w51 ⟨hw51, bsy0, ky0, fy0⟩
  refine (c_eqBindingS (kx0.ext (((((hw44.trans hw46).trans hw47).trans hw49).trans hw50).trans hw51)) ky0).mono ?_
  rintro r w52 ⟨⟨b, rfl, hb⟩, hw52⟩
  obtain rfl : b = true := hb.2 rfl
  refine Dr.x [0, 1, 2, 3, 4] ttOk ?_
  refine LdS.xn (vs := [.int .i64 l1.1, .string l1.2, .slice ax1 ks1.length cx1]) (Blk.lc0 (post := []) (hxb1.ext ((((hw47.trans hw49).trans hw50).trans hw51).trans hw52))) ?_
  refine LdS.xn (vs := [.int .i64 l1.1, .string l1.2, .slice ao1 ks1.length cap1]) (Blk.lc0 (post := []) (hb1.ext ((((((((((hw2.trans hw3).trans hw42).trans hw43).trans hw44).trans hw46).trans hw47).trans hw49).trans hw50).trans hw51).trans hw52))) ?_
  refine ⟨fun w53 hw53 => ?_⟩
  refine (c_toType hc1 (hk1.ext ((((((((((((hw1.trans hw2).trans hw3).trans hw42).trans hw43).trans hw44).trans hw46).trans hw47).trans hw49).trans hw50).trans hw51).trans hw52).trans hw53))).mono ?_
  rintro r w54 ⟨hw54, vy1, bsy1, rfl, ky1, fy1⟩
  refine Af.ext (hw53.trans hw54) ?_
  refine ⟨fun w55 hw55 => ?_⟩
  refine (c_eqType (kx1.ext ((((((((hw46.trans hw47).trans hw49).trans hw50).trans hw51).trans hw52).trans hw53).trans hw54).trans hw55)) (ky1.ext hw55)).mono ?_
  rintro r w56 ⟨⟨b, rfl, hb⟩, hw56⟩
  obtain rfl : b = true := hb.2 ⟨rfl, rfl⟩
  refine Af.ext (hw55.trans hw56) ?_
  intro w57 hw57
  have zzw1 := hw1.size
  have zzw2 := hw2.size
  have zzw3 := hw3.size
  have zzw42 := hw42.size
  have zzw43 := hw43.size
  have zzw44 := hw44.size
  have zzw46 := hw46.size
  have zzw47 := hw47.size
  have zzw49 := hw49.size
  have zzw50 := hw50.size
  have zzw51 := hw51.size
  have zzw52 := hw52.size
  have zzw53 := hw53.size
  have zzw54 := hw54.size
  have zzw55 := hw55.size
  have zzw56 := hw56.size
  have zzw57 := hw57.size
  refine (c_markBindingS (k := 1) (kx0.ext (((((((((((hw44.trans hw46).trans hw47).trans hw49).trans hw50).trans hw51).trans hw52).trans hw53).trans hw54).trans hw55).trans hw56).trans hw57)) (fx0.ext (((((((((((hw44.trans hw46).trans hw47).trans hw49).trans hw50).trans hw51).trans hw52).trans hw53).trans hw54).trans hw55).trans hw56).trans hw57)) (by omega)).mono ?_
  rintro r w58 ⟨rfl, hcw58, kmx0, fmx0⟩
  have zzw58 := hcw58.size
  have hWw58 : Ext W w58 := Chg.big ((((((((((((((((hw1.trans hw2).trans hw3).trans hw42).trans hw43).trans hw44).trans hw46).trans hw47).trans hw49).trans hw50).trans hw51).trans hw52).trans hw53).trans hw54).trans hw55).trans hw56).trans hw57) hcw58 (fun b hb => by have := lox0 b hb; omega)
  replace fw := (fw.ext ((((((((((((hw43.trans hw44).trans hw46).trans hw47).trans hw49).trans hw50).trans hw51).trans hw52).trans hw53).trans hw54).trans hw55).trans hw56).trans hw57)).chg hcw58 (fun b hb hb' => by have := lox0 b hb'; have := hix0 b hb'; have := low b hb; have := hiw b hb; omega)
  replace kw := (kw.ext ((((((((((((hw43.trans hw44).trans hw46).trans hw47).trans hw49).trans hw50).trans hw51).trans hw52).trans hw53).trans hw54).trans hw55).trans hw56).trans hw57)).chg hcw58 (fun b hb hb' => by have := lox0 b hb'; have := hix0 b hb'; have := low b hb; have := hiw b hb; omega)
  replace fx1 := (fx1.ext ((((((((((hw46.trans hw47).trans hw49).trans hw50).trans hw51).trans hw52).trans hw53).trans hw54).trans hw55).trans hw56).trans hw57)).chg hcw58 (fun b hb hb' => by have := lox0 b hb'; have := hix0 b hb'; have := lox1 b hb; have := hix1 b hb; omega)
  replace kx1 := (kx1.ext ((((((((((hw46.trans hw47).trans hw49).trans hw50).trans hw51).trans hw52).trans hw53).trans hw54).trans hw55).trans hw56).trans hw57)).chg hcw58 (fun b hb hb' => by have := lox0 b hb'; have := hix0 b hb'; have := lox1 b hb; have := hix1 b hb; omega)
  replace fg := (fg.ext ((((((((hw49.trans hw50).trans hw51).trans hw52).trans hw53).trans hw54).trans hw55).trans hw56).trans hw57)).chg hcw58 (fun b hb hb' => by have := lox0 b hb'; have := hix0 b hb'; have := log b hb; have := hig b hb; omega)
  replace kg := (kg.ext ((((((((hw49.trans hw50).trans hw51).trans hw52).trans hw53).trans hw54).trans hw55).trans hw56).trans hw57)).chg hcw58 (fun b hb hb' => by have := lox0 b hb'; have := hix0 b hb'; have := log b hb; have := hig b hb; omega)
  have lthb1 := hb1.lt
  replace hb1 := (hb1.ext (((((((((((((((hw2.trans hw3).trans hw42).trans hw43).trans hw44).trans hw46).trans hw47).trans hw49).trans hw50).trans hw51).trans hw52).trans hw53).trans hw54).trans hw55).trans hw56).trans hw57)).chg hcw58 (fun hb' => by have := lox0 _ hb'; have := hix0 _ hb'; omega)
  have lthrbw := hrbw.lt
  replace hrbw := (hrbw.ext ((((((((((((hw43.trans hw44).trans hw46).trans hw47).trans hw49).trans hw50).trans hw51).trans hw52).trans hw53).trans hw54).trans hw55).trans hw56).trans hw57)).chg hcw58 (fun hb' => by have := lox0 _ hb'; have := hix0 _ hb'; omega)
  have lthxb1 := hxb1.lt
  replace hxb1 := (hxb1.ext (((((((((hw47.trans hw49).trans hw50).trans hw51).trans hw52).trans hw53).trans hw54).trans hw55).trans hw56).trans hw57)).chg hcw58 (fun hb' => by have := lox0 _ hb'; have := hix0 _ hb'; omega)
  have lthrbg := hrbg.lt
  replace hrbg := (hrbg.ext (((((((hw50.trans hw51).trans hw52).trans hw53).trans hw54).trans hw55).trans hw56).trans hw57)).chg hcw58 (fun hb' => by have := lox0 _ hb'; have := hix0 _ hb'; omega)
  replace kx0 := kmx0
  replace fx0 := fmx0
  refine Ld.agg (vs := [.int .i64 l1.1, .string l1.2, .slice ax1 ks1.length cx1]) (Blk.lc0 (post := []) hxb1) ?_
  refine (c_markType (k := 1 + markB ks0) kx1 fx1 (by omega)).mono ?_
  rintro r w59 ⟨rfl, hcw59, kmx1, fmx1⟩
  have zzw59 := hcw59.size
  have hWw59 : Ext W w59 := Chg.big hWw58 hcw59 (fun b hb => by have := lox1 b hb; omega)
  replace fw := fw.chg hcw59 (fun b hb hb' => by have := lox1 b hb'; have := hix1 b hb'; have := low b hb; have := hiw b hb; omega)
  replace kw := kw.chg hcw59 (fun b hb hb' => by have := lox1 b hb'; have := hix1 b hb'; have := low b hb; have := hiw b hb; omega)
  replace fx0 := fx0.chg hcw59 (fun b hb hb' => by have := lox1 b hb'; have := hix1 b hb'; have := lox0 b hb; have := hix0 b hb; omega)
  replace kx0 := kx0.chg hcw59 (fun b hb hb' => by have := lox1 b hb'; have := hix1 b hb'; have := lox0 b hb; have := hix0 b hb; omega)
  replace fg := fg.chg hcw59 (fun b hb hb' => by have := lox1 b hb'; have := hix1 b hb'; have := log b hb; have := hig b hb; omega)
  replace kg := kg.chg hcw59 (fun b hb hb' => by have := lox1 b hb'; have := hix1 b hb'; have := log b hb; have := hig b hb; omega)
  have lthb1 := hb1.lt
  replace hb1 := hb1.chg hcw59 (fun hb' => by have := lox1 _ hb'; have := hix1 _ hb'; omega)
  have lthrbw := hrbw.lt
  replace hrbw := hrbw.chg hcw59 (fun hb' => by have := lox1 _ hb'; have := hix1 _ hb'; omega)
  have lthxb1 := hxb1.lt
  replace hxb1 := hxb1.chg hcw59 (fun hb' => by have := lox1 _ hb'; have := hix1 _ hb'; omega)
  have lthrbg := hrbg.lt
  replace hrbg := hrbg.chg hcw59 (fun hb' => by have := lox1 _ hb'; have := hix1 _ hb'; omega)
  replace kx1 := kmx1
  replace fx1 := fmx1
  refine Cm.f (by omega) ?_
  refine Ld.agg (vs := [.int .i64 (apT ks0 (.mk l1 ks1)).lab.1, .string (apT ks0 (.mk l1 ks1)).lab.2, .slice arg (apT ks0 (.mk l1 ks1)).kids.length crg]) (Blk.lc0 (post := []) hrbg) ?_
  refine Ld.agg (vs := [.int .i64 (apT ks0 (.mk l1 ks1)).lab.1, .string (apT ks0 (.mk l1 ks1)).lab.2, .slice arw (apT ks0 (.mk l1 ks1)).kids.length crw]) (Blk.lc0 (post := []) hrbw) ?_
  refine (c_eqType kg kw).mono ?_
  rintro r w60 ⟨⟨b, rfl, hb⟩, hw60⟩
  obtain rfl : b = true := hb.2 ⟨rfl, rfl⟩
  refine Ld.agg (vs := [.int .i64 (apT ks0 (.mk l1 ks1)).lab.1, .string (apT ks0 (.mk l1 ks1)).lab.2, .slice arg (apT ks0 (.mk l1 ks1)).kids.length crg]) (Blk.lc0 (post := []) (hrbg.ext hw60)) ?_
  have zzw60 := hw60.size
  refine (c_markType (k := 1) (kg.ext hw60) (fg.ext hw60) (by omega)).mono ?_
  rintro r w61 ⟨rfl, hcw61, kmg, fmg⟩
  have zzw61 := hcw61.size
  have hWw61 : Ext W w61 := Chg.big (hWw59.trans hw60) hcw61 (fun b hb => by have := log b hb; omega)
  replace fw := (fw.ext hw60).chg hcw61 (fun b hb hb' => by have := log b hb'; have := hig b hb'; have := low b hb; have := hiw b hb; omega)
  replace kw := (kw.ext hw60).chg hcw61 (fun b hb hb' => by have := log b hb'; have := hig b hb'; have := low b hb; have := hiw b hb; omega)
  have lthb1 := hb1.lt
  replace hb1 := (hb1.ext hw60).chg hcw61 (fun hb' => by have := log _ hb'; have := hig _ hb'; omega)
  have lthrbw := hrbw.lt
  replace hrbw := (hrbw.ext hw60).chg hcw61 (fun hb' => by have := log _ hb'; have := hig _ hb'; omega)
  have lthrbg := hrbg.lt
  replace hrbg := (hrbg.ext hw60).chg hcw61 (fun hb' => by have := log _ hb'; have := hig _ hb'; omega)
  replace kg := kmg
  replace fg := fmg
  refine Ld.agg (vs := [.int .i64 (apT ks0 (.mk l1 ks1)).lab.1, .string (apT ks0 (.mk l1 ks1)).lab.2, .slice arg (apT ks0 (.mk l1 ks1)).kids.length crg]) (Blk.lc0 (post := []) hrbg) ?_
  refine (c_heldType (k := 1) kg (by omega)).mono ?_
  rintro r w62 ⟨rfl, hw62⟩
  refine Cm.f (by omega) ?_
  refine Cm.v (c := false) (by simp) ?_
  refine Dr.cutA (β := Nat × Value × List Nat) 5 6 (fun b => .pointer (some ⟨b.1, 0, none⟩)) (fun b w' => Ext w62 w' ∧ (∃ ar cr, b.2.1 = .slice ar ((apT ks0 (.mk l1 ks1)).kids).length cr ∧ Blk w' b.1 40 [.int .i64 (apT ks0 (.mk l1 ks1)).lab.1, .string (apT ks0 (.mk l1 ks1)).lab.2, .slice ar (apT ks0 (.mk l1 ks1)).kids.length cr]) ∧ Kids encT w' b.2.1 ((apT ks0 (.mk l1 ks1)).kids) b.2.2 ∧ Fresh w62.heap.size w' b.2.2) ?_ ?_
  · refine Dr.e [0, 2, 1, 3, 4, 5, 6] [(1, 5), (3, 5), (4, 5)] ttOk ?_
    refine LdS.xn (vs := [.int .i64 l1.1, .string l1.2, .slice ao1 ks1.length cap1]) (Blk.lc0 (post := []) (hb1.ext hw62)) ?_
    refine ⟨?_, ?_⟩
    · refine ⟨fun w63 hw63 => ?_⟩
      refine (c_toBindingS (hk0.ext (hWw61.trans (hw62.trans hw63))) hc0).mono ?_
      rintro xy0 w64 ⟨hw64, bsy0, ky0, fy0⟩
      refine Af.ext (hw63.trans hw64) ?_
      refine ⟨?_, ?_⟩
      · refine ⟨fun w65 hw65 => ?_⟩
        refine (c_toType hc1 (hk1.ext (hWw61.trans (((hw62.trans hw63).trans hw64).trans hw65)))).mono ?_
        rintro r w66 ⟨hw66, vy1, bsy1, rfl, ky1, fy1⟩
        refine Af.ext (hw65.trans hw66) ?_
        refine ⟨?_, ?_⟩
        · refine ⟨fun w67 hw67 => ?_⟩
          refine (c_iApply hc0 hc1 (ky0.ext ((hw65.trans hw66).trans hw67)) (ky1.ext hw67)).mono ?_
          rintro _ w68 ⟨hw68, vh, bsh, rfl, kh, fh⟩
          obtain ⟨arh, crh, rfl, _, _⟩ := kh.form
          refine Af.ext (hw67.trans hw68) ?_
          refine ⟨fun w69 hw69 => ?_⟩
          refine Go1.al tiTy ?_
          intro w70 hw70 hbw70
          have ltw70 := hbw70.lt
          refine Af.ext (hw69.trans hw70) ?_
          refine ⟨fun w71 hw71 => ?_⟩
          refine Go0.st (off := 0) (vs := [.int .i64 (apT ks0 (.mk l1 ks1)).lab.1, .string (apT ks0 (.mk l1 ks1)).lab.2, .slice arh (apT ks0 (.mk l1 ks1)).kids.length crh]) (hbw70.ext hw71) rfl rfl (by simp [Value.cells]) (by simp [Value.oneCell']) ?_
          intro w72 hcw72 hb0w72 _
          refine Af.new ?_
          intro w73 hw73
          have szw63 := hw63.size
          have szw64 := hw64.size
          have szw65 := hw65.size
          have szw66 := hw66.size
          have szw67 := hw67.size
          have szw68 := hw68.size
          have szw69 := hw69.size
          have szw70 := hw70.size
          have szw71 := hw71.size
          have hn : ∀ b ∈ bsh, ¬ b = w69.heap.size := fun b hb => by have := fh.lo b hb; have := fh.lt b hb; omega
          refine ⟨(w69.heap.size, _, bsh), ⟨rfl, rfl, rfl⟩, ((((((((((hw63.trans hw64).trans hw65).trans hw66).trans hw67).trans hw68).trans hw69).trans hw70).trans hw71)).chg hcw72 (by omega)).trans hw73, ⟨_, _, rfl, Blk.ext hw73 hb0w72⟩, ((kh.ext ((hw69.trans hw70).trans hw71)).chg hcw72 hn).ext hw73, (((fh.ext ((hw69.trans hw70).trans hw71)).chg hcw72 hn).ext hw73).mono (by omega)⟩
        · refine ⟨fun w74 hw74 => ?_⟩
          refine Go1.al tiTy ?_
          intro w75 hw75 hbw75
          have ltw75 := hbw75.lt
          refine Af.ext (hw74.trans hw75) ?_
          refine ⟨fun w76 hw76 => ?_⟩
          refine (c_iApply hc0 hc1 (ky0.ext ((((hw65.trans hw66).trans hw74).trans hw75).trans hw76)) (ky1.ext ((hw74.trans hw75).trans hw76))).mono ?_
          rintro _ w77 ⟨hw77, vh, bsh, rfl, kh, fh⟩
          obtain ⟨arh, crh, rfl, _, _⟩ := kh.form
          refine Af.ext (hw76.trans hw77) ?_
          refine ⟨fun w78 hw78 => ?_⟩
          refine Go0.st (off := 0) (vs := [.int .i64 (apT ks0 (.mk l1 ks1)).lab.1, .string (apT ks0 (.mk l1 ks1)).lab.2, .slice arh (apT ks0 (.mk l1 ks1)).kids.length crh]) (hbw75.ext ((hw76.trans hw77).trans hw78)) rfl rfl (by simp [Value.cells]) (by simp [Value.oneCell']) ?_
          intro w79 hcw79 hb0w79 _
          refine Af.new ?_
          intro w80 hw80
          have szw63 := hw63.size
          have szw64 := hw64.size
          have szw65 := hw65.size
          have szw66 := hw66.size
          have szw74 := hw74.size
          have szw75 := hw75.size
          have szw76 := hw76.size
          have szw77 := hw77.size
          have szw78 := hw78.size
          have hn : ∀ b ∈ bsh, ¬ b = w74.heap.size := fun b hb => by have := fh.lo b hb; have := fh.lt b hb; omega
          refine ⟨(w74.heap.size, _, bsh), ⟨rfl, rfl, rfl⟩, ((((((((((hw63.trans hw64).trans hw65).trans hw66).trans hw74).trans hw75).trans hw76).trans hw77).trans hw78)).chg hcw79 (by omega)).trans hw80, ⟨_, _, rfl, Blk.ext hw80 hb0w79⟩, ((kh.ext hw78).chg hcw79 hn).ext hw80, (((fh.ext hw78).chg hcw79 hn).ext hw80).mono (by omega)⟩
      · refine ⟨fun w81 hw81 => ?_⟩
        refine Go1.al tiTy ?_
        intro w82 hw82 hbw82
        have ltw82 := hbw82.lt
        refine Af.ext (hw81.trans hw82) ?_
        refine ⟨fun w83 hw83 => ?_⟩
        refine (c_toType hc1 (hk1.ext (hWw61.trans (((((hw62.trans hw63).trans hw64).trans hw81).trans hw82).trans hw83)))).mono ?_
        rintro r w84 ⟨hw84, vy1, bsy1, rfl, ky1, fy1⟩
        refine Af.ext (hw83.trans hw84) ?_
        refine ⟨fun w85 hw85 => ?_⟩
        refine (c_iApply hc0 hc1 (ky0.ext ((((hw81.trans hw82).trans hw83).trans hw84).trans hw85)) (ky1.ext hw85)).mono ?_
        rintro _ w86 ⟨hw86, vh, bsh, rfl, kh, fh⟩
        obtain ⟨arh, crh, rfl, _, _⟩ := kh.form
        refine Af.ext (hw85.trans hw86) ?_
        refine ⟨fun w87 hw87 => ?_⟩
        refine Go0.st (off := 0) (vs := [.int .i64 (apT ks0 (.mk l1 ks1)).lab.1, .string (apT ks0 (.mk l1 ks1)).lab.2, .slice arh (apT ks0 (.mk l1 ks1)).kids.length crh]) (hbw82.ext ((((hw83.trans hw84).trans hw85).trans hw86).trans hw87)) rfl rfl (by simp [Value.cells]) (by simp [Value.oneCell']) ?_
        intro w88 hcw88 hb0w88 _
        refine Af.new ?_
        intro w89 hw89
        have szw63 := hw63.size
        have szw64 := hw64.size
        have szw81 := hw81.size
        have szw82 := hw82.size
        have szw83 := hw83.size
        have szw84 := hw84.size
        have szw85 := hw85.size
        have szw86 := hw86.size
        have szw87 := hw87.size
        have hn : ∀ b ∈ bsh, ¬ b = w81.heap.size := fun b hb => by have := fh.lo b hb; have := fh.lt b hb; omega
        refine ⟨(w81.heap.size, _, bsh), ⟨rfl, rfl, rfl⟩, ((((((((((hw63.trans hw64).trans hw81).trans hw82).trans hw83).trans hw84).trans hw85).trans hw86).trans hw87)).chg hcw88 (by omega)).trans hw89, ⟨_, _, rfl, Blk.ext hw89 hb0w88⟩, ((kh.ext hw87).chg hcw88 hn).ext hw89, (((fh.ext hw87).chg hcw88 hn).ext hw89).mono (by omega)⟩
    · refine ⟨fun w90 hw90 => ?_⟩
      refine Go1.al tiTy ?_
      intro w91 hw91 hbw91
      have ltw91 := hbw91.lt
      refine Af.ext (hw90.trans hw91) ?_
      refine ⟨fun w92 hw92 => ?_⟩
      refine (c_toBindingS (hk0.ext (hWw61.trans (((hw62.trans hw90).trans hw91).trans hw92))) hc0).mono ?_
      rintro xy0 w93 ⟨hw93, bsy0, ky0, fy0⟩
      refine Af.ext (hw92.trans hw93) ?_
      refine ⟨fun w94 hw94 => ?_⟩
      refine (c_toType hc1 (hk1.ext (hWw61.trans (((((hw62.trans hw90).trans hw91).trans hw92).trans hw93).trans hw94)))).mono ?_
      rintro r w95 ⟨hw95, vy1, bsy1, rfl, ky1, fy1⟩
      refine Af.ext (hw94.trans hw95) ?_
      refine ⟨fun w96 hw96 => ?_⟩
      refine (c_iApply hc0 hc1 (ky0.ext ((hw94.trans hw95).trans hw96)) (ky1.ext hw96)).mono ?_
      rintro _ w97 ⟨hw97, vh, bsh, rfl, kh, fh⟩
      obtain ⟨arh, crh, rfl, _, _⟩ := kh.form
      refine Af.ext (hw96.trans hw97) ?_
      refine ⟨fun w98 hw98 => ?_⟩
      refine Go0.st (off := 0) (vs := [.int .i64 (apT ks0 (.mk l1 ks1)).lab.1, .string (apT ks0 (.mk l1 ks1)).lab.2, .slice arh (apT ks0 (.mk l1 ks1)).kids.length crh]) (hbw91.ext ((((((hw92.trans hw93).trans hw94).trans hw95).trans hw96).trans hw97).trans hw98)) rfl rfl (by simp [Value.cells]) (by simp [Value.oneCell']) ?_
      intro w99 hcw99 hb0w99 _
      refine Af.new ?_
      intro w100 hw100
      have szw90 := hw90.size
      have szw91 := hw91.size
      have szw92 := hw92.size
      have szw93 := hw93.size
      have szw94 := hw94.size
      have szw95 := hw95.size
      have szw96 := hw96.size
      have szw97 := hw97.size
      have szw98 := hw98.size
      have hn : ∀ b ∈ bsh, ¬ b = w90.heap.size := fun b hb => by have := fh.lo b hb; have := fh.lt b hb; omega
      refine ⟨(w90.heap.size, _, bsh), ⟨rfl, rfl, rfl⟩, ((((((((((hw90.trans hw91).trans hw92).trans hw93).trans hw94).trans hw95).trans hw96).trans hw97).trans hw98)).chg hcw99 (by omega)).trans hw100, ⟨_, _, rfl, Blk.ext hw100 hb0w99⟩, ((kh.ext hw98).chg hcw99 hn).ext hw100, (((fh.ext hw98).chg hcw99 hn).ext hw100).mono (by omega)⟩
  rintro ⟨gh, vh, bsh⟩ w101 ⟨hw101, ⟨arh, crh, hvh, hrbh⟩, kh, fh⟩
  simp only at hvh hrbh kh fh
  subst hvh
  have glth := hrbh.lt
  have loh := fh.lo
  have hih := fh.lt
  refine Ld.agg (vs := [.int .i64 (apT ks0 (.mk l1 ks1)).lab.1, .string (apT ks0 (.mk l1 ks1)).lab.2, .slice arh (apT ks0 (.mk l1 ks1)).kids.length crh]) (Blk.lc0 (post := []) hrbh) ?_
  refine Ld.agg (vs := [.int .i64 (apT ks0 (.mk l1 ks1)).lab.1, .string (apT ks0 (.mk l1 ks1)).lab.2, .slice arw (apT ks0 (.mk l1 ks1)).kids.length crw]) (Blk.lc0 (post := []) (hrbw.ext (hw62.trans hw101))) ?_
  refine (c_eqType kh (kw.ext (hw62.trans hw101))).mono ?_
  rintro r w102 ⟨⟨b, rfl, hb⟩, hw102⟩
  obtain rfl : b = true := hb.2 ⟨rfl, rfl⟩
  refine Ld.agg (vs := [.int .i64 (apT ks0 (.mk l1 ks1)).lab.1, .string (apT ks0 (.mk l1 ks1)).lab.2, .slice arg (apT ks0 (.mk l1 ks1)).kids.length crg]) (Blk.lc0 (post := []) (hrbg.ext ((hw62.trans hw101).trans hw102))) ?_
  refine (c_heldType (k := 1) (kg.ext ((hw62.trans hw101).trans hw102)) (by omega)).mono ?_
  rintro r w103 ⟨rfl, hw103⟩
  refine Cm.f (by omega) ?_
  refine Cm.v (c := false) (by simp) ?_
  exact ⟨rfl, (hWw61.trans (((hw62.trans hw101).trans hw102).trans hw103))⟩

set_option maxRecDepth 100000 in
theorem fnExactApply_lifted (os : Os) (started : os.Started) (H : Type) (enc : TypeId × Value → H) :
    ReturnsInHanded {} Try.checked os 4 .any (Rows.fnExactApplySpec.pre6 enc Try.prog Try.f4 Rows.fnExactApplyRow.domain false) (Rows.fnExactApplySpec.post enc Try.prog Try.f4 false true false false) := by
  refine returnsInHanded_of_change (C := Try.checked) Try.own started (by kernel_rfl) Try.func4
    (ChangeSpec.witness6 (enc := enc) (C := Try.checked) false ⟨#[], #[.slice none 0 0, .agg #[.int .i64 0, .string ⟨#[]⟩, .slice none 0 0]], []⟩ 8 (by kernel_rfl) (by kernel_rfl) (by kernel_rfl) (by kernel_rfl)) ?_
  intro W base args ds gs before hval0 hW _ _
  have hval : ∀ (j : Nat) t v, Try.f4.params[j]? = some t → args[j]? = some v → Value.okWide Try.prog W .any base t v := hval0
  have hA0 := hW
  obtain ⟨p, q, hA1, _, _, _, _⟩ := hA0
  have hA : DataW.TrodAll enc Try.prog W 0 (fun _ => true) true Try.f4.params.toList args.toList ds p := hA1
  rw [Try.params4] at hA hval
  obtain ⟨v0, vs0, d0, ds0, p0, q0, hargs, rfl, rfl, h0, r0⟩ := trodAll_cons hA
  obtain ⟨v1, vs1, d1, ds1, p1, q1, rfl, rfl, rfl, h1, r1⟩ := trodAll_cons r0
  obtain ⟨rfl, rfl, rfl⟩ := trodAll_nil r1
  obtain rfl : args = #[v0, v1] := by cases args; simp_all
  have o0 := oBds (hval 0 22 v0 rfl rfl) h0
  have o1 := oTy (hval 1 37 v1 rfl rfl) h1
  refine (Ret.calls Try.func4 rfl (by kernel_rfl) (fnExactApply_ret o0 o1)).mono ?_
  rintro e W' ⟨v, rfl, rfl, hx⟩
  exact ⟨_, rfl, law_post Try.laidOut (by kernel_rfl) rfl Try.underlying4 rfl rfl hW hx⟩

theorem fnExactApply_holds : Rows.FnExactApplySaid :=
  OpenClaim.holds_of_wide 4 Try.f4 rfl rfl rfl rfl rfl rfl rfl ⟨rfl, rfl, rfl, rfl, rfl⟩ rfl rfl rfl rfl rfl (by kernel_rfl) Try.func4 (by kernel_rfl)
    (of_decide_eq_true (by kernel_rfl)) (by unfold Func.isWrapper; first | (rw [if_pos (by decide +kernel)]; kernel_rfl) | (rw [if_neg (by decide +kernel)]; exact ⟨rfl, rfl⟩))
    (fun os started H enc _ => fnExactApply_lifted os started H enc)
end Go.Proofs.Ytkpdkemkfgcamaa
