/-
  Texts of this seat, put together: rules, walks, plain laws.
  Conditions: none.
-/
import Derived.Test.YtplchdlgdjcojaaGreatDoorPQ5
noncomputable section
namespace Go.Proofs.YtplchdlgdjcojaaGreatDoor
open Go IntKind
set_option linter.unusedVariables false
set_option linter.unusedSimpArgs false
set_option linter.unusedSectionVars false
set_option maxHeartbeats 4000000
set_option maxRecDepth 10000
theorem zBl [AP] {codes DF raw list A1 c1 A2 c2 A3 c3 A4 c4 r IW} (PN:IW=A2.isNone) (h:nW codes DF raw list IW=some r):
    BA Tryz.prog 6 [.slice A1 codes.length c1, .slice A2 DF.length c2, .slice A3 raw.length c3, .slice A4 list.length c4] [.ro (AV AQ A1 c1 codes), .ro (AV AQ A2 c2 DF), .ro (Sl (zT zC) A3 c3 raw), .ro (AV zS A4 c4 list), .ro (TS 0 [(2,some 315),(3,some 316)])] (Val (.bool r)):=by
 subst PN;refine BA.intro Tryz.func6 O O O fun w R=>?_;refine .ab [0,1,2,3] O<|.seq<|.seq<|.region<|.bd h fun r1 hr1 h=>.cv [4] (zFb hr1) zVe O<|.b [0,1,2,3,28] O<|.cb h O (fun h=>?_) (fun h=>?_)
 ·refine .EK [8] [] 4 O O ?_;cases h;exact .rv O O ⟨O,O⟩ (zl [] 1 O)
 refine .sk<|.pr [0,1,2,3] O<|.seq<|.seq<|.bd h fun o1 hj1 h=>.cu 0 [0,1,2,3, .s 41 (.bool o1)] [] O O ?_ ?_
 ·refine .region<|.n 4 O<|.gs 32 hj1 O (fun hj1=>?_) (fun hj1=>?_)
  ·cases hj1;exact .be O<|.hU O zw
  refine .n 5 O<|.gs 37 hj1 O (fun hj1=>?_) (fun hj1=>?_)
  ·cases hj1;exact .be O<|.hU O zw
  cases hj1;exact .be O<|.hU O zw
 refine .cb h O (fun h=>?_) (fun h=>?_)
 ·refine .EK [8] [] 4 O O ?_;cases h;exact .rv O O ⟨O,O⟩ (zl [] 1 O)
 refine .sk<|.pr [0,1,2,3] O<|.a 1 O<|.bd h fun r2 hr2 h=>.call (zJM hr2) zVu O O O (zd [0] [] 0 O) ?_;rintro _ _ ⟨g1,A5,c5,rfl,rfl⟩;refine .nm 7 O<|.bf [1,2,3,9] [0,0] 1 O O<|.ae O<|.seq<|.seq<|.region<|.bS O fun g2=>.p O O<|.bd h fun r3 hr3 h=>.cr 8 [2] [2] 0 (zO hr3) uS O fun A6 c6=>.p O O<|.AY (fun _ w=>(w.sl [2] 0 O).IL (E:=UF) (e:=9) [⟨#[98,105,111,115]⟩,⟨#[99,112,108,100]⟩,⟨#[109,101]⟩] O O)<|.AY (fun _ w=>w.BU)<|.bd h fun l1 hl1 h=>.sub (E:=(CY UF)) O O (.head _) O O O O O O O hl1 fun A7 c7=>.bf [1,2,3,9,10,48,49,50] [0,1,1] 2 O O<|.AY (fun _ w=>w.MK (zT zC) 64)<|.bd h fun o2 hl1 h=>.DV 4 (fun (e3:Option Addr × Nat × Option Addr × Nat)=>[1,2,3,9, .s 10 (.slice e3.1 o2.1.length e3.2.1)]) (fun e3=>[.ro (AV AQ e3.2.2.1 e3.2.2.2 o2.2.1), .res (yU (zT zC) 64 e3.1 e3.2.1 o2.1), .res (Box g1 127 [.slice e3.2.2.1 o2.2.1.length e3.2.2.2, .int .i64 o2.2.2])]) O O ?_ ?_
 ·refine .block<|.BM hl1 4 (fun (s1:List zB × Int × List Int × Int) (e2:Option Addr × Nat × Option Addr × Nat)=>[1,2,3,9, .s 10 (.slice e2.1 s1.1.length e2.2.1),48,49, .s 50 (.int .i64 s1.2.1)]) (fun s1 e2=>[.ro (AV AQ e2.2.2.1 e2.2.2.2 s1.2.2.1), .res (yU (zT zC) 64 e2.1 e2.2.1 s1.1),1, .res (Box g1 127 [.slice e2.2.2.1 s1.2.2.1.length e2.2.2.2, .int .i64 s1.2.2.2])]) O O (none,0,A6,c6) (zb O) (zl [2] 0 O) ?_;rintro s1 ⟨A8,c8,A9,c9⟩ st1 hm1 hd1 h1;refine .ae O<|.seq<|.cb h1 O (fun h1=>?_) (fun h1=>?_)
  ·refine .sk<|.pr [1,2,3,9,10,48,49,50] O<|.seq<|.block<|.seq<|.region<|.bd h1 fun x1 hx1 h1=>.IB hx1 2 O fun b1 DY=>.ld DY 0 0 O<|.bf [1,2,3,9,10,12,48,49,50] [] 1 O O<|.region<|.n 3 O<|.bd h1 fun r4 hr4 h1=>.call (zAj hr4) zVa O O O (zd [1] [3] 0 O) ?_;rintro _ _ ⟨FX,c12,IE,c13,GU,c14,rfl,rfl⟩;refine .nm 11 O<|.bS O fun g3=>.bd h1 fun l2 hl2 h1=>.LW (E:=(zT zC)) hl2 O O O (CS 6 O) O O O O O O O O (cV (ls:=zC) [(r4.2,((IE,c13),((GU,c14),())))] (.head _) O O O ⟨(zm 2 O),(zm 3 O),trivial⟩) O O fun KL c15=>.p O O<|.done<|.BL<|.AO<|.pf [1,2,3,9,10,48,49,50] [0,1,3] 4 O O<|.region ?_;cases h1;exact .be O<|.ag (KL,c15,FX,c12) hm1 O (zl [1,0,1] 0 O)
  refine .xq O ?_;cases h1;cases hd1 _ rfl
  exact .AO<|.hE (A8,c8,A9,c9) O (zl [0,0] 1 O)
 rintro ⟨EC,c10,EW,c11⟩;refine .seq<|.bd h fun o3 hj2 h=>.DV 3 (fun (e4:Option Addr × Nat × Option Addr × Nat)=>[1,2,3,9, .s 10 (.slice e4.1 o3.1.length e4.2.1)]) (fun e4=>[.ro (AV AQ e4.2.2.1 e4.2.2.2 o3.2.1), .res (yU (zT zC) 64 e4.1 e4.2.1 o3.1), .res (Box g1 127 [.slice e4.2.2.1 o3.2.1.length e4.2.2.2, .int .i64 o3.2.2])]) O O ?_ ?_
 ·refine .a 1 O<|.bd hj2 fun r5 JH hj2=>.cr 8 [1] [2] 0 (zO JH) uS O fun KO c18=>.bf [1,2,3,9,10,63] [0,0] 1 O O<|.cb hj2 O (fun hj2=>?_) (fun hj2=>?_)
  ·refine .region<|.n 2 O<|.bd hj2 fun x2 hx2 hj2=>.TR hx2 O O O (zm 2 O) O O O O O fun g4 hA=>?_;subst hA;refine .p O O<|.OI (ls:=zC) 13 (fun ex=>.int .i64 x2.Active) hx2 O O (zm 2 O) O (fun _=>O) fun FC=>?_;obtain ⟨⟨JS,c19⟩,⟨⟨JU,c20⟩,_⟩⟩:=FC;refine .nm 9 O<|.p O O<|.TR hx2 O O O (zm 4 O) O O O O O fun g5 hA=>?_;cases hA;refine .p O O<|.bd hj2 fun l3 hl3 hj2=>.Ci (ls:=zC) 13 (fun ex=>((ex.1.1,ex.1.2),((ex.2.1.1,ex.2.1.2),()))) hx2 hl3 O O (CS 4 O) O O O O (fun _=>O) (fun _=>⟨(.head _),EO,trivial⟩) ?_;refine .ss 10 (wY hl3) ?_;refine .ss 64 (wY hl3) ?_;refine .ss 65 (wY hl3)<|.done ?_;cases hj2;exact .AO<|.hE ((some ⟨g4,0,none⟩),c10,KO,c18) O (zl [3,0] 2 O)
  cases hj2;exact .sk<|.hE (EC,c10,KO,c18) O (zl [0,1] 0 O)
 rintro ⟨LG,c16,LY,c17⟩;refine .a 1 O<|.bd h fun r6 KU h=>.cr 8 [1] [2] 0 (zO KU) uS O fun KE c21=>.n 3 O<|.bd h fun r7 OY h=>.cr 9 [1] [1] 0 (zO OY) uS O fun LP LQ=>.p O O<|.bS O fun g6=>.bf [1,2,3,9,10,13] [0,0,0] 2 O O<|.seq<|.a 1 O<|.bd h fun r8 OZ h=>.cr 9 [2] [2] 0 (zO OZ) uS O fun OJ c23=>.bf [1,2,3,9,10,13,14] [0,0,0] 1 O O<|.AY (fun _ w=>(w.sl [2] 0 O).IL (E:=AQ) (e:=5) [wrap .u8 (wrap .i64 (2+r6.2)),wrap .u8 r7.2] O O)<|.bd h fun o4 hl2 h=>.DV 3 (fun (e6:Option Addr × Nat × Option Addr × Nat)=>[1,2,3,9,10, .s 13 (.slice e6.1 o4.1.length e6.2.1)]) (fun e6=>[.ro (AV AQ e6.2.2.1 e6.2.2.2 o4.2.1), .res (zI AQ 5 e6.1 e6.2.1 o4.1), .res (Box g1 127 [.slice e6.2.2.1 o4.2.1.length e6.2.2.2, .int .i64 o4.2.2])]) O O ?_ ?_
 ·refine .block<|.BM hl2 3 (fun (s2:List Int × Int × List Int × Int) (e5:Option Addr × Nat × Option Addr × Nat)=>[1,2,3,9,10, .s 13 (.slice e5.1 s2.1.length e5.2.1), .s 14 (.int .i64 s2.2.1)]) (fun s2 e5=>[.ro (AV AQ e5.2.2.1 e5.2.2.2 s2.2.2.1), .res (zI AQ 5 e5.1 e5.2.1 s2.1), .res (Box g1 127 [.slice e5.2.2.1 s2.2.2.1.length e5.2.2.2, .int .i64 s2.2.2.2])]) O O ((some ⟨g6,0,none⟩),([wrap .u8 (wrap .i64 (2+r6.2)),wrap .u8 r7.2]:List Int).length,OJ,c23) (zb O) (zl [1] 0 O) ?_;rintro s2 ⟨TM,c24,RP,c25⟩ st2 hm2 hd2 h2;refine .seq<|.ab [1,2,3,9,10,13,14,83] O<|.cb h2 O (fun h2=>?_) (fun h2=>?_)
  ·refine .sk<|.pr [1,2,3,9,10,13,14] O<|.seq<|.block<|.region<|.n 2 O<|.bd h2 fun r9 QW h2=>.cr 9 [1] [2] 0 (zO QW) uS O fun QX c28=>.p O O<|.bS O fun g7=>.bd h2 fun l4 hl4 h2=>.app (E:=AQ) hl4 O O O (CS 4 O) O O O O O O O O (iV (.head _) O O) O O fun QY c29=>.p O O<|.done<|.BL<|.AO<|.pf [1,2,3,9,10,13,14] [0,1,1] 2 O O<|.region ?_;cases h2;exact .be O<|.ag (QY,c29,QX,c28) hm2 O (zl [1] 0 O)
  refine .xq O ?_;cases h2;cases hd2 _ rfl
  exact .AO<|.hE (TM,c24,RP,c25) O zw
 rintro ⟨UI,QL,RQ,RS⟩;refine .seq<|.a 2 O<|.bS O fun g8=>.b [2,3,9,10,94,95,96] O<|.block<|.rounds 9<|.round<|.ae O<|.seq<|.EP O<|.sk<|.pr [2,3,9,10,94,95,96] O<|.seq<|.block<|.seq<|.region<|.XR 0 O O O O O O O O O O<|.lb 0 0 O<|.b [2,3,9,10,16,94,95,96] O<|.a 2 O<|.bS O fun g9=>.b [2,3,9,10,16,94,95,96,102,103,104] O<|.block<|.rounds 9<|.round<|.ae O<|.seq<|.EP O<|.sk<|.pr [2,3,9,10,16,94,95,96,102,103,104] O<|.seq<|.bd h fun o5 hj3 h=>.ES 6 (fun (o6:List zB × List zB × List Int × Int) (e7:Option Addr × Nat × Option Addr × Nat × Option Addr × Nat)=>[2,3,9, .s 10 (.slice e7.1 o6.1.length e7.2.1),16,94,95,96,102,103,104]) (fun o6 e7=>[.ro (AV AQ e7.2.2.2.2.1 e7.2.2.2.2.2 o6.2.2.1), .ro (Sl (zT zC) e7.2.2.1 e7.2.2.2.1 o6.2.1), .ro (Sl (zT zC) e7.1 e7.2.1 o6.1), .res (Box g9 27 [.slice e7.2.2.1 o6.2.1.length e7.2.2.2.1, .slice A3 raw.length c3]),1,3, .res (Box g1 127 [.slice e7.2.2.2.2.1 o6.2.2.1.length e7.2.2.2.2.2, .int .i64 o6.2.2.2])]) O O (fun o6=>o5= .inr o6) ?_ ?_
 ·refine .block<|.seq<|.region<|.XR 0 O O O O O O O O O O<|.lb 0 0 O<|.b [2,3,9,10,16,18,94,95,96,102,103,104] O<|.a 2 O<|.box O O fun g10=>.b [2,3,9,10,16,18,19,94,95,96,102,103,104] O<|.seq<|.bd hj3 fun o7 FZ hj3=>.DV 6 (fun (e8:Option Addr × Nat × Option Addr × Nat)=>[2,3,9,10,16,18,19,94,95,96,102,103,104]) (fun e8=>[.ro (AV AQ e8.2.2.1 e8.2.2.2 o7.2.1), .ro (AV zS e8.1 e8.2.1 o7.1), .res (Box g10 97 [.pointer none, .pointer none, .pointer none, .pointer none, .slice e8.1 o7.1.length e8.2.1]),1,2,4, .res (Box g1 127 [.slice e8.2.2.1 o7.2.1.length e8.2.2.2, .int .i64 o7.2.2])]) O O ?_ ?_
  ·refine .a 1 O<|.bd FZ fun r10 LH FZ=>.cr 12 [4] [5] 0 (zO LH) uS O fun WW WX=>.bf [2,3,9,10,16,18,19,94,95,96,102,103,104,113] [0,0,0,0,0] 1 O O<|.cb FZ O (fun FZ=>?_) (fun FZ=>?_)
   ·refine .region<|.n 2 O<|.bd FZ fun r11 PD FZ=>.ct 13 [1] [1] 0 (uG PD) yh O fun VK VL Ee c37=>.n 2 O<|.sb 4 4 O<|.done<|.AY (fun _ w=>(w.sl [3] 0 O).BU) ?_;cases FZ;exact .AO<|.hE (Ee,c37,VK,VL) O (zl [2,0,0,2,2,2,0] 1 O)
   cases FZ;exact .sk<|.hE (A4,c4,WW,WX) O (fun _ w=>((.k (.k (.k (.k (.k (.k (.k (.k (.k (.k (.k (.k .z)))))))))))):tI _ _).sat ((((((((((((((w.sd [9] [] 0 O)).front (CS 11 O)).front (.s .z)).front (CS 10 O)).front (CS 10 O)).front (CS 10 O)).front (CS 6 O)).front (CS 10 O)).front (CS 10 O)).front (CS 10 O)).front (CS 10 O)).front (CS 11 O)).front (CS 11 O)))
  rintro ⟨ZO,ZP,VI,c34⟩;refine .ab [2,3,9,10,16,18,19,94,95,96,102,103,104] O<|.a 1 O<|.bd hj3 fun r12 PE hj3=>.call (nC PE) iy O O O (fun _ w=>w) ?_
  intro v_ F_ CX
  rcases hq1:r12.1 with _ | q1
  ·replace hj3:=wJ hq1 hj3;cases hj3
  replace CX:=wL hq1 CX;replace hj3:=wK hq1 hj3;obtain ⟨g11,Ef,Eg,F7,F8,rfl,rfl⟩:=CX;refine .nm 15 O<|.n 5 O<|.sb 0 5 O<|.b [2,3,9,10,16,18,19,20,94,95,96,102,103,104] O<|.a 1 O<|.bd hj3 fun r13 RU hj3=>.call (lM RU) yj O O O (fun _ w=>w) ?_
  intro v_ F_ CX
  rcases hq2:r13.1 with _ | q2
  ·replace hj3:=wJ hq2 hj3;cases hj3
  replace CX:=wL hq2 CX;replace hj3:=wK hq2 hj3;obtain ⟨g12,F9,c40,Ry,Rz,rfl,rfl⟩:=CX;refine .nm 18 O<|.n 5 O<|.sb 1 3 O<|.b [2,3,9,10,16,18,19,20,21,94,95,96,102,103,104] O<|.a 3 O<|.lb 0 0 O<|.bd hj3 fun QN VS hj3=>.call (uI VS) ZM O O O (zl [4,4,4] 0 O) ?_
  intro v_ F_ CX
  rcases hq3:QN.2.1 with _ | q3
  ·replace hj3:=wJ hq3 hj3;cases hj3
  replace CX:=wL hq3 CX;replace hj3:=wK hq3 hj3;obtain ⟨g13,G7,G8,G9,H6,M1,rfl,rfl⟩:=CX;refine .nm 20 O<|.b [2,3,9,10,16,18,19,20,21,22,23,94,95,96,102,103,104] O<|.a 3 O<|.lb 1 5 O<|.bd hj3 fun QO VT hj3=>.call (pO VT) ku O O O (zl [6,6,6] 0 O) ?_
  intro v_ F_ CX
  rcases hq4:QO.2.1 with _ | q4
  ·replace hj3:=wJ hq4 hj3;cases hj3
  replace CX:=wL hq4 CX;replace hj3:=wK hq4 hj3;obtain ⟨g14,A48,c48,A49,c49,A50,c50,rfl,rfl⟩:=CX;refine .nm 22 O<|.b [2,3,9,10,16,18,19,20,21,22,23,24,25,94,95,96,102,103,104] O<|.seq<|.seq<|.bd hj3 fun o8 JB hj3=>.cu 0 [2,3,9,10,16,18,19,22,24,94,95,96,102,103,104, .s 162 (.bool o8)] [] O O ?_ ?_
  ·refine .region<|.n 3 O<|.gs 151 JB O (fun JB=>?_) (fun JB=>?_)
   ·cases JB;exact .be O<|.hU O zw
   refine .n 4 O<|.gs 155 JB O (fun JB=>?_) (fun JB=>?_)
   ·cases JB;exact .be O<|.hU O zw
   refine .n 4 O<|.gs 159 JB O (fun JB=>?_) (fun JB=>?_)
   ·cases JB;exact .be O<|.hU O zw
   cases JB;exact .be O<|.hU O zw
  refine .cb hj3 O (fun hj3=>?_) (fun hj3=>?_)
  ·refine .EK [8] [] 21 O O ?_;cases hj3;have h:some _=some _:=h;cases h;exact .rv O O ⟨O,O⟩ (zl [] 1 O)
  refine .sk<|.pr [2,3,9,10,16,18,19,22,24,94,95,96,102,103,104] O<|.seq<|.EK [2,3,9,10,16,18,19,94,95,96,102,103,104,178] [1,1,1,2,2,2] 4 O O<|.FU O<|.sk<|.pr [2,3,9,10,16,18,19,94,95,96,102,103,104] O<|.a 3 O<|.AY (fun _ w=>(w.sl [13] 0 O).IJ)<|.bd hj3 fun r16 VU hj3=>.call (vK (AZ:=g10) (BJ:=g11) (DW:=g12) VU) yw O O O (zd [9,7,7,17] [7,4,4,4,1,1,1] 0 O) ?_
  intro v_ F_ CX
  rcases hq5:r16.2.2.2.2.2 with _ | q5
  ·replace CX:=bL hq5 CX;replace hj3:=wJ hq5 hj3;obtain ⟨A51,c51,A52,c52,A53,c53,A54,c54,A55,c55,rfl,rfl⟩:=CX;refine .nm 19 O<|.bf [2,3,9,10,16,19,20,26,94,95,96,102,103,104] [0,0,0,0,0,0,0,0,0,0] 1 O O<|.seq<|.bd hj3 fun o9 QK hj3=>.cu 8 [2,3,9,10,16,94,95,96,102,103,104, .s 196 (.bool o9)] [] O O ?_ ?_
   ·refine .region<|.n 3 O<|.gs 188 QK O (fun QK=>?_) (fun QK=>?_)
    ·cases QK;exact .be O<|.hU O (zl [] 8 O)
    refine .n 3 O<|.gs 191 QK O (fun QK=>?_) (fun QK=>?_)
    ·refine .n 1 O<|.BN O O<|.bd QK fun YG lm QK=>.cq 18 [7] [1,1,1,1,1,1,1] 0 (vM (AZ:=g10) (BJ:=g11) (DW:=g12) lm) aO O ?_;cases QK;exact .be O<|.hU O (zl [] 8 O)
    cases QK;exact .be O<|.hU O (zl [] 8 O)
   refine .cb hj3 O (fun hj3=>?_) (fun hj3=>?_)
   ·refine .EK [8] [] 9 O O ?_;cases hj3;have h:some _=some _:=h;cases h;exact .rv O O ⟨O,O⟩ (zl [] 1 O)
   refine .skip<|.BL ?_;cases hj3;exact .AO<|.CZ (o3.1,o3.1,o7.2.1,o7.2.2) (LG,c16,LG,c16,VI,c34) O (zb O) (fun _ w=>((.k (.k (.k (.k (.k (.k (.k (.k (.k (.k (.k .z))))))))))):tI _ _).sat (((((((((((((w.sd [0] [] 0 O)).front (CS 10 O)).front (CS 10 O)).front (CS 10 O)).front (CS 10 O)).front (CS 10 O)).front (CS 10 O)).front (CS 10 O)).front (CS 10 O)).front (CS 8 O)).front (CS 9 O)).front (CS 10 O)))
  replace CX:=wL hq5 CX;replace hj3:=wK hq5 hj3;obtain ⟨g15,g16,g17,g18,A56,c56,A57,c57,A58,c58,A59,c59,A60,c60,M2,A61,c61,A62,c62,A63,c63,A64,c64,A65,c65,A66,c66,A67,c67,A68,c68,A69,c69,A70,c70,A71,c71,rfl,rfl⟩:=CX;refine .nm 35 O<|.bf [2,3,9,10,16,19,20,26,94,95,96,102,103,104] [0,0,0,0,0,0,0,0,0,0,0,0,0,0,0,0,0,0,0,0,0,0,0,0,0,0] 1 O O<|.seq<|.bd hj3 fun Ep OE hj3=>.DV 24 (fun (e11:Option Addr × Nat × Option Addr × Nat × Option Addr × Nat × Option Addr × Nat × Option Addr × Nat)=>[2,3,9,10,16,94,95,96,102,103,104, .s 196 (.bool Ep.1)]) (fun e11=>[]) O O ?_ ?_
  ·refine .region<|.n 3 O<|.gs 188 OE O (fun OE=>?_) (fun OE=>?_)
   ·cases OE;exact .be O<|.hE (A67,c67,A68,c68,A69,c69,A70,c70,A71,c71) O (zl [] 24 O)
   refine .n 3 O<|.gs 191 OE O (fun OE=>?_) (fun OE=>?_)
   ·refine .n 1 O<|.BN O O<|.bd OE fun WY lq OE=>.call (vJ (AZ:=g10) (BJ:=g11) (DW:=g12) (IG:=g17) (WZ:=g15) (RZ:=g18) (VX:=g16) lq) aO O O O (zd [14,16,17,18,19,20,21,22,23,15] [10,10,10,10,10,10,10,13,13,10,10,11,11,10] 0 O) ?_;rintro _ _ ⟨A77,c77,A78,c78,A79,c79,A80,c80,A81,c81,rfl,rfl⟩;refine .nm 38 O ?_;cases OE;exact .be O<|.hE (A77,c77,A78,c78,A79,c79,A80,c80,A81,c81) O (zl [] 28 O)
   cases OE;exact .be O<|.hE (A67,c67,A68,c68,A69,c69,A70,c70,A71,c71) O (zl [] 24 O)
  rintro ⟨A72,c72,A73,c73,A74,c74,A75,c75,A76,c76⟩;refine .cb hj3 O (fun hj3=>?_) (fun hj3=>?_)
  ·refine .EK [8] [] 9 O O ?_;cases hj3;have h:some _=some _:=h;cases h;exact .rv O O ⟨O,O⟩ (zl [] 1 O)
  refine .skip<|.BL ?_;cases hj3;exact .AO<|.CZ (o3.1,o3.1,o7.2.1,o7.2.2) (LG,c16,LG,c16,VI,c34) O (zb O) (fun _ w=>((.k (.k (.k (.k (.k (.k (.k (.k (.k (.k (.k .z))))))))))):tI _ _).sat (((((((((((((w.sd [0] [] 0 O)).front (CS 10 O)).front (CS 10 O)).front (CS 10 O)).front (CS 10 O)).front (CS 10 O)).front (CS 10 O)).front (CS 10 O)).front (CS 10 O)).front (CS 8 O)).front (CS 9 O)).front (CS 10 O)))
 rintro o6 ⟨WT,WU,WV,c31,YE,c32⟩ ho;subst ho;have h:=JG h;refine .region<|.be O<|.round<|.pr [2,3,9,10,16,94,95,96,102,103,104] O<|.ae O<|.seq<|.EP O<|.sk<|.pr [2,3,9,10,16,94,95,96,102,103,104] O<|.seq<|.bd h fun Ti IK h=>.ES 7 (fun (XA:List Int × Int) (e12:Option Addr × Nat)=>[2,3,9,10,16,94,95,96,102,103,104]) (fun XA e12=>[.ro (AV AQ e12.1 e12.2 XA.1),1,2,3,4,5, .res (Box g1 127 [.slice e12.1 XA.1.length e12.2, .int .i64 XA.2])]) O O (fun XA=>Ti= .inr XA) ?_ ?_
 ·refine .block<|.seq<|.region<|.XR 1 O O O O O O O O O O<|.lb 1 3 O<|.b [2,3,9,10,16,18,94,95,96,102,103,104] O<|.a 2 O<|.box O O fun g19=>.b [2,3,9,10,16,18,19,94,95,96,102,103,104] O<|.seq<|.bd IK fun PI YH IK=>.DV 8 (fun (e13:Option Addr × Nat × Option Addr × Nat)=>[2,3,9,10,16,18,19,94,95,96,102,103,104]) (fun e13=>[.ro (AV AQ e13.2.2.1 e13.2.2.2 PI.2.1), .ro (AV zS e13.1 e13.2.1 PI.1), .res (Box g19 97 [.pointer none, .pointer none, .pointer none, .pointer none, .slice e13.1 PI.1.length e13.2.1]),2,3,4,5,6, .res (Box g1 127 [.slice e13.2.2.1 PI.2.1.length e13.2.2.2, .int .i64 PI.2.2])]) O O ?_ ?_
  ·refine .a 1 O<|.bd YH fun Es P7 YH=>.cr 13 [2] [7] 0 (zO P7) uS O fun A85 c85=>.bf [2,3,9,10,16,18,19,94,95,96,102,103,104,113] [0,0,0] 1 O O<|.cb YH O (fun YH=>?_) (fun YH=>?_)
   ·refine .region<|.n 2 O<|.bd YH fun Td P8 YH=>.ct 14 [1] [1] 0 (uG P8) yh O fun A86 c86 A87 c87=>.n 2 O<|.sb 4 4 O<|.done<|.AY (fun _ w=>(w.sl [3] 0 O).BU) ?_;cases YH;exact .AO<|.hE (A87,c87,A86,c86) O (zl [2,0,0,2,2,2,2,2,0] 1 O)
   cases YH;exact .sk<|.hE (A4,c4,A85,c85) O (fun _ w=>((.k (.k (.k (.k (.k (.k (.k (.k (.k (.k (.k (.k (.k .z))))))))))))):tI _ _).sat (((((((((((((((w.sd [10] [] 0 O)).front (CS 12 O)).front (.s .z)).front (CS 11 O)).front (CS 11 O)).front (CS 5 O)).front (CS 11 O)).front (CS 11 O)).front (CS 11 O)).front (CS 11 O)).front (CS 11 O)).front (CS 11 O)).front (CS 12 O)).front (CS 12 O)))
  rintro ⟨A83,c83,A84,c84⟩;refine .ab [2,3,9,10,16,18,19,94,95,96,102,103,104] O<|.a 1 O<|.bd IK fun Tf P9 IK=>.call (nC P9) iy O O O (fun _ w=>w) ?_
  intro v_ F_ CX
  rcases hq6:Tf.1 with _ | q6
  ·replace IK:=wJ hq6 IK;cases IK
  replace CX:=wL hq6 CX;replace IK:=wK hq6 IK;obtain ⟨g20,A88,c88,A89,c89,rfl,rfl⟩:=CX;refine .nm 16 O<|.n 5 O<|.sb 0 5 O<|.b [2,3,9,10,16,18,19,20,94,95,96,102,103,104] O<|.a 1 O<|.bd IK fun r22 Q5 IK=>.call (lM Q5) yj O O O (fun _ w=>w) ?_
  intro v_ F_ CX
  rcases hq7:r22.1 with _ | q7
  ·replace IK:=wJ hq7 IK;cases IK
  replace CX:=wL hq7 CX;replace IK:=wK hq7 IK;obtain ⟨g21,A90,c90,A91,c91,rfl,rfl⟩:=CX;refine .nm 19 O<|.n 5 O<|.sb 1 3 O<|.b [2,3,9,10,16,18,19,20,21,94,95,96,102,103,104] O<|.a 3 O<|.lb 0 0 O<|.bd IK fun Et Q7 IK=>.call (uI Q7) ZM O O O (zl [4,4,4] 0 O) ?_
  intro v_ F_ CX
  rcases hq8:Et.2.1 with _ | q8
  ·replace IK:=wJ hq8 IK;cases IK
  replace CX:=wL hq8 CX;replace IK:=wK hq8 IK;obtain ⟨g22,A94,c94,A95,c95,M3,rfl,rfl⟩:=CX;refine .nm 21 O<|.b [2,3,9,10,16,18,19,20,21,22,23,94,95,96,102,103,104] O<|.a 3 O<|.lb 1 5 O<|.bd IK fun Eu Q8 IK=>.call (pO Q8) ku O O O (zl [6,6,6] 0 O) ?_
  intro v_ F_ CX
  rcases Q9:Eu.2.1 with _ | q9
  ·replace IK:=wJ Q9 IK;cases IK
  replace CX:=wL Q9 CX;replace IK:=wK Q9 IK;obtain ⟨g23,A98,c98,A99,c99,aNm,aNn,rfl,rfl⟩:=CX;refine .nm 23 O<|.b [2,3,9,10,16,18,19,20,21,22,23,24,25,94,95,96,102,103,104] O<|.seq<|.seq<|.bd IK fun J4 MB IK=>.cu 0 [2,3,9,10,16,18,19,22,24,94,95,96,102,103,104, .s 162 (.bool J4)] [] O O ?_ ?_
  ·refine .region<|.n 3 O<|.gs 151 MB O (fun MB=>?_) (fun MB=>?_)
   ·cases MB;exact .be O<|.hU O zw
   refine .n 4 O<|.gs 155 MB O (fun MB=>?_) (fun MB=>?_)
   ·cases MB;exact .be O<|.hU O zw
   refine .n 4 O<|.gs 159 MB O (fun MB=>?_) (fun MB=>?_)
   ·cases MB;exact .be O<|.hU O zw
   cases MB;exact .be O<|.hU O zw
  refine .cb IK O (fun IK=>?_) (fun IK=>?_)
  ·refine .EK [8] [] 22 O O ?_;cases IK;have h:some _=some _:=h;cases h;exact .rv O O ⟨O,O⟩ (zl [] 1 O)
  refine .sk<|.pr [2,3,9,10,16,18,19,22,24,94,95,96,102,103,104] O<|.seq<|.EK [2,3,9,10,16,18,19,94,95,96,102,103,104,178] [1,1,1,2,2,2] 4 O O<|.FU O<|.sk<|.pr [2,3,9,10,16,18,19,94,95,96,102,103,104] O<|.a 3 O<|.bd IK fun r25 S9 IK=>.call (vK (AZ:=g19) (BJ:=g20) (DW:=g21) S9) yw O O O (zd [8,16,16,18] [6,3,3,3] 0 O) ?_
  intro v_ F_ CX
  rcases hq10:r25.2.2.2.2.2 with _ | q10
  ·replace CX:=bL hq10 CX;replace IK:=wJ hq10 IK;obtain ⟨aNo,aNp,aNq,aNr,aNs,aNt,aNu,aNv,aNw,c105,rfl,rfl⟩:=CX;refine .nm 20 O<|.bf [2,3,9,10,16,19,20,26,94,95,96,102,103,104] [0,0,0,0,0,0,0,0,0] 1 O O<|.seq<|.bd IK fun J5 NF IK=>.cu 8 [2,3,9,10,16,94,95,96,102,103,104, .s 196 (.bool J5)] [] O O ?_ ?_
   ·refine .region<|.n 3 O<|.gs 188 NF O (fun NF=>?_) (fun NF=>?_)
    ·cases NF;exact .be O<|.hU O (zl [] 8 O)
    refine .n 3 O<|.gs 191 NF O (fun NF=>?_) (fun NF=>?_)
    ·refine .n 1 O<|.BN O O<|.bd NF fun r26 U0 NF=>.cq 19 [7] [1,1,1,1,1,1,1] 0 (vM (AZ:=g19) (BJ:=g20) (DW:=g21) U0) aO O ?_;cases NF;exact .be O<|.hU O (zl [] 8 O)
    cases NF;exact .be O<|.hU O (zl [] 8 O)
   refine .cb IK O (fun IK=>?_) (fun IK=>?_)
   ·refine .EK [8] [] 10 O O ?_;cases IK;have h:some _=some _:=h;cases h;exact .rv O O ⟨O,O⟩ (zl [] 1 O)
   refine .skip<|.BL ?_;cases IK;exact .AO<|.CZ (PI.2.1,PI.2.2) (A84,c84) O (zb O) zw
  replace CX:=wL hq10 CX;replace IK:=wK hq10 IK;obtain ⟨g24,g25,g26,g27,aN0,aN1,aN2,c107,aN3,aN4,aN5,c109,aN6,aN7,M4,aN8,aN9,aOA,aOB,aOC,aOD,aOE,aOF,aOG,aOH,aOI,c116,Fe,c117,Ff,Fg,Fh,c119,Fj,Fp,Fq,Fv,rfl,rfl⟩:=CX;refine .nm 36 O<|.bf [2,3,9,10,16,19,20,26,94,95,96,102,103,104] [0,0,0,0,0,0,0,0,0,0,0,0,0,0,0,0,0,0,0,0,0,0,0,0,0] 1 O O<|.seq<|.bd IK fun o16 NG IK=>.DV 24 (fun (e16:Option Addr × Nat × Option Addr × Nat × Option Addr × Nat × Option Addr × Nat × Option Addr × Nat)=>[2,3,9,10,16,94,95,96,102,103,104, .s 196 (.bool o16.1)]) (fun e16=>[]) O O ?_ ?_
  ·refine .region<|.n 3 O<|.gs 188 NG O (fun NG=>?_) (fun NG=>?_)
   ·cases NG;exact .be O<|.hE (Fe,c117,Ff,Fg,Fh,c119,Fj,Fp,Fq,Fv) O (zl [] 24 O)
   refine .n 3 O<|.gs 191 NG O (fun NG=>?_) (fun NG=>?_)
   ·refine .n 1 O<|.BN O O<|.bd NG fun r27 U1 NG=>.call (vJ (AZ:=g19) (BJ:=g20) (DW:=g21) (IG:=g26) (WZ:=g24) (RZ:=g27) (VX:=g25) U1) aO O O O (zd [14,16,17,18,19,20,21,22,23,15] [10,10,10,10,10,10,10,13,13,10,10,11,11,10] 0 O) ?_;rintro _ _ ⟨U2,c127,U3,U4,U5,U6,U7,c130,U8,c131,rfl,rfl⟩;refine .nm 39 O ?_;cases NG;exact .be O<|.hE (U2,c127,U3,U4,U5,U6,U7,c130,U8,c131) O (zl [] 28 O)
   cases NG;exact .be O<|.hE (Fe,c117,Ff,Fg,Fh,c119,Fj,Fp,Fq,Fv) O (zl [] 24 O)
  rintro ⟨aOJ,aOK,aOL,aOM,aON,c124,aOO,aOP,aOQ,aOR⟩;refine .cb IK O (fun IK=>?_) (fun IK=>?_)
  ·refine .EK [8] [] 10 O O ?_;cases IK;have h:some _=some _:=h;cases h;exact .rv O O ⟨O,O⟩ (zl [] 1 O)
  refine .skip<|.BL ?_;cases IK;exact .AO<|.CZ (PI.2.1,PI.2.2) (A84,c84) O (zb O) zw
 rintro XA ⟨A82,c82⟩ ho;subst ho;have h:=JG h;refine .region<|.be O<|.round<|.pr [2,3,9,10,16,94,95,96,102,103,104] O<|.ae O<|.seq<|.FU O<|.xq O<|.BL<|.AO<|.pf [2,3,9,10,94,95,96] [0,1] 2 O O<|.region<|.be O<|.round<|.pr [2,3,9,10,94,95,96] O<|.ae O<|.seq<|.EP O<|.sk<|.pr [2,3,9,10,94,95,96] O<|.seq<|.block<|.seq<|.region<|.XR 1 O O O O O O O O O O<|.lb 1 2 O<|.b [2,3,9,10,16,94,95,96] O<|.a 2 O<|.bS O fun g28=>.b [2,3,9,10,16,94,95,96,102,103,104] O<|.block<|.rounds 9<|.round<|.ae O<|.seq<|.EP O<|.sk<|.pr [2,3,9,10,16,94,95,96,102,103,104] O<|.seq<|.bd h fun Tv ED h=>.ES 6 (fun (XB:List Int × Int) (e17:Option Addr × Nat)=>[2,3,9,10,16,94,95,96,102,103,104]) (fun XB e17=>[.ro (AV AQ e17.1 e17.2 XB.1),0,2,3,4, .res (Box g1 127 [.slice e17.1 XB.1.length e17.2, .int .i64 XB.2])]) O O (fun XB=>Tv= .inr XB) ?_ ?_
 ·refine .block<|.seq<|.region<|.XR 0 O O O O O O O O O O<|.lb 0 0 O<|.b [2,3,9,10,16,18,94,95,96,102,103,104] O<|.a 2 O<|.box O O fun Ur=>.b [2,3,9,10,16,18,19,94,95,96,102,103,104] O<|.seq<|.bd ED fun OM PO ED=>.DV 7 (fun (e18:Option Addr × Nat × Option Addr × Nat)=>[2,3,9,10,16,18,19,94,95,96,102,103,104]) (fun e18=>[.ro (AV AQ e18.2.2.1 e18.2.2.2 OM.2.1), .ro (AV zS e18.1 e18.2.1 OM.1), .res (Box Ur 97 [.pointer none, .pointer none, .pointer none, .pointer none, .slice e18.1 OM.1.length e18.2.1]),1,3,4,5, .res (Box g1 127 [.slice e18.2.2.1 OM.2.1.length e18.2.2.2, .int .i64 OM.2.2])]) O O ?_ ?_
  ·refine .a 1 O<|.bd PO fun r28 U9 PO=>.cr 12 [3] [6] 0 (zO U9) uS O fun V3 V4=>.bf [2,3,9,10,16,18,19,94,95,96,102,103,104,113] [0,0,0,0] 1 O O<|.cb PO O (fun PO=>?_) (fun PO=>?_)
   ·refine .region<|.n 2 O<|.bd PO fun Tj V5 PO=>.ct 13 [1] [1] 0 (uG V5) yh O fun V6 V7 V8 V9=>.n 2 O<|.sb 4 4 O<|.done<|.AY (fun _ w=>(w.sl [3] 0 O).BU) ?_;cases PO;exact .AO<|.hE (V8,V9,V6,V7) O (zl [2,0,0,2,2,2,2,0] 1 O)
   cases PO;exact .sk<|.hE (A4,c4,V3,V4) O (fun _ w=>((.k (.k (.k (.k (.k (.k (.k (.k (.k (.k (.k (.k .z)))))))))))):tI _ _).sat ((((((((((((((w.sd [9] [] 0 O)).front (CS 11 O)).front (.s .z)).front (CS 10 O)).front (CS 10 O)).front (CS 5 O)).front (CS 10 O)).front (CS 10 O)).front (CS 10 O)).front (CS 10 O)).front (CS 10 O)).front (CS 11 O)).front (CS 11 O)))
  rintro ⟨aOS,aOT,Fz,Gf⟩;refine .ab [2,3,9,10,16,18,19,94,95,96,102,103,104] O<|.a 1 O<|.bd ED fun Tm W9 ED=>.call (nC W9) iy O O O (fun _ w=>w) ?_
  intro v_ F_ CX
  rcases hq11:Tm.1 with _ | q11
  ·replace ED:=wJ hq11 ED;cases ED
  replace CX:=wL hq11 CX;replace ED:=wK hq11 ED;obtain ⟨Gg,aOU,c138,aOV,c139,rfl,rfl⟩:=CX;refine .nm 15 O<|.n 5 O<|.sb 0 5 O<|.b [2,3,9,10,16,18,19,20,94,95,96,102,103,104] O<|.a 1 O<|.bd ED fun Tn X0 ED=>.call (lM X0) yj O O O (fun _ w=>w) ?_
  intro v_ F_ CX
  rcases hq12:Tn.1 with _ | q12
  ·replace ED:=wJ hq12 ED;cases ED
  replace CX:=wL hq12 CX;replace ED:=wK hq12 ED;obtain ⟨Gh,aOW,aOX,aOY,c141,rfl,rfl⟩:=CX;refine .nm 18 O<|.n 5 O<|.sb 1 3 O<|.b [2,3,9,10,16,18,19,20,21,94,95,96,102,103,104] O<|.a 3 O<|.lb 0 0 O<|.bd ED fun r32 X3 ED=>.call (uI X3) ZM O O O (zl [4,4,4] 0 O) ?_
  intro v_ F_ CX
  rcases ny:r32.2.1 with _ | q13
  ·replace ED:=wJ ny ED;cases ED
  replace CX:=wL ny CX;replace ED:=wK ny ED;obtain ⟨g32,X4,X5,X6,c145,M5,rfl,rfl⟩:=CX;refine .nm 20 O<|.b [2,3,9,10,16,18,19,20,21,22,23,94,95,96,102,103,104] O<|.a 3 O<|.lb 1 5 O<|.bd ED fun lu X7 ED=>.call (pO X7) ku O O O (zl [6,6,6] 0 O) ?_
  intro v_ F_ CX
  rcases og:lu.2.1 with _ | Tq
  ·replace ED:=wJ og ED;cases ED
  replace CX:=wL og CX;replace ED:=wK og ED;obtain ⟨g33,Gi,c148,Gj,Gl,Gm,Gn,rfl,rfl⟩:=CX;refine .nm 22 O<|.b [2,3,9,10,16,18,19,20,21,22,23,24,25,94,95,96,102,103,104] O<|.seq<|.seq<|.bd ED fun J6 MC ED=>.cu 0 [2,3,9,10,16,18,19,22,24,94,95,96,102,103,104, .s 162 (.bool J6)] [] O O ?_ ?_
  ·refine .region<|.n 3 O<|.gs 151 MC O (fun MC=>?_) (fun MC=>?_)
   ·cases MC;exact .be O<|.hU O zw
   refine .n 4 O<|.gs 155 MC O (fun MC=>?_) (fun MC=>?_)
   ·cases MC;exact .be O<|.hU O zw
   refine .n 4 O<|.gs 159 MC O (fun MC=>?_) (fun MC=>?_)
   ·cases MC;exact .be O<|.hU O zw
   cases MC;exact .be O<|.hU O zw
  refine .cb ED O (fun ED=>?_) (fun ED=>?_)
  ·refine .EK [8] [] 21 O O ?_;cases ED;have h:some _=some _:=h;cases h;exact .rv O O ⟨O,O⟩ (zl [] 1 O)
  refine .sk<|.pr [2,3,9,10,16,18,19,22,24,94,95,96,102,103,104] O<|.seq<|.seq<|.bd ED fun VY MF ED=>.DV 10 (fun (e20:Option Addr × Nat × Option Addr × Nat × Option Addr × Nat × Option Addr × Nat × Option Addr × Nat × Option Nat)=>[2,3,9,10,16,18,19,94,95,96,102,103,104, .s 178 (.bool VY.1)]) (fun e20=>[.res (zI zU 3 e20.2.2.2.2.2.2.2.2.1 e20.2.2.2.2.2.2.2.2.2.1 VY.2.2.2.1.BD), .res (zI AQ 5 e20.2.2.2.2.2.2.1 e20.2.2.2.2.2.2.2.1 VY.2.2.2.1.bytes), .res (zI zU 3 e20.2.2.1 e20.2.2.2.1 VY.2.1.DT), .res (zI AQ 5 e20.1 e20.2.1 VY.2.1.Data), .res (Box Gh 187 (yG VY.2.1 e20.1 e20.2.1 e20.2.2.1 e20.2.2.2.1)), .res (Box Gg 131 (zG VY.2.2.2.1 e20.2.2.2.2.2.2.1 e20.2.2.2.2.2.2.2.1 e20.2.2.2.2.2.2.2.2.1 e20.2.2.2.2.2.2.2.2.2.1))]) O O ?_ ?_
  ·refine .region<|.p O O<|.p O (by cases A2 <;> rfl)<|.p O O<|.gs 165 MF O (fun MF=>?_) (fun MF=>?_)
   ·refine .n 2 O<|.BN O O<|.bd MF fun zf X8 MF=>.call (tF (AZ:=g32) (BJ:=Gg) X8) Ed O O O (zd [18] [8,8,5,5,5] 0 O) ?_;rintro _ _ ⟨M7,Gp,c156,Gq,c157,rfl,rfl⟩;refine .nm 22 O<|.n 2 O<|.gs 170 MF O (fun MF=>?_) (fun MF=>?_)
    ·cases MF;exact .be O<|.hE (Gi,c148,Gj,Gl,Gm,Gn,Gp,c156,Gq,c157,M7) O (zl [4,3,6,5,4,2] 4 O)
    refine .n 3 O<|.BN O O<|.bS O fun g34=>.BN O O<|.AY (fun _ w=>Sat.OU (ls:=zJ) (e:=107) [((⟨32,DF,false⟩:zD),((A2,c2),()))] O O O ⟨(zm 18 O),trivial⟩ w)<|.AY (fun _ w=>w.IJ)<|.bd MF fun Tt X9 MF=>.call (tA (AZ:=g33) (BJ:=Gh) X9) Eo O O O (zd [10,4] [10,7,7,7] 0 O) ?_;rintro _ _ ⟨Y1,Y2,Y3,c159,Y4,c160,rfl,rfl⟩;refine .nm 24 O ?_;cases MF;exact .be O<|.hE (Y3,c159,Y4,c160,Y1,Y2,Gp,c156,Gq,c157,M7) O (zl [10,9,4,3,2,5] 6 O)
   cases MF;exact .be O<|.hE (Gi,c148,Gj,Gl,Gm,Gn,X4,X5,X6,c145,M5) O (zl [7,6,3,2,1,2] 4 O)
  rintro ⟨aOb,aOc,aOd,c152,aOe,aOf,aOg,c154,aOh,aOi,M6⟩;refine .cb ED O (fun ED=>?_) (fun ED=>?_)
  ·refine .EK [8] [] 17 O O ?_;cases ED;have h:some _=some _:=h;cases h;exact .rv O O ⟨O,O⟩ (zl [] 1 O)
  refine .sk<|.pr [2,3,9,10,16,18,19,94,95,96,102,103,104] O<|.a 3 O<|.bd ED fun SA Y5 ED=>.call (vK (AZ:=Ur) (BJ:=Gg) (DW:=Gh) Y5) yw O O O (zd [8,10,10,17] [6,5,1,0,2,1] 0 O) ?_
  intro v_ F_ CX
  rcases YI:SA.2.2.2.2.2 with _ | mg
  ·replace CX:=bL YI CX;replace ED:=wJ YI ED;obtain ⟨aOj,aOk,aOl,c162,aOm,aOn,aOo,c164,aOp,aOq,rfl,rfl⟩:=CX;refine .nm 19 O<|.bf [2,3,9,10,16,19,20,26,94,95,96,102,103,104] [0,0,0,0,0,0,0,0,0] 1 O O<|.seq<|.bd ED fun J7 NH ED=>.cu 8 [2,3,9,10,16,94,95,96,102,103,104, .s 196 (.bool J7)] [] O O ?_ ?_
   ·refine .region<|.n 3 O<|.gs 188 NH O (fun NH=>?_) (fun NH=>?_)
    ·cases NH;exact .be O<|.hU O (zl [] 8 O)
    refine .n 3 O<|.gs 191 NH O (fun NH=>?_) (fun NH=>?_)
    ·refine .n 1 O<|.BN O O<|.bd NH fun r37 Y6 NH=>.cq 18 [7] [1,1,1,1,1,1,1] 0 (vM (AZ:=Ur) (BJ:=Gg) (DW:=Gh) Y6) aO O ?_;cases NH;exact .be O<|.hU O (zl [] 8 O)
    cases NH;exact .be O<|.hU O (zl [] 8 O)
   refine .cb ED O (fun ED=>?_) (fun ED=>?_)
   ·refine .EK [8] [] 9 O O ?_;cases ED;have h:some _=some _:=h;cases h;exact .rv O O ⟨O,O⟩ (zl [] 1 O)
   refine .skip<|.BL ?_;cases ED;exact .AO<|.CZ (OM.2.1,OM.2.2) (Fz,Gf) O (zb O) zw
  replace CX:=wL YI CX;replace ED:=wK YI ED;obtain ⟨g35,g36,g37,g38,aOv,aOw,aOx,c167,aOy,c168,aOz,aO0,aO1,aO2,M8,aO3,c171,aO4,aO5,aO6,c173,aO7,aO8,aO9,c175,aPA,aPB,Gt,Gu,Gv,Gw,Gx,Gy,Gz,He,Hf,Hg,rfl,rfl⟩:=CX;refine .nm 35 O<|.bf [2,3,9,10,16,19,20,26,94,95,96,102,103,104] [0,0,0,0,0,0,0,0,0,0,0,0,0,0,0,0,0,0,0,0,0,0,0,0,0] 1 O O<|.seq<|.bd ED fun J9 NI ED=>.DV 24 (fun (e22:Option Addr × Nat × Option Addr × Nat × Option Addr × Nat × Option Addr × Nat × Option Addr × Nat)=>[2,3,9,10,16,94,95,96,102,103,104, .s 196 (.bool J9.1)]) (fun e22=>[]) O O ?_ ?_
  ·refine .region<|.n 3 O<|.gs 188 NI O (fun NI=>?_) (fun NI=>?_)
   ·cases NI;exact .be O<|.hE (Gt,Gu,Gv,Gw,Gx,Gy,Gz,He,Hf,Hg) O (zl [] 24 O)
   refine .n 3 O<|.gs 191 NI O (fun NI=>?_) (fun NI=>?_)
   ·refine .n 1 O<|.BN O O<|.bd NI fun J8 Y7 NI=>.call (vJ (AZ:=Ur) (BJ:=Gg) (DW:=Gh) (IG:=g37) (WZ:=g35) (RZ:=g38) (VX:=g36) Y7) aO O O O (zd [14,16,17,18,19,20,21,22,23,15] [10,10,10,10,10,10,10,13,13,10,10,11,11,10] 0 O) ?_;rintro _ _ ⟨Y8,Y9,Z4,Z5,Z7,Z8,Z9,aAA,aAB,aAC,rfl,rfl⟩;refine .nm 38 O ?_;cases NI;exact .be O<|.hE (Y8,Y9,Z4,Z5,Z7,Z8,Z9,aAA,aAB,aAC) O (zl [] 28 O)
   cases NI;exact .be O<|.hE (Gt,Gu,Gv,Gw,Gx,Gy,Gz,He,Hf,Hg) O (zl [] 24 O)
  rintro ⟨aPC,c182,aPD,c183,aPE,aPF,aPG,aPH,aPI,aPJ⟩;refine .cb ED O (fun ED=>?_) (fun ED=>?_)
  ·refine .EK [8] [] 9 O O ?_;cases ED;have h:some _=some _:=h;cases h;exact .rv O O ⟨O,O⟩ (zl [] 1 O)
  refine .skip<|.BL ?_;cases ED;exact .AO<|.CZ (OM.2.1,OM.2.2) (Fz,Gf) O (zb O) zw
 rintro XB ⟨aPK,aPL⟩ ho;subst ho;have h:=JG h;refine .region<|.be O<|.round<|.pr [2,3,9,10,16,94,95,96,102,103,104] O<|.ae O<|.seq<|.EP O<|.sk<|.pr [2,3,9,10,16,94,95,96,102,103,104] O<|.seq<|.bd h fun Ue EF h=>.ES 6 (fun (XC:List Int × Int) (e23:Option Addr × Nat)=>[2,3,9,10,16,94,95,96,102,103,104]) (fun XC e23=>[.ro (AV AQ e23.1 e23.2 XC.1),1,2,3,4, .res (Box g1 127 [.slice e23.1 XC.1.length e23.2, .int .i64 XC.2])]) O O (fun XC=>Ue= .inr XC) ?_ ?_
 ·refine .block<|.seq<|.region<|.XR 1 O O O O O O O O O O<|.lb 1 1 O<|.b [2,3,9,10,16,18,94,95,96,102,103,104] O<|.a 2 O<|.box O O fun Us=>.b [2,3,9,10,16,18,19,94,95,96,102,103,104] O<|.seq<|.bd EF fun OO PS EF=>.DV 7 (fun (e24:Option Addr × Nat × Option Addr × Nat)=>[2,3,9,10,16,18,19,94,95,96,102,103,104]) (fun e24=>[.ro (AV AQ e24.2.2.1 e24.2.2.2 OO.2.1), .ro (AV zS e24.1 e24.2.1 OO.1), .res (Box Us 97 [.pointer none, .pointer none, .pointer none, .pointer none, .slice e24.1 OO.1.length e24.2.1]),2,3,4,5, .res (Box g1 127 [.slice e24.2.2.1 OO.2.1.length e24.2.2.2, .int .i64 OO.2.2])]) O O ?_ ?_
  ·refine .a 1 O<|.bd PS fun Ew aAD PS=>.cr 12 [2] [6] 0 (zO aAD) uS O fun aAE aAF=>.bf [2,3,9,10,16,18,19,94,95,96,102,103,104,113] [0,0,0] 1 O O<|.cb PS O (fun PS=>?_) (fun PS=>?_)
   ·refine .region<|.n 2 O<|.bd PS fun Tz aAG PS=>.ct 13 [1] [1] 0 (uG aAG) yh O fun aAH c196 aAI aAJ=>.n 2 O<|.sb 4 4 O<|.done<|.AY (fun _ w=>(w.sl [3] 0 O).BU) ?_;cases PS;exact .AO<|.hE (aAI,aAJ,aAH,c196) O (zl [2,0,0,2,2,2,2,0] 1 O)
   cases PS;exact .sk<|.hE (A4,c4,aAE,aAF) O (fun _ w=>((.k (.k (.k (.k (.k (.k (.k (.k (.k (.k (.k (.k .z)))))))))))):tI _ _).sat ((((((((((((((w.sd [9] [] 0 O)).front (CS 11 O)).front (.s .z)).front (CS 10 O)).front (CS 10 O)).front (CS 5 O)).front (CS 10 O)).front (CS 10 O)).front (CS 10 O)).front (CS 10 O)).front (CS 10 O)).front (CS 11 O)).front (CS 11 O)))
  rintro ⟨aPM,c193,Hl,c194⟩;refine .ab [2,3,9,10,16,18,19,94,95,96,102,103,104] O<|.a 1 O<|.bd EF fun Ua aAK EF=>.call (nC aAK) iy O O O (fun _ w=>w) ?_
  intro v_ F_ CX
  rcases oh:Ua.1 with _ | q16
  ·replace EF:=wJ oh EF;cases EF
  replace CX:=wL oh CX;replace EF:=wK oh EF;obtain ⟨Ho,aPN,c198,aPO,aPP,rfl,rfl⟩:=CX;refine .nm 15 O<|.n 5 O<|.sb 0 5 O<|.b [2,3,9,10,16,18,19,20,94,95,96,102,103,104] O<|.a 1 O<|.bd EF fun Ub aAL EF=>.call (lM aAL) yj O O O (fun _ w=>w) ?_
  intro v_ F_ CX
  rcases oq:Ub.1 with _ | q17
  ·replace EF:=wJ oq EF;cases EF
  replace CX:=wL oq CX;replace EF:=wK oq EF;obtain ⟨Hq,aPQ,aPR,aPS,c201,rfl,rfl⟩:=CX;refine .nm 18 O<|.n 5 O<|.sb 1 3 O<|.b [2,3,9,10,16,18,19,20,21,94,95,96,102,103,104] O<|.a 3 O<|.lb 0 0 O<|.bd EF fun zh aAM EF=>.call (uI aAM) ZM O O O (zl [4,4,4] 0 O) ?_
  intro v_ F_ CX
  rcases ou:zh.2.1 with _ | N7
  ·replace EF:=wJ ou EF;cases EF
  replace CX:=wL ou CX;replace EF:=wK ou EF;obtain ⟨g42,aAN,aAO,aAP,aAQ,M9,rfl,rfl⟩:=CX;refine .nm 20 O<|.b [2,3,9,10,16,18,19,20,21,22,23,94,95,96,102,103,104] O<|.a 3 O<|.lb 1 5 O<|.bd EF fun mr aAR EF=>.call (pO aAR) ku O O O (zl [6,6,6] 0 O) ?_
  intro v_ F_ CX
  rcases oz:mr.2.1 with _ | Uc
  ·replace EF:=wJ oz EF;cases EF
  replace CX:=wL oz CX;replace EF:=wK oz EF;obtain ⟨g43,Hr,c208,Ht,Hu,Hw,c210,rfl,rfl⟩:=CX;refine .nm 22 O<|.b [2,3,9,10,16,18,19,20,21,22,23,24,25,94,95,96,102,103,104] O<|.seq<|.seq<|.bd EF fun N8 hj21 EF=>.cu 0 [2,3,9,10,16,18,19,22,24,94,95,96,102,103,104, .s 162 (.bool N8)] [] O O ?_ ?_
  ·refine .region<|.n 3 O<|.gs 151 hj21 O (fun hj21=>?_) (fun hj21=>?_)
   ·cases hj21;exact .be O<|.hU O zw
   refine .n 4 O<|.gs 155 hj21 O (fun hj21=>?_) (fun hj21=>?_)
   ·cases hj21;exact .be O<|.hU O zw
   refine .n 4 O<|.gs 159 hj21 O (fun hj21=>?_) (fun hj21=>?_)
   ·cases hj21;exact .be O<|.hU O zw
   cases hj21;exact .be O<|.hU O zw
  refine .cb EF O (fun EF=>?_) (fun EF=>?_)
  ·refine .EK [8] [] 21 O O ?_;cases EF;have h:some _=some _:=h;cases h;exact .rv O O ⟨O,O⟩ (zl [] 1 O)
  refine .sk<|.pr [2,3,9,10,16,18,19,22,24,94,95,96,102,103,104] O<|.seq<|.seq<|.bd EF fun VZ hj22 EF=>.DV 10 (fun (e26:Option Addr × Nat × Option Addr × Nat × Option Addr × Nat × Option Addr × Nat × Option Addr × Nat × Option Nat)=>[2,3,9,10,16,18,19,94,95,96,102,103,104, .s 178 (.bool VZ.1)]) (fun e26=>[.res (zI zU 3 e26.2.2.2.2.2.2.2.2.1 e26.2.2.2.2.2.2.2.2.2.1 VZ.2.2.2.1.BD), .res (zI AQ 5 e26.2.2.2.2.2.2.1 e26.2.2.2.2.2.2.2.1 VZ.2.2.2.1.bytes), .res (zI zU 3 e26.2.2.1 e26.2.2.2.1 VZ.2.1.DT), .res (zI AQ 5 e26.1 e26.2.1 VZ.2.1.Data), .res (Box Hq 187 (yG VZ.2.1 e26.1 e26.2.1 e26.2.2.1 e26.2.2.2.1)), .res (Box Ho 131 (zG VZ.2.2.2.1 e26.2.2.2.2.2.2.1 e26.2.2.2.2.2.2.2.1 e26.2.2.2.2.2.2.2.2.1 e26.2.2.2.2.2.2.2.2.2.1))]) O O ?_ ?_
  ·refine .region<|.p O O<|.p O (by cases A2 <;> rfl)<|.p O O<|.gs 165 hj22 O (fun hj22=>?_) (fun hj22=>?_)
   ·refine .n 2 O<|.BN O O<|.bd hj22 fun zn aAS hj22=>.call (tF (AZ:=g42) (BJ:=Ho) aAS) Ed O O O (zd [18] [8,8,5,5,5] 0 O) ?_;rintro _ _ ⟨M11,Hy,Hz,Ia,Ib,rfl,rfl⟩;refine .nm 22 O<|.n 2 O<|.gs 170 hj22 O (fun hj22=>?_) (fun hj22=>?_)
    ·cases hj22;exact .be O<|.hE (Hr,c208,Ht,Hu,Hw,c210,Hy,Hz,Ia,Ib,M11) O (zl [4,3,6,5,4,2] 4 O)
    refine .n 3 O<|.BN O O<|.bS O fun g44=>.BN O O<|.AY (fun _ w=>Sat.OU (ls:=zJ) (e:=107) [((⟨32,DF,false⟩:zD),((A2,c2),()))] O O O ⟨(zm 18 O),trivial⟩ w)<|.AY (fun _ w=>w.IJ)<|.bd hj22 fun Ud aAT hj22=>.call (tA (AZ:=g43) (BJ:=Hq) aAT) Eo O O O (zd [10,4] [10,7,7,7] 0 O) ?_;rintro _ _ ⟨aAU,c218,aAV,aAW,aAX,aAY,rfl,rfl⟩;refine .nm 24 O ?_;cases hj22;exact .be O<|.hE (aAV,aAW,aAX,aAY,aAU,c218,Hy,Hz,Ia,Ib,M11) O (zl [10,9,4,3,2,5] 6 O)
   cases hj22;exact .be O<|.hE (Hr,c208,Ht,Hu,Hw,c210,aAN,aAO,aAP,aAQ,M9) O (zl [7,6,3,2,1,2] 4 O)
  rintro ⟨aPV,aPW,aPX,c212,aPY,c213,aPZ,aPa,aPb,aPc,M10⟩;refine .cb EF O (fun EF=>?_) (fun EF=>?_)
  ·refine .EK [8] [] 17 O O ?_;cases EF;have h:some _=some _:=h;cases h;exact .rv O O ⟨O,O⟩ (zl [] 1 O)
  refine .sk<|.pr [2,3,9,10,16,18,19,94,95,96,102,103,104] O<|.a 3 O<|.bd EF fun SB hr47 EF=>.call (vK (AZ:=Us) (BJ:=Ho) (DW:=Hq) hr47) yw O O O (zd [8,15,15,17] [6,5,1,0,2,1] 0 O) ?_
  intro v_ F_ CX
  rcases YJ:SB.2.2.2.2.2 with _ | ng
  ·replace CX:=bL YJ CX;replace EF:=wJ YJ EF;obtain ⟨aPd,aPe,aPf,c222,aPg,aPh,aPi,aPj,aPk,aPl,rfl,rfl⟩:=CX;refine .nm 19 O<|.bf [2,3,9,10,16,19,20,26,94,95,96,102,103,104] [0,0,0,0,0,0,0,0,0] 1 O O<|.seq<|.bd EF fun N9 NJ EF=>.cu 8 [2,3,9,10,16,94,95,96,102,103,104, .s 196 (.bool N9)] [] O O ?_ ?_
   ·refine .region<|.n 3 O<|.gs 188 NJ O (fun NJ=>?_) (fun NJ=>?_)
    ·cases NJ;exact .be O<|.hU O (zl [] 8 O)
    refine .n 3 O<|.gs 191 NJ O (fun NJ=>?_) (fun NJ=>?_)
    ·refine .n 1 O<|.BN O O<|.bd NJ fun r48 aAZ NJ=>.cq 18 [7] [1,1,1,1,1,1,1] 0 (vM (AZ:=Us) (BJ:=Ho) (DW:=Hq) aAZ) aO O ?_;cases NJ;exact .be O<|.hU O (zl [] 8 O)
    cases NJ;exact .be O<|.hU O (zl [] 8 O)
   refine .cb EF O (fun EF=>?_) (fun EF=>?_)
   ·refine .EK [8] [] 9 O O ?_;cases EF;have h:some _=some _:=h;cases h;exact .rv O O ⟨O,O⟩ (zl [] 1 O)
   refine .skip<|.BL ?_;cases EF;exact .AO<|.CZ (OO.2.1,OO.2.2) (Hl,c194) O (zb O) zw
  replace CX:=wL YJ CX;replace EF:=wK YJ EF;obtain ⟨g45,g46,g47,g48,aPo,c226,aPp,c227,aPq,c228,aPr,c229,aPs,aPt,M12,aPu,aPv,aPw,c232,aPx,c233,aPy,c234,aPz,aP0,aP1,c236,Ic,Ie,Ig,Ih,Ii,Ij,Ik,Il,Io,Ip,rfl,rfl⟩:=CX;refine .nm 35 O<|.bf [2,3,9,10,16,19,20,26,94,95,96,102,103,104] [0,0,0,0,0,0,0,0,0,0,0,0,0,0,0,0,0,0,0,0,0,0,0,0,0] 1 O O<|.seq<|.bd EF fun O1 NK EF=>.DV 24 (fun (e28:Option Addr × Nat × Option Addr × Nat × Option Addr × Nat × Option Addr × Nat × Option Addr × Nat)=>[2,3,9,10,16,94,95,96,102,103,104, .s 196 (.bool O1.1)]) (fun e28=>[]) O O ?_ ?_
  ·refine .region<|.n 3 O<|.gs 188 NK O (fun NK=>?_) (fun NK=>?_)
   ·cases NK;exact .be O<|.hE (Ic,Ie,Ig,Ih,Ii,Ij,Ik,Il,Io,Ip) O (zl [] 24 O)
   refine .n 3 O<|.gs 191 NK O (fun NK=>?_) (fun NK=>?_)
   ·refine .n 1 O<|.BN O O<|.bd NK fun O0 aAa NK=>.call (vJ (AZ:=Us) (BJ:=Ho) (DW:=Hq) (IG:=g47) (WZ:=g45) (RZ:=g48) (VX:=g46) aAa) aO O O O (zd [14,16,17,18,19,20,21,22,23,15] [10,10,10,10,10,10,10,13,13,10,10,11,11,10] 0 O) ?_;rintro _ _ ⟨aAb,aAc,aAd,aAe,aAf,aAg,aAh,aAi,aAj,aAk,rfl,rfl⟩;refine .nm 38 O ?_;cases NK;exact .be O<|.hE (aAb,aAc,aAd,aAe,aAf,aAg,aAh,aAi,aAj,aAk) O (zl [] 28 O)
   cases NK;exact .be O<|.hE (Ic,Ie,Ig,Ih,Ii,Ij,Ik,Il,Io,Ip) O (zl [] 24 O)
  rintro ⟨aP2,aP3,aP4,aP5,aP6,aP7,aP8,aP9,aQA,aQB⟩;refine .cb EF O (fun EF=>?_) (fun EF=>?_)
  ·refine .EK [8] [] 9 O O ?_;cases EF;have h:some _=some _:=h;cases h;exact .rv O O ⟨O,O⟩ (zl [] 1 O)
  refine .skip<|.BL ?_;cases EF;exact .AO<|.CZ (OO.2.1,OO.2.2) (Hl,c194) O (zb O) zw
 rintro XC ⟨aQC,aQD⟩ ho;subst ho;have h:=JG h;refine .region<|.be O<|.round<|.pr [2,3,9,10,16,94,95,96,102,103,104] O<|.ae O<|.seq<|.FU O<|.xq O<|.BL<|.AO<|.pf [2,3,9,10,94,95,96] [0] 1 O O<|.region<|.be O<|.round<|.pr [2,3,9,10,94,95,96] O<|.ae O<|.seq<|.EP O<|.sk<|.pr [2,3,9,10,94,95,96] O<|.seq<|.block<|.seq<|.region<|.XR 2 O O O O O O O O O O<|.lb 2 2 O<|.b [2,3,9,10,16,94,95,96] O<|.a 2 O<|.bS O fun g49=>.b [2,3,9,10,16,94,95,96,102,103,104] O<|.block<|.rounds 9<|.round<|.ae O<|.seq<|.EP O<|.sk<|.pr [2,3,9,10,16,94,95,96,102,103,104] O<|.seq<|.bd h fun Uj EG h=>.ES 6 (fun (o32:List Int × List Int × List Int × Int) (e29:Option Addr × Nat × Option Addr × Nat × Option Addr × Nat)=>[2,3,9,10, .s 16 (.slice e29.1 o32.1.length e29.2.1),94,95,96,102,103,104]) (fun o32 e29=>[.ro (AV AQ e29.2.2.2.2.1 e29.2.2.2.2.2 o32.2.2.1), .ro (AV AQ e29.2.2.1 e29.2.2.2.1 o32.2.1), .ro (AV AQ e29.1 e29.2.1 o32.1),0,2, .res (Box g8 22 [.slice none 0 0, .slice A2 DF.length c2, .slice e29.2.2.1 o32.2.1.length e29.2.2.2.1]), .res (Box g1 127 [.slice e29.2.2.2.2.1 o32.2.2.1.length e29.2.2.2.2.2, .int .i64 o32.2.2.2])]) O O (fun o32=>Uj= .inr o32) ?_ ?_
 ·refine .block<|.seq<|.region<|.XR 0 O O O O O O O O O O<|.lb 0 0 O<|.b [2,3,9,10,16,18,94,95,96,102,103,104] O<|.a 2 O<|.box O O fun Ut=>.b [2,3,9,10,16,18,19,94,95,96,102,103,104] O<|.seq<|.bd EG fun PK PU EG=>.DV 7 (fun (e30:Option Addr × Nat × Option Addr × Nat)=>[2,3,9,10,16,18,19,94,95,96,102,103,104]) (fun e30=>[.ro (AV AQ e30.2.2.1 e30.2.2.2 PK.2.1), .ro (AV zS e30.1 e30.2.1 PK.1), .res (Box Ut 97 [.pointer none, .pointer none, .pointer none, .pointer none, .slice e30.1 PK.1.length e30.2.1]),1,3,4,5, .res (Box g1 127 [.slice e30.2.2.1 PK.2.1.length e30.2.2.2, .int .i64 PK.2.2])]) O O ?_ ?_
  ·refine .a 1 O<|.bd PU fun Ey aAl PU=>.cr 12 [3] [6] 0 (zO aAl) uS O fun aAm aAn=>.bf [2,3,9,10,16,18,19,94,95,96,102,103,104,113] [0,0,0,0] 1 O O<|.cb PU O (fun PU=>?_) (fun PU=>?_)
   ·refine .region<|.n 2 O<|.bd PU fun Uf aAo PU=>.ct 13 [1] [1] 0 (uG aAo) yh O fun aAp aAq aAr aAs=>.n 2 O<|.sb 4 4 O<|.done<|.AY (fun _ w=>(w.sl [3] 0 O).BU) ?_;cases PU;exact .AO<|.hE (aAr,aAs,aAp,aAq) O (zl [2,0,0,2,2,2,2,0] 1 O)
   cases PU;exact .sk<|.hE (A4,c4,aAm,aAn) O (fun _ w=>((.k (.k (.k (.k (.k (.k (.k (.k (.k (.k (.k (.k .z)))))))))))):tI _ _).sat ((((((((((((((w.sd [9] [] 0 O)).front (CS 11 O)).front (.s .z)).front (CS 10 O)).front (CS 10 O)).front (CS 5 O)).front (CS 10 O)).front (CS 10 O)).front (CS 10 O)).front (CS 10 O)).front (CS 10 O)).front (CS 11 O)).front (CS 11 O)))
  rintro ⟨aQE,aQF,Iq,Ir⟩;refine .ab [2,3,9,10,16,18,19,94,95,96,102,103,104] O<|.a 1 O<|.bd EG fun Ug aAt EG=>.call (nC aAt) iy O O O (fun _ w=>w) ?_
  intro v_ F_ CX
  rcases pq:Ug.1 with _ | q21
  ·replace EG:=wJ pq EG;cases EG
  replace CX:=wL pq CX;replace EG:=wK pq EG;obtain ⟨Iu,aQG,aQH,aQI,aQJ,rfl,rfl⟩:=CX;refine .nm 15 O<|.n 5 O<|.sb 0 5 O<|.b [2,3,9,10,16,18,19,20,94,95,96,102,103,104] O<|.a 1 O<|.bd EG fun Uh aAu EG=>.call (lM aAu) yj O O O (fun _ w=>w) ?_
  intro v_ F_ CX
  rcases pz:Uh.1 with _ | q22
  ·replace EG:=wJ pz EG;cases EG
  replace CX:=wL pz CX;replace EG:=wK pz EG;obtain ⟨Iw,aQK,aQL,aQM,aQN,rfl,rfl⟩:=CX;refine .nm 18 O<|.n 5 O<|.sb 1 3 O<|.b [2,3,9,10,16,18,19,20,21,94,95,96,102,103,104] O<|.a 3 O<|.lb 0 0 O<|.bd EG fun Ez aAv EG=>.call (uI aAv) ZM O O O (zl [4,4,4] 0 O) ?_
  intro v_ F_ CX
  rcases qf:Ez.2.1 with _ | q23
  ·replace EG:=wJ qf EG;cases EG
  replace CX:=wL qf CX;replace EG:=wK qf EG;obtain ⟨g53,aQP,aQQ,aQR,aQS,M13,rfl,rfl⟩:=CX;refine .nm 20 O<|.b [2,3,9,10,16,18,19,20,21,22,23,94,95,96,102,103,104] O<|.a 3 O<|.lb 1 5 O<|.bd EG fun zo aAw EG=>.call (pO aAw) ku O O O (zl [6,6,6] 0 O) ?_
  intro v_ F_ CX
  rcases qg:zo.2.1 with _ | q24
  ·replace EG:=wJ qg EG;cases EG
  replace CX:=wL qg CX;replace EG:=wK qg EG;obtain ⟨g54,aAx,aAy,aAz,aA0,aA1,aA2,rfl,rfl⟩:=CX;refine .nm 22 O<|.b [2,3,9,10,16,18,19,20,21,22,23,24,25,94,95,96,102,103,104] O<|.seq<|.seq<|.bd EG fun O3 MG EG=>.cu 0 [2,3,9,10,16,18,19,22,24,94,95,96,102,103,104, .s 162 (.bool O3)] [] O O ?_ ?_
  ·refine .region<|.n 3 O<|.gs 151 MG O (fun MG=>?_) (fun MG=>?_)
   ·cases MG;exact .be O<|.hU O zw
   refine .n 4 O<|.gs 155 MG O (fun MG=>?_) (fun MG=>?_)
   ·cases MG;exact .be O<|.hU O zw
   refine .n 4 O<|.gs 159 MG O (fun MG=>?_) (fun MG=>?_)
   ·cases MG;exact .be O<|.hU O zw
   cases MG;exact .be O<|.hU O zw
  refine .cb EG O (fun EG=>?_) (fun EG=>?_)
  ·refine .EK [8] [] 21 O O ?_;cases EG;have h:some _=some _:=h;cases h;exact .rv O O ⟨O,O⟩ (zl [] 1 O)
  refine .sk<|.pr [2,3,9,10,16,18,19,22,24,94,95,96,102,103,104] O<|.seq<|.seq<|.bd EG fun NE NM EG=>.DV 17 (fun (e32:Option Addr × Nat × Option Addr × Nat × Option Addr × Nat × Option Addr × Nat × Option Addr × Nat × Option Addr × Nat × Option Nat × Option Addr × Nat)=>[2,3,9,10, .s 16 (.slice e32.1 NE.1.length e32.2.1),18,19,94,95,96,102,103,104, .s 178 (.bool NE.2.1)]) (fun e32=>[.ro (AV AQ e32.2.2.2.2.2.2.2.2.2.2.2.2.2.1 e32.2.2.2.2.2.2.2.2.2.2.2.2.2.2 NE.2.2.2.2.2.2), .res (zI zU 3 e32.2.2.2.2.2.2.2.2.2.2.1 e32.2.2.2.2.2.2.2.2.2.2.2.1 NE.2.2.2.2.1.BD), .res (zI AQ 5 e32.2.2.2.2.2.2.2.2.1 e32.2.2.2.2.2.2.2.2.2.1 NE.2.2.2.2.1.bytes), .res (zI zU 3 e32.2.2.2.2.1 e32.2.2.2.2.2.1 NE.2.2.1.DT), .res (zI AQ 5 e32.2.2.1 e32.2.2.2.1 NE.2.2.1.Data), .ro (AV AQ e32.1 e32.2.1 NE.1), .res (Box Iw 187 (yG NE.2.2.1 e32.2.2.1 e32.2.2.2.1 e32.2.2.2.2.1 e32.2.2.2.2.2.1)), .res (Box Iu 131 (zG NE.2.2.2.2.1 e32.2.2.2.2.2.2.2.2.1 e32.2.2.2.2.2.2.2.2.2.1 e32.2.2.2.2.2.2.2.2.2.2.1 e32.2.2.2.2.2.2.2.2.2.2.2.1)),10,11,12,13,14, .res (Box g8 22 [.slice none 0 0, .slice A2 DF.length c2, .slice e32.2.2.2.2.2.2.2.2.2.2.2.2.2.1 NE.2.2.2.2.2.2.length e32.2.2.2.2.2.2.2.2.2.2.2.2.2.2])]) O O ?_ ?_
  ·refine .region<|.p O O<|.bd NM fun z1 hz1 NM=>.Zh (zm 16 O) hz1 fun Iy hA=>?_;subst hA;refine .n 4 O<|.BN O O<|.AY (fun _ w=>(w.sl [16] 0 O).BU)<|.bd NM fun zq aA3 NM=>.call (tF (AZ:=g53) (BJ:=Iu) aA3) Ed O O O (zd [5] [9,9,6,6,6] 0 O) ?_;rintro _ _ ⟨M15,Iz,Ja,Jb,Jc,rfl,rfl⟩;refine .nm 22 O<|.n 2 O<|.gs 170 NM O (fun NM=>?_) (fun NM=>?_)
   ·cases NM;exact .be O<|.hE ((some ⟨Iy,0,none⟩),QL,aAx,aAy,aAz,aA0,aA1,aA2,Iz,Ja,Jb,Jc,M15,(some ⟨Iy,0,none⟩),QL) O (fun _ w=>((.k (.k (.k (.k (.k (.k (.k (.k (.k (.k (.k (.k (.k (.k (.k (.k (.k (.k (.k (.d (.d (.d (.d .z))))))))))))))))))))))):tI _ _).sat (((((((((((((((((((((w.sd [5] [] 0 O)).front (CS 22 O)).front (CS 22 O)).front (CS 22 O)).front (CS 22 O)).front (CS 22 O)).front (CS 22 O)).front (CS 22 O)).front (CS 22 O)).front (CS 22 O)).front (CS 22 O)).front (CS 22 O)).front (CS 14 O)).front (CS 19 O)).front (CS 13 O)).front (CS 20 O)).front (CS 21 O)).front (CS 18 O)).front (CS 19 O)).front (CS 20 O)))
   refine .n 3 O<|.BN O O<|.bS O fun g56=>.BN O O<|.AY (fun _ w=>Sat.OU (ls:=zJ) (e:=107) [((⟨32,o4.1,false⟩:zD),(((some ⟨Iy,0,none⟩),QL),()))] O O O ⟨(zm 5 O),trivial⟩ w)<|.AY (fun _ w=>w.IJ)<|.bd NM fun Ui aA4 NM=>.call (tA (AZ:=g54) (BJ:=Iw) aA4) Eo O O O (zd [11,4] [11,8,8,8] 0 O) ?_;rintro _ _ ⟨aA5,aA6,aA7,aA8,aA9,aBA,rfl,rfl⟩;refine .nm 24 O ?_;cases NM;exact .be O<|.hE ((some ⟨Iy,0,none⟩),QL,aA7,aA8,aA9,aBA,aA5,aA6,Iz,Ja,Jb,Jc,M15,(some ⟨Iy,0,none⟩),QL) O (fun _ w=>((.k (.k (.k (.k (.k (.k (.k (.k (.k (.k (.k (.k (.k (.k (.k (.k (.k (.k (.k (.d (.d (.d (.d (.d (.d .z))))))))))))))))))))))))):tI _ _).sat (((((((((((((((((((((w.sd [11] [] 0 O)).front (CS 24 O)).front (CS 24 O)).front (CS 24 O)).front (CS 24 O)).front (CS 24 O)).front (CS 24 O)).front (CS 24 O)).front (CS 24 O)).front (CS 24 O)).front (CS 24 O)).front (CS 24 O)).front (CS 20 O)).front (CS 15 O)).front (CS 13 O)).front (CS 16 O)).front (CS 17 O)).front (CS 21 O)).front (CS 22 O)).front (CS 23 O)))
  rintro ⟨Jd,Je,aQU,aQV,aQW,aQX,aQY,aQZ,aQa,aQb,aQc,aQd,M14,Jf,Jg⟩;refine .cb EG O (fun EG=>?_) (fun EG=>?_)
  ·refine .EK [8] [] 18 O O ?_;cases EG;have h:some _=some _:=h;cases h;exact .rv O O ⟨O,O⟩ (zl [] 1 O)
  refine .sk<|.pr [2,3,9,10,16,18,19,94,95,96,102,103,104] O<|.a 3 O<|.bd EG fun SC aBB EG=>.call (vK (AZ:=Ut) (BJ:=Iu) (DW:=Iw) aBB) yw O O O (zd [10,12,12,18] [8,7,2,1,4,2,1] 0 O) ?_
  intro v_ F_ CX
  rcases YK:SC.2.2.2.2.2 with _ | ni
  ·replace CX:=bL YK CX;replace EG:=wJ YK EG;obtain ⟨aQe,aQf,aQg,aQh,aQi,aQj,aQk,aQl,aQm,aQn,rfl,rfl⟩:=CX;refine .nm 20 O<|.bf [2,3,9,10,16,19,20,26,94,95,96,102,103,104] [0,0,0,0,0,0,0,0,0,0,0] 1 O O<|.seq<|.bd EG fun O4 NP EG=>.cu 8 [2,3,9,10,16,94,95,96,102,103,104, .s 196 (.bool O4)] [] O O ?_ ?_
   ·refine .region<|.n 3 O<|.gs 188 NP O (fun NP=>?_) (fun NP=>?_)
    ·cases NP;exact .be O<|.hU O (zl [] 8 O)
    refine .n 3 O<|.gs 191 NP O (fun NP=>?_) (fun NP=>?_)
    ·refine .n 1 O<|.BN O O<|.bd NP fun r59 aBC NP=>.cq 19 [7] [1,1,1,1,1,1,1] 0 (vM (AZ:=Ut) (BJ:=Iu) (DW:=Iw) aBC) aO O ?_;cases NP;exact .be O<|.hU O (zl [] 8 O)
    cases NP;exact .be O<|.hU O (zl [] 8 O)
   refine .cb EG O (fun EG=>?_) (fun EG=>?_)
   ·refine .EK [8] [] 10 O O ?_;cases EG;have h:some _=some _:=h;cases h;exact .rv O O ⟨O,O⟩ (zl [] 1 O)
   refine .skip<|.BL ?_;cases EG;exact .AO<|.CZ (NE.1,NE.2.2.2.2.2.2,PK.2.1,PK.2.2) (Jd,Je,Jf,Jg,Iq,Ir) O (zb O) (zl [2] 0 O)
  replace CX:=wL YK CX;replace EG:=wK YK EG;obtain ⟨g57,g58,g59,g60,aQs,aQt,aQu,aQv,aQw,aQx,aQy,aQz,aQ0,aQ1,M16,aQ2,aQ3,aQ4,aQ5,aQ6,aQ7,aQ8,aQ9,aRA,aRB,aRC,aRD,Jh,Ji,Jj,Jk,Jl,Jm,Jo,Jp,Jq,Jr,rfl,rfl⟩:=CX;refine .nm 36 O<|.bf [2,3,9,10,16,19,20,26,94,95,96,102,103,104] [0,0,0,0,0,0,0,0,0,0,0,0,0,0,0,0,0,0,0,0,0,0,0,0,0,0,0] 1 O O<|.seq<|.bd EG fun O6 NQ EG=>.DV 24 (fun (e34:Option Addr × Nat × Option Addr × Nat × Option Addr × Nat × Option Addr × Nat × Option Addr × Nat)=>[2,3,9,10,16,94,95,96,102,103,104, .s 196 (.bool O6.1)]) (fun e34=>[]) O O ?_ ?_
  ·refine .region<|.n 3 O<|.gs 188 NQ O (fun NQ=>?_) (fun NQ=>?_)
   ·cases NQ;exact .be O<|.hE (Jh,Ji,Jj,Jk,Jl,Jm,Jo,Jp,Jq,Jr) O (zl [] 24 O)
   refine .n 3 O<|.gs 191 NQ O (fun NQ=>?_) (fun NQ=>?_)
   ·refine .n 1 O<|.BN O O<|.bd NQ fun O5 aBD NQ=>.call (vJ (AZ:=Ut) (BJ:=Iu) (DW:=Iw) (IG:=g59) (WZ:=g57) (RZ:=g60) (VX:=g58) aBD) aO O O O (zd [14,16,17,18,19,20,21,22,23,15] [10,10,10,10,10,10,10,13,13,10,10,11,11,10] 0 O) ?_;rintro _ _ ⟨aBE,aBF,aBG,aBH,aBI,aBJ,aBK,aBL,aBM,aBN,rfl,rfl⟩;refine .nm 39 O ?_;cases NQ;exact .be O<|.hE (aBE,aBF,aBG,aBH,aBI,aBJ,aBK,aBL,aBM,aBN) O (zl [] 28 O)
   cases NQ;exact .be O<|.hE (Jh,Ji,Jj,Jk,Jl,Jm,Jo,Jp,Jq,Jr) O (zl [] 24 O)
  rintro ⟨aRE,aRF,aRG,aRH,aRI,aRJ,aRK,aRL,aRM,aRN⟩;refine .cb EG O (fun EG=>?_) (fun EG=>?_)
  ·refine .EK [8] [] 10 O O ?_;cases EG;have h:some _=some _:=h;cases h;exact .rv O O ⟨O,O⟩ (zl [] 1 O)
  refine .skip<|.BL ?_;cases EG;exact .AO<|.CZ (NE.1,NE.2.2.2.2.2.2,PK.2.1,PK.2.2) (Jd,Je,Jf,Jg,Iq,Ir) O (zb O) (zl [2] 0 O)
 rintro o32 ⟨aRO,qh,aRP,aRQ,aRR,aRS⟩ ho;subst ho;have h:=JG h;refine .region<|.be O<|.round<|.pr [2,3,9,10,16,94,95,96,102,103,104] O<|.ae O<|.seq<|.EP O<|.sk<|.pr [2,3,9,10,16,94,95,96,102,103,104] O<|.seq<|.bd h fun Uo EH h=>.ES 7 (fun (XD:List Int × List Int × Int) (e35:Option Addr × Nat × Option Addr × Nat)=>[2,3,9,10, .s 16 (.slice e35.1 XD.1.length e35.2.1),94,95,96,102,103,104]) (fun XD e35=>[.ro (AV AQ e35.2.2.1 e35.2.2.2 XD.2.1), .ro (AV AQ e35.1 e35.2.1 XD.1),1,3,4,5, .res (Box g1 127 [.slice e35.2.2.1 XD.2.1.length e35.2.2.2, .int .i64 XD.2.2])]) O O (fun XD=>Uo= .inr XD) ?_ ?_
 ·refine .block<|.seq<|.region<|.XR 1 O O O O O O O O O O<|.lb 1 3 O<|.b [2,3,9,10,16,18,94,95,96,102,103,104] O<|.a 2 O<|.box O O fun Uu=>.b [2,3,9,10,16,18,19,94,95,96,102,103,104] O<|.seq<|.bd EH fun PL PV EH=>.DV 8 (fun (e36:Option Addr × Nat × Option Addr × Nat)=>[2,3,9,10,16,18,19,94,95,96,102,103,104]) (fun e36=>[.ro (AV AQ e36.2.2.1 e36.2.2.2 PL.2.1), .ro (AV zS e36.1 e36.2.1 PL.1), .res (Box Uu 97 [.pointer none, .pointer none, .pointer none, .pointer none, .slice e36.1 PL.1.length e36.2.1]),2,3,4,5,6, .res (Box g1 127 [.slice e36.2.2.1 PL.2.1.length e36.2.2.2, .int .i64 PL.2.2])]) O O ?_ ?_
  ·refine .a 1 O<|.bd PV fun Fa aBO PV=>.cr 13 [2] [7] 0 (zO aBO) uS O fun aBP aBQ=>.bf [2,3,9,10,16,18,19,94,95,96,102,103,104,113] [0,0,0] 1 O O<|.cb PV O (fun PV=>?_) (fun PV=>?_)
   ·refine .region<|.n 2 O<|.bd PV fun Uk aBR PV=>.ct 14 [1] [1] 0 (uG aBR) yh O fun aBS aBT aBU aBV=>.n 2 O<|.sb 4 4 O<|.done<|.AY (fun _ w=>(w.sl [3] 0 O).BU) ?_;cases PV;exact .AO<|.hE (aBU,aBV,aBS,aBT) O (zl [2,0,0,2,2,2,2,2,0] 1 O)
   cases PV;exact .sk<|.hE (A4,c4,aBP,aBQ) O (fun _ w=>((.k (.k (.k (.k (.k (.k (.k (.k (.k (.k (.k (.k (.k .z))))))))))))):tI _ _).sat (((((((((((((((w.sd [10] [] 0 O)).front (CS 12 O)).front (.s .z)).front (CS 11 O)).front (CS 11 O)).front (CS 5 O)).front (CS 11 O)).front (CS 11 O)).front (CS 11 O)).front (CS 11 O)).front (CS 11 O)).front (CS 11 O)).front (CS 12 O)).front (CS 12 O)))
  rintro ⟨aRT,aRU,Js,Jt⟩;refine .ab [2,3,9,10,16,18,19,94,95,96,102,103,104] O<|.a 1 O<|.bd EH fun Ul aBW EH=>.call (nC aBW) iy O O O (fun _ w=>w) ?_
  intro v_ F_ CX
  rcases qj:Ul.1 with _ | q26
  ·replace EH:=wJ qj EH;cases EH
  replace CX:=wL qj CX;replace EH:=wK qj EH;obtain ⟨Ju,aRV,aRW,aRX,aRY,rfl,rfl⟩:=CX;refine .nm 16 O<|.n 5 O<|.sb 0 5 O<|.b [2,3,9,10,16,18,19,20,94,95,96,102,103,104] O<|.a 1 O<|.bd EH fun Um aBX EH=>.call (lM aBX) yj O O O (fun _ w=>w) ?_
  intro v_ F_ CX
  rcases ql:Um.1 with _ | q27
  ·replace EH:=wJ ql EH;cases EH
  replace CX:=wL ql CX;replace EH:=wK ql EH;obtain ⟨Jv,aRZ,aRa,aRb,aRc,rfl,rfl⟩:=CX;refine .nm 19 O<|.n 5 O<|.sb 1 3 O<|.b [2,3,9,10,16,18,19,20,21,94,95,96,102,103,104] O<|.a 3 O<|.lb 0 0 O<|.bd EH fun Fb aBY EH=>.call (uI aBY) ZM O O O (zl [4,4,4] 0 O) ?_
  intro v_ F_ CX
  rcases qm:Fb.2.1 with _ | q28
  ·replace EH:=wJ qm EH;cases EH
  replace CX:=wL qm CX;replace EH:=wK qm EH;obtain ⟨g64,aRe,aRf,aRg,aRh,M17,rfl,rfl⟩:=CX;refine .nm 21 O<|.b [2,3,9,10,16,18,19,20,21,22,23,94,95,96,102,103,104] O<|.a 3 O<|.lb 1 5 O<|.bd EH fun zu aBZ EH=>.call (pO aBZ) ku O O O (zl [6,6,6] 0 O) ?_
  intro v_ F_ CX
  rcases qo:zu.2.1 with _ | O7
  ·replace EH:=wJ qo EH;cases EH
  replace CX:=wL qo CX;replace EH:=wK qo EH;obtain ⟨g65,aBa,aBb,aBd,aBe,aBf,aBg,rfl,rfl⟩:=CX;refine .nm 23 O<|.b [2,3,9,10,16,18,19,20,21,22,23,24,25,94,95,96,102,103,104] O<|.seq<|.seq<|.bd EH fun O8 MH EH=>.cu 0 [2,3,9,10,16,18,19,22,24,94,95,96,102,103,104, .s 162 (.bool O8)] [] O O ?_ ?_
  ·refine .region<|.n 3 O<|.gs 151 MH O (fun MH=>?_) (fun MH=>?_)
   ·cases MH;exact .be O<|.hU O zw
   refine .n 4 O<|.gs 155 MH O (fun MH=>?_) (fun MH=>?_)
   ·cases MH;exact .be O<|.hU O zw
   refine .n 4 O<|.gs 159 MH O (fun MH=>?_) (fun MH=>?_)
   ·cases MH;exact .be O<|.hU O zw
   cases MH;exact .be O<|.hU O zw
  refine .cb EH O (fun EH=>?_) (fun EH=>?_)
  ·refine .EK [8] [] 22 O O ?_;cases EH;have h:some _=some _:=h;cases h;exact .rv O O ⟨O,O⟩ (zl [] 1 O)
  refine .sk<|.pr [2,3,9,10,16,18,19,22,24,94,95,96,102,103,104] O<|.seq<|.seq<|.bd EH fun QR NR EH=>.DV 15 (fun (e38:Option Addr × Nat × Option Addr × Nat × Option Addr × Nat × Option Addr × Nat × Option Addr × Nat × Option Addr × Nat × Option Nat)=>[2,3,9,10, .s 16 (.slice e38.1 QR.1.length e38.2.1),18,19,94,95,96,102,103,104, .s 178 (.bool QR.2.1)]) (fun e38=>[.res (zI zU 3 e38.2.2.2.2.2.2.2.2.2.2.1 e38.2.2.2.2.2.2.2.2.2.2.2.1 QR.2.2.2.2.1.BD), .res (zI AQ 5 e38.2.2.2.2.2.2.2.2.1 e38.2.2.2.2.2.2.2.2.2.1 QR.2.2.2.2.1.bytes), .res (zI zU 3 e38.2.2.2.2.1 e38.2.2.2.2.2.1 QR.2.2.1.DT), .res (zI AQ 5 e38.2.2.1 e38.2.2.2.1 QR.2.2.1.Data), .ro (AV AQ e38.1 e38.2.1 QR.1), .res (Box Jv 187 (yG QR.2.2.1 e38.2.2.1 e38.2.2.2.1 e38.2.2.2.2.1 e38.2.2.2.2.2.1)), .res (Box Ju 131 (zG QR.2.2.2.2.1 e38.2.2.2.2.2.2.2.2.1 e38.2.2.2.2.2.2.2.2.2.1 e38.2.2.2.2.2.2.2.2.2.2.1 e38.2.2.2.2.2.2.2.2.2.2.2.1)),10,11,12,13]) O O ?_ ?_
  ·refine .region<|.p O O<|.bd NR fun z2 hz2 NR=>.roS (zm 14 O) hz2 fun ad1 hA=>?_;subst hA;refine .n 4 O<|.BN O O<|.bd NR fun zx aBi NR=>.call (tF (AZ:=g64) (BJ:=Ju) aBi) Ed O O O (zd [14] [8,8,5,5,5] 0 O) ?_;rintro _ _ ⟨M19,Jw,Jy,Jz,Ko,rfl,rfl⟩;refine .nm 23 O<|.n 2 O<|.gs 170 NR O (fun NR=>?_) (fun NR=>?_)
   ·cases NR;exact .be O<|.hE ((some ad1),qh,aBa,aBb,aBd,aBe,aBf,aBg,Jw,Jy,Jz,Ko,M19) O (zl [4,3,6,5,10,4,2] 4 O)
   refine .n 3 O<|.BN O O<|.bS O fun g66=>.BN O O<|.AY (fun _ w=>Sat.OU (ls:=zJ) (e:=107) [((⟨32,o32.1,false⟩:zD),(((some ad1),qh),()))] O O O ⟨(zm 14 O),trivial⟩ w)<|.AY (fun _ w=>w.IJ)<|.bd NR fun Un aBj NR=>.call (tA (AZ:=g65) (BJ:=Jv) aBj) Eo O O O (zd [10,4] [10,7,7,7] 0 O) ?_;rintro _ _ ⟨aBk,aBl,aBm,aBn,aBo,aBp,rfl,rfl⟩;refine .nm 25 O ?_;cases NR;exact .be O<|.hE ((some ad1),qh,aBm,aBn,aBo,aBp,aBk,aBl,Jw,Jy,Jz,Ko,M19) O (zl [10,9,4,3,12,2,5] 6 O)
  rintro ⟨Kq,Kr,aRj,aRk,aRl,aRm,aRn,aRo,aRp,aRq,aRr,aRs,M18⟩;refine .cb EH O (fun EH=>?_) (fun EH=>?_)
  ·refine .EK [8] [] 18 O O ?_;cases EH;have h:some _=some _:=h;cases h;exact .rv O O ⟨O,O⟩ (zl [] 1 O)
  refine .sk<|.pr [2,3,9,10,16,18,19,94,95,96,102,103,104] O<|.a 3 O<|.bd EH fun SE aBq EH=>.call (vK (AZ:=Uu) (BJ:=Ju) (DW:=Jv) aBq) yw O O O (zd [9,16,16,18] [7,6,1,0,3,1] 0 O) ?_
  intro v_ F_ CX
  rcases YL:SE.2.2.2.2.2 with _ | q30
  ·replace CX:=bL YL CX;replace EH:=wJ YL EH;obtain ⟨aRt,aRu,aRv,aRw,aRx,aRy,aRz,aR0,aR1,aR2,rfl,rfl⟩:=CX;refine .nm 20 O<|.bf [2,3,9,10,16,19,20,26,94,95,96,102,103,104] [0,0,0,0,0,0,0,0,0,0] 1 O O<|.seq<|.bd EH fun O9 NS EH=>.cu 8 [2,3,9,10,16,94,95,96,102,103,104, .s 196 (.bool O9)] [] O O ?_ ?_
   ·refine .region<|.n 3 O<|.gs 188 NS O (fun NS=>?_) (fun NS=>?_)
    ·cases NS;exact .be O<|.hU O (zl [] 8 O)
    refine .n 3 O<|.gs 191 NS O (fun NS=>?_) (fun NS=>?_)
    ·refine .n 1 O<|.BN O O<|.bd NS fun r70 aBr NS=>.cq 19 [7] [1,1,1,1,1,1,1] 0 (vM (AZ:=Uu) (BJ:=Ju) (DW:=Jv) aBr) aO O ?_;cases NS;exact .be O<|.hU O (zl [] 8 O)
    cases NS;exact .be O<|.hU O (zl [] 8 O)
   refine .cb EH O (fun EH=>?_) (fun EH=>?_)
   ·refine .EK [8] [] 10 O O ?_;cases EH;have h:some _=some _:=h;cases h;exact .rv O O ⟨O,O⟩ (zl [] 1 O)
   refine .skip<|.BL ?_;cases EH;exact .AO<|.CZ (QR.1,PL.2.1,PL.2.2) (Kq,Kr,Js,Jt) O (zb O) (zl [1] 0 O)
  replace CX:=wL YL CX;replace EH:=wK YL EH;obtain ⟨g67,g68,g69,g70,aR7,aR8,aR9,aSA,aSB,aSC,aSD,aSE,aSF,aSG,M20,aSH,aSI,aSJ,aSK,aSL,aSM,aSN,aSO,aSP,aSQ,aSR,aSS,Kt,Ku,Kv,Kw,Ky,Kz,La,Lc,Ld,Le,rfl,rfl⟩:=CX;refine .nm 36 O<|.bf [2,3,9,10,16,19,20,26,94,95,96,102,103,104] [0,0,0,0,0,0,0,0,0,0,0,0,0,0,0,0,0,0,0,0,0,0,0,0,0,0] 1 O O<|.seq<|.bd EH fun P6 NT EH=>.DV 24 (fun (e40:Option Addr × Nat × Option Addr × Nat × Option Addr × Nat × Option Addr × Nat × Option Addr × Nat)=>[2,3,9,10,16,94,95,96,102,103,104, .s 196 (.bool P6.1)]) (fun e40=>[]) O O ?_ ?_
  ·refine .region<|.n 3 O<|.gs 188 NT O (fun NT=>?_) (fun NT=>?_)
   ·cases NT;exact .be O<|.hE (Kt,Ku,Kv,Kw,Ky,Kz,La,Lc,Ld,Le) O (zl [] 24 O)
   refine .n 3 O<|.gs 191 NT O (fun NT=>?_) (fun NT=>?_)
   ·refine .n 1 O<|.BN O O<|.bd NT fun P5 aBs NT=>.call (vJ (AZ:=Uu) (BJ:=Ju) (DW:=Jv) (IG:=g69) (WZ:=g67) (RZ:=g70) (VX:=g68) aBs) aO O O O (zd [14,16,17,18,19,20,21,22,23,15] [10,10,10,10,10,10,10,13,13,10,10,11,11,10] 0 O) ?_;rintro _ _ ⟨aBt,aBu,aBv,aBw,aBx,aBy,aBz,aB0,aB1,aB2,rfl,rfl⟩;refine .nm 39 O ?_;cases NT;exact .be O<|.hE (aBt,aBu,aBv,aBw,aBx,aBy,aBz,aB0,aB1,aB2) O (zl [] 28 O)
   cases NT;exact .be O<|.hE (Kt,Ku,Kv,Kw,Ky,Kz,La,Lc,Ld,Le) O (zl [] 24 O)
  rintro ⟨aST,aSU,aSV,aSW,aSX,aSY,aSZ,aSa,aSb,aSc⟩;refine .cb EH O (fun EH=>?_) (fun EH=>?_)
  ·refine .EK [8] [] 10 O O ?_;cases EH;have h:some _=some _:=h;cases h;exact .rv O O ⟨O,O⟩ (zl [] 1 O)
  refine .skip<|.BL ?_;cases EH;exact .AO<|.CZ (QR.1,PL.2.1,PL.2.2) (Kq,Kr,Js,Jt) O (zb O) (zl [1] 0 O)
 rintro XD ⟨aSd,aSe,aSf,aSg⟩ ho;subst ho;have h:=JG h;refine .region<|.be O<|.round<|.pr [2,3,9,10,16,94,95,96,102,103,104] O<|.ae O<|.seq<|.FU O<|.xq O<|.BL<|.AO<|.pf [2,3,9,10,94,95,96] [0,1] 2 O O<|.region<|.be O<|.round<|.pr [2,3,9,10,94,95,96] O<|.ae O<|.seq<|.FU O<|.xq O<|.AO<|.pf [] [] 8 O O<|.ae O ?_;cases h;exact .rv O O ⟨O,O⟩ (zl [] 1 O)
def XE {α:Type} (f:α→α):Nat→α→α
 | 0,x=>x
 | n+1,x=>f (XE f n x)
def gE (x:Int):Prop:=0≤x∧x≤4294967295
theorem zIZ (x:Int):gE (wrap .u32 x):=by
 rw [kW]
 constructor <;> omega
theorem aA (x y:Int):gE (eJ .u32 x y):=zIZ _
def WA (c:Int):Int:=eJ .u32 (rM .u32 c 1) (wrap .u32 ((sN .u32 c 1)*3988292384))
def qp (c x:Int):Int:=XE WA 8 (eJ .u32 c (wrap .u32 x))
def Lh (l:List Int):Int:=l.foldl qp 4294967295
theorem zLw (c:Int):gE (WA c):=aA _ _
theorem zIh {c:Int} (h:gE c):∀ n,gE (XE WA n c)
 | 0=>h
 | n+1=>zLw _
theorem zLT (c x:Int):gE (qp c x):=zIh (aA _ _) 8
theorem zIM (l:List Int):gE (Lh l):=by
 unfold Lh
 have:∀ (l:List Int) (c:Int),gE c→gE (l.foldl qp c):=by
  intro l
  induction l with
  | nil=>intro c h; exact h
  | cons x r ih=>intro c _; exact ih _ (zLT c x)
 exact this l _ ⟨by omega,by omega⟩
theorem dM {x:Int} (h:gE x):(BitVec.ofInt 32 x).toNat=x.toNat:=by
 rw [BitVec.toNat_ofInt]
 have:=h.1
 have:=h.2
 omega
theorem zLk {x:Int} (h:gE x):eJ .u32 x 0=x:=by
 unfold eJ
 have e:(BitVec.ofInt (IntKind.bits .u32) x ^^^ BitVec.ofInt (IntKind.bits .u32) 0).toNat=x.toNat:=by
  show (BitVec.ofInt 32 x ^^^ BitVec.ofInt 32 0).toNat=_
  rw [←dM h]
  simp
 rw [e,kW]
 have:=h.1
 have:=h.2
 omega
theorem zLC {x:Int} (h:gE x):sN .u32 x 1=x % 2:=by
 unfold sN
 have e:(BitVec.ofInt (IntKind.bits .u32) x&&&BitVec.ofInt (IntKind.bits .u32) 1).toNat=x.toNat % 2:=by
  show (BitVec.ofInt 32 x&&&BitVec.ofInt 32 1).toNat=_
  rw [BitVec.toNat_and,dM h]
  have:(BitVec.ofInt 32 1).toNat=1:=by decide
  rw [this,Nat.and_one_is_mod]
 rw [e,kW]
 have:=h.1
 have:=h.2
 omega
theorem zMu {x:Int} (h:gE x):rM .u32 x 1=x / 2:=by
 unfold rM
 have:(2:Int) ^ (min (Int.toNat 1) (IntKind.bits .u32))=2:=by decide
 rw [this,Int.fdiv_eq_ediv_of_nonneg _ (by omega)]
theorem zQT {c:Int} (h:gE c):WA c=bif (c.tmod 2==1) then eJ .u32 (wrap .u32 (c.tdiv 2)) 3988292384 else wrap .u32 (c.tdiv 2):=by
 unfold WA
 have h0:=h.1
 have h1:=h.2
 have hd:wrap .u32 (c.tdiv 2)=c / 2:=by
  rw [Int.tdiv_eq_ediv_of_nonneg h0,zQK (by omega) (by omega)]
 have hm:c.tmod 2=c % 2:=Int.tmod_eq_emod_of_nonneg h0
 rw [zMu h,zLC h,hd,hm]
 rcases Int.emod_two_eq c with h2 | h2
 ·rw [h2]
  have:wrap .u32 (0*3988292384)=0:=by rw [kW]; decide
  rw [this,zLk ⟨by omega,by omega⟩]
  rfl
 ·rw [h2]
  have:wrap .u32 (1*3988292384)=3988292384:=by rw [kW]; decide
  rw [this]
  rfl
theorem zRL {c:Int} (h:gE c):eJ .u32 (if IntKind.signed .u32 then -1 else IntKind.max .u32) c=wrap .u32 (4294967295 - c):=by
 have h0:=h.1
 have h1:=h.2
 have em:(if IntKind.signed .u32 then -1 else IntKind.max .u32:Int)=4294967295:=by decide
 rw [em]
 unfold eJ
 have e:(BitVec.ofInt (IntKind.bits .u32) 4294967295 ^^^ BitVec.ofInt (IntKind.bits .u32) c).toNat=4294967295 - c.toNat:=by
  show (BitVec.ofInt 32 4294967295 ^^^ BitVec.ofInt 32 c).toNat=_
  have:BitVec.ofInt 32 4294967295=BitVec.allOnes 32:=by decide
  rw [this,←BitVec.not_def,BitVec.toNat_not,dM h]
 rw [e]
 congr 1
 omega
theorem zHz {α σ:Type} {m:σ × Int→Option (uN (σ × Int) σ)} (xs:List α) (f:σ→α→σ) (s0:σ) (hn:xs.length≤140737488355328) (I:σ→Prop) (hI:I s0) (hf:∀ s x,I s→I (f s x))
  (hs:∀ (i:Nat) (s:σ) (h:i<xs.length),I s→m (s,(i:Int))=some (.next (f s xs[i],((i+1:Nat):Int)))) (hd:∀ s,m (s,(xs.length:Int))=some (.done s)):yC m (s0,0)=some (xs.foldl f s0):=by
 have hI2:∀ n,I ((xs.take n).foldl f s0):=by
  intro n
  have:∀ (l:List α) (s:σ),I s→I (l.foldl f s):=by
   intro l
   induction l with
   | nil=>intro s h; exact h
   | cons x r ih=>intro s h; exact ih _ (hf s x h)
  exact this _ _ hI
 have:=Qu (m:=m) (fun i=>((xs.take i).foldl f s0,(i:Int))) xs.length (t:=xs.foldl f s0) (fun i hi=>?_) (by simp only [List.take_length]; exact hd _)
 ·simpa using this
 ·rw [hs i _ hi (hI2 i),xY hi,List.foldl_append]
  rfl
theorem zQL (b:List Int) (hb:b.length≤140737488355328):uT b=some (wrap .u32 (4294967295 - Lh b)):=by
 unfold uT
 rw [zHz b qp 4294967295 hb (fun _=>True) trivial (fun _ _ _=>trivial) (fun i s hi _=>?_) (fun s=>by simp)]
 ·simp only [AA]
  exact congrArg some (zRL (zIM b))
 ·have h1:decide ((i:Int)<(b.length:Int))=true:=by simpa using hi
  simp only [h1,cond_true,xJ hi,AA]
  have:=Qu (m:=fun (s2:Int × Int)=>bif decide (s2.2<8) then (some (.next (eJ .u32 (rM .u32 s2.1 1) (wrap .u32 ((sN .u32 s2.1 1)*3988292384)),wrap .i64 (s2.2+1)))) else (some (.done s2.1))) (fun k=>(XE WA k (eJ .u32 s (wrap .u32 b[i])),(k:Int))) 8 (t:=qp s b[i]) (fun k hk=>by
   have:decide ((k:Int)<8)=true:=by simp; omega
   simp only [this,cond_true]
   rw [yQ (n:=8) hk (by omega)]
   rfl) O
  simp only [XE,Int.ofNat_zero] at this
  rw [this]
  simp only [AA]
  rw [yQ hi hb]
theorem zRO (b:List Int) (hb:b.length≤140737488355328):jU b=some (wrap .u32 (4294967295 - Lh b)):=by
 unfold jU
 rw [zHz b qp 4294967295 hb (fun _=>True) trivial (fun _ _ _=>trivial) (fun i s hi _=>?_) (fun s=>by simp)]
 ·rfl
 ·have h1:decide ((i:Int)<(b.length:Int))=true:=by simpa using hi
  simp only [h1,cond_true,xJ hi,AA]
  have:=Qu (m:=fun (s2:Int × Int)=>bif decide (s2.2<8) then (bif ((s2.1.tmod 2)==1) then (some (.next (eJ .u32 (wrap .u32 (s2.1.tdiv 2)) 3988292384,wrap .i64 (s2.2+1)))) else (some (.next (wrap .u32 (s2.1.tdiv 2),wrap .i64 (s2.2+1))))) else (some (.done s2.1))) (fun k=>(XE WA k (eJ .u32 s (wrap .u32 b[i])),(k:Int))) 8 (t:=qp s b[i]) (fun k hk=>by
   have h2:decide ((k:Int)<8)=true:=by simp; omega
   simp only [h2,cond_true]
   rw [yQ (n:=8) hk (by omega)]
   have hr:gE (XE WA k (eJ .u32 s (wrap .u32 b[i]))):=zIh (aA _ _) k
   show _=some (uN.next (WA (XE WA k (eJ .u32 s (wrap .u32 b[i]))),_))
   rw [zQT hr]
   cases ((XE WA k (eJ .u32 s (wrap .u32 b[i]))).tmod 2==1) <;> rfl) O
  simp only [XE,Int.ofNat_zero] at this
  rw [this]
  simp only [AA]
  rw [yQ hi hb]
theorem zRH {s:ByteArray} {i:Nat} (h:i<s.size):FM s (i:Int)=some ((s[i]).toNat:Int):=by
 simp [FM,h]
def KC (s:ByteArray) (i:Nat):Int:=((s[i]?).map fun b=>(b.toNat:Int)).getD 0
theorem zIT {s:ByteArray} {i:Nat} (h:i<s.size):FM s (i:Int)=some (KC s i):=by
 rw [zRH h]
 simp [KC,h]
def iO (y:Int):Bool:=decide (y≥97)&&decide (y≤122)
def XF (y:Int):Bool:=decide (y≥48)&&decide (y≤57)||(y==45)
def rS (s:ByteArray):Bool:=decide (1≤s.size)&&decide (s.size≤16)&&(iO (KC s 0)&&(List.range s.size).all fun i=>iO (KC s i)||XF (KC s i))
theorem zIo (s:ByteArray):sX s=some (rS s):=by
 unfold sX
 by_cases h1:s.size<1
 ·have:decide ((s.size:Int)<1)=true:=by simp; omega
  have h2:decide (1≤s.size)=false:=decide_eq_false (by omega)
  simp [this,rS,h2]
 by_cases h2:s.size>16
 ·have e1:decide ((s.size:Int)<1)=false:=by simp; omega
  have e2:decide ((s.size:Int)>16)=true:=by simp; omega
  have e3:decide (s.size≤16)=false:=by simp; omega
  simp [e1,e2,rS,e3]
 have e1:decide ((s.size:Int)<1)=false:=by simp; omega
 have e2:decide ((s.size:Int)>16)=false:=by simp; omega
 simp only [e1,e2,cond_false,AA]
 have hl:=Zo (m:=fun (s1:Int)=>bif decide (s1<(s.size:Int)) then (bnd ((bnd (FM s s1) fun y1=>bif decide (y1≥97) then (some (decide (y1≤122))) else (some false):Option Bool)) fun o4=>bnd ((bnd (FM s s1) fun y2=>bif decide (y2≥48) then (bif decide (y2≤57) then (some true) else (some (y2==45))) else (some (y2==45)):Option Bool)) fun o5=>bnd ((bif !o4 then (bif (s1==0) then (some true) else (some (!o5))) else (some false):Option Bool)) fun o6=>bif o6 then (some (.done (.inl false))) else (some (.next (wrap .i64 (s1+1))))) else (some (.done (.inr ()))))
  (fun i=>(i:Int)) s.size (fun i=>!iO (KC s i)&&(decide (i=0)||!XF (KC s i))) (u:=(Sum.inl false:Bool ⊕ Unit)) (t:=.inr ()) (fun i hi=>?_) (by simp)
 ·rw [show ((0:Nat):Int)=0 from O] at hl
  rw [hl]
  simp only [AA]
  have hn:rS s=!(List.range s.size).any (fun i=>!iO (KC s i)&&(decide (i=0)||!XF (KC s i))):=by
   unfold rS
   have d1:decide (1≤s.size)=true:=by simp; omega
   have d2:decide (s.size≤16)=true:=by simp; omega
   rw [d1,d2,Bool.eq_iff_iff]
   simp only [Bool.true_and,Bool.and_eq_true,List.all_eq_true,List.mem_range,Bool.or_eq_true,Bool.not_eq_true',List.any_eq_false,decide_eq_true_eq,not_and,not_or]
   constructor
   ·rintro ⟨g1,g2⟩ i hi hc
    rcases g2 i hi with g | g
    ·simp [g] at hc
    ·refine ⟨fun h0=>?_,by simp [g]⟩
     subst h0
     simp [g1] at hc
   ·intro g
    have Lj:iO (KC s 0)=true:=by
     cases hc:iO (KC s 0)
     ·exact absurd O (g 0 (by omega) (by simp [hc])).1
     ·rfl
    refine ⟨Lj,fun i hi=>?_⟩
    cases hc:iO (KC s i)
    ·right
     have:=(g i hi (by simp [hc])).2
     simpa using this
    ·exact .inl O
  rw [hn]
  cases (List.range s.size).any (fun i=>!iO (KC s i)&&(decide (i=0)||!XF (KC s i))) <;> rfl
 ·have h3:decide ((i:Int)<(s.size:Int))=true:=by simpa using hi
  have h4:((i:Int)==0)=decide (i=0):=by
   rw [Bool.eq_iff_iff]; simp
  simp only [h3,cond_true,zIT hi,AA,h4,yQ hi (by omega:s.size≤140737488355328),iO,XF]
  cases decide (KC s i≥97) <;> cases decide (KC s i≤122) <;> cases decide (KC s i≥48) <;> cases decide (KC s i≤57) <;> cases (KC s i==45) <;> cases decide (i=0) <;> rfl
theorem zFN (s:ByteArray):pQ s=some (rS s):=by
 unfold pQ
 by_cases h1:s.size<1
 ·have:decide ((s.size:Int)<1)=true:=by simp; omega
  have h2:decide (1≤s.size)=false:=decide_eq_false (by omega)
  simp [this,rS,h2]
 by_cases h2:s.size>16
 ·have e1:decide ((s.size:Int)<1)=false:=by simp; omega
  have e2:decide ((s.size:Int)>16)=true:=by simp; omega
  have e3:decide (s.size≤16)=false:=by simp; omega
  simp [e1,e2,rS,e3]
 have e1:decide ((s.size:Int)<1)=false:=by simp; omega
 have e2:decide ((s.size:Int)>16)=false:=by simp; omega
 have hc0:FM s 0=some (KC s 0):=zIT (i:=0) (by omega)
 have d1:decide (1≤s.size)=true:=by simp; omega
 have d2:decide (s.size≤16)=true:=by simp; omega
 simp only [e1,e2,cond_false,AA,hc0]
 cases hl0:iO (KC s 0)
 ·have hn:rS s=false:=by simp [rS,hl0]
  rw [hn]
  simp only [iO,Bool.and_eq_false_iff,decide_eq_false_iff_not] at hl0
  by_cases g:KC s 0<97
  ·simp [g]
  ·have g2:KC s 0>122:=by omega
   simp [g,g2]
 ·have hl1:=hl0
  simp only [iO,Bool.and_eq_true,decide_eq_true_eq] at hl1
  have g1:decide (KC s 0<97)=false:=by simp; omega
  have g2:decide (KC s 0>122)=false:=by simp; omega
  simp only [g1,g2,cond_false,AA]
  have hl:=Zo (m:=fun (s1:Int)=>bif decide (s1<(s.size:Int)) then (bnd ((bnd (FM s s1) fun y2=>bif decide (y2≥97) then (bif decide (y2≤122) then (some false) else (bif decide (y2≥48) then (bif decide (y2≤57) then (some false) else (some (!(y2==45)))) else (some (!(y2==45))))) else (bif decide (y2≥48) then (bif decide (y2≤57) then (some false) else (some (!(y2==45)))) else (some (!(y2==45)))):Option Bool)) fun o4=>bif o4 then (some (.done (.inl false))) else (some (.next (wrap .i64 (s1+1))))) else (some (.done (.inr ()))))
   (fun i=>(i:Int)) s.size (fun i=>!(iO (KC s i)||XF (KC s i))) (u:=(Sum.inl false:Bool ⊕ Unit)) (t:=.inr ()) (fun i hi=>?_) (by simp)
  ·rw [show ((0:Nat):Int)=0 from O] at hl
   rw [hl]
   simp only [AA]
   have hn:rS s=!(List.range s.size).any (fun i=>!(iO (KC s i)||XF (KC s i))):=by
    unfold rS
    rw [d1,d2,hl0,Bool.eq_iff_iff]
    simp only [Bool.true_and,List.all_eq_true,List.mem_range,Bool.or_eq_true,Bool.not_eq_true',List.any_eq_false,Bool.not_eq_true,Bool.not_eq_false']
    constructor
    ·intro g x hx hf
     rcases g x hx with g | g <;> simp [g] at hf
    ·intro g x hx
     have:=g x hx
     cases a:iO (KC s x)
     ·cases b:XF (KC s x)
      ·simp [a,b] at this
      ·exact .inr O
     ·exact .inl O
   rw [hn]
   cases (List.range s.size).any (fun i=>!(iO (KC s i)||XF (KC s i))) <;> rfl
  ·have h3:decide ((i:Int)<(s.size:Int))=true:=by simpa using hi
   simp only [h3,cond_true,zIT hi,AA,yQ hi (by omega:s.size≤140737488355328),iO,XF]
   cases decide (KC s i≥97) <;> cases decide (KC s i≤122) <;> cases decide (KC s i≥48) <;> cases decide (KC s i≤57) <;> cases (KC s i==45) <;> rfl
def zy (n:Int):Bool:=decide (0≤n)&&decide (n≤999)
def aX (v:zQ):Bool:=zy v.BZ&&(zy v.CB&&zy v.CJ)
theorem dlt (a b:Int):decide (a<b)=!decide (b≤a):=by
 by_cases h:b≤a
 ·have:¬ a<b:=by omega
  simp [h,this]
 ·have:a<b:=by omega
  simp [h,this]
theorem zLe (v:zQ):tS v=some (aX v):=by
 unfold tS tQ aX zy
 simp only [AA,gt_iff_lt,dlt]
 cases decide (0≤v.BZ) <;> cases decide (v.BZ≤999) <;> cases decide (0≤v.CB) <;> cases decide (v.CB≤999) <;> cases decide (0≤v.CJ) <;> cases decide (v.CJ≤999) <;> rfl
theorem zMK (v:zQ):oG v=some (aX v):=by
 unfold oG aX zy
 simp only [ge_iff_le]
 cases decide (0≤v.BZ) <;> cases decide (v.BZ≤999) <;> cases decide (0≤v.CB) <;> cases decide (v.CB≤999) <;> cases decide (0≤v.CJ) <;> cases decide (v.CJ≤999) <;> rfl
def rI (i:zN):Bool:=rS i.Name&&(aX i.Version&&(decide (1≤i.Data.length)&&decide (i.Data.length≤512)))
theorem zFU (i:zN):tE i=some (rI i):=by
 unfold tE rI
 have e1:decide ((i.Data.length:Int)≥1)=decide (1≤i.Data.length):=by rw [Bool.eq_iff_iff]; simp; omega
 have e2:decide ((i.Data.length:Int)≤512)=decide (i.Data.length≤512):=by rw [Bool.eq_iff_iff]; simp; omega
 simp only [zIo,zLe,AA,e1,e2]
 cases rS i.Name <;> cases aX i.Version <;> cases decide (1≤i.Data.length) <;> cases decide (i.Data.length≤512) <;> rfl
theorem Uw (i:zN):qH i=some (rI i):=by
 unfold qH rI
 have e1:decide ((i.Data.length:Int)≥1)=decide (1≤i.Data.length):=by rw [Bool.eq_iff_iff]; simp; omega
 have e2:decide ((i.Data.length:Int)≤512)=decide (i.Data.length≤512):=by rw [Bool.eq_iff_iff]; simp; omega
 simp only [zFN,zMK,AA,e1,e2]
 cases rS i.Name <;> cases aX i.Version <;> cases decide (1≤i.Data.length) <;> cases decide (i.Data.length≤512) <;> rfl
theorem bP {i:zN} (h:rI i=true):rS i.Name=true∧aX i.Version=true∧1≤i.Data.length∧i.Data.length≤512:=by
 simpa [rI] using h
theorem zHq {s:ByteArray} (h:rS s=true):1≤s.size∧s.size≤16:=by
 simp only [rS,Bool.and_eq_true,decide_eq_true_eq] at h
 exact h.1
theorem zAm (s:ByteArray):(bytesOf s).length=s.size:=by simp [bytesOf,ByteArray.toList_eq]
def two (n:Int):List Int:= [wrap .u8 (rM .i64 n 8),wrap .u8 n]
def Ux (v:zQ):List Int:=two v.BZ++(two v.CB++two v.CJ)
def qw (i:zN):List Int:=wrap .u8 (i.Name.size:Int)::(bytesOf i.Name++(Ux i.Version++(two (i.Data.length:Int)++i.Data)))
theorem bI {xs ys:List Int} (h:xs.length+ys.length≤140737488355328):app 1 xs ys=some (xs++ys):=vE (by omega) (by omega)
theorem zKs {i:zN} (h:i.Name.size≤16∧i.Data.length≤512):(qw i).length≤600:=by
 simp [qw,Ux,two,zAm]
 omega
theorem zMf {i:zN} (h:i.Name.size≤16∧i.Data.length≤512):pB i=some (qw i):=by
 have hb:=zAm i.Name
 unfold pB dI nN pA
 rw [bI (by simp)]
 simp only [AA,List.nil_append]
 rw [bI (by simp [hb]; omega)]
 simp only [AA]
 rw [bI (by simp [hb]; omega)]
 simp only [AA]
 rw [bI (by simp [hb]; omega)]
 simp only [AA]
 rw [bI (by simp [hb]; omega)]
 simp only [AA]
 rw [bI (by simp [hb]; omega)]
 simp only [AA]
 rw [bI (by simp [hb]; omega)]
 simp [qw,Ux,two]
theorem zNZ {i:zN} (h:i.Name.size≤16∧i.Data.length≤512):mC i=some (qw i):=by
 have hb:=zAm i.Name
 unfold mC aH mV nB
 rw [bI (by simp [hb]; omega)]
 simp only [AA]
 rw [bI (by simp)]
 simp only [AA]
 rw [bI (by simp)]
 simp only [AA]
 rw [bI (by simp [hb]; omega)]
 simp only [AA]
 rw [bI (by simp [hb]; omega)]
 simp only [AA]
 rw [bI (by simp [hb]; omega)]
 simp [qw,Ux,two]
def WB (i:zN):Int:=bif rI i then wrap .u32 (4294967295 - Lh (qw i)) else 0
theorem zOU (i:zN):pP i=some (WB i):=by
 unfold pP WB
 rw [zFU]
 cases h:rI i
 ·rfl
 ·obtain ⟨h1,h2,h3,h4⟩:=bP h
  have hs:i.Name.size≤16∧i.Data.length≤512:=⟨(zHq h1).2,h4⟩
  have hl:=zKs hs
  simp only [AA,Bool.not_true,cond_false,zMf hs]
  rw [zQL _ (by omega)]
  rfl
theorem zNo (i:zN):iF i=some (WB i):=by
 unfold iF WB
 rw [Uw]
 cases h:rI i
 ·rfl
 ·obtain ⟨h1,h2,h3,h4⟩:=bP h
  have hs:i.Name.size≤16∧i.Data.length≤512:=⟨(zHq h1).2,h4⟩
  have hl:=zKs hs
  simp only [AA,Bool.not_true,cond_false,zNZ hs]
  rw [zRO _ (by omega)]
  rfl
def bE (s:yA):Bool:=rI s.AU&&(s.Sum==WB s.AU)
def sU (s:yA) (n:ByteArray):Bool:=bE s&&decide (s.AU.Name=n)
theorem zMq (s:yA):gN s=some (bE s):=by
 unfold gN bE
 simp only [zFU,zOU,AA]
 cases rI s.AU <;> rfl
theorem zOy (s:yA):jS s=some (bE s):=by
 unfold jS bE
 have e:(WB s.AU==s.Sum)=(s.Sum==WB s.AU):=by rw [Bool.eq_iff_iff]; simp only [beq_iff_eq]; exact eq_comm
 simp only [Uw,zNo,AA,e]
 cases rI s.AU <;> rfl
theorem zOP (d:zB) (s:yA):nE d s=some (sU s d.Name):=by
 unfold nE sU
 simp only [zMq,AA,Dy]
 cases bE s <;> rfl
theorem zEY (s:yA) (n:ByteArray):rT s n=some (sU s n):=by
 unfold rT sU
 simp only [zOy,AA,Dy]
 cases bE s <;> rfl
theorem zNR {s:yA} {n:ByteArray} (h:sU s n=true):rI s.AU=true∧s.Sum=WB s.AU∧s.AU.Name=n:=by
 simp only [sU,bE,Bool.and_eq_true,beq_iff_eq,decide_eq_true_eq] at h
 exact ⟨h.1.1,h.1.2,h.2⟩
def bit (k:Int):Prop:=k=0∨k=1
instance (k:Int):Decidable (bit k):=by unfold bit; infer_instance
def tU (a:tH yA) (k:Int):yA:=if k=0 then a.e0 else a.e1
def SG (a:tH yA) (k:Int) (y:yA):tH yA:=if k=0 then ⟨y,a.e1⟩ else ⟨a.e0,y⟩
def zQZ:zN:=⟨⟨#[]⟩,⟨0,0,0⟩, []⟩
def Ll:yA:=⟨zQZ,0⟩
def WC:zB:=⟨⟨#[]⟩,⟨Ll,Ll⟩,0,0,false⟩
theorem UD (a:tH yA) {k:Int} (h:bit k):BP [a.e0,a.e1] k=some (tU a k):=by
 rcases h with rfl | rfl <;> rfl
theorem Uy (a:tH yA) (y:yA) {k:Int} (h:bit k):tH.set a k y=some (SG a k y):=by
 rcases h with rfl | rfl <;> rfl
theorem YM {k:Int} (h:bit k):wrap .i64 (1 - k)=1 - k:=by
 rcases h with rfl | rfl <;> exact zZ (by omega) (by omega)
theorem rQ {k:Int} (h:bit k):bit (1 - k):=by rcases h with rfl | rfl <;> simp [bit]
theorem zQJ {a:tH yA} {y:yA} {k:Int}:tU (SG a k y) k=y:=by
 unfold tU SG; by_cases h:k=0 <;> simp [h]
theorem zKe {a:tH yA} {y:yA} {k j:Int} (hk:bit k) (hj:bit j) (h:j≠k):tU (SG a k y) j=tU a j:=by
 rcases hk with rfl | rfl <;> rcases hj with rfl | rfl <;> simp_all [tU,SG]
def rH (d:zB):Bool:=
 decide (bit d.Active)&&(decide (bit d.Running)&&(sU (tU d.Slots d.Active) d.Name&&(sU (tU d.Slots d.Running) d.Name&&(!d.BK||(decide (d.Running=d.Active)&&sU (tU d.Slots (1 - d.Active)) d.Name)))))
theorem zHU (k:Int):k<0∨bit k∨k>1:=by unfold bit; omega
theorem zAx (d:zB):sF d=some (rH d):=by
 unfold sF rH qE
 simp only [zOP,AA]
 rcases zHU d.Active with h | h | h
 ·have h1:¬ bit d.Active:=by unfold bit; omega
  simp [h,h1]
 ·have g1:decide (d.Active<0)=false:=by rcases h with h | h <;> rw [h] <;> rfl
  have g2:decide (d.Active>1)=false:=by rcases h with h | h <;> rw [h] <;> rfl
  simp only [g1,g2,cond_false,h,decide_true,Bool.true_and,UD _ h,AA]
  rcases zHU d.Running with k | k | k
  ·have k1:¬ bit d.Running:=by unfold bit; omega
   simp [k,k1]
  ·have k1:decide (d.Running<0)=false:=by rcases k with k | k <;> rw [k] <;> rfl
   have k2:decide (d.Running>1)=false:=by rcases k with k | k <;> rw [k] <;> rfl
   simp only [k1,k2,cond_false,k,decide_true,Bool.true_and,UD _ k,AA,YM k,UD _ (rQ k)]
   have e:(d.Running==d.Active)=decide (d.Running=d.Active):=rfl
   rw [e]
   by_cases hra:d.Running=d.Active
   ·simp only [hra,decide_true,cond_true]
    cases sU (tU d.Slots d.Active) d.Name <;> cases sU (tU d.Slots (1 - d.Active)) d.Name <;> cases d.BK <;> rfl
   ·simp only [hra,decide_false,cond_false]
    cases sU (tU d.Slots d.Active) d.Name <;> cases sU (tU d.Slots d.Running) d.Name <;> cases d.BK <;> rfl
  ·have k1:¬ bit d.Running:=by unfold bit; omega
   have k2:decide (d.Running<0)=false:=by simp; omega
   simp [k,k1,k2]
 ·have h1:¬ bit d.Active:=by unfold bit; omega
  have h2:decide (d.Active<0)=false:=by simp; omega
  simp [h,h1,h2]
theorem zRv (k:Int):iG k=some (decide (bit k)):=by
 unfold iG bit
 by_cases h0:k=0
 ·subst h0; rfl
 ·by_cases h1:k=1
  ·subst h1; rfl
  ·have e0:(k==0)=false:=by simpa using h0
   have e1:(k==1)=false:=by simpa using h1
   simp [e0,e1,h0,h1]
theorem zNM {s:yA} {n:ByteArray} (h:rS n=false):sU s n=false:=by
 cases hg:sU s n
 ·rfl
 ·obtain ⟨h1,_,h3⟩:=zNR hg
  have:=(bP h1).1
  rw [h3,h] at this
  cases this
theorem fH (d:zB):sL d=some (rH d):=by
 unfold sL rH
 simp only [zEY,zFN,zRv,AA]
 cases hn:rS d.Name
 ·simp [zNM hn]
 by_cases h:bit d.Active
 ·by_cases k:bit d.Running
  ·simp only [h,k,decide_true,Bool.not_true,cond_false,UD _ h,UD _ k,AA,YM h,UD _ (rQ h),Bool.true_and]
   have e:(d.Running==d.Active)=decide (d.Running=d.Active):=rfl
   rw [e]
   cases sU (tU d.Slots d.Active) d.Name <;> cases sU (tU d.Slots d.Running) d.Name <;> cases sU (tU d.Slots (1 - d.Active)) d.Name <;> cases d.BK <;> cases decide (d.Running=d.Active) <;> rfl
  ·simp [h,k]
 ·simp [h]
structure VD (d:zB):Prop where
 ba:bit d.Active
 br:bit d.Running
 ga:sU (tU d.Slots d.Active) d.Name=true
 gr:sU (tU d.Slots d.Running) d.Name=true
 tr:d.BK=true→d.Running=d.Active∧sU (tU d.Slots (1 - d.Active)) d.Name=true
theorem oF (d:zB):rH d=true↔VD d:=by
 unfold rH
 simp only [Bool.and_eq_true,decide_eq_true_eq,Bool.or_eq_true,Bool.not_eq_true']
 constructor
 ·rintro ⟨h1,h2,h3,h4,h5⟩
  exact ⟨h1,h2,h3,h4,fun ht=>by rcases h5 with h5 | h5 <;> simp_all⟩
 ·rintro ⟨h1,h2,h3,h4,h5⟩
  refine ⟨h1,h2,h3,h4,?_⟩
  cases ht:d.BK
  ·exact .inl O
  ·exact .inr (h5 ht)
def JM (d:zB):Int:=bif rH d then (bif (d.Running != d.Active) then 46 else bif d.BK then 46 else 0) else 1
theorem Lm (d:zB):uH d=some (JM d):=by
 unfold uH JM
 simp only [fH,AA]
 cases rH d <;> cases (d.Running != d.Active) <;> cases d.BK <;> rfl
theorem jT {d:zB} (h:JM d=0):VD d∧d.Running=d.Active∧d.BK=false:=by
 unfold JM at h
 cases hv:rH d
 ·simp [hv] at h
 ·simp only [hv,cond_true] at h
  cases hr:(d.Running != d.Active)
  ·simp only [hr,cond_false] at h
   cases ht:d.BK
   ·exact ⟨(oF d).1 hv,by simpa using hr,O⟩
   ·simp [ht] at h
  ·simp [hr] at h
def qB (i:zN):Prop:=i.Data.length≤140737488355328
def wR (d:zB):Prop:=qB d.Slots.e0.AU∧qB d.Slots.e1.AU
theorem zLA {d:zB} (h:wR d) (k:Int):qB (tU d.Slots k).AU:=by
 unfold tU
 split
 ·exact h.1
 ·exact h.2
theorem zGg {d:zB} (h:wR d) {k:Int} {y:yA} (hy:qB y.AU):qB (SG d.Slots k y).e0.AU∧qB (SG d.Slots k y).e1.AU:=by
 unfold SG
 split
 ·exact ⟨hy,h.2⟩
 ·exact ⟨h.1,hy⟩
theorem zFB {i:zN} (h:qB i):pR i=some i:=by
 unfold pR zV
 unfold qB at h
 rw [bI (by simp; omega)]
 rfl
theorem Uz {i:zN} (h:qB i):qF i=some i:=by
 unfold qF
 unfold qB at h
 rw [bI (by simp; omega)]
 rfl
theorem zKQ {d:zB} (h:wR d):uX d=some d:=by
 unfold uX
 rw [zFB h.1]
 simp only [AA]
 rw [zFB h.2]
 rfl
theorem iH {d:zB} (h:wR d):vG d=some d:=by
 unfold vG
 rw [Uz h.1]
 simp only [AA]
 rw [Uz h.2]
 rfl
def Lp (d:zB):zB × Int:=bif (JM d != 0) then (WC,JM d) else (⟨d.Name,SG d.Slots (1 - d.Running) Ll,d.Active,d.Running,d.BK⟩,0)
def Aa (d:zB) (i:zN) (n:Int):Bool:=rI i&&(decide (i.Name=d.Name)&&(decide (0≤n)&&decide (n≤(i.Data.length:Int))))
def qx (d:zB) (i:zN) (n:Int):zB × Int:=
 bif (JM d != 0) then (WC,JM d) else bif Aa d i n then (⟨d.Name,SG d.Slots (1 - d.Running) ⟨⟨i.Name,i.Version,i.Data.take n.toNat⟩,0⟩,d.Active,d.Running,d.BK⟩,0) else (WC,2)
def Lr (d:zB) (s:Int):zB × Int:=
 bif (JM d != 0) then (WC,JM d) else bif sU ⟨(tU d.Slots (1 - d.Running)).AU,s⟩ d.Name then (⟨d.Name,SG d.Slots (1 - d.Running) ⟨(tU d.Slots (1 - d.Running)).AU,s⟩,d.Active,d.Running,d.BK⟩,0) else (WC,5)
def Ac (d:zB):zB × Int:=
 bif (JM d != 0) then (WC,JM d) else bif sU (tU d.Slots (1 - d.Running)) d.Name then (⟨d.Name,d.Slots,d.Active,d.Running,true⟩,0) else (WC,46)
def eO (d:zB):zB:=bif rH d then (bif d.BK then ⟨d.Name,d.Slots,d.Active,1 - d.Active,false⟩ else ⟨d.Name,d.Slots,d.Active,d.Active,d.BK⟩) else WC
def Ls (d:zB):zB × Int:=bif rH d then (bif d.BK then (WC,46) else (⟨d.Name,d.Slots,d.Running,d.Running,d.BK⟩,0)) else (WC,1)
def Lu (d:zB):zQ:=bif rH d then (tU d.Slots d.Running).AU.Version else ⟨0,0,0⟩
def Va (d:zB) (i:zN) (s:Int):zB:=bif (JM d==0) then eO ⟨d.Name,SG d.Slots (1 - d.Running) ⟨i,s⟩,d.Active,d.Running,d.BK⟩ else eO d
def ZQ (i:zN):zB × Int:=bif rI i then (⟨i.Name,⟨⟨i,WB i⟩,Ll⟩,0,0,false⟩,0) else (WC,1)
theorem zMU {i:zN} (h:qB i):iJ i=some (ZQ i):=by
 unfold iJ ZQ
 simp only [Uw,Uz h,zNo,AA]
 cases rI i <;> rfl
theorem zOv {d:zB} (h:wR d):jX d=some (Lp d):=by
 unfold jX Lp
 simp only [Lm,iH h,AA]
 by_cases hw:JM d=0
 ·obtain ⟨hv,hr,ht⟩:=jT hw
  have e:(JM d != 0)=false:=by simp [hw]
  simp only [e,cond_false,AA,YM hv.br,UD _ (rQ hv.br),Uy _ _ (rQ hv.br)]
  rfl
 ·have e:(JM d != 0)=true:=by simp [hw]
  simp only [e,cond_true]
  rfl
theorem zQh {α:Type} {l:List α} {n:Int} (h0:0≤n) (h1:n≤(l.length:Int)):sub l 0 n=some (l.take n.toNat):=by
 simp [sub,h0,h1]
theorem zIc {d:zB} {i:zN} (h:wR d) (hi:qB i) (n:Int):mL d i n=some (qx d i n):=by
 unfold mL qx
 simp only [Lm,Uw,Dy,AA]
 by_cases hw:JM d=0
 ·obtain ⟨hv,hr,ht⟩:=jT hw
  have e:(JM d != 0)=false:=by simp [hw]
  simp only [e,cond_false,gt_iff_lt,dlt]
  have eo:(bif !rI i then some true else bif !decide (i.Name=d.Name) then some true else bif !decide (0≤n) then some true else some (!decide (n≤(i.Data.length:Int))):Option Bool)=some (!Aa d i n):=by
   unfold Aa
   cases rI i <;> cases decide (i.Name=d.Name) <;> cases decide (0≤n) <;> cases decide (n≤(i.Data.length:Int)) <;> rfl
  rw [eo]
  simp only [AA]
  cases ho:Aa d i n
  ·rfl
  ·simp only [Aa,Bool.and_eq_true,decide_eq_true_eq] at ho
   have hl:app 1 ([]:List Int) (i.Data.take n.toNat)=some (i.Data.take n.toNat):=by
    unfold qB at hi
    rw [bI (by simp; omega)]
    rfl
   simp only [Bool.not_true,cond_false,cond_true,iH h,AA,zQh ho.2.2.1 ho.2.2.2,hl,YM hv.br,UD _ (rQ hv.br),Uy _ _ (rQ hv.br)]
 ·have e:(JM d != 0)=true:=by simp [hw]
  simp only [e,cond_true]
  rfl
theorem zMs {d:zB} (h:wR d) (s:Int):kM d s=some (Lr d s):=by
 unfold kM Lr
 simp only [Lm,iH h,AA]
 by_cases hw:JM d=0
 ·obtain ⟨hv,hr,ht⟩:=jT hw
  have e:(JM d != 0)=false:=by simp [hw]
  simp only [e,cond_false,AA,YM hv.br,UD _ (rQ hv.br),Uy _ _ (rQ hv.br),zEY,zQJ]
  cases sU ⟨(tU d.Slots (1 - d.Running)).AU,s⟩ d.Name <;> rfl
 ·have e:(JM d != 0)=true:=by simp [hw]
  simp only [e,cond_true]
  rfl
theorem zLE {d:zB} (h:wR d):lW d=some (Ac d):=by
 unfold lW Ac
 simp only [Lm,iH h,AA]
 by_cases hw:JM d=0
 ·obtain ⟨hv,hr,ht⟩:=jT hw
  have e:(JM d != 0)=false:=by simp [hw]
  simp only [e,cond_false,AA,YM hv.ba,UD _ (rQ hv.ba),zEY,hr]
  cases sU (tU d.Slots (1 - d.Active)) d.Name <;> rfl
 ·have e:(JM d != 0)=true:=by simp [hw]
  simp only [e,cond_true]
  rfl
theorem zOi {d:zB} (h:wR d):eN d=some (eO d):=by
 unfold eN eO
 simp only [zAx,zKQ h,AA]
 cases hv:rH d
 ·rfl
 ·have:=((oF d).1 hv).ba
  simp only [YM this,Bool.not_true,cond_false,cond_true]
  cases d.BK <;> rfl
theorem Vb {d:zB} (h:wR d):rO d=some (eO d):=by
 unfold rO eO
 simp only [fH,iH h,AA]
 cases hv:rH d
 ·rfl
 ·have:=((oF d).1 hv).ba
  simp only [YM this,Bool.not_true,cond_false,cond_true]
  cases d.BK <;> rfl
theorem zKF {d:zB} (h:wR d):mO d=some (Ls d):=by
 unfold mO Ls
 simp only [fH,iH h,AA]
 cases rH d <;> cases d.BK <;> rfl
theorem zJs (d:zB):kV d=some (Lu d):=by
 unfold kV Lu
 simp only [zAx,AA]
 cases hv:rH d
 ·rfl
 ·simp only [Bool.not_true,cond_false,cond_true,UD _ ((oF d).1 hv).br,AA]
theorem zOh {d:zB} {i:zN} (h:wR d) (hi:qB i) (s:Int):jR d i s=some (Va d i s):=by
 unfold jR Va
 simp only [iH h,Lm,AA,Vb h,Uz hi]
 by_cases hw:JM d=0
 ·obtain ⟨hvd,hr,ht⟩:=jT hw
  have e:(JM d==0)=true:=by simp [hw]
  simp only [e,cond_true,AA,YM hvd.br,UD _ (rQ hvd.br),Uy _ _ (rQ hvd.br)]
  rw [Vb (d:=⟨d.Name,SG d.Slots (1 - d.Running) ⟨i,s⟩,d.Active,d.Running,d.BK⟩) (zGg h hi)]
  rfl
 ·have e:(JM d==0)=false:=by simp [hw]
  simp only [e,cond_false]
theorem zFk (i:zN):rZ i i=some true:=by
 unfold rZ
 simp
theorem zNL (d:zB):gR d d=some true:=by
 unfold gR
 simp [zFk]
theorem Ad {x:Int}:IX .u8 x↔0≤x∧x≤255:=Iff.rfl
theorem Vd {x:Int}:IX .i64 x↔ -9223372036854775808≤x∧x≤9223372036854775807:=Iff.rfl
structure xG (c:yS):Prop where
 hl:∀ x∈c.L,IX .u8 x
 h0:0≤c.At
 hn:c.L.length≤140737488355328
 ha:c.At≤(c.L.length:Int)
theorem zNU {a b:Int} (ha:0≤a∧a<65536) (hb:0≤b∧b<65536):0≤FK .i64 a b∧FK .i64 a b<65536:=by
 unfold FK
 have e:(BitVec.ofInt (IntKind.bits .i64) a|||BitVec.ofInt (IntKind.bits .i64) b).toNat=a.toNat|||b.toNat:=by
  show (BitVec.ofInt 64 a|||BitVec.ofInt 64 b).toNat=_
  rw [BitVec.toNat_or,BitVec.toNat_ofInt,BitVec.toNat_ofInt]
  congr 1 <;> omega
 rw [e]
 have h:=Nat.or_lt_two_pow (x:=a.toNat) (y:=b.toNat) (n:=16) (by omega) (by omega)
 rw [zZ (by omega) (by omega)]
 omega
theorem zVm {x:Int} (h:0≤x∧x≤255):gZ .i64 x 8=x*256:=by
 unfold gZ
 have:(2:Int) ^ (min (Int.toNat 8) (IntKind.bits .i64))=256:=by decide
 rw [this,zZ (by omega) (by omega)]
theorem zMD {v n:Int} (hv:0≤v) (hn:1≤n):∃ x,YU v n=some x∧0≤x∧x<n:=by
 refine ⟨v % n,?_,Int.emod_nonneg _ (by omega),Int.emod_lt_of_pos _ (by omega)⟩
 unfold YU
 rw [if_neg (by omega),Int.tmod_eq_emod_of_nonneg hv]
theorem oR {c:yS} (h:xG c) (n:Int):∃ c' x,zP c n=some (c',x)∧xG c'∧0≤x∧(x=0∨x<n):=by
 unfold zP sQ
 simp only [AA]
 obtain ⟨hl,h0,hn,ha⟩:=h
 by_cases hlt:c.At<(c.L.length:Int)
 ·have d1:decide (c.At<(c.L.length:Int))=true:=by simpa using hlt
  simp only [d1,Bool.not_true,cond_false,AA]
  by_cases hn1:n<1
  ·simp only [hn1,decide_true,cond_true]
   exact ⟨c,0,O,⟨hl,h0,hn,ha⟩,by omega, .inl O⟩
  simp only [hn1,decide_false,cond_false]
  obtain ⟨k,hk⟩:∃ k:Nat,c.At=(k:Int):=⟨c.At.toNat,by omega⟩
  have hkl:k<c.L.length:=by omega
  have hx:=Ad.1 (hl _ (List.getElem_mem hkl))
  rw [hk,xJ hkl]
  simp only [AA]
  have hw:wrap .i64 ((k:Int)+1)=((k+1:Nat):Int):=yQ hkl hn
  have hx':wrap .i64 c.L[k]=c.L[k]:=zZ (by omega) (by omega)
  rw [hw,hx']
  have hok1:xG (⟨c.L,((k+1:Nat):Int)⟩:yS):=⟨hl,by show (0:Int)≤((k+1:Nat):Int); omega,hn,by show ((k+1:Nat):Int)≤(c.L.length:Int); omega⟩
  by_cases hbig:n>256∧k+1<c.L.length
  ·have d2:decide (n>256)=true:=by simpa using hbig.1
   have d3:decide (((k+1:Nat):Int)<(c.L.length:Int))=true:=by simp; omega
   have hy:=Ad.1 (hl _ (List.getElem_mem hbig.2))
   have hy':wrap .i64 c.L[k+1]=c.L[k+1]:=zZ (by omega) (by omega)
   simp only [d2,d3,cond_true,AA,xJ hbig.2,hy',zVm hy]
   have ho:=zNU (a:=c.L[k]) (b:=c.L[k+1]*256) (by omega) (by omega)
   obtain ⟨x,e1,e2,e3⟩:=zMD (n:=n) ho.1 (by omega)
   rw [e1]
   have hw2:wrap .i64 (((k+1:Nat):Int)+1)=((k+2:Nat):Int):=yQ hbig.2 hn
   exact ⟨_,x,O,⟨hl,by show 0≤wrap .i64 _; rw [hw2]; omega,hn,by show wrap .i64 _≤(c.L.length:Int); rw [hw2]; omega⟩,e2, .inr e3⟩
  ·have d2:(bif decide (n>256) then some (decide (((k+1:Nat):Int)<(c.L.length:Int))) else some false:Option Bool)=some false:=by
    by_cases g:n>256
    ·have:¬ k+1<c.L.length:=fun h=>hbig ⟨g,h⟩
     have d3:decide (((k+1:Nat):Int)<(c.L.length:Int))=false:=by simp; omega
     rw [d3]
     simp [g]
    ·simp [g]
   rw [d2]
   simp only [AA,cond_false]
   obtain ⟨x,e1,e2,e3⟩:=zMD (n:=n) hx.1 (by omega)
   rw [e1]
   exact ⟨_,x,O,hok1,e2, .inr e3⟩
 ·have d1:decide (c.At<(c.L.length:Int))=false:=by simpa using hlt
  simp only [d1,Bool.not_false,cond_true,AA]
  exact ⟨c,0,O,⟨hl,h0,hn,ha⟩,by omega, .inl O⟩
theorem zOB {l:List Int} (h:di (IX .u8) l) {most:Int} (h0:0≤most) (h1:most≤100000):∃ c,eX l most=some c∧xG c:=by
 unfold eX
 have hs:sub l 0 (min (l.length:Int) most)=some (l.take (min (l.length:Int) most).toNat):=by
  unfold sub
  rw [if_pos ⟨by omega,by omega,by omega⟩]
  simp
 rw [hs]
 refine ⟨_,O,fun x hx=>h.1 x (List.mem_of_mem_take hx),by simp,?_,by simp⟩
 simp only [List.length_take]
 omega
theorem zJS {c:yS} (h:xG c) {n:Int} (h0:0≤n) (h1:n≤100000):∃ c' l,tX c n=some (c',l)∧xG c'∧(l.length:Int)≤n∧∀ x∈l,IX .u8 x:=by
 unfold tX
 obtain ⟨c1,k,e1,hc1,k0,k1⟩:=oR h (wrap .i64 (n+1))
 have hw:wrap .i64 (n+1)=n+1:=zZ (by omega) (by omega)
 rw [hw] at e1 k1 ⊢
 rw [e1]
 simp only [AA]
 obtain ⟨t,ht,hQ⟩:=Qv (m:=fun (s1:List Int × Int × List Int × Int)=>bif decide (s1.2.1>0) then (bnd (zP (⟨s1.2.2.1,s1.2.2.2⟩:yS) 256) fun r2=>bnd (app 1 s1.1 [wrap .u8 r2.2]) fun l1=>some (.next (l1,wrap .i64 (s1.2.1 - 1),r2.1.L,r2.1.At))) else (some (.done (s1.1,s1.2.2.1,s1.2.2.2))))
  (fun s=>xG ⟨s.2.2.1,s.2.2.2⟩∧0≤s.2.1∧(s.1.length:Int)+s.2.1≤n∧∀ x∈s.1,IX .u8 x) (fun s=>s.2.1.toNat)
  (fun t:List Int × List Int × Int=>xG ⟨t.2.1,t.2.2⟩∧(t.1.length:Int)≤n∧∀ x∈t.1,IX .u8 x) (fun s hs=>by
   obtain ⟨l,k,L,At⟩:=s
   obtain ⟨g1,g2,g3,g4⟩:=hs
   simp only at g1 g2 g3 g4
   by_cases hk:k>0
   ·left
    have dk:decide (k>0)=true:=by simpa using hk
    obtain ⟨c2,x,e2,hc2,x0,x1⟩:=oR g1 256
    simp only [dk,cond_true,e2,AA]
    rw [vE (by simp; omega) (by simp; omega)]
    have hw3:wrap .i64 (k - 1)=k - 1:=zZ (by omega) (by omega)
    refine ⟨_,O,⟨hc2,by simp only [hw3]; omega,by simp only [hw3,List.length_append,List.length_singleton]; omega,fun y hy=>?_⟩,by simp only [hw3]; omega⟩
    rcases List.mem_append.1 hy with hy | hy
    ·exact g4 y hy
    ·simp only [List.mem_singleton] at hy
     subst hy
     rw [eV]
     exact Ad.2 ⟨by omega,by omega⟩
   ·right
    have dk:decide (k>0)=false:=by simpa using hk
    simp only [dk,cond_false]
    exact ⟨_,O,g1,by simp only; omega,g4⟩) ([],k,c1.L,c1.At) ⟨hc1,k0,by simp; omega,fun x hx=>by cases hx⟩
 rw [ht]
 exact ⟨_,_,O,hQ.1,hQ.2.1,hQ.2.2⟩
theorem zFE {c:yS} (h:xG c):∃ c' v,uF c=some (c',v)∧xG c'∧1≤v.BZ∧v.BZ≤3∧0≤v.CB∧v.CB≤1∧v.CJ=0:=by
 unfold uF
 obtain ⟨c1,x,e1,hc1,x0,x1⟩:=oR h 3
 rw [e1]
 simp only [AA]
 obtain ⟨c2,y,e2,hc2,y0,y1⟩:=oR hc1 5
 rw [e2]
 simp only [AA]
 have w1:wrap .i64 (1+x)=1+x:=zZ (by omega) (by omega)
 have w2:y.tdiv 4=y / 4:=Int.tdiv_eq_ediv_of_nonneg y0
 have w3:wrap .i64 (y / 4)=y / 4:=zZ (by omega) (by omega)
 rw [w1,w2,w3]
 exact ⟨_,_,O,hc2,by simp only; omega,by simp only; omega,by simp only; omega,by simp only; omega,O⟩
theorem zQG {c:yS} (h:xG c) (name:ByteArray):∃ c' i,qW c name=some (c',i)∧xG c'∧i.Data.length≤600∧i.Name=name∧(∀ x∈i.Data,IX .u8 x)∧IX .i64 i.Version.BZ∧IX .i64 i.Version.CB∧IX .i64 i.Version.CJ:=by
 unfold qW
 obtain ⟨c1,v,e1,hc1,v1,v2,v3,v4,v5⟩:=zFE h
 rw [e1]
 simp only [AA]
 obtain ⟨c2,x,e2,hc2,x0,x1⟩:=oR hc1 256
 rw [e2]
 simp only [AA]
 obtain ⟨c3,l,e3,hc3,hl,hlx⟩:=zJS hc2 (n:=5) (by omega) (by omega)
 rw [e3]
 simp only [AA]
 rw [vE (by simp; omega) (by simp; omega)]
 simp only [AA]
 obtain ⟨c4,y,e4,hc4,y0,y1⟩:=oR hc3 30
 rw [e4]
 simp only [AA]
 have Tc:wrap .u8 x=x:=bN (by omega) (by omega)
 have hd:∀ z∈ [wrap .u8 x]++l,IX .u8 z:=fun z hz=>by
  rcases List.mem_append.1 hz with hz | hz
  ·simp only [List.mem_singleton] at hz
   subst hz
   rw [Tc]
   exact Ad.2 ⟨by omega,by omega⟩
  ·exact hlx z hz
 have hv1:IX .i64 v.BZ:=Vd.2 ⟨by omega,by omega⟩
 have hv2:IX .i64 v.CB:=Vd.2 ⟨by omega,by omega⟩
 have hv3:IX .i64 v.CJ:=Vd.2 ⟨by omega,by omega⟩
 cases (y==29)
 ·cases (y==28)
  ·cases (y==27)
   ·exact ⟨_,_,O,hc4,by simp; omega,O,hd,hv1,hv2,hv3⟩
   ·obtain ⟨c5,z,e5,hc5,z0,z1⟩:=oR hc4 2
    simp only [cond_false,cond_true,e5,AA]
    have w1:wrap .i64 (512+z)=512+z:=zZ (by omega) (by omega)
    rw [w1]
    have hm:mkS 1 (0:Int) (512+z) (512+z)=some (List.replicate (512+z).toNat 0):=by
     unfold mkS
     rw [if_pos ⟨by omega,by omega,by omega,by omega⟩]
    rw [hm]
    refine ⟨_,_,O,hc5,by simp; omega,O,fun q hq=>?_,hv1,hv2,hv3⟩
    obtain ⟨_,rfl⟩:=List.mem_replicate.1 hq
    exact Ad.2 ⟨by omega,by omega⟩
  ·exact ⟨_,_,O,hc4,by simp; omega,O,hd,hv1,hv2,Vd.2 ⟨by show (-9223372036854775808:Int)≤ -1; omega,by show (-1:Int)≤9223372036854775807; omega⟩⟩
 ·exact ⟨_,_,O,hc4,by simp,O,(fun q hq=>by cases hq),hv1,hv2,hv3⟩
structure Inv (d:zB) (n:ByteArray):Prop where
 vd:VD d
 nm:d.Name=n
 sm:wR d
theorem Ve {d:zB} {n:ByteArray} (h:Inv d n) (hr:d.Running=d.Active) (ht:d.BK=false) {y:yA} (hy:qB y.AU):
  Inv ⟨d.Name,SG d.Slots (1 - d.Running) y,d.Active,d.Running,d.BK⟩ n:=by
 obtain ⟨⟨ba,br,ga,gr,tr⟩,nm,sm⟩:=h
 have hne:d.Running≠1 - d.Running:=by rcases br with h | h <;> rw [h] <;> decide
 have e:tU (SG d.Slots (1 - d.Running) y) d.Running=tU d.Slots d.Running:=zKe (rQ br) br hne
 refine ⟨⟨ba,br,?_,?_,fun h=>?_⟩,nm,zGg sm hy⟩
 ·simp only; rw [←hr,e]; exact gr
 ·simp only; rw [e]; exact gr
 ·rw [ht] at h; cases h
theorem zFe:qB zQZ:=by unfold qB zQZ; simp
theorem zNV {d:zB} {n:ByteArray} (h:Inv d n) (he:(Lp d).2=0):Inv (Lp d).1 n∧JM d=0:=by
 unfold Lp at*
 by_cases hw:JM d=0
 ·obtain ⟨hv,hr,ht⟩:=jT hw
  have e:(JM d != 0)=false:=by simp [hw]
  rw [e]
  exact ⟨Ve h hr ht zFe,hw⟩
 ·have e:(JM d != 0)=true:=by simp [hw]
  rw [e] at he
  exact absurd he hw
theorem zIt {d:zB} {n:ByteArray} (h:Inv d n) {i:zN} (hi:qB i) {k:Int} (he:(qx d i k).2=0):Inv (qx d i k).1 n:=by
 unfold qx at*
 by_cases hw:JM d=0
 ·obtain ⟨hv,hr,ht⟩:=jT hw
  have e:(JM d != 0)=false:=by simp [hw]
  rw [e] at he ⊢
  cases ho:Aa d i k
  ·rw [ho] at he; cases he
  ·refine Ve h hr ht ?_
   unfold qB at*
   simp
   omega
 ·have e:(JM d != 0)=true:=by simp [hw]
  rw [e] at he
  exact absurd he hw
theorem zLB {d:zB} {n:ByteArray} (h:Inv d n) {s:Int} (he:(Lr d s).2=0):Inv (Lr d s).1 n:=by
 unfold Lr at*
 by_cases hw:JM d=0
 ·obtain ⟨hv,hr,ht⟩:=jT hw
  have e:(JM d != 0)=false:=by simp [hw]
  rw [e] at he ⊢
  cases ho:sU ⟨(tU d.Slots (1 - d.Running)).AU,s⟩ d.Name
  ·rw [ho] at he; cases he
  ·exact Ve h hr ht (zLA h.sm _)
 ·have e:(JM d != 0)=true:=by simp [hw]
  rw [e] at he
  exact absurd he hw
theorem zLW {d:zB} {n:ByteArray} (h:Inv d n) (he:(Ac d).2=0):Inv (Ac d).1 n∧JM d=0∧sU (tU d.Slots (1 - d.Running)) d.Name=true∧(Ac d).1=⟨d.Name,d.Slots,d.Active,d.Running,true⟩:=by
 unfold Ac at*
 by_cases hw:JM d=0
 ·obtain ⟨hv,hr,ht⟩:=jT hw
  have e:(JM d != 0)=false:=by simp [hw]
  rw [e] at he ⊢
  cases ho:sU (tU d.Slots (1 - d.Running)) d.Name
  ·rw [ho] at he; cases he
  ·exact ⟨⟨⟨h.vd.ba,h.vd.br,h.vd.ga,h.vd.gr,fun _=>⟨hr,by show sU (tU d.Slots (1 - d.Active)) d.Name=true; rw [←hr]; exact ho⟩⟩,h.nm,h.sm⟩,hw,O,O⟩
 ·have e:(JM d != 0)=true:=by simp [hw]
  rw [e] at he
  exact absurd he hw
theorem zFx {d:zB} {n:ByteArray} (h:Inv d n):Inv (eO d) n:=by
 unfold eO
 rw [(oF d).2 h.vd]
 cases ht:d.BK
 ·exact ⟨⟨h.vd.ba,h.vd.ba,h.vd.ga,h.vd.ga,fun h=>by cases h⟩,h.nm,h.sm⟩
 ·have:=h.vd.tr ht
  exact ⟨⟨h.vd.ba,rQ h.vd.ba,h.vd.ga,this.2,fun h=>by cases h⟩,h.nm,h.sm⟩
theorem zJL {d:zB} {n:ByteArray} (h:Inv d n) (he:(Ls d).2=0):Inv (Ls d).1 n:=by
 unfold Ls at*
 rw [(oF d).2 h.vd] at he ⊢
 cases ht:d.BK
 ·exact ⟨⟨h.vd.br,h.vd.br,h.vd.gr,h.vd.gr,fun h=>by cases h⟩,h.nm,h.sm⟩
 ·rw [ht] at he; cases he
theorem zOE {d:zB} {n:ByteArray} (h:Inv d n) {i:zN} (hi:qB i) (s:Int):Inv (Va d i s) n:=by
 unfold Va
 by_cases hw:JM d=0
 ·obtain ⟨hv,hr,ht⟩:=jT hw
  have e:(JM d==0)=true:=by simp [hw]
  rw [e]
  exact zFx (Ve h hr ht hi)
 ·have e:(JM d==0)=false:=by simp [hw]
  rw [e]
  exact zFx h
theorem zRq {i:zN} (h:rI i=true):Inv (ZQ i).1 i.Name∧(ZQ i).2=0∧(ZQ i).1=⟨i.Name,⟨⟨i,WB i⟩,Ll⟩,0,0,false⟩:=by
 unfold ZQ
 rw [h]
 have hs:=bP h
 have hg:sU ⟨i,WB i⟩ i.Name=true:=by simp [sU,bE,h]
 refine ⟨⟨⟨.inl O, .inl O,hg,hg,fun h=>by cases h⟩,rfl,?_,zFe⟩,rfl,rfl⟩
 show i.Data.length≤140737488355328
 omega
theorem zTs {v:zQ} (h1:0≤v.BZ) (h2:v.BZ≤999) (h3:0≤v.CB) (h4:v.CB≤999) (h5:0≤v.CJ) (h6:v.CJ≤999):aX v=true:=by
 simp [aX,zy, *]
theorem zQd {i:zN} (h1:rS i.Name=true) (h2:aX i.Version=true) (h3:1≤i.Data.length) (h4:i.Data.length≤512):rI i=true:=by
 simp [rI, *]
theorem zLF {i:zN} (h:qB i):∃ x,dB i=some x:=by
 unfold dB
 rw [zMU h]
 simp only [AA]
 cases ((ZQ i).2 != 0) <;> exact ⟨_,O⟩
theorem zOq {c:yS} (hc:xG c) {d:zB} {n:ByteArray} (h:Inv d n):∃ c' d' e,tC c d=some (c',d',e)∧xG c'∧(e=0→Inv d' n):=by
 unfold tC
 obtain ⟨c1,v,e1,hc1,v1,v2,v3,v4,v5⟩:=zFE hc
 rw [e1]
 simp only [AA]
 obtain ⟨c2,x,e2,hc2,x0,x1⟩:=oR hc1 4
 rw [e2]
 simp only [AA]
 obtain ⟨c3,l,e3,hc3,hl,hlx⟩:=zJS hc2 (n:=3) (by omega) (by omega)
 rw [e3]
 simp only [AA]
 rw [bI (by simp; omega)]
 simp only [AA]
 obtain ⟨c4,y,e4,hc4,y0,y1⟩:=oR hc3 8
 rw [e4]
 simp only [AA]
 have hsm:qB (⟨d.Name,v, [wrap .u8 x]++l⟩:zN):=by unfold qB; simp; omega
 cases (y==0)
 ·cases (y==1)
  ·simp only [cond_false]
   cases hb:(bif y==2 then some (y==2) else some (y==3):Option Bool) with
   | none=>cases hy2:(y==2) <;> rw [hy2] at hb <;> cases hb
   | some b=>
    simp only [AA]
    cases b
    ·simp only [cond_false]
     cases (y==4)
     ·cases (y==5)
      ·cases (y==6)
       ·simp only [cond_false,Vb h.sm,AA]
        exact ⟨_,_,_,O,hc4,fun _=>zFx h⟩
       ·simp only [cond_false,cond_true]
        obtain ⟨c5,i,e5,hc5,hi,hin,_⟩:=zQG hc4 d.Name
        rw [e5]
        simp only [AA]
        obtain ⟨c6,z,e6,hc6,z0,z1⟩:=oR hc5 300
        rw [e6]
        simp only [AA]
        have his:qB i:=by unfold qB; omega
        rw [zOh h.sm his]
        exact ⟨_,_,_,O,hc6,fun _=>zOE h his _⟩
      ·simp only [cond_false,cond_true,zKF h.sm,AA]
       exact ⟨_,_,_,O,hc4,fun he=>zJL h he⟩
     ·simp only [cond_true,zLE h.sm,AA]
      exact ⟨_,_,_,O,hc4,fun he=>(zLW h he).1⟩
    ·simp only [cond_true,zIc h.sm hsm,AA]
     by_cases hw:(qx d ⟨d.Name,v, [wrap .u8 x]++l⟩ (([wrap .u8 x]++l).length:Int)).2=0
     ·have hinv:=zIt h hsm hw
      simp only [hw,bne_self_eq_false,cond_false]
      obtain ⟨s,hs⟩:=zLF hsm
      rw [hs]
      simp only [AA,zMs hinv.sm]
      exact ⟨_,_,_,O,hc4,fun he=>zLB hinv he⟩
     ·have e:((qx d ⟨d.Name,v, [wrap .u8 x]++l⟩ (([wrap .u8 x]++l).length:Int)).2 != 0)=true:=by simpa using hw
      rw [e]
      exact ⟨_,_,_,O,hc4,fun he=>absurd he hw⟩
  ·simp only [cond_false,cond_true]
   obtain ⟨c5,z,e5,hc5,z0,z1⟩:=oR hc4 (wrap .i64 ((([wrap .u8 x]++l).length:Int)+1))
   rw [e5]
   simp only [AA,zIc h.sm hsm]
   exact ⟨_,_,_,O,hc5,fun he=>zIt h hsm he⟩
 ·simp only [cond_true,zOv h.sm,AA]
  exact ⟨_,_,_,O,hc4,fun he=>(zNV h he).1⟩
theorem zOw {c:yS} (hc:xG c) {n:ByteArray} (hn:rS n=true):∃ c' d,qA c n=some (c',d)∧xG c'∧Inv d n:=by
 unfold qA
 obtain ⟨c1,v,e1,hc1,v1,v2,v3,v4,v5⟩:=zFE hc
 rw [e1]
 simp only [AA]
 obtain ⟨c2,x,e2,hc2,x0,x1⟩:=oR hc1 4
 rw [e2]
 simp only [AA]
 have hv:aX v=true:=zTs (by omega) (by omega) (by omega) (by omega) (by omega) (by omega)
 have hr:rI (⟨n,v, [wrap .u8 x]⟩:zN)=true:=zQd hn hv (by simp) (by simp)
 rw [zMU (by unfold qB; simp)]
 simp only [AA]
 obtain ⟨c3,y,e3,hc3,y0,y1⟩:=oR hc2 7
 rw [e3]
 simp only [AA]
 obtain ⟨t,ht,hQ⟩:=Qv (m:=fun (s1:zB × Int × List Int × Int)=>bif decide (s1.2.1>0) then (bnd (tC (⟨s1.2.2.1,s1.2.2.2⟩:yS) s1.1) fun r5=>bif (r5.2.2==0) then (some (.next (r5.2.1,wrap .i64 (s1.2.1 - 1),r5.1.L,r5.1.At))) else (some (.next (s1.1,wrap .i64 (s1.2.1 - 1),r5.1.L,r5.1.At)))) else (some (.done (s1.1,s1.2.2.1,s1.2.2.2))))
  (fun s=>xG ⟨s.2.2.1,s.2.2.2⟩∧0≤s.2.1∧s.2.1≤7∧Inv s.1 n) (fun s=>s.2.1.toNat) (fun t:zB × List Int × Int=>xG ⟨t.2.1,t.2.2⟩∧Inv t.1 n) (fun s hs=>by
   obtain ⟨d,k,L,At⟩:=s
   obtain ⟨g1,g2,g3,g4⟩:=hs
   simp only at g1 g2 g3 g4
   by_cases hk:k>0
   ·left
    have dk:decide (k>0)=true:=by simpa using hk
    obtain ⟨c4,d',e,e4,hc4,hi⟩:=zOq g1 g4
    have hw3:wrap .i64 (k - 1)=k - 1:=zZ (by omega) (by omega)
    simp only [dk,cond_true,e4,AA,hw3]
    by_cases he:e=0
    ·subst he
     exact ⟨_,O,⟨hc4,by simp only; omega,by simp only; omega,hi O⟩,by simp only; omega⟩
    ·have e':(e==0)=false:=by simpa using he
     rw [e']
     exact ⟨_,O,⟨hc4,by simp only; omega,by simp only; omega,g4⟩,by simp only; omega⟩
   ·right
    have dk:decide (k>0)=false:=by simpa using hk
    simp only [dk,cond_false]
    exact ⟨_,O,g1,g4⟩) ((ZQ ⟨n,v, [wrap .u8 x]⟩).1,y,c3.L,c3.At) ⟨hc3,y0,by show y≤7; omega,(zRq hr).1⟩
 rw [ht]
 exact ⟨_,_,O,hQ.1,hQ.2⟩
theorem zKd:∀ (x y:List UInt8),(Op.bytesLess x y||(x==y))=!Op.bytesLess y x
 | [], []=>rfl
 | [],_::_=>rfl
 | _::_, []=>rfl
 | a::x,b::y=>by
  have ih:=zKd x y
  simp only [Op.bytesLess,List.cons_beq_cons]
  by_cases h:a=b
  ·subst h
   have:¬ a<a:=UInt8.lt_irrefl a
   simp [this]
   simpa using ih
  ·have h1:(a==b)=false:=by simpa using h
   have h2:(b==a)=false:=by simpa using fun e=>h e.symm
   rw [h1,h2]
   simp only [Bool.false_and,Bool.or_false]
   by_cases hl:a<b
   ·have:¬ b<a:=UInt8.lt_asymm hl
    simp [hl,this]
   ·have:b<a:=by
     rcases UInt8.lt_or_lt_of_ne h with g | g
     ·exact absurd g hl
     ·exact g
    simp [hl,this]
def XG (n:yX):Bool:=rS n.EL&&(rS n.On&&(!decide (n.EL=n.On)&&(aX n.From&&aX n.At)))
def fL (l:List yX):Bool:=decide (l.length≤16)&&l.all XG
theorem zFT (l:List yX) (m:Int→Option (uN Int (Bool ⊕ Unit))) (hm:∀ i (h:i<l.length),m (i:Int)=some (bif !XG l[i] then .done (.inl false) else .next (wrap .i64 ((i:Int)+1)))) (hd:m (l.length:Int)=some (.done (.inr ()))) (hn:l.length≤1000000):
  bnd (yC m 0) (fun o1=>xL o1 fun _=>some true)=some (l.all XG):=by
 refine gW (fun i=>(i:Int)) l.length (fun i=>!((l[i]?.map XG).getD true)) (.inl false) (.inr ()) O (fun i hi=>?_) hd ?_
 ·rw [hm i hi,List.getElem?_eq_getElem hi,yQ hi (by omega)]
  rfl
 ·have:(List.range l.length).any (fun i=>!((l[i]?.map XG).getD true))=!l.all XG:=by
   rw [List.all_eq_not_any_not]
   simp only [Bool.not_not]
   exact zOt l (fun x=>!XG x) _ fun i h=>by simp [h]
  rw [this]
  cases l.all XG <;> rfl
theorem zLU (l:List yX):mU l=some (fL l):=by
 unfold mU fL
 by_cases h:l.length≤16
 ·rw [show decide ((l.length:Int)>16)=false from decide_eq_false (by omega),cond_false,decide_eq_true h,Bool.true_and]
  refine zFT l _ (fun i hi=>?_) ?_ (by omega)
  ·rw [show decide ((i:Int)<(l.length:Int))=true from decide_eq_true (by omega),cond_true]
   refine uL (xJ hi) ?_
   generalize l[i]=n
   unfold XG
   simp only [zIo,zLe,AA,Dy]
   cases rS n.EL <;> cases rS n.On <;> cases decide (n.EL=n.On) <;> cases aX n.From <;> cases aX n.At <;> rfl
  ·simp
 ·rw [show decide ((l.length:Int)>16)=true from decide_eq_true (by omega),decide_eq_false h]
  rfl
theorem zNP (l:List yX):jV l=some (fL l):=by
 unfold jV fL
 by_cases h:l.length≤16
 ·rw [show decide ((l.length:Int)>16)=false from decide_eq_false (by omega),cond_false,decide_eq_true h,Bool.true_and]
  refine zFT l _ (fun i hi=>?_) ?_ (by omega)
  ·rw [show decide ((i:Int)<(l.length:Int))=true from decide_eq_true (by omega),cond_true,xJ hi]
   generalize l[i]=n
   unfold XG
   simp only [zFN,zMK,AA,Dy]
   cases rS n.EL <;> cases rS n.On <;> cases decide (n.EL=n.On) <;> cases aX n.From <;> cases aX n.At <;> rfl
  ·simp
 ·rw [show decide ((l.length:Int)>16)=true from decide_eq_true (by omega),decide_eq_false h]
  rfl
theorem zOb (l:List yX):wI [] l=some (if fL l=true then (-1,0) else (0,2)):=by
 unfold wI
 have hc:rY []=some true:=by
  unfold rY
  refine wH (fun i=>(i:Int)) 0 (.inr ()) O (fun i hi=>by omega) O O
 rw [hc,AA,zLU,AA]
 cases hn:fL l
 ·rfl
 ·simp only [Bool.not_true,cond_false,if_true]
  have hlen:l.length≤16:=by
   simp only [fL,Bool.and_eq_true,decide_eq_true_eq] at hn
   exact hn.1
  refine wH (fun i=>(i:Int)) l.length (.inr ()) O (fun i hi=>?_) (by simp) O
  rw [show decide ((i:Int)<(l.length:Int))=true from decide_eq_true (by omega),cond_true]
  refine uL (xJ hi) ?_
  have hm:∀ n,jP [] n=some true:=fun n=>by
   unfold jP kF
   have:∀ (s:ByteArray),(bnd (yC (τ:=(zQ × Bool) ⊕ Unit) (fun (s1:Int)=>bif decide (s1<(([]:List yE).length:Int)) then (bnd (BP ([]:List yE) s1) fun x1=>bif (x1.Name.toList==s.toList) then (some (.done (.inl (x1.Version,true)))) else (some (.next (wrap .i64 (s1+1))))) else (some (.done (.inr ())))) 0) fun o1=>xL o1 fun o2=>some ((⟨0,0,0⟩:zQ),false))=some (⟨0,0,0⟩,false):=fun s=>
    wH (fun i=>(i:Int)) 0 (.inr ()) O (fun i hi=>by omega) O O
   rw [this]
   rfl
  rw [hm,AA,yQ hi (by omega)]
  rfl
theorem bC {c:yS} (h:xG c) {n:Int} (hn:1≤n):∃ r,zP c n=some r∧xG r.1∧0≤r.2∧r.2<n:=by
 obtain ⟨c',x,h1,h2,h3,h4⟩:=oR h n
 exact ⟨(c',x),h1,h2,h3,by show x<n; omega⟩
theorem zAR {σ τ ρ:Type} {m:σ→Option (uN σ τ)} {s0:σ} {k:τ→Option ρ} {R:ρ→Prop} (I:σ→Prop) (μ:σ→Nat) (Q:τ→Prop) (h0:I s0)
  (h:∀ s,I s→∃ r,m s=some r∧match r with | .next s'=>I s'∧μ s'<μ s | .done t=>Q t) (hk:∀ t,Q t→∃ r,k t=some r∧R r):∃ r,bnd (yC m s0) k=some r∧R r:=by
 refine zJf I μ Q h0 (fun s hI=>?_) hk
 obtain ⟨r,h1,h2⟩:=h s hI
 cases r with
 | next s'=>exact .inl ⟨s',h1,h2.1,h2.2⟩
 | done t=>exact .inr ⟨t,h1,h2⟩
theorem zQy {α:Type} {xs:List α} {i:Nat} {y:α} (h:i<xs.length):rJ xs (i:Int) y=some (xs.set i y):=by
 unfold rJ
 rw [if_pos ⟨by omega,by omega⟩]
 simp
def YN (L:List zB) (i:Nat):Option Int:=match L[i]? with
 | none=>none
 | some d=>bif !rH d then some 1 else match L[i - 1]? with
  | none=>none
  | some p=>bif decide (0<i)&&!Op.bytesLess p.Name.toList d.Name.toList then some 7 else none
def fT (L:List zB):Option Int:=(List.range L.length).findSome? (YN L)
def hM (L:List zB) (N:List yX):Int:=if L.length<1∨8<L.length then 2 else match fT L with
 | some e=>e
 | none=>if fL N=true then 0 else 2
theorem zHI {L:List zB} {e:Int} (h:fT L=some e):e≠0:=by
 obtain ⟨i,_,hi⟩:=List.exists_of_findSome?_eq_some h
 unfold YN at hi
 split at hi
 ·cases hi
 ·rename_i d _
  cases hv:rH d
  ·rw [hv] at hi; injection hi with hi; omega
  ·rw [hv] at hi
   simp only [Bool.not_true,cond_false] at hi
   split at hi
   ·cases hi
   ·rename_i p _
    cases hb:(decide (0<i)&&!Op.bytesLess p.Name.toList d.Name.toList)
    ·rw [hb] at hi; cases hi
    ·rw [hb] at hi; injection hi with hi; omega
theorem zCQ {L:List zB} (h:fT L=none):∀ d∈L,VD d:=by
 intro d hd
 obtain ⟨i,hi,rfl⟩:=List.mem_iff_getElem.1 hd
 have:=List.findSome?_eq_none_iff.1 h i (List.mem_range.2 hi)
 unfold YN at this
 rw [List.getElem?_eq_getElem hi] at this
 simp only at this
 cases hv:rH L[i]
 ·rw [hv] at this; cases this
 ·exact (oF _).1 hv
theorem zLr {β ρ:Type} {L:List zB} {m:Int→Option (uN Int β)} {w:Int→β} {t:β} {k:β→Option ρ} {r:Option ρ} (hl:L.length≤1048576)
  (hs:∀ i,(hi:i<L.length)→m (i:Int)=some (match YN L i with | some e=>.done (w e) | none=>.next (wrap .i64 ((i:Int)+1)))) (hd:m (L.length:Int)=some (.done t))
  (hk:k (match fT L with | some e=>w e | none=>t)=r):bnd (yC m 0) k=r:=by
 refine zBL (fun i=>(i:Int)) L.length (fun i=>(YN L i).map w) t O (fun i hi=>?_) hd ?_
 ·rw [hs i hi]
  cases YN L i with
  | none=>simp only [Option.map_none,yQ hi (by omega)]
  | some e=>rfl
 ·have e1:(List.range L.length).findSome? (fun i=>(YN L i).map w)=(fT L).map w:=by
   unfold fT
   rw [List.map_findSome?]
   rfl
  rw [e1]
  cases h:fT L with
  | none=>rw [h] at hk; exact hk
  | some e=>rw [h] at hk; exact hk
def pW (d:zB):zB:=⟨d.Name,d.Slots,d.Active,d.Active,false⟩
def qy (d:zB):zB:=⟨d.Name,d.Slots,d.Active,1 - d.Active,false⟩
def pI:xV:=⟨0,0, [], []⟩
def Vf (L:List zB) (N:List yX):zM:=⟨true,L,N,0,pI,0, []⟩
def Vg (L:List zB) (N:List yX):zY:=⟨true,L,N,0,pI,0, []⟩
theorem zNs (n:Nat):(bif decide ((n:Int)<1) then (some true) else (some (decide ((n:Int)>8))):Option Bool)=some (decide (n<1∨8<n)):=by
 by_cases h1:n<1
 ·rw [decide_eq_true (by omega:(n:Int)<1),cond_true,decide_eq_true (.inl h1)]
 ·rw [decide_eq_false (by omega:¬ (n:Int)<1),cond_false]
  congr 1
  exact decide_eq_decide.2 (by omega)
theorem zIs {L:List zB} {N:List yX} (h:hM L N=0):1≤L.length∧L.length≤8∧fT L=none∧fL N=true:=by
 unfold hM at h
 split at h
 ·cases h
 ·rename_i hl
  cases hd:fT L with
  | some e=>rw [hd] at h; exact absurd h (zHI hd)
  | none=>
   rw [hd] at h
   simp only at h
   split at h
   ·rename_i hn; exact ⟨by omega,by omega,O,hn⟩
   ·cases h
theorem zRi {i:Nat} (h0:i≠0) (h:i≤1048576):wrap .i64 ((i:Int) - 1)=((i - 1:Nat):Int):=by
 rw [zZ (by omega) (by omega)]; omega
theorem zJG {β:Type} {L:List zB} (h8:L.length≤8) {i:Nat} (hi:i<L.length) {V:zB→Option Bool} (hV:∀ d,V d=some (rH d)) {C:zB→zB→Option Bool} (hC:∀ x y,C x y=some (!Op.bytesLess y.Name.toList x.Name.toList)) (w:Int→β):
  (bnd (BP L (i:Int)) fun x1=>bnd (V x1) fun r1=>bif !r1 then (some (.done (w 1))) else (bnd ((bif decide ((i:Int)>0) then (bnd (BP L (wrap .i64 ((i:Int) - 1))) fun x2=>C x1 x2) else (some false):Option Bool)) fun o4=>bif o4 then (some (.done (w 7))) else (some (.next (wrap .i64 ((i:Int)+1))))))=some (match YN L i with | some e=>(.done (w e):uN Int β) | none=>.next (wrap .i64 ((i:Int)+1))):=by
 rw [xJ hi,AA,hV,AA]
 unfold YN
 rw [List.getElem?_eq_getElem hi]
 simp only
 cases rH L[i]
 ·rfl
 ·simp only [Bool.not_true,cond_false]
  rw [List.getElem?_eq_getElem (show i - 1<L.length by omega)]
  by_cases h0:i=0
  ·subst h0; rfl
  ·rw [decide_eq_true (by omega:(i:Int)>0),cond_true,zRi h0 (by omega),xJ (show i - 1<L.length by omega),AA,hC,AA,decide_eq_true (by omega:0<i)]
   simp only [Bool.true_and]
   cases Op.bytesLess L[i - 1].Name.toList L[i].Name.toList <;> rfl
theorem zMY {d:zB} (h:wR d):oC d=some d:=by
 unfold oC zV
 have h1:=h.1
 have h2:=h.2
 unfold qB at h1 h2
 rw [bI (by simp; omega),AA,AA,bI (by simp; omega),AA,AA]
 rfl
theorem zPf {d:zB} (hv:VD d) (ht:d.BK=true):VD (qy d):=by
 obtain ⟨t1,t2⟩:=hv.tr ht
 exact ⟨hv.ba,rQ hv.ba,hv.ga,t2,fun h=>by cases h⟩
theorem zGp {d:zB} (hv:VD d) (ht:d.BK=false):eO d=pW d:=by
 unfold eO
 rw [(oF d).2 hv,cond_true,ht,cond_false]
 rfl
theorem zHH {d:zB} (hv:VD d) (ht:d.BK=true):eO d=qy d:=by
 unfold eO
 rw [(oF d).2 hv,cond_true,ht,cond_true]
 rfl
theorem zNd {d:zB} (hr:d.Running=d.Active) (ht:d.BK=false):pW d=d:=by
 obtain ⟨nm,sl,ac,rn,tr⟩:=d
 simp only at hr ht
 subst hr; subst ht
 rfl
theorem zNJ {d:zB} (hv:VD d) (hs:wR d) (m:zB→Option (uN zB zB)) (hm:∀ s3,m s3=bnd ((bif s3.BK then (some true) else (some (s3.Running != s3.Active)):Option Bool)) fun o7=>bif o7 then (bnd (lY s3) fun r5=>some (.next r5)) else (some (.done s3))):yC m d=some (pW d):=by
 have ZR:∀ e,wR e→lY e=some (eO e):=fun e he=>zOi he
 have h1:∀ e:zB,VD e→wR e→e.BK=false→yC m e=some (pW e):=by
  intro e hv hs ht
  by_cases hr:e.Running=e.Active
  ·refine yR ?_
   rw [hm,ht,cond_false,AA,zX (by simpa using hr),zNd hr ht]
  ·refine xO (s':=pW e) ?_ (yR ?_)
   ·rw [hm,ht,cond_false,AA,yF (by simpa using hr),ZR _ hs,zGp hv ht,AA]
   ·rw [hm]
    show bnd (bif false then _ else some ((pW e).Running != (pW e).Active)) _=_
    rw [cond_false,AA,zX (by simp [pW])]
 cases ht:d.BK
 ·exact h1 d hv hs ht
 ·refine xO (s':=qy d) ?_ (h1 (qy d) (zPf hv ht) hs O)
  rw [hm,ht,cond_true,AA,cond_true,ZR _ hs,zHH hv ht,AA]
def Vh (a:zM) (s:zE) (d:zA):Option (zE × zA × (Option zM) × Int):=
 bnd (vQ s 32) fun r6=>bif !r6.2 then (some (s,d,(some a),0)) else (bnd (tY a r6.1) fun r7=>bif !r7.2 then (some (s,d,none,6)) else (bnd (vD r7.1 s d) fun r8=>bif (r8.2.2.2 != 0) then (some (r8.2.1,r8.2.2.1,none,r8.2.2.2)) else (some (r8.2.1,r8.2.2.1,(some r8.1),0))))
theorem zVy {L:List zB} (hs:∀ d∈L,wR d) (N:List yX) (s:zE) (d:zA):
  qI s L N d=if hM L N=0 then Vh (Vf (L.map pW) N) s d else some (s,d,none,hM L N):=by
 unfold qI
 rw [zNs,AA]
 by_cases hl:L.length<1∨8<L.length
 ·have he:hM L N=2:=by unfold hM; rw [if_pos hl]
  rw [decide_eq_true hl,cond_true,he]
  rfl
 rw [decide_eq_false hl,cond_false]
 refine zLr (L:=L) (w:=fun e=>.inl (s,d,none,e)) (t:=.inr ()) (by omega) (fun i hi=>?_) ?_ ?_
 ·rw [decide_eq_true (by omega:(i:Int)<(L.length:Int)),cond_true]
  exact zJG (by omega) hi zAx (C:=fun x y=>some (Op.bytesLess x.Name.toList y.Name.toList||(x.Name.toList==y.Name.toList))) (fun x y=>by rw [zKd]) (fun e=>(.inl (s,d,none,e):(zE × zA × (Option zM) × Int) ⊕ Unit))
 ·rw [decide_eq_false (by omega:¬ (L.length:Int)<(L.length:Int)),cond_false]
 cases hd:fT L with
 | some e=>
  have he:hM L N=e:=by unfold hM; rw [if_neg hl,hd]
  rw [he,if_neg (zHI hd)]
  rfl
 | none=>
  simp only [DZ]
  rw [zOb]
  cases hn:fL N
  ·have he:hM L N=2:=by unfold hM; rw [if_neg hl,hd,hn]; rfl
   rw [he]
   rfl
  have he:hM L N=0:=by unfold hM; rw [if_neg hl,hd,hn]; rfl
  rw [he,if_pos O,if_pos O,AA]
  simp only [bne_self_eq_false,cond_false]
  have hNl:N.length≤16:=of_decide_eq_true (Bool.and_eq_true_iff.1 hn).1
  have hcl:xC N=some N:=by
   unfold xC
   rw [vE (by simp; omega) (by simp; omega),AA]
   simp
  rw [hcl,AA]
  refine wH (fun i=>((i:Int),(L.map pW).take i)) L.length (L.map pW) O (fun i hi=>?_) ?_ O
  ·simp only
   have v1:=zCQ hd _ (List.getElem_mem hi)
   have v2:=hs _ (List.getElem_mem hi)
   rw [decide_eq_true (by omega:(i:Int)<(L.length:Int)),cond_true,xJ hi,AA,zMY v2,AA,zNJ v1 v2 _ (fun _=>O),AA,vE (by simp; omega) (by simp; omega),AA,yQ hi (by omega),xY (l:=L.map pW) (by simpa using hi)]
   simp
  ·simp only
   rw [decide_eq_false (by omega:¬ (L.length:Int)<(L.length:Int)),cond_false,List.take_of_length_le (by simp)]
theorem zTA {L:List zB} (N:List yX):jW L N=some (hM L N):=by
 unfold jW
 rw [zNs,AA]
 by_cases hl:L.length<1∨8<L.length
 ·have he:hM L N=2:=by unfold hM; rw [if_pos hl]
  rw [decide_eq_true hl,cond_true,he]
 rw [decide_eq_false hl,cond_false]
 refine zLr (L:=L) (w:=fun e=>.inl e) (t:=.inr ()) (by omega) (fun i hi=>?_) ?_ ?_
 ·rw [decide_eq_true (by omega:(i:Int)<(L.length:Int)),cond_true]
  exact zJG (by omega) hi fH (C:=fun x y=>some (!(Op.bytesLess y.Name.toList x.Name.toList))) (fun x y=>O) (fun e=>(.inl e:Int ⊕ Unit))
 ·rw [decide_eq_false (by omega:¬ (L.length:Int)<(L.length:Int)),cond_false]
 cases hd:fT L with
 | some e=>
  have he:hM L N=e:=by unfold hM; rw [if_neg hl,hd]
  rw [he]
  rfl
 | none=>
  simp only [DZ]
  rw [zNP,AA]
  cases hn:fL N
  ·have he:hM L N=2:=by unfold hM; rw [if_neg hl,hd,hn]; rfl
   rw [he]
   rfl
  ·have he:hM L N=0:=by unfold hM; rw [if_neg hl,hd,hn]; rfl
   rw [he]
   rfl
theorem zEX {L:List zB} (hl:L.length≤1000) (hs:∀ d∈L,wR d):kI L=some L:=by
 unfold kI
 refine wH (fun i=>(L.take i,(i:Int))) L.length L O (fun i hi=>?_) ?_ O
 ·simp only
  rw [decide_eq_true (by omega:(i:Int)<(L.length:Int)),cond_true,xJ hi,AA,iH (hs _ (List.getElem_mem hi)),AA,vE (by simp; omega) (by simp; omega),AA,yQ hi (by omega),xY hi]
 ·simp only
  rw [decide_eq_false (by omega:¬ (L.length:Int)<(L.length:Int)),cond_false,List.take_length]
def cP (L:List zB) (i:Nat):List zB:=L.mapIdx fun k d=>if k<i then pW d else d
theorem Mc (L:List zB) (i k:Nat):(cP L i)[k]? =L[k]?.map fun d=>if k<i then pW d else d:=by
 simp [cP,List.getElem?_mapIdx]
theorem zNw (L:List zB):cP L 0=L:=List.ext_getElem? fun k=>by rw [Mc]; simp
theorem zPI (L:List zB):cP L L.length=L.map pW:=List.ext_getElem? fun k=>by
 rw [Mc,List.getElem?_map]
 cases h:L[k]? with
 | none=>rfl
 | some d=>
  have:=(List.getElem?_eq_some_iff.1 h).1
  simp [this]
theorem zQn {L:List zB} {i:Nat} (hi:i<L.length):(cP L i).set i (pW L[i])=cP L (i+1):=List.ext_getElem? fun k=>by
 rw [List.getElem?_set,Mc,Mc]
 have hi':i<(cP L i).length:=by simpa [cP] using hi
 by_cases hk:i=k
 ·subst hk
  rw [if_pos O,if_pos hi',List.getElem?_eq_getElem hi,Option.map_some,if_pos (by omega)]
 ·rw [if_neg hk]
  have:k<i+1↔k<i:=by omega
  simp only [this]
theorem zMm {Y:List zB} {i:Nat} (hi:i<Y.length) {d:zB} (hd:Y[i]? =some d) (hv:VD d) (hs:wR d) (m:List zB→Option (uN (List zB) (List zB)))
  (hm:∀ s2,m s2=bnd ((bnd (BP s2 (i:Int)) fun x1=>bif x1.BK then (some (true,s2)) else (some ((x1.Running != x1.Active),s2)):Option (Bool × List zB))) fun o3=>bif o3.1 then (bnd (BP o3.2 (i:Int)) fun x2=>bnd (BP o3.2 (i:Int)) fun x3=>bnd (rO x3) fun r3=>bnd (BP o3.2 (i:Int)) fun x4=>bnd (rJ o3.2 (i:Int) r3) fun l2=>some (.next l2)) else (some (.done o3.2))):
  yC m Y=some (Y.set i (pW d)):=by
 have hst:∀ (Z:List zB) (e:zB),i<Z.length→Z[i]? =some e→(e.BK=true∨e.Running≠e.Active)→wR e→m Z=some (.next (Z.set i (eO e))):=by
  intro Z e hz he hc hs
  rw [hm,JY,he,AA]
  have:(bif e.BK then (some (true,Z)) else (some ((e.Running != e.Active),Z)):Option (Bool × List zB))=some (true,Z):=by
   cases ht:e.BK
   ·rcases hc with hc | hc
    ·rw [ht] at hc; cases hc
    ·rw [cond_false,show (e.Running != e.Active)=true by simpa using hc]
   ·rfl
  rw [this,AA]
  simp only [cond_true]
  rw [JY,he,AA,AA,Vb hs,AA,AA,zQy hz,AA]
 have hdn:∀ (Z:List zB) (e:zB),Z[i]? =some e→e.BK=false→e.Running=e.Active→m Z=some (.done Z):=by
  intro Z e he ht hr
  rw [hm,JY,he,AA,ht,cond_false,AA,show (e.Running != e.Active)=false by simpa using hr]
  rfl
 have h1:∀ (Z:List zB) (e:zB),i<Z.length→Z[i]? =some e→VD e→wR e→e.BK=false→yC m Z=some (Z.set i (pW e)):=by
  intro Z e hz he hv hs ht
  by_cases hr:e.Running=e.Active
  ·rw [zNd hr ht]
   have:Z.set i e=Z:=by
    rw [List.getElem?_eq_getElem hz] at he
    injection he with he
    rw [←he,List.set_getElem_self]
   rw [this]
   exact yR (hdn Z e he ht hr)
  ·refine xO (hst Z e hz he (.inr hr) hs) (yR ?_)
   rw [zGp hv ht]
   exact hdn _ (pW e) (by rw [List.getElem?_set_self hz]) O O
 cases ht:d.BK
 ·exact h1 Y d hi hd hv hs ht
 ·have e1:pW d=pW (qy d):=rfl
  refine xO (hst Y d hi hd (.inl ht) hs) ?_
  rw [zHH hv ht,h1 (Y.set i (qy d)) (qy d) (by simpa using hi) (by rw [List.getElem?_set_self hi]) (zPf hv ht) hs O,List.set_set,e1]
def Vj (a:zY) (s:zH) (f:yD):Option (zH × yD × (Option zY) × Int):=
 bnd (tK s 32) fun r4=>bif !r4.2 then (some (s,f,(some a),0)) else (bnd (uP a r4.1) fun r5=>bif !r5.2 then (some (s,f,none,6)) else (bnd (sR r5.1 s f) fun r6=>bif (r6.2.2.2 != 0) then (some (r6.2.1,r6.2.2.1,none,r6.2.2.2)) else (some (r6.2.1,r6.2.2.1,(some r6.1),0))))
theorem zVD {L:List zB} (hs:∀ d∈L,wR d) (N:List yX) (s:zH) (f:yD):
  pU s L N f=if hM L N=0 then Vj (Vg (L.map pW) N) s f else some (s,f,none,hM L N):=by
 unfold pU
 rw [zTA,AA]
 by_cases he:hM L N=0
 case neg=>rw [if_neg he,yF (by simpa using he)]
 rw [if_pos he,zX (by simpa using he)]
 obtain ⟨h1,h8,hd,hn⟩:=zIs he
 have hNl:N.length≤16:=of_decide_eq_true (Bool.and_eq_true_iff.1 hn).1
 rw [zEX (by omega) hs,AA,vE (by simp; omega) (by simp; omega),AA]
 refine wH (fun i=>((i:Int),cP L i)) L.length (L.map pW) (by rw [zNw]; rfl) (fun i hi=>?_) ?_ O
 ·simp only
  have Vk:(cP L i).length=L.length:=by simp [cP]
  rw [Vk,decide_eq_true (by omega:(i:Int)<(L.length:Int)),cond_true]
  refine uL (zMm (by rw [Vk]; exact hi) (d:=L[i]) (by rw [Mc,List.getElem?_eq_getElem hi]; simp) (zCQ hd _ (List.getElem_mem hi)) (hs _ (List.getElem_mem hi)) _ (fun _=>O)) ?_
  rw [zQn hi,yQ hi (by omega)]
 ·simp only
  have Vk:(cP L L.length).length=L.length:=by simp [cP]
  rw [Vk,decide_eq_false (by omega:¬ (L.length:Int)<(L.length:Int)),cond_false,zPI]
def DN (l:List Int):Prop:=∀ x∈l,0≤x∧x≤255
theorem DN.nil:DN []:=fun x h=>by cases h
theorem DN.app {l m:List Int} (h:DN l) (k:DN m):DN (l++m):=fun x hx=>by
 rcases List.mem_append.1 hx with hx | hx
 ·exact h x hx
 ·exact k x hx
theorem DN.cons {x:Int} {l:List Int} (h:0≤x∧x≤255) (k:DN l):DN (x::l):=fun y hy=>by
 rcases List.mem_cons.1 hy with rfl | hy
 ·exact h
 ·exact k y hy
theorem DN.sub {l m:List Int} (h:DN l) (k:∀ x∈m,x∈l):DN m:=fun x hx=>h x (k x hx)
theorem DN.take {l:List Int} (h:DN l) (n:Nat):DN (l.take n):=h.sub fun _ hx=>List.mem_of_mem_take hx
theorem DN.drop {l:List Int} (h:DN l) (n:Nat):DN (l.drop n):=h.sub fun _ hx=>List.mem_of_mem_drop hx
theorem DN.set {l:List Int} (h:DN l) (n:Nat) {v:Int} (hv:0≤v∧v≤255):DN (l.set n v):=fun x hx=>by
 rcases List.mem_or_eq_of_mem_set hx with hx | hx
 ·exact h x hx
 ·subst hx; exact hv
theorem DN.get {l:List Int} (h:DN l) (i:Nat):0≤l.getD i 0∧l.getD i 0≤255:=by
 rw [List.getD_eq_getElem?_getD]
 cases hi:l[i]? with
 | none=>exact ⟨Int.le_refl 0,by decide⟩
 | some x=>exact h x (List.mem_of_getElem? hi)
theorem DN.rep {n:Nat} {v:Int} (hv:0≤v∧v≤255):DN (List.replicate n v):=fun x hx=>by
 obtain ⟨_,rfl⟩:=List.mem_replicate.1 hx
 exact hv
theorem sO {x:Int} (h:0≤x∧x≤255):∃ n:Nat,n<256∧x=(n:Int):=⟨x.toNat,by omega,by omega⟩
theorem Vl {x y:Int} (hx:0≤x∧x≤255) (hy:0≤y∧y≤255):0≤sN .u8 x y∧sN .u8 x y≤255:=by
 obtain ⟨a,ha,rfl⟩:=sO hx
 obtain ⟨b,hb,rfl⟩:=sO hy
 rw [Zv ha hb]
 have:=Nat.and_lt_two_pow (n:=8) a (y:=b) hb
 omega
theorem Md {x y:Int} (hx:0≤x∧x≤255) (hy:0≤y∧y≤255):0≤FK .u8 x y∧FK .u8 x y≤255:=by
 obtain ⟨a,ha,rfl⟩:=sO hx
 obtain ⟨b,hb,rfl⟩:=sO hy
 rw [Qz ha hb]
 have:=Nat.or_lt_two_pow (n:=8) ha hb
 omega
theorem zQl {x:Int} (hx:0≤x∧x≤255):sN .u8 255 x=x:=by
 obtain ⟨a,ha,rfl⟩:=sO hx
 have:(255:Int)=((255:Nat):Int):=rfl
 rw [this,Zv (by decide) ha,Nat.and_comm]
 have e:a&&&255=a % 2 ^ 8:=Nat.and_two_pow_sub_one_eq_mod a 8
 rw [e]
 omega
theorem zSs {x:Int} (hx:0≤x∧x≤255):FK .u8 x 255=255:=by
 obtain ⟨a,ha,rfl⟩:=sO hx
 have:(255:Int)=((255:Nat):Int):=rfl
 rw [this,Qz ha (by decide)]
 have h:∀ a:Fin 256,a.val|||255=255:=by decide+kernel
 rw [h ⟨a,ha⟩]
theorem or_zero {x y:Int} (hx:0≤x∧x≤255) (hy:0≤y∧y≤255):FK .u8 x y=0↔x=0∧y=0:=by
 obtain ⟨a,ha,rfl⟩:=sO hx
 obtain ⟨b,hb,rfl⟩:=sO hy
 rw [Qz ha hb]
 have:=@Nat.or_eq_zero_iff a b
 omega
theorem zUa {x:Int} (hx:0≤x∧x≤255):FK .u8 x 0=x:=by
 obtain ⟨a,ha,rfl⟩:=sO hx
 have:(0:Int)=((0:Nat):Int):=rfl
 rw [this,Qz ha (by decide),Nat.or_zero]
structure FV (d:zA):Prop where
 size:64≤d.size∧d.size≤1024
 BD:1≤d.BD.length∧d.BD.length≤16
 len:(d.bytes.length:Int)=d.BD.length*d.size
 DN:DN d.bytes
 BQ:0≤d.BQ∧d.BQ≤255
 left:0≤d.left∧d.left≤9223372036854775807
theorem FV.bound {d:zA} (h:FV d):d.bytes.length≤16384:=by
 have h1:=h.len
 have h2:=h.size
 have h3:=h.BD
 have:(d.BD.length:Int)*d.size≤16*1024:=Int.mul_le_mul (by omega) (by omega) (by omega) (by omega)
 omega
def yP (d:zA):zA × Bool:=
 if 0<d.left then (⟨d.size,d.bytes,d.BD,wrap .i64 (d.steps+1),d.left - 1,d.BQ,d.left - 1==0⟩,d.left - 1==0)
 else (⟨d.size,d.bytes,d.BD,wrap .i64 (d.steps+1),d.left,d.BQ,d.down⟩,d.down)
theorem zMP {d:zA} (h:FV d):wV d=some (yP d):=by
 unfold wV yP
 by_cases hl:0<d.left
 ·rw [yF (by simpa using hl),if_pos hl,zZ (x:=d.left - 1) (by have:=h.left; omega) (by have:=h.left; omega)]
 ·rw [zX (by simpa using hl),if_neg hl]
theorem xS (d:zA):(yP d).1.bytes=d.bytes:=by unfold yP; split <;> rfl
theorem mY (d:zA):(yP d).1.size=d.size:=by unfold yP; split <;> rfl
theorem eE (d:zA):(yP d).1.BD=d.BD:=by unfold yP; split <;> rfl
theorem sT (d:zA):(yP d).1.BQ=d.BQ:=by unfold yP; split <;> rfl
theorem bM {d:zA} (h:d.down=false):(yP d).1.down=(yP d).2:=by unfold yP; split <;> rfl
theorem iA {d:zA} (h:FV d):FV (yP d).1:=by
 refine ⟨by rw [mY]; exact h.size,by rw [eE]; exact h.BD,by rw [xS,eE,mY]; exact h.len,by rw [xS]; exact h.DN,by rw [sT]; exact h.BQ,?_⟩
 have:=h.left
 unfold yP
 split <;> simp only <;> omega
def NU (d:zA) (i:Nat) (v:Int):zA:=⟨d.size,d.bytes.set i v,d.BD,d.steps,d.left,d.BQ,d.down⟩
theorem Me {d:zA} (h:FV d) (i:Nat) {v:Int} (hv:0≤v∧v≤255):FV (NU d i v):=
 ⟨h.size,h.BD,by show ((d.bytes.set i v).length:Int)=_; rw [List.length_set]; exact h.len,h.DN.set i hv,h.BQ,h.left⟩
def qN:zA→Nat→List Int→zA × Int
 | d,_, []=>(d,0)
 | d,i,x::b=>
  if (yP d).2 then (NU (yP d).1 i (sN .u8 (d.bytes.getD i 0) (FK .u8 x d.BQ)),10)
  else qN (NU (yP d).1 i (sN .u8 (d.bytes.getD i 0) x)) (i+1) b
theorem zKW:∀ (b:List Int) (d:zA) (i:Nat),FV d→DN b→FV (qN d i b).1∧(qN d i b).1.size=d.size∧(qN d i b).1.BD=d.BD∧(qN d i b).1.bytes.length=d.bytes.length∧(qN d i b).1.BQ=d.BQ
 | [],d,i,h,_=>⟨h,O,O,O,O⟩
 | x::b,d,i,h,hb=>by
  have hx:=hb x (by simp)
  unfold qN
  split
  ·exact ⟨Me (iA h) i (Vl (h.DN.get i) (Md hx h.BQ)),mY d,eE d,by simp [NU,xS],sT d⟩
  ·obtain ⟨h1,h2,h3,h4,h5⟩:=zKW b (NU (yP d).1 i (sN .u8 (d.bytes.getD i 0) x)) (i+1) (Me (iA h) i (Vl (h.DN.get i) hx)) (fun y hy=>hb y (by simp [hy]))
   exact ⟨h1,h2.trans (mY d),h3.trans (eE d),by rw [h4]; simp [NU,xS],h5.trans (sT d)⟩
theorem mE {l:List Int} {i:Nat} (h:i<l.length):BP l (i:Int)=some (l.getD i 0):=by
 rw [JY,List.getD_eq_getElem?_getD,List.getElem?_eq_getElem h]
 rfl
theorem iM {α:Type} {l:List α} {i:Nat} (h:i<l.length) (v:α):rJ l (i:Int) v=some (l.set i v):=by
 unfold rJ
 rw [if_pos ⟨by omega,by omega⟩]
 simp
theorem zIw {d:zA} (h:FV d) (at_ n:Int) (ha1: -4611686018427387904≤at_):uO d at_ n=some (decide (0≤at_∧at_≤d.bytes.length∧0≤n∧n≤d.bytes.length - at_)):=by
 have hb:=h.bound
 unfold uO
 by_cases h1:at_≥0
 ·rw [yF (by simpa using h1)]
  by_cases h2:at_≤(d.bytes.length:Int)
  ·rw [yF (by simpa using h2)]
   by_cases h3:n≥0
   ·rw [yF (by simpa using h3),AA,zZ (by omega) (by omega)]
    congr 1
    rw [decide_eq_decide]
    omega
   ·rw [zX (by simpa using h3),AA]
    congr 1
    symm
    rw [decide_eq_false_iff_not]
    omega
  ·rw [zX (by simpa using h2),AA]
   congr 1
   symm
   rw [decide_eq_false_iff_not]
   omega
 ·rw [zX (by simpa using h1),AA]
  congr 1
  symm
  rw [decide_eq_false_iff_not]
  omega
def Na (CW:Int) (FN:List Int):zA × Int→Option (uN (zA × Int) ((zA × Int) ⊕ zA)):=
 (fun (s1:zA × Int)=>bif decide (s1.2<(FN.length:Int)) then (bnd (BP FN s1.2) fun x1=>bnd (wV s1.1) fun r2=>bif r2.2 then (bnd (BP r2.1.bytes (wrap .i64 (CW+s1.2))) fun x2=>bnd (BP r2.1.bytes (wrap .i64 (CW+s1.2))) fun x3=>bnd (BP r2.1.bytes (wrap .i64 (CW+s1.2))) fun x4=>bnd (rJ r2.1.bytes (wrap .i64 (CW+s1.2)) (sN .u8 x3 (FK .u8 x1 r2.1.BQ))) fun l1=>some (.done (.inl ((⟨r2.1.size,l1,r2.1.BD,r2.1.steps,r2.1.left,r2.1.BQ,r2.1.down⟩:zA),10)))) else (bnd (BP r2.1.bytes (wrap .i64 (CW+s1.2))) fun x5=>bnd (rJ r2.1.bytes (wrap .i64 (CW+s1.2)) (sN .u8 x5 x1)) fun l2=>some (.next ((⟨r2.1.size,l2,r2.1.BD,r2.1.steps,r2.1.left,r2.1.BQ,r2.1.down⟩:zA),wrap .i64 (s1.2+1))))) else (some (.done (.inr s1.1))))
def Vm (r:zA × Int):(zA × Int) ⊕ zA:=if r.2=0 then .inr r.1 else .inl r
theorem zHs (at_:Nat) (b:List Int) (hr:DN b):∀ (rest:List Int) (j:Nat) (d:zA),FV d→b.drop j=rest→j+rest.length=b.length→at_+b.length≤d.bytes.length→
  yC (Na (at_:Int) b) (d,(j:Int))=some (Vm (qN d (at_+j) rest))
 | [],j,d,hd,h1,h2,h3=>by
  refine yR ?_
  unfold Na
  simp only [List.length_nil] at h2
  rw [zX (by simp; omega)]
  rfl
 | x::rest,j,d,hd,h1,h2,h3=>by
  have hb:=hd.bound
  simp only [List.length_cons] at h2
  have hj:j<b.length:=by omega
  have hx:b[j]=x:=by
   have:=List.getElem_cons_drop (h:=hj)
   rw [h1] at this
   exact (List.cons.inj this).1
  have hrest:b.drop (j+1)=rest:=by
   have:=List.getElem_cons_drop (h:=hj)
   rw [h1] at this
   exact (List.cons.inj this).2
  have hxr:=hr x (by rw [←hx]; exact List.getElem_mem hj)
  have hi:at_+j<(yP d).1.bytes.length:=by rw [xS]; omega
  have hw:wrap .i64 ((at_:Int)+(j:Int))=((at_+j:Nat):Int):=by rw [zZ (by omega) (by omega)]; omega
  have hstep:Na (at_:Int) b (d,(j:Int))=some (if (yP d).2 then .done (.inl (NU (yP d).1 (at_+j) (sN .u8 (d.bytes.getD (at_+j) 0) (FK .u8 x d.BQ)),10)) else .next (NU (yP d).1 (at_+j) (sN .u8 (d.bytes.getD (at_+j) 0) x),((j+1:Nat):Int))):=by
   unfold Na
   simp only
   rw [yF (by simp; omega),xJ hj,AA,hx,zMP hd,AA]
   cases hf:(yP d).2
   ·rw [cond_false,hw,mE hi,AA,iM hi,AA,yQ hj (by omega),xS,if_neg (by decide)]
    simp only [NU,xS]
   ·rw [cond_true,hw,mE hi,AA,AA,AA,iM hi,AA,xS,sT,if_pos O]
    simp only [NU,xS,sT]
  cases hf:(yP d).2
  ·rw [hf] at hstep
   refine xO hstep ?_
   have:=zHs at_ b hr rest (j+1) (NU (yP d).1 (at_+j) (sN .u8 (d.bytes.getD (at_+j) 0) x)) (Me (iA hd) _ (Vl (hd.DN.get _) hxr)) hrest (by omega) (by simp [NU,xS]; omega)
   rw [this]
   conv=>rhs; unfold qN
   rw [if_neg (by rw [hf]; decide)]
   rfl
  ·rw [hf] at hstep
   rw [yR hstep]
   conv=>rhs; unfold qN
   rw [if_pos hf]
   simp only [Vm]
   rw [if_neg (by decide)]
theorem dS:∀ (b:List Int) (d:zA) (i:Nat),(qN d i b).2=0∨(qN d i b).2=10
 | [],d,i=>.inl O
 | x::b,d,i=>by
  unfold qN
  split
  ·exact .inr O
  ·exact dS b _ _
theorem zKk (r:zA × Int) (h:r.2=0∨r.2=10):(xL (Vm r) fun o2=>some (o2,0))=some r:=by
 unfold Vm
 rcases h with h | h
 ·rw [if_pos h,DZ,←h]
 ·rw [if_neg (by rw [h]; decide),JR]
def zW (d:zA) (at_:Int) (b:List Int):zA × Int:=
 if d.down then (d,10) else if 0≤at_∧at_≤d.bytes.length∧0≤(b.length:Int)∧(b.length:Int)≤d.bytes.length - at_ then qN d at_.toNat b else (d,2)
theorem bF {d:zA} (h:FV d) {b:List Int} (hb:DN b) (at_:Int) (ha1: -4611686018427387904≤at_):wD d at_ b=some (zW d at_ b):=by
 unfold wD zW
 cases hd:d.down
 ·rw [cond_false,zIw h at_ _ ha1,AA]
  by_cases hw:0≤at_∧at_≤d.bytes.length∧0≤(b.length:Int)∧(b.length:Int)≤d.bytes.length - at_
  ·rw [if_neg (by simp),if_pos hw,zX (by simp only [hw,decide_true]; rfl)]
   have:=zHs at_.toNat b hb b 0 d h O (by omega) (by omega)
   have e:((at_.toNat:Nat):Int)=at_:=by omega
   rw [e] at this
   unfold Na at this
   exact uL this (zKk _ (dS b d _))
  ·rw [if_neg (by simp),if_neg hw,yF (by rw [decide_eq_false hw]; rfl)]
 ·rw [cond_true,if_pos O]
theorem zLq {d:zA} (h:FV d) {b:List Int} (hb:DN b) (at_:Int):FV (zW d at_ b).1∧(zW d at_ b).1.size=d.size∧(zW d at_ b).1.BD=d.BD∧(zW d at_ b).1.bytes.length=d.bytes.length∧(zW d at_ b).1.BQ=d.BQ:=by
 unfold zW
 split
 ·exact ⟨h,O,O,O,O⟩
 ·split
  ·exact zKW b d _ h hb
  ·exact ⟨h,O,O,O,O⟩
theorem Nb {b:List Int} (h:b.length≤1000000):zV b=some b:=by
 unfold zV
 rw [vE (by simp; omega) (by simp; omega),AA]
 rfl
def Vo (d:zA) (at_ n:Int):List Int × Int:=
 if d.down then ([],10) else if 0≤at_∧at_≤d.bytes.length∧0≤n∧n≤d.bytes.length - at_ then ((d.bytes.drop at_.toNat).take n.toNat,0) else ([],2)
theorem zNq {d:zA} (h:FV d) (at_ n:Int) (ha1: -4611686018427387904≤at_):uE d at_ n=some (d,Vo d at_ n):=by
 have hb:=h.bound
 unfold uE Vo
 cases hd:d.down
 ·rw [cond_false,zIw h at_ _ ha1,AA]
  by_cases hw:0≤at_∧at_≤d.bytes.length∧0≤n∧n≤d.bytes.length - at_
  ·rw [if_neg (by simp),if_pos hw,zX (by simp only [hw,decide_true]; rfl),zZ (by omega) (by omega)]
   obtain ⟨a,rfl⟩:∃ a:Nat,at_=(a:Int):=⟨at_.toNat,by omega⟩
   obtain ⟨k,rfl⟩:∃ k:Nat,n=(k:Int):=⟨n.toNat,by omega⟩
   have h1:tD d.bytes.length (a:Int) ((a:Int)+(k:Int))=some k:=by
    unfold tD
    rw [if_pos ⟨by omega,by omega,by omega⟩]
    congr 1
    omega
   have h2:Go.Proofs.YtplchdlgdjcojaaGreatDoor.sub d.bytes (((a:Int).toNat:Nat):Int) (((a:Int).toNat+k:Nat):Int)=some ((d.bytes.take (a+k)).drop a):=by
    unfold Go.Proofs.YtplchdlgdjcojaaGreatDoor.sub
    rw [if_pos ⟨by omega,by omega,by omega⟩]
    congr 2
   rw [h1,AA,h2,AA,Nb (by simp; omega),AA]
   congr 3
   rw [List.take_drop,show (a:Int).toNat+(k:Int).toNat=a+k by omega]
   rfl
  ·rw [if_neg (by simp),if_neg hw,yF (by rw [decide_eq_false hw]; rfl)]
 ·rw [cond_true,if_pos O]
def KF (l:List Int) (lo n:Nat) (v:Int):List Int:=l.take lo++((l.drop lo).take n).map (fun x=>FK .u8 x v)++l.drop (lo+n)
theorem zIE (l:List Int) (lo n:Nat) (v:Int) (h:lo+n≤l.length):(KF l lo n v).length=l.length:=by
 simp only [KF,List.length_append,List.length_take,List.length_map,List.length_drop]
 omega
theorem zRd {l:List Int} (h:DN l) (lo n:Nat) {v:Int} (hv:0≤v∧v≤255):DN (KF l lo n v):=by
 refine ((h.take lo).app fun x hx=>?_).app (h.drop _)
 obtain ⟨y,hy,rfl⟩:=List.mem_map.1 hx
 exact Md (((h.drop lo).take n) y hy) hv
theorem zFp (l:List Int) (lo:Nat) (v:Int):KF l lo 0 v=l:=by simp [KF]
theorem zKq {l:List Int} {lo n:Nat} (v:Int) (h:lo+n<l.length):(KF l lo n v).set (lo+n) (FK .u8 (l.getD (lo+n) 0) v)=KF l lo (n+1) v:=by
 unfold KF
 have h1:(l.take lo++((l.drop lo).take n).map (fun x=>FK .u8 x v)).length=lo+n:=by
  simp only [List.length_append,List.length_take,List.length_map,List.length_drop]; omega
 have h2:l.drop (lo+n)=l[lo+n]::l.drop (lo+(n+1)):=(List.getElem_cons_drop (h:=h)).symm
 have h3:(l.drop lo).take (n+1)=(l.drop lo).take n++ [l[lo+n]]:=by
  rw [xY (by simp; omega)]
  simp
 rw [List.set_append_right _ _ (by omega),h1,Nat.sub_self,h2,List.set_cons_zero,h3,List.map_append,List.getD_eq_getElem?_getD,List.getElem?_eq_getElem h]
 simp
theorem zMO {l:List Int} {lo n:Nat} (v:Int) (h:lo+n<l.length):(KF l lo n v).getD (lo+n) 0=l.getD (lo+n) 0:=by
 unfold KF
 have h1:(l.take lo++((l.drop lo).take n).map (fun x=>FK .u8 x v)).length=lo+n:=by
  simp only [List.length_append,List.length_take,List.length_map,List.length_drop]; omega
 rw [List.getD_eq_getElem?_getD,List.getD_eq_getElem?_getD,List.getElem?_append_right (by omega),h1,Nat.sub_self,List.getElem?_drop]
 simp
def JF (d:zA) (i:Nat):zA:=⟨d.size,d.bytes,d.BD.set i (wrap .i64 (d.BD.getD i 0+1)),d.steps,d.left,d.BQ,d.down⟩
def NZ (d:zA) (b:List Int):zA:=⟨d.size,b,d.BD,d.steps,d.left,d.BQ,d.down⟩
def vF (d:zA) (s:Int):zA × Int:=
 if d.down then (d,10) else if s<0∨s≥d.BD.length then (d,2) else
  (NZ (yP (JF d s.toNat)).1 (KF d.bytes (s.toNat*d.size.toNat) d.size.toNat (if (yP (JF d s.toNat)).2 then d.BQ else 255)),if (yP (JF d s.toNat)).2 then 10 else 0)
theorem Nc {d:zA} (h:FV d) (i:Nat):FV (JF d i):=
 ⟨h.size,by show 1≤(d.BD.set _ _).length∧(d.BD.set _ _).length≤16; rw [List.length_set]; exact h.BD,by show (d.bytes.length:Int)=((d.BD.set _ _).length:Int)*_; rw [List.length_set]; exact h.len,h.DN,h.BQ,h.left⟩
theorem zSS {d:zA} (h:FV d) {b:List Int} (hl:b.length=d.bytes.length) (hr:DN b):FV (NZ d b):=
 ⟨h.size,h.BD,by show (b.length:Int)=_; rw [hl]; exact h.len,hr,h.BQ,h.left⟩
theorem wP {d:zA} (h:FV d) {k:Nat} (hk:k<d.BD.length):k*d.size.toNat+d.size.toNat≤d.bytes.length:=by
 have h1:=h.len
 have h2:=h.size
 obtain ⟨z,hz⟩:∃ z:Nat,d.size=(z:Int):=⟨d.size.toNat,by omega⟩
 rw [hz] at h1 ⊢
 have h3:d.bytes.length=d.BD.length*z:=by exact_mod_cast h1
 have h4:(k+1)*z≤d.BD.length*z:=Nat.mul_le_mul_right _ (by omega)
 rw [Nat.add_mul,Nat.one_mul] at h4
 show k*z+z≤_
 omega
theorem zQN {d:zA} (h:FV d) (s:Int) (hs:s≤4611686018427387904):rU d s=some (vF d s):=by
 have hb:=h.bound
 unfold rU vF
 cases hd:d.down
 ·rw [cond_false,if_neg (by simp)]
  by_cases hs0:s<0
  ·rw [yF (by simpa using hs0),AA,cond_true,if_pos (.inl hs0)]
  ·rw [zX (by simpa using hs0),AA]
   by_cases hs1:s≥d.BD.length
   ·rw [yF (by simpa using hs1),if_pos (.inr hs1)]
   ·rw [zX (by simpa using hs1),if_neg (by omega)]
    obtain ⟨k,rfl⟩:∃ k:Nat,s=(k:Int):=⟨s.toNat,by omega⟩
    have hk:k<d.BD.length:=by omega
    have aCF:=h.BD
    have hok:=iA (Nc h k)
    have hst:wV (⟨d.size,d.bytes,d.BD.set k (wrap .i64 (d.BD.getD k 0+1)),d.steps,d.left,d.BQ,false⟩:zA)=some (yP (JF d k)):=by rw [←zMP (Nc h k)]; simp only [JF,hd]
    rw [mE hk,AA,iM hk,AA,hst,AA]
    have hz:=h.size
    obtain ⟨z,hzz⟩:∃ z:Nat,d.size=(z:Int):=⟨d.size.toNat,by omega⟩
    have hsz:(yP (JF d k)).1.size=(z:Int):=(mY _).trans hzz
    have hby:(yP (JF d k)).1.bytes=d.bytes:=xS _
    have hse:=wP h hk
    rw [hzz] at hse
    have hkz:k*z≤16384:=by
     have:((z:Int)).toNat=z:=rfl
     rw [this] at hse
     omega
    have aCG:k*z+z≤d.bytes.length:=hse
    have e1:wrap .i64 ((k:Int)*(z:Int))=((k*z:Nat):Int):=by
     have:(k:Int)*(z:Int)=((k*z:Nat):Int):=by simp
     rw [this,xP (by omega)]
    have e2:wrap .i64 (wrap .i64 ((k:Int)+1)*(z:Int))=((k*z+z:Nat):Int):=by
     rw [zZ (x:=(k:Int)+1) (by omega) (by omega)]
     have:((k:Int)+1)*(z:Int)=((k*z+z:Nat):Int):=by simp [Int.add_mul]
     rw [this,xP (by omega)]
    simp only [hsz,hby,e1,e2]
    have hpm:tD d.bytes.length ((k*z:Nat):Int) ((k*z+z:Nat):Int)=some z:=by
     unfold tD
     rw [if_pos ⟨by omega,by omega,by omega⟩]
     congr 1
     omega
    have ho:(bif (yP (JF d k)).2 then some (yP (JF d k)).1.BQ else some 255)=some (if (yP (JF d k)).2 then d.BQ else 255):=by
     rw [sT]
     cases (yP (JF d k)).2 <;> rfl
    rw [ho,AA,hpm,AA]
    generalize hv:(if (yP (JF d k)).2=true then d.BQ else 255)=v
    have hvr:0≤v∧v≤255:=by rw [←hv]; split; exact h.BQ; decide
    have e3:(((k*z:Nat):Int)).toNat=k*z:=rfl
    rw [e3]
    refine wH (fun j=>(NZ (yP (JF d k)).1 (KF d.bytes (k*z) j v),(j:Int))) z (NZ (yP (JF d k)).1 (KF d.bytes (k*z) z v)) ?_ (fun j hj=>?_) ?_ ?_
    ·rw [zFp,←hby]; rfl
    ·have hlt:k*z+j<d.bytes.length:=by omega
     have hlt2:k*z+j<(KF d.bytes (k*z) j v).length:=by rw [zIE _ _ _ _ (by omega)]; exact hlt
     have hel:gM (KF d.bytes (k*z) j v) (k*z) z (j:Int)=some (d.bytes.getD (k*z+j) 0):=by
      unfold gM
      rw [if_pos ⟨by omega,by omega⟩]
      have:((k*z:Nat):Int)+(j:Int)=((k*z+j:Nat):Int):=by omega
      rw [this,mE hlt2,zMO v hlt]
     have VB:rJ (KF d.bytes (k*z) j v) (((k*z:Nat):Int)+(j:Int)) (FK .u8 (d.bytes.getD (k*z+j) 0) v)=some (KF d.bytes (k*z) (j+1) v):=by
      have:((k*z:Nat):Int)+(j:Int)=((k*z+j:Nat):Int):=by omega
      rw [this,iM hlt2,zKq v hlt]
     simp only [NZ]
     rw [yF (by simp; omega),hel,AA,AA,VB,AA,yQ hj (by omega)]
    ·simp only
     rw [zX (by simp)]
    ·have e4:((z:Int)).toNat=z:=rfl
     have e5:((k:Int)).toNat=k:=rfl
     rw [hzz]
     simp only [e4,e5]
     cases hf:(yP (JF d k)).2
     ·rw [hf] at hv
      rw [cond_false,←hv]
      rfl
     ·rw [hf] at hv
      rw [cond_true,←hv]
      rfl
 ·rw [cond_true,if_pos O]
theorem zDA {d:zA} (h:FV d) (s:Int):FV (vF d s).1∧(vF d s).1.size=d.size∧(vF d s).1.BD.length=d.BD.length∧(vF d s).1.bytes.length=d.bytes.length∧(vF d s).1.BQ=d.BQ:=by
 unfold vF
 split
 ·exact ⟨h,O,O,O,O⟩
 ·split
  ·exact ⟨h,O,O,O,O⟩
  ·rename_i hs
   have hk:s.toNat<d.BD.length:=by omega
   have hse:=wP h hk
   have hl:=zIE d.bytes (s.toNat*d.size.toNat) d.size.toNat (if (yP (JF d s.toNat)).2 then d.BQ else 255) hse
   have hvr:0≤(if (yP (JF d s.toNat)).2 then d.BQ else 255)∧(if (yP (JF d s.toNat)).2 then d.BQ else 255)≤255:=by split; exact h.BQ; decide
   refine ⟨zSS (iA (Nc h _)) ?_ (zRd h.DN _ _ hvr),mY _,?_,hl,sT _⟩
   ·rw [xS]; exact hl
   ·show (yP (JF d s.toNat)).1.BD.length=_
    rw [eE]
    simp [JF]
def SH:List Int→Option (zD × Nat)
 | k::n::r=>if n=128 then some (⟨k, [],true⟩,2) else if n>28∨(r.length:Int)<n then none else some (⟨k,r.take n.toNat,false⟩,2+n.toNat)
 | _=>none
theorem lH (k n:Int) (r:List Int):SH (k::n::r)=if n=128 then some (⟨k, [],true⟩,2) else if n>28∨(r.length:Int)<n then none else some (⟨k,r.take n.toNat,false⟩,2+n.toNat):=rfl
theorem Nh {b:List Int} {x:zD} {n:Nat} (hr:DN b) (h:SH b=some (x,n)):2≤n∧n≤b.length:=by
 match b,h with
 | k::c::r,h=>
  rw [lH] at h
  split at h
  ·injection h with h; injection h with _ h; subst h; simp
  ·split at h
   ·cases h
   ·rename_i h1
    have:=hr c (by simp)
    injection h with h; injection h with _ h; subst h
    simp only [List.length_cons]
    omega
theorem lR {α:Type} {l:List α} {a b:Nat} (h1:a≤b) (h2:b≤l.length):Go.Proofs.YtplchdlgdjcojaaGreatDoor.sub l (a:Int) (b:Int)=some ((l.drop a).take (b - a)):=by
 unfold Go.Proofs.YtplchdlgdjcojaaGreatDoor.sub
 rw [if_pos ⟨by omega,by omega,by omega⟩]
 congr 1
 have e1:((a:Int)).toNat=a:=rfl
 have e2:((b:Int)).toNat=b:=rfl
 rw [e1,e2,List.drop_take]
def zQm (o:Option (zD × Nat)):zD × Int × Bool:=match o with | some (x,n)=>(x,(n:Int),true) | none=>(⟨0, [],false⟩,0,false)
theorem zOI {b:List Int} (hr:DN b) (hl:b.length≤16384):rV b=some (zQm (SH b)):=by
 unfold rV
 match b,hr,hl with
 | [],_,_=>rfl
 | [k],_,_=>rfl
 | k::c::r,hr,hl=>
  have hc:=hr c (by simp)
  simp only [List.length_cons] at hl
  have e0:BP (k::c::r) 0=some k:=rfl
  have e1:BP (k::c::r) 1=some c:=rfl
  rw [zX (by simp only [List.length_cons,decide_eq_false_iff_not]; omega),e1,AA,e0,lH]
  by_cases h1:c=128
  ·rw [yF (by simpa using h1),AA,if_pos h1]
   rfl
  ·rw [zX (by simpa using h1),if_neg h1]
   obtain ⟨n,hn,rfl⟩:=sO hc
   have hw:wrap .i64 (2+wrap .i64 (n:Int))=((2+n:Nat):Int):=by rw [xP (by omega),zZ (by omega) (by omega)]; omega
   rw [hw]
   by_cases h2:(n:Int)>28
   ·rw [yF (by simpa using h2),AA,cond_true,if_pos (.inl h2)]
    rfl
   ·rw [zX (by simpa using h2),AA]
    by_cases h3:(r.length:Int)<(n:Int)
    ·rw [yF (by simp only [List.length_cons,decide_eq_true_eq]; omega),if_pos (.inr h3)]
     rfl
    ·rw [zX (by simp only [List.length_cons,decide_eq_false_iff_not]; omega),AA,if_neg (by omega)]
     have hs:Go.Proofs.YtplchdlgdjcojaaGreatDoor.sub (k::(n:Int)::r) 2 ((2+n:Nat):Int)=some (r.take n):=by
      have:=lR (l:=k::(n:Int)::r) (a:=2) (b:=2+n) (by omega) (by simp; omega)
      rw [Nat.add_sub_cancel_left] at this
      exact this
     rw [hs,AA,Nb (by simp; omega),AA]
     rfl
def oX:Nat→List Int→Option (List zD × Nat)
 | 0,_=>some ([],0)
 | c+1,b=>match SH b with
  | none=>none
  | some (x,n)=>match oX c (b.drop n) with
   | none=>none
   | some (l,m)=>some (x::l,n+m)
theorem Vp:∀ (c:Nat) {b:List Int} {l:List zD} {n:Nat},DN b→oX c b=some (l,n)→n≤b.length∧l.length=c
 | 0,b,l,n,_,h=>by injection h with h; injection h with h1 h2; subst h1; subst h2; simp
 | c+1,b,l,n,hr,h=>by
  unfold oX at h
  split at h
  ·cases h
  ·rename_i x k hk
   split at h
   ·cases h
   ·rename_i l' m hm
    injection h with h; injection h with h1 h2
    subst h1; subst h2
    have h3:=Nh hr hk
    have h4:=Vp c (hr.drop k) hm
    simp only [List.length_drop,List.length_cons] at*
    omega
def tR:List Int→Option (List zD × Nat)
 | []=>none
 | c::r=>if c<1∨c>32 then none else match oX c.toNat r with
  | none=>none
  | some (l,n)=>if r[n]? =some 0 then some (l,n+2) else none
theorem rL (c:Int) (r:List Int):tR (c::r)=if c<1∨c>32 then none else match oX c.toNat r with
  | none=>none
  | some (l,n)=>if r[n]? =some 0 then some (l,n+2) else none:=rfl
theorem qJ {b:List Int} {l:List zD} {n:Nat} (hr:DN b) (h:tR b=some (l,n)):2≤n∧n≤b.length:=by
 match b,h with
 | c::r,h=>
  rw [rL] at h
  split at h
  ·cases h
  ·split at h
   ·cases h
   ·rename_i l' m hm
    split at h
    ·rename_i h0
     injection h with h; injection h with _ h; subst h
     have:=(List.getElem?_eq_some_iff.1 h0).1
     simp only [List.length_cons]
     omega
    ·cases h
def zFy (o:Option (List zD × Nat)):List zD × Int × Bool:=match o with | some (l,n)=>(l,(n:Int),true) | none=>([],0,false)
def cB (BF:List Int) (x2:Int):List zD × Int × Int→Option (uN (List zD × Int × Int) (((List zD) × Int × Bool) ⊕ (List zD × Int))):=
 (fun (s1:List zD × Int × Int)=>bif decide (s1.2.2<x2) then (bnd (Go.Proofs.YtplchdlgdjcojaaGreatDoor.sub BF s1.2.1 (BF.length:Int)) fun l1=>bnd (rV l1) fun r1=>bif !r1.2.2 then (some (.done (.inl ([],0,false)))) else (bnd (app 40 s1.1 [r1.1]) fun l2=>some (.next (l2,wrap .i64 (s1.2.1+r1.2.1),wrap .u8 (s1.2.2+1))))) else (some (.done (.inr (s1.1,s1.2.1)))))
theorem zEZ {b:List Int} (hr:DN b) (hl:b.length≤16384) (c:Nat) (hc:c≤32):∀ (k i at_:Nat) (acc:List zD),i+k=c→at_≤b.length→acc.length≤i→
  yC (cB b (c:Int)) (acc,(at_:Int),(i:Int))=some (match oX k (b.drop at_) with | none=>.inl ([],0,false) | some (l,n)=>.inr (acc++l,((at_+n:Nat):Int)))
 | 0,i,at_,acc,h,_,_=>by
  refine yR ?_
  unfold cB
  simp only
  rw [zX (by simp; omega)]
  simp [oX]
 | k+1,i,at_,acc,h,hat,hacc=>by
  have hsub:Go.Proofs.YtplchdlgdjcojaaGreatDoor.sub b (at_:Int) (b.length:Int)=some (b.drop at_):=by
   rw [lR hat (Nat.le_refl _)]
   congr 1
   rw [List.take_of_length_le (by simp)]
  have hstep:cB b (c:Int) (acc,(at_:Int),(i:Int))=some (match SH (b.drop at_) with | none=>.done (.inl ([],0,false)) | some (x,n)=>.next (acc++ [x],((at_+n:Nat):Int),((i+1:Nat):Int))):=by
   unfold cB
   simp only
   rw [yF (by simp; omega),hsub,AA,zOI (hr.drop _) (by simp; omega),AA]
   cases hcg:SH (b.drop at_) with
   | none=>rfl
   | some p=>
    obtain ⟨x,n⟩:=p
    have hn:=Nh (hr.drop _) hcg
    simp only [List.length_drop] at hn
    simp only [zQm,Bool.not_true,cond_false]
    rw [vE (by simp; omega) (by simp; omega),AA,zZ (by omega) (by omega),bN (by omega) (by omega)]
    rfl
  unfold oX
  cases hcg:SH (b.drop at_) with
  | none=>rw [hcg] at hstep; exact yR hstep
  | some p=>
   obtain ⟨x,n⟩:=p
   have hn:=Nh (hr.drop _) hcg
   simp only [List.length_drop] at hn
   rw [hcg] at hstep
   refine xO hstep ?_
   rw [zEZ hr hl c hc k (i+1) (at_+n) (acc++ [x]) (by omega) (by omega) (by simp; omega)]
   simp only [List.drop_drop]
   cases hcs:oX k (b.drop (at_+n)) with
   | none=>rfl
   | some q=>
    obtain ⟨l,m⟩:=q
    simp only [List.append_assoc,List.singleton_append]
    rw [Nat.add_assoc]
theorem zQX {b:List Int} (hr:DN b) (hl:b.length≤16384):pD b=some (zFy (tR b)):=by
  unfold pD
  match b,hr,hl with
  | [],_,_=>rfl
  | c::r,hr,hl=>
    have hc:=hr c (by simp)
    have e0:BP (c::r) 0=some c:=rfl
    have hr':DN r:=fun x hx=>hr x (by simp [hx])
    simp only [List.length_cons] at hl
    rw [zX (by simp only [List.length_cons,beq_eq_false_iff_ne,ne_eq]; omega),e0,AA,rL]
    by_cases h1:c<1
    · rw [yF (by simpa using h1), AA, cond_true, if_pos (.inl h1)]
      rfl
    · rw [zX (by simpa using h1), AA]
      by_cases h2:c>32
      · rw [yF (by simpa using h2), if_pos (.inr h2)]
        rfl
      · rw [zX (by simpa using h2), AA, if_neg (by omega)]
        obtain ⟨n,hn,rfl⟩:=sO hc
        have hlp:=zEZ hr (by simp; omega) n (by omega) n 0 1 [] (by omega) (by simp) (by simp)
        unfold cB at hlp
        refine uL hlp ?_
        have e2:((n:Int)).toNat=n:=rfl
        rw [List.drop_succ_cons,List.drop_zero,e2]
        cases hcs:oX n r with
        | none=>rfl
        | some q=>
          obtain ⟨l,m⟩:=q
          have hm:=(Vp n hr' hcs).1
          simp only [List.nil_append,DZ,List.length_cons]
          by_cases h3:1+m=r.length+1
          · rw [yF (by simp; omega), AA, cond_true, if_neg (by rw [List.getElem?_eq_none (by omega)]; simp)]
            rfl
          · have hmr : m < r.length := by omega
            have e3:BP ((n:Int)::r) ((1+m:Nat):Int)=some r[m]:=by
              rw [JY,Nat.add_comm,List.getElem?_cons_succ,List.getElem?_eq_getElem hmr]
            rw [zX (by simp; omega),e3,AA,AA,List.getElem?_eq_getElem hmr]
            by_cases h4:r[m]=0
            · rw [zX (by simpa using h4), if_pos (by rw [h4]), zZ (by omega) (by omega)]
              simp only [zFy]
              congr 3
              omega
            · rw [yF (by simpa using h4), if_neg (by simpa using h4)]
              rfl
def kX (x:zD):List Int:=if x.Delete then [x.Key,128] else x.Key::wrap .u8 (x.Value.length:Int)::x.Value
def xI (l:List zD):List Int:=wrap .u8 (l.length:Int)::l.flatMap kX++ [0]
theorem zKj (x:zD):2≤(kX x).length∧(kX x).length≤2+x.Value.length:=by
 unfold kX
 split
 ·simp
 ·simp only [List.length_cons]
  omega
theorem zMI {l:List zD} (h:∀ x∈l,x.Value.length≤1000):(l.flatMap kX).length≤l.length*1002:=by
 induction l with
 | nil=>simp
 | cons x r ih=>
  have h1:=(zKj x).2
  have h2:=h x (by simp)
  have h3:=ih fun y hy=>h y (by simp [hy])
  simp only [List.flatMap_cons,List.length_append,List.length_cons]
  omega
theorem zIy {l:List zD} (hl:l.length≤1000) (hv:∀ x∈l,x.Value.length≤1000):qC l=some (xI l):=by
 unfold qC
 have hb:∀ i,i≤l.length→(wrap .u8 (l.length:Int)::(l.take i).flatMap kX).length≤1+i*1002:=fun i hi=>by
  have:=zMI (l:=l.take i) fun x hx=>hv x (List.mem_of_mem_take hx)
  simp only [List.length_take,List.length_cons] at*
  rw [Nat.min_eq_left hi] at this
  omega
 refine wH (fun i=>(wrap .u8 (l.length:Int)::(l.take i).flatMap kX,(i:Int))) l.length (wrap .u8 (l.length:Int)::l.flatMap kX) O (fun i hi=>?_) ?_ ?_
 ·have h1:=hb i (by omega)
  have h2:=hv l[i] (List.getElem_mem hi)
  have h3:i*1002≤1000*1002:=Nat.mul_le_mul_right _ (by omega)
  simp only
  rw [yF (by simp; omega),xJ hi,AA,xY hi,List.flatMap_append]
  simp only [List.flatMap_cons,List.flatMap_nil,List.append_nil]
  have hE:∀ (z:List Int),(wrap .u8 (l.length:Int)::((l.take i).flatMap kX++z))=(wrap .u8 (l.length:Int)::(l.take i).flatMap kX)++z:=fun z=>O
  rw [hE]
  generalize hpre:wrap .u8 (l.length:Int)::(l.take i).flatMap kX=pre at h1 ⊢
  unfold kX
  cases hd:l[i].Delete
  ·simp only [cond_false]
   rw [vE (by simp; omega) (by simp; omega),AA,vE (by simp; omega) (by simp; omega),AA,yQ hi (by omega)]
   simp
  ·simp only [cond_true]
   rw [vE (by simp; omega) (by simp; omega),AA,yQ hi (by omega)]
   simp
 ·simp only
  rw [zX (by simp),List.take_length]
 ·have h1:=hb l.length (Nat.le_refl _)
  rw [List.take_length] at h1
  have h3:l.length*1002≤1000*1002:=Nat.mul_le_mul_right _ hl
  rw [vE (by simp only [List.length_cons,List.length_nil] at*; omega) (by simp only [List.length_cons,List.length_nil] at*; omega),AA]
  rfl
def vT (b:List Int):Bool:=b.all fun x=>x==255
theorem zKt {b:List Int} (hl:b.length≤16384):pE b=some (vT b):=by
 unfold pE wT vI
 have hf:∀ i (h:i<b.length),(fun i:Nat=>if (b.getD i 255 != 255) then some (.inl (i:Int):Int ⊕ Unit) else none) i=if (fun x:Int=>x != 255) b[i] then some ((fun (i:Nat) (_:Int)=>(.inl (i:Int):Int ⊕ Unit)) i b[i]) else none:=fun i h=>by
  simp only [List.getD_eq_getElem?_getD,List.getElem?_eq_getElem h,Option.getD_some]
 have hL:=Zn (m:=fun (s1:Int)=>bif decide (s1<(b.length:Int)) then (bnd (BP b s1) fun x1=>bnd (sZ x1) fun r1=>bif r1 then (some (.done (.inl s1:Int ⊕ Unit))) else (some (.next (wrap .i64 (s1+1))))) else (some (.done (.inr ())))) (fun i=>(i:Int)) b.length (fun i=>if (b.getD i 255 != 255) then some (.inl (i:Int):Int ⊕ Unit) else none) (t:=.inr ()) (fun i hi=>?_) ?_
 ·have h0:((0:Nat):Int)=0:=rfl
  rw [h0] at hL
  rw [hL,AA]
  rcases zLQ b (fun x=>x != 255) (fun i _=>(.inl (i:Int):Int ⊕ Unit)) _ hf with ⟨i,hi,h1,_,h3⟩ | ⟨_,h2,h3⟩
  ·rw [h3]
   simp only [Option.getD_some,JR,AA]
   congr 1
   have:vT b=false:=by
    unfold vT
    rw [List.all_eq_false]
    exact ⟨b[i],List.getElem_mem hi,by simpa using h1⟩
   rw [this]
   simp
  ·rw [h3]
   simp only [Option.getD_none,DZ,AA]
   congr 1
   have:vT b=true:=by
    unfold vT
    rw [List.all_eq_true]
    intro x hx
    simpa using h2 x hx
   rw [this]
   rfl
 ·rw [yF (by simp; omega),xJ hi,AA]
  unfold sZ
  rw [AA,List.getD_eq_getElem?_getD,List.getElem?_eq_getElem hi]
  simp only [Option.getD_some]
  by_cases hb:b[i]=255
  ·rw [zX (by simpa using hb),yQ hi (by omega),if_neg (by simpa using hb)]
  ·rw [yF (by simpa using hb),if_pos (by simpa using hb)]
 ·rw [zX (by simp)]
theorem aC {b:List Int}:vT b=true↔b=List.replicate b.length 255:=by
 unfold vT
 rw [List.all_eq_true,List.eq_replicate_iff]
 simp
abbrev oD:=List (Int × List Int)
def lK (m:oD) (k:Int):Option (List Int):=vW (yH .u8).eq m k
def XH (m:oD) (k:Int) (v:List Int):oD:=nX (yH .u8).eq m k v
def YO (m:oD) (k:Int):oD:=TV (yH .u8).eq m k
def qP (m:oD):List Int:=m.map (·.1)
theorem iQ (a b:Int):(yH .u8).eq a b=true↔a=b:=by
 show (a==b)=true↔_
 simp
theorem zOC (m:oD) (k k':Int) (v:List Int):lK (XH m k v) k'=if k'=k then some v else lK m k':=zIg iQ m k k' v
theorem bZ (x:Int × List Int) (r:oD) (k:Int):lK (x::r) k=if k=x.1 then some x.2 else lK r k:=by
 show (bif (yH .u8).eq k x.1 then some x.2 else vW (yH .u8).eq r k)=_
 by_cases h:k=x.1
 ·rw [(iQ k x.1).2 h,if_pos h]; rfl
 ·have:(yH .u8).eq k x.1=false:=by cases hc:(yH .u8).eq k x.1; rfl; exact absurd ((iQ k x.1).1 hc) h
  rw [this,if_neg h]; rfl
theorem zFJ (x:Int × List Int) (r:oD) (k:Int) (v:List Int):XH (x::r) k v=if k=x.1 then (k,v)::r else x::XH r k v:=by
 show (bif (yH .u8).eq k x.1 then (k,v)::r else x::nX (yH .u8).eq r k v)=_
 by_cases h:k=x.1
 ·rw [(iQ k x.1).2 h,if_pos h]; rfl
 ·have:(yH .u8).eq k x.1=false:=by cases hc:(yH .u8).eq k x.1; rfl; exact absurd ((iQ k x.1).1 hc) h
  rw [this,if_neg h]; rfl
theorem zCo (x:Int × List Int) (r:oD) (k:Int):YO (x::r) k=if k=x.1 then r else x::YO r k:=by
 show (bif (yH .u8).eq k x.1 then r else x::TV (yH .u8).eq r k)=_
 by_cases h:k=x.1
 ·rw [(iQ k x.1).2 h,if_pos h]; rfl
 ·have:(yH .u8).eq k x.1=false:=by cases hc:(yH .u8).eq k x.1; rfl; exact absurd ((iQ k x.1).1 hc) h
  rw [this,if_neg h]; rfl
theorem jM (x:Int × List Int) (r:oD):qP (x::r)=x.1::qP r:=rfl
theorem zCp {m:oD} {k:Int}:lK m k=none↔k∉qP m:=by
 induction m with
 | nil=>simp [lK,vW,qP]
 | cons x r ih=>
  rw [bZ,jM,List.mem_cons]
  by_cases h:k=x.1
  ·simp [h]
  ·rw [if_neg h,ih]
   simp [h]
theorem zHb {m:oD} {k x:Int} (h:x∈qP (YO m k)):x∈qP m:=by
 induction m with
 | nil=>exact h
 | cons y r ih=>
  rw [jM,List.mem_cons]
  rw [zCo] at h
  split at h
  ·exact .inr h
  ·rw [jM,List.mem_cons] at h
   rcases h with h | h
   ·exact .inl h
   ·exact .inr (ih h)
theorem zGQ {m:oD} {k x:Int} {v:List Int} (h:x∈qP (XH m k v)):x=k∨x∈qP m:=by
 induction m with
 | nil=>left; simpa [XH,nX,qP] using h
 | cons y r ih=>
  rw [jM,List.mem_cons]
  rw [zFJ] at h
  split at h
  ·rw [jM,List.mem_cons] at h
   rcases h with h | h
   ·exact .inl h
   ·exact .inr (.inr h)
  ·rw [jM,List.mem_cons] at h
   rcases h with h | h
   ·exact .inr (.inl h)
   ·rcases ih h with h | h
    ·exact .inl h
    ·exact .inr (.inr h)
def OA (m:oD):Prop:=(qP m).Nodup
theorem OA.set {m:oD} (h:OA m) (k:Int) (v:List Int):OA (XH m k v):=by
 induction m with
 | nil=>simp [OA,XH,nX,qP]
 | cons y r ih=>
  have h1:=List.nodup_cons.1 h
  rw [zFJ]
  split
  ·rename_i e
   exact List.nodup_cons.2 ⟨by rw [e]; exact h1.1,h1.2⟩
  ·rename_i e
   refine List.nodup_cons.2 ⟨fun hm=>?_,ih h1.2⟩
   rcases zGQ hm with e' | hm
   ·exact e e'.symm
   ·exact h1.1 hm
theorem OA.del {m:oD} (h:OA m) (k:Int):OA (YO m k):=by
 induction m with
 | nil=>exact h
 | cons y r ih=>
  have h1:=List.nodup_cons.1 h
  rw [zCo]
  split
  ·exact h1.2
  ·exact List.nodup_cons.2 ⟨fun hm=>h1.1 (zHb hm),ih h1.2⟩
theorem zOu {m:oD} (h:OA m) (k k':Int):lK (YO m k) k'=if k'=k then none else lK m k':=by
 induction m with
 | nil=>simp [lK,YO,TV,vW]
 | cons y r ih=>
  have h1:=List.nodup_cons.1 h
  have ih:=ih h1.2
  rw [zCo]
  by_cases hk:k=y.1
  ·rw [if_pos hk]
   by_cases hk':k'=k
   ·rw [if_pos hk',zCp,hk',hk]
    exact h1.1
   ·rw [if_neg hk',bZ,if_neg (by rw [←hk]; exact hk')]
  ·rw [if_neg hk,bZ,ih,bZ]
   by_cases hk':k'=y.1
   ·rw [if_pos hk',if_neg (by rw [hk']; exact fun e=>hk e.symm),if_pos hk']
   ·rw [if_neg hk',if_neg hk']
def Asc (K:List zD):Prop:=K.Pairwise fun a b=>a.Key<b.Key
def Nd (K:List zD):Prop:=∀ x∈K,x.Delete=false
def oM (K:List zD) (k:Int):Option (List Int):=(K.find? fun x=>x.Key==k).map (·.Value)
theorem zGC (k:Int):oM [] k=none:=rfl
theorem vC (x:zD) (K:List zD) (k:Int):oM (x::K) k=if x.Key=k then some x.Value else oM K k:=by
 unfold oM
 rw [List.find?_cons]
 by_cases h:x.Key=k
 ·simp [h]
 ·have:(x.Key==k)=false:=by simpa using h
  rw [this,if_neg h]
theorem fA {K:List zD} {k:Int}:oM K k=none↔∀ x∈K,x.Key≠k:=by
 unfold oM
 rw [Option.map_eq_none_iff,List.find?_eq_none]
 simp
theorem zJc:∀ {K1 K2:List zD},Asc K1→Asc K2→Nd K1→Nd K2→(∀ k,oM K1 k=oM K2 k)→K1=K2
 | [], [],_,_,_,_,_=>rfl
 | [],b::r,_,_,_,_,h=>by
  have:=h b.Key
  rw [zGC,vC,if_pos O] at this
  cases this
 | a::r, [],_,_,_,_,h=>by
  have:=h a.Key
  rw [zGC,vC,if_pos O] at this
  cases this
 | a::r1,b::r2,h1,h2,n1,n2,h=>by
  have p1:=List.pairwise_cons.1 h1
  have p2:=List.pairwise_cons.1 h2
  have hk:a.Key=b.Key:=by
   rcases Int.lt_trichotomy a.Key b.Key with hlt | heq | hgt
   ·exfalso
    have:=h a.Key
    rw [vC,if_pos O,vC,if_neg (by omega)] at this
    have h3:oM r2 a.Key=none:=fA.2 fun x hx=>by have:=p2.1 x hx; omega
    rw [h3] at this
    cases this
   ·exact heq
   ·exfalso
    have:=h b.Key
    rw [vC,if_neg (by omega),vC,if_pos O] at this
    have h3:oM r1 b.Key=none:=fA.2 fun x hx=>by have:=p1.1 x hx; omega
    rw [h3] at this
    cases this
  have hv:a.Value=b.Value:=by
   have:=h a.Key
   rw [vC,if_pos O,vC,if_pos hk.symm] at this
   injection this
  have hd:a.Delete=b.Delete:=(n1 a (by simp)).trans (n2 b (by simp)).symm
  have hab:a=b:=by
   obtain ⟨ak,av,ad⟩:=a
   obtain ⟨bk,bv,bd⟩:=b
   simp only at hk hv hd
   subst hk; subst hv; subst hd
   rfl
  subst hab
  congr 1
  refine zJc p1.2 p2.2 (fun x hx=>n1 x (by simp [hx])) (fun x hx=>n2 x (by simp [hx])) fun k=>?_
  by_cases hka:a.Key=k
  ·rw [fA.2 (fun x hx=>by have:=p1.1 x hx; omega),fA.2 (fun x hx=>by have:=p2.1 x hx; omega)]
  ·have:=h k
   rwa [vC,if_neg hka,vC,if_neg hka] at this
def JK (K:List zD) (c:zD):List zD:=
 if c.Delete then K.filter fun x=>x.Key != c.Key else (K.filter fun x=>decide (x.Key<c.Key))++c::K.filter fun x=>decide (c.Key<x.Key)
def wC (K:List zD) (l:List zD):List zD:=l.foldl JK K
theorem zGk {K:List zD} (h:Asc K) (c:zD):Asc (JK K c):=by
 unfold JK
 split
 ·exact h.sublist List.filter_sublist
 ·refine List.pairwise_append.2 ⟨h.sublist List.filter_sublist,List.pairwise_cons.2 ⟨fun x hx=>?_,h.sublist List.filter_sublist⟩,fun x hx y hy=>?_⟩
  ·have:=(List.mem_filter.1 hx).2
   simpa using this
  ·have h1:=(List.mem_filter.1 hx).2
   simp only [decide_eq_true_eq] at h1
   rcases List.mem_cons.1 hy with rfl | hy
   ·exact h1
   ·have h2:=(List.mem_filter.1 hy).2
    simp only [decide_eq_true_eq] at h2
    omega
theorem zMz {K:List zD} (h:Nd K) (c:zD):Nd (JK K c):=by
 unfold JK
 split
 ·exact fun x hx=>h x (List.mem_filter.1 hx).1
 ·rename_i hc
  intro x hx
  rcases List.mem_append.1 hx with hx | hx
  ·exact h x (List.mem_filter.1 hx).1
  ·rcases List.mem_cons.1 hx with rfl | hx
   ·simpa using hc
   ·exact h x (List.mem_filter.1 hx).1
theorem zAD (K:List zD) (p:zD→Bool) (k:Int) (hp:∀ x∈K,x.Key=k→p x=true):oM (K.filter p) k=oM K k:=by
 induction K with
 | nil=>rfl
 | cons y r ih=>
  have ih:=ih fun x hx=>hp x (by simp [hx])
  rw [List.filter_cons,vC]
  by_cases hy:y.Key=k
  ·rw [if_pos (hp y (by simp) hy),vC,if_pos hy,if_pos hy]
  ·rw [if_neg hy]
   split
   ·rw [vC,if_neg hy,ih]
   ·exact ih
theorem nP (K:List zD) (p:zD→Bool) (k:Int) (hp:∀ x∈K,x.Key=k→p x=false):oM (K.filter p) k=none:=by
 rw [fA]
 intro x hx e
 have:=List.mem_filter.1 hx
 rw [hp x this.1 e] at this
 exact absurd this.2 (by decide)
theorem zJN (K L:List zD) (k:Int):oM (K++L) k=(oM K k).or (oM L k):=by
 unfold oM
 rw [List.find?_append]
 cases K.find? _ <;> rfl
theorem zId (K:List zD) (c:zD) (k:Int):oM (JK K c) k=if k=c.Key then (if c.Delete then none else some c.Value) else oM K k:=by
 unfold JK
 by_cases hk:k=c.Key
 ·subst hk
  rw [if_pos O]
  split
  ·exact nP _ _ _ fun x _ e=>by simp [e]
  ·rw [zJN,nP _ _ _ (fun x _ e=>by simp [e]),vC,if_pos O]
   rfl
 ·rw [if_neg hk]
  split
  ·exact zAD _ _ _ fun x _ e=>by simp [e,hk]
  ·rw [zJN,vC,if_neg (fun e=>hk e.symm)]
   by_cases hlt:k<c.Key
   ·rw [zAD _ _ _ (fun x _ e=>by simp [e,hlt]),nP _ _ _ (fun x _ e=>by simp [e]; omega)]
    cases oM K k <;> rfl
   ·rw [nP _ _ _ (fun x _ e=>by simp [e]; omega),zAD _ _ _ (fun x _ e=>by simp [e]; omega)]
    rfl
theorem Vq:∀ {l K:List zD},Asc K→Asc (wC K l)
 | [],_,h=>h
 | c::l,_,h=>Vq (l:=l) (zGk h c)
theorem zJr:∀ {l K:List zD},Nd K→Nd (wC K l)
 | [],_,h=>h
 | c::l,_,h=>zJr (l:=l) (zMz h c)
theorem zLn:∀ {l K:List zD} {x:zD},x∈wC K l→x∈K∨x∈l
 | [],_,_,h=>.inl h
 | c::l,K,x,h=>by
  rcases zLn (l:=l) h with h | h
  ·unfold JK at h
   split at h
   ·exact .inl (List.mem_filter.1 h).1
   ·rcases List.mem_append.1 h with h | h
    ·exact .inl (List.mem_filter.1 h).1
    ·rcases List.mem_cons.1 h with rfl | h
     ·exact .inr (by simp)
     ·exact .inl (List.mem_filter.1 h).1
  ·exact .inr (by simp [h])
def Nj (l:List zD) (k:Int) (o:Option (List Int)):Option (List Int):=l.foldl (fun o c=>if k=c.Key then (if c.Delete then none else some c.Value) else o) o
theorem zHL:∀ (l K:List zD) (k:Int),oM (wC K l) k=Nj l k (oM K k)
 | [],_,_=>rfl
 | c::l,K,k=>by
  unfold wC Nj
  rw [List.foldl_cons,List.foldl_cons,←zId]
  exact zHL l (JK K c) k
def gB (ks:List Int):List Int:=ks.mergeSort fun x y=>decide (x≤y)
theorem fV (ks:List Int):(gB ks).Perm ks:=List.mergeSort_perm _ _
theorem zOx {ks:List Int} (h:ks.Nodup):(gB ks).Pairwise (· < ·):=by
 have h1:(gB ks).Pairwise fun x y=>decide (x≤y)=true:=List.pairwise_mergeSort (fun a b c h1 h2=>by simp only [decide_eq_true_eq] at*; omega) (fun a b=>by simp only [Bool.or_eq_true,decide_eq_true_eq]; omega) ks
 have h2:(gB ks).Nodup:=(fV ks).nodup_iff.2 h
 have:=h1.and h2
 refine this.imp fun hh=>?_
 simp only [decide_eq_true_eq,ne_eq] at hh
 omega
def toL (m:oD):List zD:=(gB (qP m)).map fun k=>⟨k,(lK m k).getD [],false⟩
theorem zPR (m:oD):Nd (toL m):=fun x hx=>by
 obtain ⟨k,_,rfl⟩:=List.mem_map.1 hx
 rfl
theorem zNj {m:oD} (h:OA m):Asc (toL m):=by
 unfold Asc toL
 rw [List.pairwise_map]
 exact (zOx h).imp fun h=>h
theorem Nk (m:oD):(toL m).length=m.length:=by
 unfold toL
 rw [List.length_map,(fV _).length_eq]
 simp [qP]
theorem Vr (m:oD) (k:Int):oM (toL m) k=lK m k:=by
 have key:∀ (ks:List Int),oM (ks.map fun k=>(⟨k,(lK m k).getD [],false⟩:zD)) k=if k∈ks then some ((lK m k).getD []) else none:=by
  intro ks
  induction ks with
  | nil=>rfl
  | cons a r ih=>
   rw [List.map_cons,vC]
   by_cases h:a=k
   ·subst h; simp
   ·rw [if_neg h,ih]
    have:k≠a:=fun e=>h e.symm
    simp [this]
 unfold toL
 rw [key]
 by_cases h:k∈qP m
 ·rw [if_pos ((fV _).mem_iff.2 h)]
  cases hg:lK m k with
  | none=>exact absurd h (zCp.1 hg)
  | some v=>rfl
 ·rw [if_neg (fun hm=>h ((fV _).mem_iff.1 hm)),zCp.2 h]
def aZ (m:oD) (l:List zD):oD:=l.foldl (fun m c=>if c.Delete then YO m c.Key else XH m c.Key c.Value) m
theorem Ae:∀ {l:List zD} {m:oD},OA m→OA (aZ m l)
 | [],_,h=>h
 | c::l,m,h=>by
  unfold aZ
  rw [List.foldl_cons]
  split
  ·exact Ae (l:=l) (h.del _)
  ·exact Ae (l:=l) (h.set _ _)
theorem Vs:∀ {l:List zD} {m:oD},OA m→toL (aZ m l)=wC (toL m) l
 | [],_,_=>rfl
 | c::l,m,h=>by
  unfold aZ wC
  rw [List.foldl_cons,List.foldl_cons]
  have h1:OA (if c.Delete=true then YO m c.Key else XH m c.Key c.Value):=by split; exact h.del _; exact h.set _ _
  have h2:toL (if c.Delete=true then YO m c.Key else XH m c.Key c.Value)=JK (toL m) c:=by
   refine zJc (zNj h1) (zGk (zNj h) c) (zPR _) (zMz (zPR _) c) fun k=>?_
   rw [Vr,zId,Vr]
   split
   ·rw [zOu h]
   ·rw [zOC]
  rw [←h2]
  exact Vs (l:=l) h1
theorem zLi {l:List zD} {m:oD} (h:OA m):(aZ m l).length=(wC (toL m) l).length:=by rw [←Vs h,Nk]
theorem zLp (m:oD) (l:List zD) (hl:l.length≤1000000) (hv:∀ x∈l,x.Value.length≤1000000):wM (some m) l=some (some (aZ m l)):=by
 unfold wM Zg
 rw [AA]
 refine wH (fun i=>((i:Int),some (aZ m (l.take i)))) l.length (some (aZ m l)) O (fun i hi=>?_) ?_ O
 ·have h2:=hv l[i] (List.getElem_mem hi)
  simp only
  rw [yF (by simp; omega),xJ hi,AA,xY hi,yQ hi (by omega)]
  unfold aZ
  rw [List.foldl_append,List.foldl_cons,List.foldl_nil]
  cases hd:l[i].Delete
  ·rw [cond_false,Nb (by omega),AA]
   rfl
  ·rw [cond_true]
   rfl
 ·simp only
  rw [zX (by simp),List.take_length]
theorem zOd {m:oD} (hm:OA m) (hl:m.length≤eR) (hv:∀ k v,lK m k=some v→v.length≤1000000):wU (some m)=some (toL m):=by
 unfold wU Zy gO
 have hsk:((some m:Option oD).getD [])=m:=rfl
 have hlen:(gB (qP m)).length=m.length:=by rw [(fV _).length_eq]; simp [qP]
 have hks:((m.map (·.1)).mergeSort fun x y=>decide (x≤y))=gB (qP m):=rfl
 rw [AA,hsk,if_pos hl,AA,hks]
 have hl1:m.length≤1000:=Nat.le_trans hl zFn
 refine wH (fun i=>((toL m).take i,(i:Int))) m.length (toL m) O (fun i hi=>?_) ?_ O
 ·have hi':i<(gB (qP m)).length:=by omega
  have hit:i<(toL m).length:=by rw [Nk]; exact hi
  have hg:(toL m)[i]=⟨(gB (qP m))[i],(lK m (gB (qP m))[i]).getD [],false⟩:=by simp [toL]
  have hvl:((lK m (gB (qP m))[i]).getD []).length≤1000000:=by
   cases hh:lK m (gB (qP m))[i] with
   | none=>simp
   | some v=>exact hv _ v hh
  simp only
  rw [yF (by simp; omega),xJ hi',AA]
  have hcl:zV ((vW (yH .u8).eq m (gB (qP m))[i]).getD [])=some ((lK m (gB (qP m))[i]).getD []):=Nb hvl
  rw [hcl,AA,vE (by simp; omega) (by simp; omega),AA,yQ hi (by omega),xY hit,hg]
 ·simp only
  rw [zX (by rw [hlen]; simp),←Nk,List.take_length]
structure PY (x:zD):Prop where
 key:0≤x.Key∧x.Key≤255
 len:x.Value.length≤28
 DN:DN x.Value
 del:x.Delete=true→x.Value= []
theorem zRF {b:List Int} (hr:DN b) {x:zD} {n:Nat} (h:SH b=some (x,n)):PY x:=by
 match b,h with
 | k::c::r,h=>
  have hk:=hr k (by simp)
  have hc:=hr c (by simp)
  have hr':DN r:=fun y hy=>hr y (by simp [hy])
  rw [lH] at h
  split at h
  ·injection h with h; injection h with h _; subst h
   exact ⟨hk,by simp,DN.nil,fun _=>O⟩
  ·split at h
   ·cases h
   ·rename_i h1
    injection h with h; injection h with h _; subst h
    exact ⟨hk,by simp; omega,hr'.take _,fun hd=>by cases hd⟩
theorem zKz:∀ (c:Nat) {b:List Int} {l:List zD} {n:Nat},DN b→oX c b=some (l,n)→∀ x∈l,PY x
 | 0,b,l,n,_,h=>by injection h with h; injection h with h1 h2; subst h1; intro x hx; cases hx
 | c+1,b,l,n,hr,h=>by
  unfold oX at h
  split at h
  ·cases h
  ·rename_i x k hk
   split at h
   ·cases h
   ·rename_i l' m hm
    injection h with h; injection h with h1 h2
    subst h1
    intro y hy
    rcases List.mem_cons.1 hy with rfl | hy
    ·exact zRF hr hk
    ·exact zKz c (hr.drop k) hm y hy
theorem zDI {b:List Int} {l:List zD} {n:Nat} (hr:DN b) (h:tR b=some (l,n)):1≤l.length∧l.length≤32∧∀ x∈l,PY x:=by
 match b,h with
 | c::r,h=>
  have hr':DN r:=fun y hy=>hr y (by simp [hy])
  rw [rL] at h
  split at h
  ·cases h
  ·rename_i hc
   split at h
   ·cases h
   ·rename_i l' m hm
    split at h
    ·injection h with h; injection h with h _; subst h
     have:=(Vp _ hr' hm).2
     exact ⟨by omega,by omega,zKz _ hr' hm⟩
    ·cases h
structure KW (K:List zD):Prop where
 Af:Asc K
 nd:Nd K
 len:K.length≤32
 ok:∀ x∈K,PY x
theorem KW.nil:KW []:=⟨List.Pairwise.nil,fun x h=>(by cases h),by simp,fun x h=>(by cases h)⟩
theorem KW.all {K l:List zD} (h:KW K) (hl:∀ x∈l,PY x) (hn:(wC K l).length≤32):KW (wC K l):=
 ⟨Vq h.Af,zJr h.nd,hn,fun x hx=>by
  rcases zLn hx with hx | hx
  ·exact h.ok x hx
  ·exact hl x hx⟩
def eD:Nat→List Int→List zD→Nat→List zD × Nat
 | 0,_,K,t=>(K,t)
 | f+1,b,K,t=>match tR b with
  | none=>(K,t)
  | some (l,n)=>if (wC K l).length>32 then (K,t) else eD f (b.drop n) (wC K l) (t+n)
theorem zCb:∀ (f g:Nat) {b:List Int} (K:List zD) (t:Nat),DN b→b.length≤f→b.length≤g→eD f b K t=eD g b K t
 | 0,0,b,K,t,_,_,_=>rfl
 | 0,g+1,b,K,t,_,h,_=>by
  have:b= []:=List.eq_nil_of_length_eq_zero (by omega)
  subst this
  rfl
 | f+1,0,b,K,t,_,_,h=>by
  have:b= []:=List.eq_nil_of_length_eq_zero (by omega)
  subst this
  rfl
 | f+1,g+1,b,K,t,hr,h1,h2=>by
  unfold eD
  cases hb:tR b with
  | none=>rfl
  | some p=>
   obtain ⟨l,n⟩:=p
   have hn:=qJ hr hb
   simp only
   split
   ·rfl
   ·exact zCb f g _ _ (hr.drop n) (by simp; omega) (by simp; omega)
def rR (b:List Int) (K:List zD) (t:Nat):List zD × Nat:=eD b.length b K t
theorem kT {b:List Int} (hr:DN b) (K:List zD) (t:Nat):rR b K t=match tR b with
  | none=>(K,t)
  | some (l,n)=>if (wC K l).length>32 then (K,t) else rR (b.drop n) (wC K l) (t+n):=by
 have h1:rR b K t=eD (b.length+1) b K t:=zCb _ _ _ _ hr (Nat.le_refl _) (by omega)
 rw [h1]
 unfold eD
 cases hb:tR b with
 | none=>rfl
 | some p=>
  obtain ⟨l,n⟩:=p
  have hn:=qJ hr hb
  simp only
  split
  ·rfl
  ·exact zCb _ _ _ _ (hr.drop n) (by simp) (Nat.le_refl _)
theorem zKb:∀ (f:Nat) {b:List Int} {K:List zD} (t:Nat),DN b→KW K→KW (eD f b K t).1∧t≤(eD f b K t).2∧(eD f b K t).2≤t+b.length
 | 0,b,K,t,_,h=>⟨h,by simp [eD],by simp [eD]⟩
 | f+1,b,K,t,hr,h=>by
  unfold eD
  cases hb:tR b with
  | none=>exact ⟨h,by simp,by simp⟩
  | some p=>
   obtain ⟨l,n⟩:=p
   have hn:=qJ hr hb
   simp only
   split
   ·exact ⟨h,by simp,by simp⟩
   ·obtain ⟨h1,h2,h3⟩:=zKb f (t+n) (hr.drop n) (h.all (zDI hr hb).2.2 (by omega))
    simp only [List.length_drop] at h3
    exact ⟨h1,by omega,by omega⟩
theorem Nl {b:List Int} {K:List zD} (t:Nat) (hr:DN b) (h:KW K):KW (rR b K t).1∧t≤(rR b K t).2∧(rR b K t).2≤t+b.length:=zKb _ t hr h
def gL (b:List Int):Int:=b.getD 0 0+256*b.getD 1 0+65536*b.getD 2 0+16777216*b.getD 3 0
theorem zSO {a b c d:Int} (ha:0≤a∧a≤255) (hb:0≤b∧b≤255) (hc:0≤c∧c≤255) (hd:0≤d∧d≤255):
  FK .i64 (FK .i64 (FK .i64 (wrap .i64 a) (gZ .i64 (wrap .i64 b) 8)) (gZ .i64 (wrap .i64 c) 16)) (gZ .i64 (wrap .i64 d) 24)=a+256*b+65536*c+16777216*d:=by
 obtain ⟨a,ha,rfl⟩:=sO ha
 obtain ⟨b,hb,rfl⟩:=sO hb
 obtain ⟨c,hc,rfl⟩:=sO hc
 obtain ⟨d,hd,rfl⟩:=sO hd
 have e8:(8:Int)=((8:Nat):Int):=rfl
 have e16:(16:Int)=((16:Nat):Int):=rfl
 have e24:(24:Int)=((24:Nat):Int):=rfl
 have p8:2 ^ 8=256:=rfl
 have p16:2 ^ 16=65536:=rfl
 have Np:2 ^ 24=16777216:=rfl
 rw [xP (by omega),xP (by omega),xP (by omega),xP (by omega),e8,e16,e24,Zw (by omega) (by omega),Zw (by omega) (by omega),Zw (by omega) (by omega)]
 rw [Zu (by omega) (by omega),Zx (by omega),Zu (by omega) (by omega),Zx (by omega),Zu (by omega) (by omega),Zx (by omega),p8,p16,Np]
 omega
def tV (b:List Int):Option (Int × List zD × Nat):=
 if b.getD 4 0≠0∨gL b<1∨gL b>2147483648 then none else some (gL b,rR (b.drop 5) [] 5)
def Vt (BF:List Int):vR→Option (uN vR vR):=
 (fun (s1:vR)=>bnd (Go.Proofs.YtplchdlgdjcojaaGreatDoor.sub BF s1.tail (BF.length:Int)) fun l1=>bnd (pD l1) fun r1=>bif !r1.2.2 then (some (.done s1)) else (bnd (wM s1.all r1.1) fun r2=>bif decide ((((r2.getD []).length:Nat):Int)>32) then (some (.done s1)) else (some (.next (⟨s1.generation,r2,wrap .i64 (s1.tail+r1.2.1),s1.clean⟩:vR)))))
theorem zKm {b:List Int} {t:Nat} (h:t≤b.length):Go.Proofs.YtplchdlgdjcojaaGreatDoor.sub b (t:Int) (b.length:Int)=some (b.drop t):=by
 rw [lR h (Nat.le_refl _),List.take_of_length_le (by simp)]
theorem zHF {b:List Int} (hr:DN b) (hl:b.length≤16384) (g:Int):∀ (f t:Nat) (m:oD),(b.drop t).length≤f→t≤b.length→OA m→
    ∃ m',yC (Vt b) (⟨g,some m,(t:Int),false⟩:vR)=some (⟨g,some m',((rR (b.drop t) (toL m) t).2:Int),false⟩:vR)∧OA m'∧toL m'=(rR (b.drop t) (toL m) t).1
  | f,t,m,hf,ht,hm=>by
    have hrd:=hr.drop t
    rw [kT hrd]
    have hstep:Vt b (⟨g,some m,(t:Int),false⟩:vR)=some (match tR (b.drop t) with
        | none=>.done (⟨g,some m,(t:Int),false⟩:vR)
        | some (l,n)=>if (wC (toL m) l).length>32 then .done (⟨g,some m,(t:Int),false⟩:vR) else .next (⟨g,some (aZ m l),((t+n:Nat):Int),false⟩:vR)):=by
      unfold Vt
      simp only
      rw [zKm ht,AA,zQX hrd (by simp; omega),AA]
      cases hb:tR (b.drop t) with
      | none=>rfl
      | some p=>
        obtain ⟨l,n⟩:=p
        have hn:=qJ hrd hb
        have ho:=zDI hrd hb
        simp only [List.length_drop] at hn
        simp only [zFy,Bool.not_true,cond_false]
        rw [zLp m l (by omega) (fun x hx=>by have:=(ho.2.2 x hx).len; omega),AA]
        have hlen:(((some (aZ m l):Option oD).getD []).length:Int)=((wC (toL m) l).length:Int):=by
          show ((aZ m l).length:Int)=_
          rw [zLi hm]
        rw [hlen]
        by_cases hgt:(wC (toL m) l).length>32
        · rw [yF (by simp; omega),if_pos hgt]
        · rw [zX (by simp; omega), if_neg hgt, zZ (by omega) (by omega)]
          rfl
    cases hb:tR (b.drop t) with
    | none=>
      rw [hb] at hstep
      exact ⟨m,yR hstep,hm,O⟩
    | some p=>
      obtain ⟨l,n⟩:=p
      have hn:=qJ hrd hb
      simp only [List.length_drop] at hn hf
      rw [hb] at hstep
      simp only at hstep ⊢
      split
      · rename_i hgt
        rw [if_pos hgt] at hstep
        exact ⟨m,yR hstep,hm,O⟩
      · rename_i hgt
        rw [if_neg hgt] at hstep
        match f,hf with
        | 0,hf=>omega
        | f+1,hf=>
          obtain ⟨m',h1,h2,h3⟩:=zHF hr hl g f (t+n) (aZ m l) (by simp; omega) (by omega) (Ae hm)
          rw [Vs hm] at h1 h3
          refine ⟨m',?_,h2,?_⟩
          · rw [List.drop_drop]
            exact xO hstep h1
          · rw [List.drop_drop]
            exact h3
theorem zJR {b:List Int} (hr:DN b) (h64:64≤b.length) (hl:b.length≤16384):(tV b=none∧rK b=some (⟨0,none,0,false⟩,false))∨
  ∃ m,tV b=some (gL b,rR (b.drop 5) [] 5)∧rK b=some (⟨gL b,some m,((rR (b.drop 5) [] 5).2:Int),vT (b.drop (rR (b.drop 5) [] 5).2)⟩,true)∧OA m∧toL m=(rR (b.drop 5) [] 5).1:=by
 have hg:=zSO (hr.get 0) (hr.get 1) (hr.get 2) (hr.get 3)
 have e:∀ i:Nat,i<64→BP b (i:Int)=some (b.getD i 0):=fun i hi=>mE (by omega)
 have e0:BP b 0=some (b.getD 0 0):=e 0 (by omega)
 have e1:BP b 1=some (b.getD 1 0):=e 1 (by omega)
 have e2:BP b 2=some (b.getD 2 0):=e 2 (by omega)
 have e3:BP b 3=some (b.getD 3 0):=e 3 (by omega)
 have e4:BP b 4=some (b.getD 4 0):=e 4 (by omega)
 have hgen:FK .i64 (FK .i64 (FK .i64 (wrap .i64 (b.getD 0 0)) (gZ .i64 (wrap .i64 (b.getD 1 0)) 8)) (gZ .i64 (wrap .i64 (b.getD 2 0)) 16)) (gZ .i64 (wrap .i64 (b.getD 3 0)) 24)=gL b:=hg
 unfold rK tV
 rw [e0,AA,e1,AA,e2,AA,e3,AA,e4,AA,hgen]
 by_cases h4:b.getD 4 0≠0
 ·left
  rw [if_pos (.inl h4),yF (by simpa using h4),AA]
  exact ⟨O,O⟩
 ·rw [zX (by simpa using h4)]
  by_cases hg1:gL b<1
  ·left
   rw [if_pos (.inr (.inl hg1)),yF (by simpa using hg1),AA]
   exact ⟨O,O⟩
  ·rw [zX (by simpa using hg1),AA]
   by_cases hg2:gL b>2147483648
   ·left
    rw [if_pos (.inr (.inr hg2)),yF (by simpa using hg2)]
    exact ⟨O,O⟩
   ·right
    rw [if_neg (by simp only [not_or]; exact ⟨h4,hg1,hg2⟩),zX (by simpa using hg2)]
    obtain ⟨m',h1,h2,h3⟩:=zHF hr hl (gL b) (b.drop 5).length 5 [] (Nat.le_refl _) (by omega) (by simp [OA,qP])
    have e5:toL []= []:=by simp [toL,gB,qP]
    rw [e5] at h1 h3
    refine ⟨m',O,?_,h2,h3⟩
    have ht:=(Nl 5 (hr.drop 5) KW.nil).2.2
    simp only [List.length_drop] at ht
    unfold Vt at h1
    refine uL h1 ?_
    simp only
    rw [zKm (by omega),AA,zKt (by simp; omega),AA]
structure OS where
 act:Int
 gen:Int
 K:List zD
 tail:Int
 clean:Bool
def pick (o:OS) (i:Int) (b:List Int):OS:=match tV b with
 | none=>o
 | some (g,K,t)=>if g>o.gen then ⟨i,g,K,(t:Int),vT (b.drop t)⟩ else o
def yZ (d:zA) (k:Nat):List Int:=(d.bytes.drop (k*d.size.toNat)).take d.size.toNat
def os0:OS:=⟨-1,0, [],0,false⟩
def DK (d:zA) (f:Nat):OS:=pick (pick os0 0 (yZ d f)) 1 (yZ d (f+1))
structure QS (s:zE) (f:Nat) (o:OS):Prop where
 d:s.d=true
 first:s.first=(f:Int)
 act:s.active=o.act
 gen:s.generation=o.gen
 all:∃ m,s.all=some m∧OA m∧toL m=o.K
 tail:s.tail=o.tail
 clean:s.clean=o.clean
 ended:s.ended=false
theorem sP {d:zA} (h:FV d) {k:Nat} (hk:k<d.BD.length):(yZ d k).length=d.size.toNat:=by
 have:=wP h hk
 simp only [yZ,List.length_take,List.length_drop]
 omega
theorem qZ {d:zA} (h:FV d) (k:Nat):DN (yZ d k):=(h.DN.drop _).take _
theorem zFM {d:zA} (h:FV d) (hd:d.down=false) {k:Nat} (hk:k<d.BD.length):Vo d (((k*d.size.toNat:Nat):Int)) d.size=(yZ d k,0):=by
 have h1:=wP h hk
 have h2:=h.size
 unfold Vo
 rw [if_neg (by simp [hd]),if_pos ⟨by omega,by omega,by omega,by omega⟩]
 rfl
def Nq (first:Int):zE × zA × Int→Option (uN (zE × zA × Int) ((zA × (Option zE) × Int) ⊕ (zE × zA))):=
 (fun (s1:zE × zA × Int)=>bif decide (s1.2.2<2) then (bnd (yJ s1.2.1) fun r3=>bnd (yJ s1.2.1) fun r4=>bnd (uE s1.2.1 (wrap .i64 ((wrap .i64 (first+s1.2.2))*r3)) r4) fun r5=>bif (r5.2.2 != 0) then (some (.done (.inl (r5.1,none,r5.2.2)))) else (bnd (rK r5.2.1) fun r6=>bnd ((bif r6.2 then (some (decide (r6.1.generation>s1.1.generation))) else (some false):Option Bool)) fun o4=>bif o4 then (some (.next ((⟨s1.1.d,s1.1.first,s1.2.2,r6.1.generation,r6.1.all,r6.1.tail,r6.1.clean,s1.1.ended⟩:zE),r5.1,wrap .i64 (s1.2.2+1)))) else (some (.next (s1.1,r5.1,wrap .i64 (s1.2.2+1)))))) else (some (.done (.inr (s1.1,s1.2.1)))))
theorem zIn {d:zA} (h:FV d) (hd:d.down=false) (hz:1024≤d.size) {f i:Nat} (hi:i<2) (hf:f+i<d.BD.length) {s:zE} {o:OS} (hs:QS s f o):
  ∃ s',Nq (f:Int) (s,d,(i:Int))=some (.next (s',d,((i+1:Nat):Int)))∧QS s' f (pick o (i:Int) (yZ d (f+i))):=by
 have hw:=h.BD
 have hsz:=h.size
 have hle:=wP h hf
 have hb:=h.bound
 obtain ⟨z,hzz⟩:∃ z:Nat,d.size=(z:Int):=⟨d.size.toNat,by omega⟩
 have hz1:d.size.toNat=z:=by rw [hzz]; rfl
 rw [hz1] at hle
 have hoff:wrap .i64 (wrap .i64 ((f:Int)+(i:Int))*d.size)=(((f+i)*d.size.toNat:Nat):Int):=by
  rw [zZ (x:=(f:Int)+(i:Int)) (by omega) (by omega),hz1,hzz]
  have:((f:Int)+(i:Int))*(z:Int)=(((f+i)*z:Nat):Int):=by simp [Int.add_mul,Nat.add_mul]
  rw [this,xP (by omega)]
 have hrd:=zFM h hd hf
 have hsl:(yZ d (f+i)).length=d.size.toNat:=sP h hf
 have aCS:=zJR (qZ h (f+i)) (by omega) (by omega)
 unfold Nq
 simp only
 rw [yF (by simp; omega)]
 unfold yJ
 rw [AA,AA,zNq h _ _ (by rw [hoff]; omega),AA,hoff,hrd]
 simp only
 rw [zX (by decide)]
 rcases aCS with ⟨h1,h2⟩ | ⟨m,h1,h2,h3,h4⟩
 ·rw [h2,AA]
  simp only
  rw [zX O,AA,cond_false,zZ (by omega) (by omega)]
  refine ⟨s,O,?_⟩
  unfold pick
  rw [h1]
  exact hs
 ·rw [h2,AA]
  simp only
  rw [yF O,AA,zZ (by omega) (by omega)]
  unfold pick
  rw [h1]
  simp only
  by_cases hg:gL (yZ d (f+i))>o.gen
  ·rw [yF (by rw [hs.gen]; simpa using hg),if_pos hg]
   exact ⟨_,O,⟨hs.d,hs.first,O,O,⟨m,O,h3,h4⟩,O,O,hs.ended⟩⟩
  ·rw [zX (by rw [hs.gen]; simpa using hg),if_neg hg]
   exact ⟨s,O,hs⟩
theorem zRy {d:zA} (h:FV d) (hd:d.down=false) (hz:1024≤d.size) {f:Nat} (hf:f+1<d.BD.length):∃ s,xN d (f:Int)=some (d,some s,0)∧QS s f (DK d f):=by
 have hw:=h.BD
 unfold xN
 rw [zX (by simp <;> omega)]
 unfold sE
 rw [AA,AA,zZ (by omega) (by omega),zX (by simp <;> omega)]
 unfold yJ
 rw [AA,zX (by simp <;> omega)]
 have et:toL []= []:=by simp [toL,gB,qP]
 have h0:QS (⟨true,(f:Int),(-1),0,(some []),0,false,false⟩:zE) f os0:=⟨O,O,O,O,⟨[],O,by simp [OA,qP],et⟩,O,O,O⟩
 obtain ⟨s1,e1,r1⟩:=zIn h hd hz (i:=0) (by omega) (by omega) h0
 obtain ⟨s2,e2,r2⟩:=zIn h hd hz (i:=1) (by omega) hf r1
 have e3:Nq (f:Int) (s2,d,((2:Nat):Int))=some (.done (.inr (s2,d))):=by
  unfold Nq
  simp only
  rw [zX (by simp)]
 have hl:=xO e1 (xO e2 (yR e3))
 unfold Nq yJ at hl
 refine ⟨s2,?_,r2⟩
 have e0:((0:Nat):Int)=0:=rfl
 rw [e0] at hl
 exact uL hl O
theorem zNu {o:OS} {i:Int} {b:List Int} (hr:DN b) (h:KW o.K):KW (pick o i b).K:=by
 unfold pick
 cases hb:tV b with
 | none=>exact h
 | some p=>
  obtain ⟨g,K,t⟩:=p
  simp only
  split
  ·unfold tV at hb
   split at hb
   ·cases hb
   ·injection hb with hb
    injection hb with _ hb
    have:=(Nl 5 (hr.drop 5) KW.nil).1
    rw [hb] at this
    exact this
  ·exact h
theorem zPo {d:zA} (h:FV d) (f:Nat):KW (DK d f).K:=zNu (qZ h _) (zNu (qZ h _) KW.nil)
def SI (seen:List Int):List zD→Int
 | []=>0
 | x::r=>if x.Value.length>28∨(x.Delete=true∧x.Value.length>0) then 1 else if x.Key∈seen then 7 else SI (x.Key::seen) r
def kZ (l:List zD):Int:=if l.length>32 then 3 else SI [] l
theorem zKI:∀ (l:List zD) (seen:List Int),SI seen l=0∨SI seen l=1∨SI seen l=7
 | [],_=>.inl O
 | x::r,seen=>by
  unfold SI
  split
  ·exact .inr (.inl O)
  ·split
   ·exact .inr (.inr O)
   ·exact zKI r _
theorem zLc (l:List zD):kZ l=0∨kZ l=1∨kZ l=7∨kZ l=3:=by
 unfold kZ
 split
 ·simp
 ·rcases zKI l [] with h | h | h <;> simp [h]
theorem zMB:∀ {l:List zD} {seen:List Int},SI seen l=0→∀ x∈l,x.Value.length≤28∧(x.Delete=true→x.Value= [])
 | [],_,_,x,hx=>by cases hx
 | y::r,seen,h,x,hx=>by
  unfold SI at h
  split at h
  ·cases h
  ·rename_i h1
   split at h
   ·cases h
   ·rcases List.mem_cons.1 hx with rfl | hx
    ·refine ⟨by omega,fun hd=>List.eq_nil_of_length_eq_zero ?_⟩
     simp only [hd,true_and] at h1
     omega
    ·exact zMB h x hx
theorem Vu {l:List zD} (h:kZ l=0):l.length≤32∧∀ x∈l,x.Value.length≤28∧(x.Delete=true→x.Value= []):=by
 unfold kZ at h
 split at h
 ·cases h
 ·exact ⟨by omega,zMB h⟩
def Nr (BO:List zD):Int × (List (Int × Bool))→Option (uN (Int × (List (Int × Bool))) (Int ⊕ (List (Int × Bool)))):=
 (fun (s1:Int × (List (Int × Bool)))=>bif decide (s1.1<(BO.length:Int)) then (bnd (BP BO s1.1) fun x1=>bnd ((bif decide ((x1.Value.length:Int)>28) then (some true) else (bif x1.Delete then (some (decide ((x1.Value.length:Int)>0))) else (some false)):Option Bool)) fun o3=>bif o3 then (some (.done (.inl 1))) else (bif (vW (yH .u8).eq s1.2 x1.Key).getD false then (some (.done (.inl 7))) else (some (.next (wrap .i64 (s1.1+1),nX (yH .u8).eq s1.2 x1.Key true))))) else (some (.done (.inr s1.2))))
def zPG (e:Int) (m:List (Int × Bool)):Int ⊕ (List (Int × Bool)):=if e=0 then .inr m else .inl e
theorem zJK {l:List zD} (hl:l.length≤1000000):∀ (k i:Nat) (m:List (Int × Bool)) (seen:List Int),i+k=l.length→(∀ q,(vW (yH .u8).eq m q).getD false=decide (q∈seen))→
  ∃ m',yC (Nr l) ((i:Int),m)=some (zPG (SI seen (l.drop i)) m')
 | 0,i,m,seen,h,_=>by
  refine ⟨m,yR ?_⟩
  unfold Nr
  simp only
  rw [zX (by simp; omega),List.drop_eq_nil_of_le (by omega)]
  rfl
 | k+1,i,m,seen,h,hm=>by
  have hi:i<l.length:=by omega
  have hd:l.drop i=l[i]::l.drop (i+1):=(List.getElem_cons_drop (h:=hi)).symm
  rw [hd]
  have hst:Nr l ((i:Int),m)=some (if l[i].Value.length>28∨(l[i].Delete=true∧l[i].Value.length>0) then .done (.inl 1) else if l[i].Key∈seen then .done (.inl 7) else .next (((i+1:Nat):Int),nX (yH .u8).eq m l[i].Key true)):=by
   unfold Nr
   simp only
   rw [yF (by simp; omega),xJ hi,AA]
   have hc:(bif decide ((l[i].Value.length:Int)>28) then (some true) else (bif l[i].Delete then (some (decide ((l[i].Value.length:Int)>0))) else (some false)):Option Bool)=some (decide (l[i].Value.length>28∨(l[i].Delete=true∧l[i].Value.length>0))):=by
    by_cases h1:l[i].Value.length>28
    ·rw [yF (by simp; omega),decide_eq_true (.inl h1)]
    ·rw [zX (by simp; omega)]
     cases hdl:l[i].Delete
     ·rw [cond_false]
      congr 1
      symm
      simp [h1]
     ·rw [cond_true]
      congr 1
      rw [decide_eq_decide]
      simp [h1]
   rw [hc,AA,hm]
   by_cases h1:l[i].Value.length>28∨(l[i].Delete=true∧l[i].Value.length>0)
   ·rw [decide_eq_true h1,cond_true,if_pos h1]
   ·rw [decide_eq_false h1,cond_false,if_neg h1]
    by_cases h2:l[i].Key∈seen
    ·rw [decide_eq_true h2,cond_true,if_pos h2]
    ·rw [decide_eq_false h2,cond_false,if_neg h2,yQ hi (by omega)]
  unfold SI
  by_cases h1:l[i].Value.length>28∨(l[i].Delete=true∧l[i].Value.length>0)
  ·rw [if_pos h1] at hst
   rw [if_pos h1]
   exact ⟨m,yR hst⟩
  ·rw [if_neg h1] at hst
   rw [if_neg h1]
   by_cases h2:l[i].Key∈seen
   ·rw [if_pos h2] at hst
    rw [if_pos h2]
    exact ⟨m,yR hst⟩
   ·rw [if_neg h2] at hst
    rw [if_neg h2]
    obtain ⟨m',hm'⟩:=zJK hl k (i+1) (nX (yH .u8).eq m l[i].Key true) (l[i].Key::seen) (by omega) fun q=>by
     rw [zIg iQ]
     by_cases hq:q=l[i].Key
     ·simp [hq]
     ·rw [if_neg hq,hm]
      simp [hq]
    exact ⟨m',xO hst hm'⟩
theorem zQs {l:List zD} (hl:l.length≤1000000):nM l=some (kZ l):=by
 unfold nM kZ
 by_cases h:l.length>32
 ·rw [yF (by simp; omega),if_pos h]
 ·rw [zX (by simp; omega),if_neg h]
  obtain ⟨m',hm'⟩:=zJK hl l.length 0 [] [] (by omega) (fun q=>by simp [vW])
  unfold Nr at hm'
  refine uL hm' ?_
  rw [List.drop_zero]
  unfold zPG
  split
  ·rename_i h0
   rw [h0]
   rfl
  ·rfl
def fS (g:Int):List Int:= [wrap .u8 g,wrap .u8 (rM .i64 g 8),wrap .u8 (rM .i64 g 16),wrap .u8 (rM .i64 g 24)]
def tT (r:zA × Int) (f:zA→zA × Int):zA × Int:=if r.2=0 then f r.1 else r
def wG (o:OS):Nat:=if o.act=0 then 1 else 0
def pM (o:OS) (d:zA) (f:Nat) (next:List zD):zA × Int:=
 let k:=f+wG o
 let at_:Int:=((k*d.size.toNat:Nat):Int)
 tT (tT (tT (if vT (yZ d k) then (d,0) else vF d (k:Int)) fun d1=>zW d1 at_ (fS (o.gen+1))) fun d2=>if next= [] then (d2,0) else zW d2 (at_+5) (xI next)) fun d3=>zW d3 (at_+4) [0]
def Ag (o:OS) (next:List zD):OS:=⟨(wG o:Int),o.gen+1,next,5+(if next= [] then 0 else ((xI next).length:Int)),true⟩
def eG (o o':OS) (r:zA × Int):Option OS × zA × Int:=if r.2=0 then (some o',r.1,0) else if r.2=10 then (none,r.1,10) else (some o,r.1,r.2)
def cS (o:OS) (d:zA) (f:Nat) (l:List zD):Option OS × zA × Int:=
 if d.down then (none,d,10) else if kZ l≠0 then (some o,d,kZ l) else if l= [] then (some o,d,0) else if (wC o.K l).length>32 then (some o,d,3) else
  if 0≤o.act∧o.clean=true∧((xI l).length:Int)≤d.size - o.tail then eG o ⟨o.act,o.gen,wC o.K l,o.tail+(xI l).length,o.clean⟩ (zW d (((f+o.act.toNat)*d.size.toNat:Nat)+o.tail) (xI l))
  else if o.gen=2147483648 then (some o,d,3) else eG o (Ag o (wC o.K l)) (pM o d f (wC o.K l))
def zTn:zE:=⟨false,0,0,0,none,0,false,true⟩
def zVq (s':zE) (f:Nat) (o:Option OS):Prop:=match o with
 | none=>s'=zTn
 | some o=>QS s' f o
structure Ns (o:OS):Prop where
 K:KW o.K
 act: -1≤o.act∧o.act≤1
 tail:0≤o.tail∧o.tail≤16384
 gen:0≤o.gen∧o.gen≤2147483648
theorem nJ {l:List zD} (hl:l.length≤32) (h:∀ x∈l,PY x):DN (xI l):=by
 unfold xI
 refine DN.app (DN.cons ?_ fun y hy=>?_) (DN.cons (by decide) DN.nil)
 ·rw [bN (by omega) (by omega)]; omega
 ·obtain ⟨x,hx,hy⟩:=List.mem_flatMap.1 hy
  have hok:=h x hx
  unfold kX at hy
  split at hy
  ·simp only [List.mem_cons,List.not_mem_nil,or_false] at hy
   rcases hy with rfl | rfl
   ·exact hok.key
   ·decide
  ·rcases List.mem_cons.1 hy with rfl | hy
   ·exact hok.key
   ·rcases List.mem_cons.1 hy with rfl | hy
    ·have:=hok.len
     rw [bN (by omega) (by omega)]
     omega
    ·exact hok.DN y hy
theorem Ah {l:List zD} (hl:l.length≤32) (h:∀ x∈l,PY x):2≤(xI l).length∧(xI l).length≤962:=by
 have key:∀ (l:List zD),(∀ x∈l,PY x)→(l.flatMap kX).length≤l.length*30:=by
  intro l
  induction l with
  | nil=>intro _; simp
  | cons x r ih=>
   intro h
   have h1:=(zKj x).2
   have h2:=(h x (by simp)).len
   have h3:=ih fun y hy=>h y (by simp [hy])
   simp only [List.flatMap_cons,List.length_append,List.length_cons]
   omega
 have:=key l h
 unfold xI
 simp only [List.length_append,List.length_cons,List.length_nil]
 omega
theorem Nu (g:Int):DN (fS g):=by
 have h:∀ x:Int,0≤wrap .u8 x∧wrap .u8 x≤255:=fun x=>by rw [eV]; omega
 exact DN.cons (h _) (DN.cons (h _) (DN.cons (h _) (DN.cons (h _) DN.nil)))
theorem Vw {r:zA × Int} {g:zA→zA × Int} {d:zA} (hr:FV r.1∧r.1.size=d.size∧r.1.BD.length=d.BD.length∧r.1.bytes.length=d.bytes.length∧r.1.BQ=d.BQ)
  (hg:∀ e,FV e→e.size=d.size→e.BD.length=d.BD.length→e.bytes.length=d.bytes.length→e.BQ=d.BQ→FV (g e).1∧(g e).1.size=d.size∧(g e).1.BD.length=d.BD.length∧(g e).1.bytes.length=d.bytes.length∧(g e).1.BQ=d.BQ):
  FV (tT r g).1∧(tT r g).1.size=d.size∧(tT r g).1.BD.length=d.BD.length∧(tT r g).1.bytes.length=d.bytes.length∧(tT r g).1.BQ=d.BQ:=by
 unfold tT
 split
 ·exact hg r.1 hr.1 hr.2.1 hr.2.2.1 hr.2.2.2.1 hr.2.2.2.2
 ·exact hr
theorem zKE {d:zA} (h:FV d) {b:List Int} (hb:DN b) (at_:Int):FV (zW d at_ b).1∧(zW d at_ b).1.size=d.size∧(zW d at_ b).1.BD.length=d.BD.length∧(zW d at_ b).1.bytes.length=d.bytes.length∧(zW d at_ b).1.BQ=d.BQ:=by
 obtain ⟨h1,h2,h3,h4,h5⟩:=zLq h hb at_
 exact ⟨h1,h2,by rw [h3],h4,h5⟩
theorem Vx {d e:zA} (h:FV e) (h1:e.size=d.size) (h2:e.BD.length=d.BD.length) (h3:e.bytes.length=d.bytes.length) (h4:e.BQ=d.BQ) {b:List Int} (hb:DN b) (at_:Int):
  FV (zW e at_ b).1∧(zW e at_ b).1.size=d.size∧(zW e at_ b).1.BD.length=d.BD.length∧(zW e at_ b).1.bytes.length=d.bytes.length∧(zW e at_ b).1.BQ=d.BQ:=by
 obtain ⟨a1,a2,a3,a4,a5⟩:=zKE h hb at_
 exact ⟨a1,a2.trans h1,a3.trans h2,a4.trans h3,a5.trans h4⟩
theorem zOW {m:oD} {K:List zD} (h:toL m=K) (hK:KW K):∀ k v,lK m k=some v→v.length≤28∧DN v:=fun k v hv=>by
 rw [←Vr,h] at hv
 unfold oM at hv
 rw [Option.map_eq_some_iff] at hv
 obtain ⟨x,hx,rfl⟩:=hv
 have:=hK.ok x (List.mem_of_find?_eq_some hx)
 exact ⟨this.len,this.DN⟩
def zPp (s:zE) (o:OS) (m:oD) (N:List zD):zE:=⟨s.d,s.first,(wG o:Int),o.gen+1,some m,5+(if N= [] then 0 else ((xI N).length:Int)),true,s.ended⟩
theorem zRp {s:zE} {f:Nat} {o:OS} {d:zA} {m:oD} {N:List zD} (hs:QS s f o) (ho:Ns o) (hg:o.gen≠2147483648) (h:FV d) (hd:d.down=false) (hz:1024≤d.size) (hf:f+1<d.BD.length) (hm:OA m) (hN:toL m=N) (hK:KW N) (hsm:N.length≤eR):
  uQ s (some m) d=some (if (pM o d f N).2=0 then zPp s o m N else s,(pM o d f N).1,(pM o d f N).2):=by
 have hw:=h.BD
 have hsz:=h.size
 have hgb:=ho.gen
 have hb:=h.bound
 obtain ⟨z,hzz⟩:∃ z:Nat,d.size=(z:Int):=⟨d.size.toNat,by omega⟩
 have hz1:d.size.toNat=z:=by rw [hzz]; rfl
 have hk:f+wG o<d.BD.length:=by unfold wG; split <;> omega
 have hle:=wP h hk
 rw [hz1] at hle
 have hoth:((bif (s.active==0) then (some 1) else (some 0):Option Int))=some ((wG o:Nat):Int):=by
  rw [hs.act]
  unfold wG
  by_cases ha:o.act=0
  ·rw [yF (by simpa using ha),if_pos ha]; rfl
  ·rw [zX (by simpa using ha),if_neg ha]; rfl
 have YP:nD s.d=some true:=by rw [hs.d]; rfl
 have rf:wG o≤1:=by unfold wG; split <;> omega
 have hfo:wrap .i64 (s.first+((wG o:Nat):Int))=((f+wG o:Nat):Int):=by rw [hs.first,zZ (by omega) (by omega)]; omega
 have hoff:wrap .i64 (((f+wG o:Nat):Int)*d.size)=(((f+wG o)*d.size.toNat:Nat):Int):=by
  rw [hz1,hzz]
  have:(((f+wG o:Nat):Int)*(z:Int))=(((f+wG o)*z:Nat):Int):=by simp
  rw [this,xP (by omega)]
 have hgen:wrap .i64 (s.generation+1)=o.gen+1:=by rw [hs.gen,zZ (by omega) (by omega)]
 have hsl:(yZ d (f+wG o)).length=d.size.toNat:=sP h hk
 have hbl:=zKt (b:=yZ d (f+wG o)) (by omega)
 have he:=zQN h ((f+wG o:Nat):Int) (by omega)
 unfold uQ
 rw [zX (by rw [hs.gen]; simpa using hg),hoth,AA,YP,AA]
 unfold yJ
 rw [AA,AA,AA,hfo,hoff,hgen,zNq h _ _ (by omega),AA,zFM h hd hk]
 -- the first stage
 obtain ⟨r1,hr1⟩:∃ r1,(if vT (yZ d (f+wG o)) then (d,0) else vF d ((f+wG o:Nat):Int))=r1:=⟨_,rfl⟩
 have ok1:FV r1.1∧r1.1.size=d.size∧r1.1.BD.length=d.BD.length∧r1.1.bytes.length=d.bytes.length∧r1.1.BQ=d.BQ:=by
  rw [←hr1]
  split
  ·exact ⟨h,O,O,O,O⟩
  ·exact zDA h _
 refine uL (a:=(r1.2,r1.1)) ?_ ?_
 ·rw [yF (by rfl),hbl,AA,AA,←hr1]
  cases vT (yZ d (f+wG o))
  ·simp only [Bool.not_false,cond_true,YP,AA,he]
   rfl
  ·rfl
 simp only
 -- the generation
 obtain ⟨r2,hr2⟩:∃ r2,(tT r1 fun d1=>zW d1 (((f+wG o)*d.size.toNat:Nat):Int) (fS (o.gen+1)))=r2:=⟨_,rfl⟩
 have ok2:FV r2.1∧r2.1.size=d.size∧r2.1.BD.length=d.BD.length∧r2.1.bytes.length=d.bytes.length∧r2.1.BQ=d.BQ:=by
  rw [←hr2]
  exact Vw ok1 fun e a b c g t=>Vx a b c g t (Nu _) _
 refine uL (a:=(r2.2,r2.1)) ?_ ?_
 ·rw [←hr2]
  unfold tT
  by_cases h0:r1.2=0
  ·rw [yF (by simpa using h0),if_pos h0,AA]
   have:=bF ok1.1 (Nu (o.gen+1)) (((f+wG o)*d.size.toNat:Nat):Int) (by omega)
   unfold fS at this
   rw [this,AA]
   rfl
  ·rw [zX (by simpa using h0),if_neg h0]
 simp only
 -- the settings
 obtain ⟨r3,hr3⟩:∃ r3,(tT r2 fun d2=>if N= [] then (d2,0) else zW d2 ((((f+wG o)*d.size.toNat:Nat):Int)+5) (xI N))=r3:=⟨_,rfl⟩
 have Vy:FV r3.1∧r3.1.size=d.size∧r3.1.BD.length=d.BD.length∧r3.1.bytes.length=d.bytes.length∧r3.1.BQ=d.BQ:=by
  rw [←hr3]
  refine Vw ok2 fun e a b c g t=>?_
  split
  ·exact ⟨a,b,c,g,t⟩
  ·exact Vx a b c g t (nJ hK.len hK.ok) _
 have hmo:pM o d f N=tT r3 fun d3=>zW d3 ((((f+wG o)*d.size.toNat:Nat):Int)+4) [0]:=by
  unfold pM
  simp only
  rw [hr1,hr2,hr3]
 have hlen:(((some m:Option oD).getD []).length:Int)=(N.length:Int):=by
  show (m.length:Int)=_
  rw [←hN,Nk]
 refine uL (a:=(if r2.2=0∧N≠ [] then 5+((xI N).length:Int) else 5,r3.2,r3.1)) ?_ ?_
 ·rw [←hr3,hlen]
  unfold tT
  by_cases h0:r2.2=0
  ·rw [yF (by simpa using h0),AA,if_pos h0]
   dsimp only
   by_cases hne:N= []
   ·rw [if_pos hne,zX (by rw [hne]; rfl),if_neg (by rw [hne]; simp)]
    rw [h0]
   ·have hpos:0<N.length:=List.length_pos_iff.2 hne
    have hel:=Ah hK.len hK.ok
    have hso:wU (some m)=some N:=by
     rw [zOd hm (by have:=Nk m; rw [hN] at this; omega) (fun k v hv=>by have:=(zOW hN hK k v hv).1; omega),hN]
    rw [if_neg hne,yF (by simp; omega),if_pos ⟨h0,hne⟩,hso,AA,zIy (by have:=hK.len; omega) (fun x hx=>by have:=(hK.ok x hx).len; omega),AA,AA,zZ (x:=(((f+wG o)*d.size.toNat:Nat):Int)+5) (by omega) (by rw [hz1]; omega),bF ok2.1 (nJ hK.len hK.ok) _ (by omega),AA,zZ (by omega) (by omega)]
  ·rw [zX (by simpa using h0),AA,cond_false,if_neg h0,if_neg (fun hh=>h0 hh.1)]
 simp only
 -- the status
 refine uL (a:=((pM o d f N).2,(pM o d f N).1)) ?_ ?_
 ·rw [hmo]
  unfold tT
  by_cases h0:r3.2=0
  ·rw [yF (by simpa using h0),if_pos h0,AA,zZ (x:=(((f+wG o)*d.size.toNat:Nat):Int)+4) (by omega) (by rw [hz1]; omega),bF Vy.1 (DN.cons (by decide) DN.nil) _ (by omega),AA]
  ·rw [zX (by simpa using h0),if_neg h0]
 simp only
 by_cases h0:(pM o d f N).2=0
 ·rw [yF (by simpa using h0),if_pos h0]
  have h2:r2.2=0:=by
   by_cases h2:r2.2=0
   ·exact h2
   ·exfalso
    have e3:r3=r2:=by rw [←hr3]; unfold tT; rw [if_neg h2]
    have e4:pM o d f N=r2:=by rw [hmo,e3]; unfold tT; rw [if_neg h2]
    rw [e4] at h0
    exact h2 h0
  unfold zPp
  congr 3
  by_cases hne:N= []
  ·simp [hne]
  ·rw [if_pos ⟨h2,hne⟩,if_neg hne]
 ·rw [zX (by simpa using h0),if_neg h0]
theorem zLf {s s':zE} {f:Nat} {o o':OS} (r:zA × Int) (hs:QS s f o) (hs':QS s' f o'):zVq (if r.2=0 then s' else if r.2=10 then zTn else s) f (eG o o' r).1:=by
 unfold eG
 split
 ·exact hs'
 ·split
  ·rfl
  ·exact hs
theorem zOs {s:zE} {f:Nat} {o:OS} {d:zA} {l:List zD} (hs:QS s f o) (ho:Ns o) (h:FV d) (hz:1024≤d.size) (hf:f+1<d.BD.length) (hll:l.length≤1000000) (hl:∀ x∈l,0≤x.Key∧x.Key≤255∧DN x.Value) (hsx:(wC o.K l).length≤32→(wC o.K l).length≤eR:=by exact fun h=>Nat.le_trans h (by decide)):
  ∃ s',yT s l d=some (s',(cS o d f l).2)∧zVq s' f (cS o d f l).1:=by
 have hw:=h.BD
 have hsz:=h.size
 have hb:=h.bound
 have hot:=ho.tail
 have hoa:=ho.act
 obtain ⟨m,hm1,hm2,Rt⟩:=hs.all
 have YP:nD s.d=some true:=by rw [hs.d]; rfl
 obtain ⟨z,hzz⟩:∃ z:Nat,d.size=(z:Int):=⟨d.size.toNat,by omega⟩
 have hz1:d.size.toNat=z:=by rw [hzz]; rfl
 unfold yT cS
 rw [hs.ended,cond_false,YP,AA]
 unfold qT
 rw [AA,AA]
 cases hd:d.down
 case true=>exact ⟨zTn,rfl,rfl⟩
 rw [cond_false,zQs hll,AA,if_neg (by decide)]
 by_cases hc:kZ l≠0
 ·rw [yF (by simpa using hc),AA,cond_true,if_pos hc]
  exact ⟨s,O,hs⟩
 have hc0:kZ l=0:=by omega
 rw [zX (by simpa using hc),AA,if_neg hc]
 by_cases hnil:l= []
 ·rw [yF (by rw [hnil]; rfl),if_pos hnil,hc0]
  exact ⟨s,O,hs⟩
 have hpos:0<l.length:=List.length_pos_iff.2 hnil
 have hco:=Vu hc0
 have KG:∀ x∈l,PY x:=fun x hx=>⟨⟨(hl x hx).1,(hl x hx).2.1⟩,(hco.2 x hx).1,(hl x hx).2.2,(hco.2 x hx).2⟩
 rw [zX (by simp; omega),if_neg hnil,hm1,zLp m l hll (fun x hx=>by have:=(hco.2 x hx).1; omega),AA]
 have hla:(((some (aZ m l):Option oD).getD []).length:Int)=((wC o.K l).length:Int):=by
  show ((aZ m l).length:Int)=_
  rw [zLi hm2,Rt]
 have hta:toL (aZ m l)=wC o.K l:=by rw [Vs hm2,Rt]
 rw [hla]
 by_cases h32:(wC o.K l).length>32
 ·rw [yF (by simp; omega),if_pos h32]
  exact ⟨s,O,hs⟩
 rw [zX (by simp; omega),if_neg h32]
 have KP:KW (wC o.K l):=ho.K.all KG (by omega)
 have hel:=Ah hco.1 KG
 have her:=nJ hco.1 KG
 rw [zIy (by omega) (fun x hx=>by have:=(hco.2 x hx).1; omega),AA]
 have hcond:((bif decide (s.active≥0) then (bif s.clean then (bnd (some true) fun b2=>bnd (yJ d) fun r5=>some (decide (((xI l).length:Int)≤(wrap .i64 (r5 - s.tail))))) else (some false)) else (some false):Option Bool))=some (decide (0≤o.act∧o.clean=true∧((xI l).length:Int)≤d.size - o.tail)):=by
  rw [hs.act,hs.clean,hs.tail,AA]
  unfold yJ
  rw [AA,zZ (by omega) (by omega)]
  by_cases ha:0≤o.act
  ·rw [yF (by simpa using ha)]
   cases hcl:o.clean
   ·rw [cond_false]
    congr 1
    simp
   ·rw [cond_true]
    congr 1
    rw [decide_eq_decide]
    simp [ha]
  ·rw [zX (by simpa using ha)]
   congr 1
   simp [ha]
 rw [hcond,AA]
 by_cases hap:0≤o.act∧o.clean=true∧((xI l).length:Int)≤d.size - o.tail
 ·rw [decide_eq_true hap,cond_true,if_pos hap,AA]
  unfold yJ
  rw [AA,hs.first,hs.act,hs.tail]
  have hfa:f+o.act.toNat<d.BD.length:=by omega
  have hle:=wP h hfa
  rw [hz1] at hle
  have e1:wrap .i64 ((f:Int)+o.act)=((f+o.act.toNat:Nat):Int):=by rw [zZ (by omega) (by omega)]; omega
  have e2:wrap .i64 (((f+o.act.toNat:Nat):Int)*d.size)=(((f+o.act.toNat)*d.size.toNat:Nat):Int):=by
   rw [hz1,hzz]
   have:(((f+o.act.toNat:Nat):Int)*(z:Int))=(((f+o.act.toNat)*z:Nat):Int):=by simp
   rw [this,xP (by omega)]
  rw [e1,e2,zZ (x:=(((f+o.act.toNat)*d.size.toNat:Nat):Int)+o.tail) (by omega) (by rw [hz1]; omega),bF h her _ (by omega),AA]
  obtain ⟨r,hr⟩:∃ r,zW d ((((f+o.act.toNat)*d.size.toNat:Nat):Int)+o.tail) (xI l)=r:=⟨_,rfl⟩
  rw [hr]
  have hs':QS (⟨s.d,(f:Int),o.act,s.generation,some (aZ m l),o.tail+((xI l).length:Int),s.clean,s.ended⟩:zE) f ⟨o.act,o.gen,wC o.K l,o.tail+((xI l).length:Int),o.clean⟩:=⟨hs.d,O,O,hs.gen,⟨_,O,Ae hm2,hta⟩,O,hs.clean,hs.ended⟩
  refine ⟨_,?_,zLf r hs hs'⟩
  unfold eG
  by_cases h0:r.2=0
  ·rw [yF (by simpa using h0),zX (by rw [h0]; rfl),if_pos h0,if_pos h0,zZ (by omega) (by omega)]
   rw [h0,hs.ended]
  ·rw [zX (by simpa using h0),if_neg h0,if_neg h0]
   by_cases h10:r.2=10
   ·rw [yF (by simpa using h10),if_pos h10,if_pos h10,h10]
    rfl
   ·rw [zX (by simpa using h10),if_neg h10,if_neg h10]
 ·rw [decide_eq_false hap,cond_false,if_neg hap]
  by_cases hg:o.gen=2147483648
  ·rw [if_pos hg]
   unfold uQ
   rw [yF (by rw [hs.gen]; simpa using hg),AA]
   simp only
   rw [zX (by decide)]
   exact ⟨s,O,hs⟩
  ·rw [if_neg hg,zRp hs ho hg h hd hz hf (Ae hm2) hta KP (hsx KP.len),AA]
   obtain ⟨r,hr⟩:∃ r,pM o d f (wC o.K l)=r:=⟨_,rfl⟩
   rw [hr]
   have hs':QS (zPp s o (aZ m l) (wC o.K l)) f (Ag o (wC o.K l)):=⟨hs.d,hs.first,O,O,⟨_,O,Ae hm2,hta⟩,O,O,hs.ended⟩
   refine ⟨_,?_,zLf r hs hs'⟩
   unfold eG
   simp only
   by_cases h0:r.2=0
   ·rw [zX (by rw [h0]; rfl),if_pos h0,if_pos h0,if_pos h0,h0]
   ·rw [if_neg h0,if_neg h0,if_neg h0]
    by_cases h10:r.2=10
    ·rw [yF (by simpa using h10),if_pos h10,if_pos h10,h10]
     rfl
    ·rw [zX (by simpa using h10),if_neg h10,if_neg h10]
end Go.Proofs.YtplchdlgdjcojaaGreatDoor
end
