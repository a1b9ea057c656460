/-
  Texts of this seat, put together: rules, walks, plain laws.
  Conditions: none.
-/
import Derived.Test.YtplchdlgdjcojaaGreatDoorPQ3
noncomputable section
namespace Go.Proofs.YtplchdlgdjcojaaGreatDoor
open Go IntKind
set_option linter.unusedVariables false
set_option linter.unusedSimpArgs false
set_option linter.unusedSectionVars false
set_option maxHeartbeats 4000000
set_option maxRecDepth 10000
theorem jC [AP] {AL BG BB A1 c1 A2 c2 A3 c3 A4 c4 A5 c5 A6 c6 A7 c7 M1 AZ BJ DW r} (h:vD AL BG BB=some r):
    BA Tryz.prog 67 [.pointer (some ⟨AZ,0,none⟩)] [.ro (AV zS A2 c2 AL.needs), .ro (AV yW A3 c3 AL.load.Have), .ro (AV AQ A4 c4 AL.load.Data), .ro (AV zU A5 c5 AL.order), .res (Box AZ 144 (zL AL BJ A1 c1 A2 c2 A3 c3 A4 c4 A5 c5)), .res (yU (zT zC) 64 A1 c1 AL.devices), .res (Box BJ 135 (zR BG DW M1)), .res (yV (yH .u8) (CY AQ) M1 BG.all), .res (Box DW 131 (zG BB A6 c6 A7 c7)), .res (zI AQ 5 A6 c6 BB.bytes), .res (zI zU 3 A7 c7 BB.BD)] (fun v F=>∃ A8 c8 A9 c9 EC c10 EW c11 FX c12 M2 IE c13 GU c14,v= .int .i64 r.2.2.2∧F= [.ro (AV zS A9 c9 r.1.needs), .ro (AV yW EC c10 r.1.load.Have), .ro (AV AQ EW c11 r.1.load.Data), .ro (AV zU FX c12 r.1.order), .res (Box AZ 144 (zL r.1 BJ A8 c8 A9 c9 EC c10 EW c11 FX c12)), .res (yU (zT zC) 64 A8 c8 r.1.devices), .res (Box BJ 135 (zR r.2.1 DW M2)), .res (yV (yH .u8) (CY AQ) M2 r.2.1.all), .res (Box DW 131 (zG r.2.2.1 IE c13 GU c14)), .res (zI AQ 5 IE c13 r.2.2.1.bytes), .res (zI zU 3 GU c14 r.2.2.1.BD)]):=by
 refine BA.intro Tryz.func67 O O O fun w R=>?_;refine .ab [0] O<|.ab [0,3] O<|.seq<|.a 3 O<|.lb 3 4 O<|.b [0,3,10] O<|.cb h O (fun h=>?_) (fun h=>?_)
 ·refine .region<|.b [0,3] O<|.seq<|.a 3 O<|.lb 9 4 O<|.p O O<|.bd h fun r1 hr1 h=>.cq 11 [5,2,3,4,5] [4,4] 0 (mF (AZ:=AZ) hr1) zQE O<|.b [0,18] O<|.cb h O (fun h=>?_) (fun h=>?_)
  ·refine .ab [2] O ?_;cases h;exact .rv O O ⟨A1,c1,A2,c2,A3,c3,A4,c4,A5,c5,M1,A6,c6,A7,c7,O,O⟩ (zk 11 4 [7,8,9,10] [0,0,4,4,4,4,4] 0 O)
  refine .sk<|.pr [0] O<|.a 1 O<|.bd h fun r2 hr2 h=>.call (fP (AZ:=AZ) (BJ:=BJ) (DW:=DW) hr2) zPq O O O (zd [7,8,9,10] [0,0,4,4,4,4,4] 0 O) ?_;rintro _ _ ⟨A8,c8,A9,c9,EC,c10,EW,c11,FX,c12,M2,IE,c13,GU,c14,rfl,rfl⟩;refine .nm 15 O<|.bf [2] [0,0,0,0,0,0,0,0,0,0,0] 4 O O ?_;cases h;exact .rv O O ⟨A8,c8,A9,c9,EC,c10,EW,c11,FX,c12,M2,IE,c13,GU,c14,O,O⟩ (zk 11 4 [7,8,9,10] [4,4,4,4,4,4,4] 0 O)
 refine .sk<|.pr [0,3] O<|.seq<|.a 3 O<|.lb 9 4 O<|.p O O<|.bd h fun r3 hr3 h=>.cq 11 [5,2,3,4,5] [4,4] 0 (mA (AZ:=AZ) hr3) zQE O<|.b [0,18] O<|.cb h O (fun h=>?_) (fun h=>?_)
 ·refine .ab [2] O ?_;cases h;exact .rv O O ⟨A1,c1,A2,c2,A3,c3,A4,c4,A5,c5,M1,A6,c6,A7,c7,O,O⟩ (zk 11 4 [7,8,9,10] [0,0,4,4,4,4,4] 0 O)
 refine .sk<|.pr [0] O<|.a 1 O<|.bd h fun r4 hr4 h=>.call (fP (AZ:=AZ) (BJ:=BJ) (DW:=DW) hr4) zPq O O O (zd [7,8,9,10] [0,0,4,4,4,4,4] 0 O) ?_;rintro _ _ ⟨KL,c15,LG,c16,LY,c17,KO,c18,JS,c19,M3,JU,c20,KE,c21,rfl,rfl⟩;refine .nm 15 O<|.bf [2] [0,0,0,0,0,0,0,0,0,0,0] 4 O O ?_;cases h;exact .rv O O ⟨KL,c15,LG,c16,LY,c17,KO,c18,JS,c19,M3,JU,c20,KE,c21,O,O⟩ (zk 11 4 [7,8,9,10] [4,4,4,4,4,4,4] 0 O)
theorem zSj:BX Tryz.prog 16:=en Tryz.func16 (by kernel_rfl)
def qI [AP] (store:zE) (devices:(List zB)) (needs:(List yX)) (GI:zA):Option (zE × zA × (Option zM) × Int):=
 bnd ((bif decide ((devices.length:Int)<1) then (some true) else (some (decide ((devices.length:Int)>8))):Option Bool)) fun o1=>bif o1 then (some (store,GI,none,2)) else (bnd (yC (τ:=(zE × zA × (Option zM) × Int) ⊕ Unit) (fun (s1:Int)=>bif decide (s1<(devices.length:Int)) then (bnd (BP devices s1) fun x1=>bnd (sF x1) fun r1=>bif !r1 then (some (.done (.inl (store,GI,none,1)))) else (bnd ((bif decide (s1>0) then (bnd (BP devices (wrap .i64 (s1 - 1))) fun x2=>some (Op.bytesLess x1.Name.toList x2.Name.toList||(x1.Name.toList==x2.Name.toList))) else (some false):Option Bool)) fun o4=>bif o4 then (some (.done (.inl (store,GI,none,7)))) else (some (.next (wrap .i64 (s1+1)))))) else (some (.done (.inr ())))) 0) fun o2=>xL o2 fun o3=>bnd (wI ([]) needs) fun r2=>bif (r2.2 != 0) then (some (store,GI,none,2)) else (bnd (xC needs) fun r3=>bnd (yC (τ:=List zB) (fun (s2:Int × List zB)=>bif decide (s2.1<(devices.length:Int)) then (bnd (BP devices s2.1) fun x3=>bnd (oC x3) fun r4=>bnd (yC (τ:=zB) (fun (s3:zB)=>bnd ((bif s3.BK then (some true) else (some (s3.Running != s3.Active)):Option Bool)) fun o7=>bif o7 then (bnd (lY s3) fun r5=>some (.next r5)) else (some (.done s3))) r4) fun o6=>bnd (app 184 s2.2 [o6]) fun l1=>some (.next (wrap .i64 (s2.1+1),l1))) else (some (.done s2.2))) (0, [])) fun o5=>bnd (vQ store 32) fun r6=>bif !r6.2 then (some (store,GI,(some (⟨true,o5,r3,0,(⟨0,0, [], []⟩:xV),0, []⟩:zM)),0)) else (bnd (tY (⟨true,o5,r3,0,(⟨0,0, [], []⟩:xV),0, []⟩:zM) r6.1) fun r7=>bif !r7.2 then (some (store,GI,none,6)) else (bnd (vD r7.1 store GI) fun r8=>bif (r8.2.2.2 != 0) then (some (r8.2.1,r8.2.2.1,none,r8.2.2.2)) else (some (r8.2.1,r8.2.2.1,(some r8.1),0))))))
theorem zBy [AP] {store devices needs GI A1 c1 A2 c2 A3 c3 A4 c4 M1 AZ BJ r} (h:qI store devices needs GI=some r):
    BA Tryz.prog 16 [.pointer (some ⟨AZ,0,none⟩), .slice A1 devices.length c1, .slice A2 needs.length c2] [.ro (Sl (zT zC) A1 c1 devices), .ro (AV zS A2 c2 needs), .ro (TS 0 [(2,some 315),(3,some 316)]), .res (Box AZ 135 (zR store BJ M1)), .res (yV (yH .u8) (CY AQ) M1 store.all), .res (Box BJ 131 (zG GI A3 c3 A4 c4)), .res (zI AQ 5 A3 c3 GI.bytes), .res (zI zU 3 A4 c4 GI.BD)] (VE r.2.2.1 (fun v F=>∃ M2 A5 c5 A6 c6,v= .tuple #[.pointer none, .int .i64 r.2.2.2]∧F= [.res (Box AZ 135 (zR r.1 BJ M2)), .res (yV (yH .u8) (CY AQ) M2 r.1.all), .res (Box BJ 131 (zG r.2.1 A5 c5 A6 c6)), .res (zI AQ 5 A5 c5 r.2.1.bytes), .res (zI zU 3 A6 c6 r.2.1.BD)]) (fun q_ v F=>∃ g1 M2 A5 c5 A6 c6 A7 c7 A8 c8 A9 c9 EC c10 EW c11,v= .tuple #[.pointer (some ⟨g1,0,none⟩), .int .i64 r.2.2.2]∧F= [.ro (AV zS A8 c8 q_.needs), .ro (AV yW A9 c9 q_.load.Have), .ro (AV AQ EC c10 q_.load.Data), .ro (AV zU EW c11 q_.order), .res (Box AZ 135 (zR r.1 BJ M2)), .res (yV (yH .u8) (CY AQ) M2 r.1.all), .res (Box BJ 131 (zG r.2.1 A5 c5 A6 c6)), .res (zI AQ 5 A5 c5 r.2.1.bytes), .res (zI zU 3 A6 c6 r.2.1.BD), .res (Box g1 144 (zL q_ AZ A7 c7 A8 c8 A9 c9 EC c10 EW c11)), .res (yU (zT zC) 64 A7 c7 q_.devices)])):=by
 refine BA.intro Tryz.func16 O O O fun w R=>?_;refine .ab [0,1,2] O<|.seq<|.seq<|.bd h fun o1 hj1 h=>.DV 0 (fun (e1:Unit)=>[0,1,2, .s 25 (.bool o1)]) (fun e1=>[]) O O ?_ ?_
 ·refine .region<|.n 4 O<|.gs 21 hj1 O (fun hj1=>?_) (fun hj1=>?_)
  ·cases hj1;exact .be O<|.hU O zw
  cases hj1;exact .be O<|.hU O zw
 rintro e1;refine .cb h O (fun h=>?_) (fun h=>?_)
 ·refine .EK [6,7] [] 2 O O ?_;cases h;exact .rv O O (wS ⟨M1,A3,c3,A4,c4,O,O⟩) (zl [] 1 O)
 refine .sk<|.pr [0,1,2] O<|.seq<|.ae O<|.bd h fun o2 hl1 h=>.ES 0 (fun (o3:Unit) (e3:Unit)=>[0,1,2]) (fun o3 e3=>[]) O O (fun o3=>o2= .inr o3) ?_ ?_
 ·refine .block<|.BM hl1 0 (fun (s1:Int) (e2:Unit)=>[0,1,2,26,27, .s 28 (.int .i64 s1)]) (fun s1 e2=>[]) O O () (zb O) (fun _ w=>w) ?_;rintro s1 e2 st1 hm1 hd1 h1;refine .ae O<|.seq<|.cb h1 O (fun h1=>?_) (fun h1=>?_)
  ·refine .sk<|.pr [0,1,2,26,27,28] O<|.seq<|.block<|.a 1 O<|.bd h1 fun x1 hx1 h1=>.KY hx1 0 O fun b1 DY FC=>?_;obtain ⟨⟨A5,c5⟩,⟨⟨A6,c6⟩,_⟩⟩:=FC;refine .nm 11 O<|.ld DY 0 0 O<|.alloc O O fun g1=>.p O O<|.sb 0 0 O<|.bf [0,1,2,8,9,26,27,28] [0] 1 O O<|.seq<|.seq<|.region<|.lb 0 0 O<|.bd h1 fun r1 hr1 h1=>.cv [1,2] (nK hr1) xw O<|.b [0,1,2,8,9,26,27,28,35] O<|.cb h1 O (fun h1=>?_) (fun h1=>?_)
   ·refine .EK [6,7] [] 5 O O ?_;cases h1;cases hd1 _ rfl
    have h:some _=some _:=h;cases h;exact .rv O O (wS ⟨M1,A3,c3,A4,c4,O,O⟩) (zl [] 1 O)
   refine .sk<|.pr [0,1,2,8,9,26,27,28] O<|.seq<|.bd h1 fun o4 hj2 h1=>.cu 3 [0,1,2,26,27,28, .s 48 (.bool o4)] [] O O ?_ ?_
   ·refine .regionF mixed (by kernel_rfl)<|.n 3 O<|.gs 38 hj2 O (fun hj2=>?_) (fun hj2=>?_)
    ·refine .n 1 O<|.BN O O<|.lb 0 0 O<|.n 3 O<|.BN O O<|.bd hj2 fun x2 hx2 hj2=>.KY hx2 3 O fun b2 JD JQ=>?_;obtain ⟨⟨A7,c7⟩,⟨⟨A8,c8⟩,_⟩⟩:=JQ;refine .nm 14 O<|.n 1 O<|.BN O O<|.ld JD 0 0 O ?_;cases hj2;exact .beq O<|.hU O (zl [] 6 O)
    cases hj2;exact .beq O<|.hU O (zl [] 3 O)
   refine .cb h1 O (fun h1=>?_) (fun h1=>?_)
   ·refine .EK [6,7] [] 2 O O ?_;cases h1;cases hd1 _ rfl
    have h:some _=some _:=h;cases h;exact .rv O O (wS ⟨M1,A3,c3,A4,c4,O,O⟩) (zl [] 1 O)
   refine .skip<|.BL<|.AO<|.pr [0,1,2,26,27,28] O<|.region ?_;cases h1;exact .be O<|.ag () hm1 O zw
  refine .xq O ?_;cases h1;cases hd1 _ rfl
  exact .AO<|.CZ () () O (zb O) zw
 rintro o3 e3 ho;subst ho;have h:=JG h;refine .seq<|.a 1 O<|.AY (fun _ w=>w.CU (CY zK))<|.bd h fun r2 hr2 h=>.cv [0,2] (uK hr2) ZN O<|.bf [0,1,2,11] [] 1 O O<|.ab [0,1,2,56] O<|.cb h O (fun h=>?_) (fun h=>?_)
 ·refine .EK [6,7] [] 2 O O ?_;cases h;exact .rv O O (wS ⟨M1,A3,c3,A4,c4,O,O⟩) (zl [] 1 O)
 refine .sk<|.pr [0,1,2] O<|.a 2 O<|.bd h fun r3 hr3 h=>.cr 9 [1] [] 0 (vU hr3) C9 O fun A9 c9=>.p O O<|.box O O fun g2=>.bf [0,1,12] [0,0,0] 1 O O<|.seq<|.ab [0,12,62,63,64] O<|.AY (fun _ w=>w.MK (zT zC) 64)<|.bd h fun o5 hl2 h=>.DV 4 (fun (e6:Option Addr × Nat)=>[0,12]) (fun e6=>[.res (yU (zT zC) 64 e6.1 e6.2 o5), .res (Box g2 144 [.pointer (some ⟨AZ,0,none⟩), .slice e6.1 o5.length e6.2, .slice A9 r3.length c9, .int .i64 0, .int .i64 0, .int .i64 0, .slice none 0 0, .slice none 0 0, .int .u8 0, .slice none 0 0]),2]) O O ?_ ?_
 ·refine .block<|.BM hl2 2 (fun (s2:Int × List zB) (e5:Option Addr × Nat)=>[0,12,62,63, .s 64 (.int .i64 s2.1)]) (fun s2 e5=>[.res (yU (zT zC) 64 e5.1 e5.2 s2.2), .res (Box g2 144 [.pointer (some ⟨AZ,0,none⟩), .slice e5.1 s2.2.length e5.2, .slice A9 r3.length c9, .int .i64 0, .int .i64 0, .int .i64 0, .slice none 0 0, .slice none 0 0, .int .u8 0, .slice none 0 0])]) O O (none,0) (zb O) (fun _ w=>w) ?_;rintro s2 ⟨EC,c10⟩ st2 hm2 hd2 h2;refine .ae O<|.seq<|.cb h2 O (fun h2=>?_) (fun h2=>?_)
  ·refine .sk<|.pr [0,12,62,63,64] O<|.seq<|.block<|.seq<|.region<|.bd h2 fun x3 hx3 h2=>.KY hx3 3 O fun b3 MP MX=>?_;obtain ⟨⟨FX,c12⟩,⟨⟨IE,c13⟩,_⟩⟩:=MX;refine .nm 13 O<|.ld MP 0 0 O<|.alloc O O fun g3=>.sb 0 0 O<|.bf [0,12,14,62,63,64] [0] 1 O O<|.seq<|.region<|.lb 0 0 O<|.bd h2 fun r4 hr4 h2=>.ct 15 [1,2] [] 0 (aL hr4) zSf O fun GU c14 KL c15=>.sb 0 2 O<|.bf [0,12,14,62,63,64] [0,0,0] 2 O O<|.seq<|.bd h2 fun o6 hl3 h2=>.DV 3 (fun (e8:Option Addr × Nat × Option Addr × Nat)=>[0,12,14,62,63,64]) (fun e8=>[.ro (AV AQ e8.2.2.1 e8.2.2.2 o6.Slots.e1.AU.Data), .ro (AV AQ e8.1 e8.2.1 o6.Slots.e0.AU.Data), .res (Box g3 64 (zF o6 e8.1 e8.2.1 e8.2.2.1 e8.2.2.2))]) O O ?_ ?_
   ·refine .block<|.BM hl3 3 (fun (s3:zB) (e7:Option Addr × Nat × Option Addr × Nat)=>[0,12,14,62,63,64]) (fun s3 e7=>[.ro (AV AQ e7.2.2.1 e7.2.2.2 s3.Slots.e1.AU.Data), .ro (AV AQ e7.1 e7.2.1 s3.Slots.e0.AU.Data), .res (Box g3 64 (zF s3 e7.1 e7.2.1 e7.2.2.1 e7.2.2.2))]) O O (GU,c14,KL,c15) (zb O) (zl [2,1] 0 O) ?_;rintro s3 ⟨LG,c16,LY,c17⟩ st3 Rt hd3 h3;refine .seq<|.seq<|.bd h3 fun o7 hj3 h3=>.cu 0 [0,12,14,62,63,64, .s 78 (.bool o7)] [] O O ?_ ?_
    ·refine .region<|.p O O<|.lb 15 2 O<|.p O O<|.gs 72 hj3 O (fun hj3=>?_) (fun hj3=>?_)
     ·cases hj3;exact .be O<|.hU O zw
     refine .n 1 O<|.BN O O<|.lb 14 2 O<|.n 1 O<|.BN O O<|.lb 13 2 O ?_;cases hj3;exact .be O<|.hU O zw
    refine .cb h3 O (fun h3=>?_) (fun h3=>?_)
    ·refine .sk<|.pr [0,12,14,62,63,64] O<|.block<|.region<|.lb 0 2 O<|.bd h3 fun r5 JH h3=>.ct 15 [1,0] [] 0 (zGB JH) zRU O fun JU c20 KE c21=>.sb 0 4 O<|.done<|.BL<|.AY (fun _ w=>(w.sl [1] 0 O).BU)<|.AY (fun _ w=>(w.sl [2] 0 O).BU) ?_;cases h3;exact .AO<|.ag (JU,c20,KE,c21) Rt O (zl [0,0,0] 2 O)
    refine .xq O ?_;cases h3;cases hd3 _ rfl
    exact .AO<|.hE (LG,c16,LY,c17) O zw
   rintro ⟨KO,c18,JS,c19⟩;refine .bd h2 fun l1 hl1 h2=>.BI (iN [0,4,8,12,20] (.alt (iN [19] (iN [27] (iN [31,32,36] (iN [43] .nil)))) (iN [27] (iN [19] (iN [31,32,36] (iN [43] .nil)))))) _ mixed (by kernel_rfl) (zl [0,0,0] 2 O)<|.DX (Y:=?IZ) 0 (fun (e:Nat)=>[0,12,62,63,64, .s 81 (.pointer (some ⟨g2,0,none⟩)), .s 85 (.slice EC s2.2.length c10), .s 87 (.slice (some ⟨e,0,none⟩) 1 1)]) (fun e=>[.res (Box e 64 (zF o6 KO c18 JS c19))]) O O (fun DL=>?EQ) ?ER
   case EQ=>
    refine .yn 4 O<|.yl 0 2 O<|.FY ?_ ?_
    ·refine .BV<|.lb 1 4 O<|.xk (zl [0,0,0] 2 O)<|.BV<|.bS O fun g4=>.xk (zl [1,1,1] 3 O) ?_;refine DL _ _ g4 ?_ ?_
     ·exact ⟨O,O,O,O,O,O,O,O,trivial⟩
     exact fun _ w=>w
    refine .BV<|.bS O fun g4=>.xk (zl [1,1,1] 3 O)<|.BV<|.lb 1 5 O<|.xk (zl [1,1,1] 3 O) ?_;refine DL _ _ g4 ?_ ?_
    ·exact ⟨O,O,O,O,O,O,O,O,trivial⟩
    exact fun _ w=>w
   case ER=>
    rintro g4;refine .nm 14 O<|.BV<|.LW (E:=(zT zC)) hl1 O O O (CS 4 O) O O O O O O O O (cV (ls:=zC) [(o6,((KO,c18),((JS,c19),())))] (.head _) O O O ⟨(zm 2 O),EO,trivial⟩) O O fun LP LQ=>.xk (zl [2,2,2] 3 O)<|.yn 2 O<|.BV<|.sb 1 5 O<|.xk (zl [] 3 O)<|.CQ<|.BL<|.AO<|.pf [0,12,62,63,64] [0,0] 4 O O<|.region ?_;cases h2;exact .be O<|.ag (LP,LQ) hm2 O (zl [1] 0 O)
  refine .xq O ?_;cases h2;cases hd2 _ rfl
  exact .AO<|.hE (EC,c10) O (zl [0,0,0] 1 O)
 rintro ⟨EW,c11⟩;refine .a 1 O<|.bd h fun r6 KU h=>.cr 10 [] [4,4] 0 (zAu (AZ:=AZ) KU) zUF O fun OJ c23=>.b [12,15,16] O<|.seq<|.ab [12,15,98] O<|.cb h O (fun h=>?_) (fun h=>?_)
 ·refine .EK [6,7] [0,0] 1 O O<|.AY (fun _ w=>(w.sl [4] 0 O).BU)<|.AY (fun _ w=>w.CU (CY yW))<|.AY (fun _ w=>w.CU (CY AQ))<|.AY (fun _ w=>w.CU (CY zU)) ?_;cases h;exact .rv O O (mI ⟨g2,M1,A3,c3,A4,c4,EW,c11,A9,c9,none,0,none,0,none,0,O,O⟩) (zk 11 5 [10,9,8,7] [4,4,7,7,7,5,4] 0 O)
 refine .sk<|.pr [12,15] O<|.seq<|.a 2 O<|.AY (fun _ w=>(w.sl [5] 0 O).BU)<|.AY (fun _ w=>w.CU (CY yW))<|.AY (fun _ w=>w.CU (CY AQ))<|.AY (fun _ w=>w.HY zU 3)<|.AY (fun _ w=>(w.sl [6] 0 O).BU)<|.bd h fun r7 OY h=>.call (zBr (AZ:=g2) OY) zUZ O O O (zd [6,5,4,3,9] [8,7,1] 0 O) ?_;rintro _ _ ⟨TM,c24,RP,c25,UI,QL,RQ,RS,QX,c28,rfl,rfl⟩;refine .nm 16 O<|.bf [12,103] [0,0,0,0,0,0] 4 O O<|.cb h O (fun h=>?_) (fun h=>?_)
 ·refine .EK [6,7] [] 6 O O ?_;cases h;exact .rv O O (wS ⟨M1,A3,c3,A4,c4,O,O⟩) (zl [0,0] 1 O)
 refine .sk<|.pr [12] O<|.seq<|.a 1 O<|.AY (fun _ w=>(w.sl [5] 0 O).BU)<|.bd h fun r8 OZ h=>.call (jC (AZ:=g2) (BJ:=AZ) (DW:=BJ) OZ) zRX O O O (zd [8,9,10,7] [4,4,4,4,5,5,5] 0 O) ?_;rintro _ _ ⟨QY,c29,WT,WU,WV,c31,YE,c32,ZO,ZP,M2,VI,c34,WW,WX,rfl,rfl⟩;refine .nm 16 O<|.bf [12,17] [0,0,0,0,0,0,0,0,0,0,0] 4 O O<|.ab [12,17,107] O<|.cb h O (fun h=>?_) (fun h=>?_)
 ·refine .EK [6,7] [] 6 O O ?_;cases h;exact .rv O O (wS ⟨M2,VI,c34,WW,WX,O,O⟩) (zl [0,0,0,0,0] 1 O)
 refine .sk<|.pr [12] O<|.ab [6,7] O ?_;cases h;exact .rv O O (mI ⟨g2,M2,VI,c34,WW,WX,QY,c29,WT,WU,WV,c31,YE,c32,ZO,ZP,O,O⟩) (zk 11 5 [7,8,9,10] [6,6,6,6,6,4,4] 0 O)
theorem zSo:BX Tryz.prog 76:=en Tryz.func76 (by kernel_rfl)
def lQ [AP] (BF:iI):Option Int:=
 bif decide ((BF.ET.length:Int)<1) then (none) else (bif decide ((BF.ET.length:Int)>8) then (none) else (bnd (yC (τ:=Int ⊕ Unit) (fun (s1:Int)=>bif decide (s1<(BF.ET.length:Int)) then (bnd (BP BF.ET s1) fun x1=>bnd (tE x1) fun r1=>bif !r1 then (none) else (bnd ((bif decide (s1>0) then (bnd (BP BF.ET (wrap .i64 (s1 - 1))) fun x2=>some (Op.bytesLess x1.Name.toList x2.Name.toList||(x1.Name.toList==x2.Name.toList))) else (some false):Option Bool)) fun o3=>bif o3 then (none) else (some (.next (wrap .i64 (s1+1)))))) else (some (.done (.inr ())))) 0) fun o1=>xL o1 fun o2=>bif decide ((BF.Needs.length:Int)>16) then (none) else (bnd (wI ([]) BF.Needs) fun r2=>bif (r2.2 != 0) then (none) else (some 0))))
theorem zAL [AP] {BF A1 c1 A2 c2 r} (h:lQ BF=some r):
    BA Tryz.prog 76 [.agg #[.slice A1 BF.ET.length c1, .slice A2 BF.Needs.length c2]] [.ro (Sl (zT tJ) A1 c1 BF.ET), .ro (AV zS A2 c2 BF.Needs)] (Val (.int .i64 r)):=by
 unfold lQ at h
 refine BA.intro Tryz.func76 O O O fun w R=>?_;refine .seq<|.region<|.box O O fun g1=>.b [1] O<|.seq<|.a 1 O<|.lb 0 0 O<|.n 3 O<|.gs 11 h O (fun h=>?_) (fun h=>?_)
 ·cases h
 refine .n 1 O<|.BN O O<|.lb 0 0 O<|.b [1,16] O<|.cb h O (fun h=>?_) (fun h=>?_)
 ·cases h
 refine .sk<|.pr [1] O<|.seq<|.a 1 O<|.lb 0 0 O<|.b [1,18,19,20] O<|.bd h fun o1 hl1 h=>.ES 0 (fun (o2:Unit) (e2:Unit)=>[1]) (fun o2 e2=>[]) O O (fun o2=>o1= .inr o2) ?_ ?_
 ·refine .block<|.BM hl1 0 (fun (s1:Int) (e1:Unit)=>[1,18,19, .s 20 (.int .i64 s1)]) (fun s1 e1=>[]) O O () (zb O) (fun _ w=>w) ?_;rintro s1 e1 st1 hm1 hd1 h1;refine .ae O<|.seq<|.cb h1 O (fun h1=>?_) (fun h1=>?_)
  ·refine .sk<|.pr [1,18,19,20] O<|.seq<|.block<|.a 1 O<|.bd h1 fun x1 hx1 h1=>.KY hx1 1 O fun b1 DY FC=>?_;obtain ⟨⟨A3,c3⟩,_⟩:=FC;refine .nm 5 O<|.ld DY 0 0 O<|.alloc O O fun g2=>.p O O<|.sb 0 0 O<|.bf [1,3,4,18,19,20] [0] 1 O O<|.seq<|.seq<|.region<|.lb 0 0 O<|.bd h1 fun r1 hr1 h1=>.cv [1] (oY hr1) Ea O<|.b [1,3,4,18,19,20,27] O<|.cb h1 O (fun h1=>?_) (fun h1=>?_)
   ·cases h1
   refine .sk<|.pr [1,3,4,18,19,20] O<|.seq<|.bd h1 fun o3 hj1 h1=>.cu 2 [1,18,19,20, .s 41 (.bool o3)] [] O O ?_ ?_
   ·refine .regionF mixed (by kernel_rfl)<|.n 3 O<|.gs 30 hj1 O (fun hj1=>?_) (fun hj1=>?_)
    ·refine .n 1 O<|.BN O O<|.lb 0 0 O<|.n 1 O<|.BN O O<|.lb 0 2 O<|.n 2 O<|.BN O O<|.bd hj1 fun x2 hx2 hj1=>.KY hx2 3 O fun b2 JD JQ=>?_;obtain ⟨⟨A4,c4⟩,_⟩:=JQ;refine .nm 7 O<|.n 1 O<|.BN O O<|.ld JD 0 0 O ?_;cases hj1;exact .beq O<|.hU O (zl [] 4 O)
    cases hj1;exact .beq O<|.hU O (zl [] 2 O)
   refine .cb h1 O (fun h1=>?_) (fun h1=>?_)
   ·cases h1
   refine .skip<|.BL<|.AO<|.pr [1,18,19,20] O<|.region ?_;cases h1;exact .be O<|.ag () hm1 O zw
  refine .xq O ?_;cases h1;cases hd1 _ rfl
  exact .AO<|.CZ () () O (zb O) zw
 rintro o2 e2 ho;subst ho;have h:=JG h;refine .seq<|.a 1 O<|.lb 1 0 O<|.b [1,46] O<|.cb h O (fun h=>?_) (fun h=>?_)
 ·cases h
 refine .sk<|.pr [1] O<|.seq<|.a 1 O<|.lb 1 0 O<|.AY (fun _ w=>w.CU (CY zK))<|.bd h fun r2 hr2 h=>.cv [0,3] (uK hr2) ZN O<|.bf [6] [] 4 O O<|.ab [54] O<|.cb h O (fun h=>?_) (fun h=>?_)
 ·cases h
 refine .sk<|.pr [] O<|.ae O ?_;cases h;exact .rv O O ⟨O,O⟩ zw
theorem zPS:BX Tryz.prog 131:=en Tryz.func131 (by kernel_rfl)
def dP (BF:(List Int)) (EN:Int):Option (List Int):=
 bnd (app 1 BF [wrap .u8 (rM .u32 EN 24),wrap .u8 (rM .u32 EN 16),wrap .u8 (rM .u32 EN 8),wrap .u8 EN]) fun l1=>some l1
theorem zBF {BF EN A1 c1 r} (h:dP BF EN=some r):
    BA Tryz.prog 131 [.slice A1 BF.length c1, .int .u32 EN] [.res (zI AQ 5 A1 c1 BF)] (fun v F=>∃ A2 c2,v= .slice A2 r.length c2∧F= [.res (zI AQ 5 A2 c2 r)]):=by
 refine BA.intro Tryz.func131 O O O fun w R=>?_;refine .ab [0,1] O<|.a 12 O<|.bS O fun g1=>.bd h fun l1 hl1 h=>.app (E:=AQ) hl1 O O O (.s .z) O O O O O O O O (iV (.head _) O O) O O fun A2 c2=>.bf [4] [0] 1 O O ?_;cases h;exact .rv O O ⟨A2,c2,O,O⟩ zw
theorem zUL:BX Tryz.prog 54:=en Tryz.func54 (by kernel_rfl)
def aM [AP] (BF:iI):Option ((List Int) × Int):=
 bnd (lQ BF) fun r1=>bif (r1 != 0) then (none) else (bnd (app 1 ([66,77,67,70]) [wrap .u8 (BF.ET.length:Int)]) fun l1=>bnd (yC (τ:=List Int) (fun (s1:List Int × Int)=>bif decide (s1.2<(BF.ET.length:Int)) then (bnd (BP BF.ET s1.2) fun x1=>bnd (pB x1) fun r2=>bnd (app 1 s1.1 r2) fun l2=>bnd (pP x1) fun r3=>bnd (dP l2 r3) fun r4=>some (.next (r4,wrap .i64 (s1.2+1)))) else (some (.done s1.1))) (l1,0)) fun o1=>bnd (app 1 o1 [wrap .u8 (BF.Needs.length:Int)]) fun l3=>bnd (yC (τ:=List Int) (fun (s2:List Int × Int)=>bif decide (s2.2<(BF.Needs.length:Int)) then (none) else (some (.done s2.1))) (l3,0)) fun o2=>bnd (uT o2) fun r5=>bnd (dP o2 r5) fun r6=>bif decide ((r6.length:Int)>8192) then (none) else (some (r6,0)))
theorem zEB [AP] {BF A1 c1 A2 c2 r} (h:aM BF=some r):
    BA Tryz.prog 54 [.agg #[.slice A1 BF.ET.length c1, .slice A2 BF.Needs.length c2]] [.ro (Sl (zT tJ) A1 c1 BF.ET), .ro (AV zS A2 c2 BF.Needs)] (fun v F=>∃ A3 c3,v= .tuple #[.slice A3 r.1.length c3, .int .i64 r.2]∧F= [.res (zI AQ 5 A3 c3 r.1)]):=by
 refine BA.intro Tryz.func54 O O O fun w R=>?_;refine .seq<|.region<|.box O O fun g1=>.b [1] O<|.seq<|.seq<|.region<|.lb 0 0 O<|.bd h fun r1 hr1 h=>.cv [1,2] (zAL hr1) zSo O<|.b [1,4] O<|.ab [1,4,13] O<|.cb h O (fun h=>?_) (fun h=>?_)
 ·cases h
 refine .sk<|.pr [1] O<|.seq<|.region<|.QG O O O O O O O O fun g2=>.Dc O O O O O O<|.p O O<|.lb 0 1 O<|.n 2 O<|.bS O fun g3=>.AY (fun _ w=>(w.sl [1] 0 O).IL (E:=AQ) (e:=5) [66,77,67,70] O O)<|.bd h fun l1 hl1 h=>.app (E:=AQ) hl1 O O O .z O O O O O O O O (iV EO O O) O O fun A3 c3=>.bf [1,5] [0] 1 O O<|.seq<|.a 1 O<|.lb 0 1 O<|.b [1,5,24,25,26] O<|.bd h fun o1 hl1 h=>.DV 1 (fun (e2:Option Addr × Nat)=>[1, .s 5 (.slice e2.1 o1.length e2.2)]) (fun e2=>[.res (zI AQ 5 e2.1 e2.2 o1)]) O O ?_ ?_
 ·refine .block<|.BM hl1 1 (fun (s1:List Int × Int) (e1:Option Addr × Nat)=>[1, .s 5 (.slice e1.1 s1.1.length e1.2),24,25, .s 26 (.int .i64 s1.2)]) (fun s1 e1=>[.res (zI AQ 5 e1.1 e1.2 s1.1)]) O O (A3,c3) (zb O) (fun _ w=>w) ?_;rintro s1 ⟨A4,c4⟩ st1 hm1 hd1 h1;refine .ae O<|.seq<|.cb h1 O (fun h1=>?_) (fun h1=>?_)
  ·refine .sk<|.pr [1,5,24,25,26] O<|.seq<|.block<|.seq<|.region<|.bd h1 fun x1 hx1 h1=>.KY hx1 2 O fun b1 DY FC=>?_;obtain ⟨⟨A6,c6⟩,_⟩:=FC;refine .nm 6 O<|.ld DY 0 0 O<|.alloc O O fun g4=>.sb 0 0 O<|.bf [1,5,7,24,25,26] [0] 1 O O<|.BI (iN [0,5,16,11,15,22,27,28] .nil) _ mixed (by kernel_rfl) (zl [0,0] 1 O)<|.yn 1 O<|.yx 0 0 O<|.yl 0 0 O<|.BV<|.bd h1 fun r2 hr2 h1=>.cr 7 [1] [] 0 (zAz hr2) zSq O fun A7 c7=>.xk (zl [1,1] 2 O)<|.BV<|.AY (fun _ w=>w.BU)<|.bd h1 fun l2 hl2 h1=>.app (E:=AQ) hl2 O O O (CS 3 O) O O O O O O O O (gU (.head _)) O O fun A8 c8=>.xk (zl [] 2 O)<|.bd h1 fun r3 hr3 h1=>.YZ (fun _ h=>h) (gT hr3) Rn O O O O (za [1] O)<|.BV<|.bd h1 fun r4 hr4 h1=>.cr 7 [] [] 0 (zBF hr4) zPS O fun A9 c9=>.xk (zl [] 2 O)<|.yn 1 O<|.CQ<|.BL<|.AO<|.pf [1,5,24,25,26] [0] 3 O O<|.region ?_;cases h1;exact .be O<|.ag (A9,c9) hm1 O zw
  refine .xq O ?_;cases h1;cases hd1 _ rfl
  exact .AO<|.hE (A4,c4) O zw
 rintro ⟨A5,c5⟩;refine .a 2 O<|.lb 1 1 O<|.n 2 O<|.bS O fun g5=>.bd h fun l3 hl3 h=>.app (E:=AQ) hl3 O O O (.s .z) O O O O O O O O (iV (.head _) O O) O O fun EC c10=>.bf [1,5] [0] 1 O O<|.seq<|.a 1 O<|.lb 1 1 O<|.bf [5,46,47,48] [0] 2 O O<|.bd h fun o2 hl2 h=>.DV 2 (fun (e4:Option Addr × Nat)=>[.s 5 (.slice e4.1 o2.length e4.2)]) (fun e4=>[.res (zI AQ 5 e4.1 e4.2 o2)]) O O ?_ ?_
 ·refine .block<|.BM hl2 1 (fun (s2:List Int × Int) (e3:Option Addr × Nat)=>[.s 5 (.slice e3.1 s2.1.length e3.2),46,47, .s 48 (.int .i64 s2.2)]) (fun s2 e3=>[.res (zI AQ 5 e3.1 e3.2 s2.1)]) O O (EC,c10) (zb O) (fun _ w=>w) ?_;rintro s2 ⟨EW,c11⟩ st2 hm2 hd2 h2;refine .ae O<|.seq<|.cb h2 O (fun h2=>?_) (fun h2=>?_)
  ·cases h2
  refine .xq O ?_;cases h2;cases hd2 _ rfl
  exact .AO<|.hE (EW,c11) O (zl [0] 1 O)
 rintro ⟨FX,c12⟩;refine .a 2 O<|.bd h fun r5 JH h=>.TJ (nG JH) Rl O O O O (mG.own (.head _) mG.nil) (fun _ _ h=>by rw [h.2]; exact True.intro) ?_;rintro _ _ ⟨rfl,rfl⟩;refine .nm 1 O<|.bd h fun r6 KU h=>.cr 1 [] [] 0 (zBF KU) zPS O fun IE c13=>.b [5] O<|.seq<|.ab [5,73] O<|.cb h O (fun h=>?_) (fun h=>?_)
 ·cases h
 refine .sk<|.pr [5] O<|.ab [2,3] O ?_;cases h;exact .rv O O ⟨IE,c13,O,O⟩ zw
theorem zOO:BX Tryz.prog 121:=en Tryz.func121 (by kernel_rfl)
def jL (size:Int) (part:Int):Option Bool:=
 bnd ((bif decide (size≥1) then (bif decide (size≤8192) then (bif decide (part≥1) then (some (decide (part≤64))) else (some false)) else (some false)) else (some false):Option Bool)) fun o1=>some o1
theorem cM {size part r} (h:jL size part=some r):
    BA Tryz.prog 121 [.int .i64 size, .int .i64 part] [] (Val (.bool r)):=by
 refine BA.intro Tryz.func121 O O O fun w R=>?_;refine .ab [0,1] O<|.seq<|.bd h fun o1 hj1 h=>.cu 0 [.s 4 (.bool o1)] [] O O ?_ ?_
 ·refine .region<|.n 3 O<|.gs 7 hj1 O (fun hj1=>?_) (fun hj1=>?_)
  ·refine .n 4 O<|.gs 11 hj1 O (fun hj1=>?_) (fun hj1=>?_)
   ·refine .n 4 O<|.gs 15 hj1 O (fun hj1=>?_) (fun hj1=>?_)
    ·cases hj1;exact .be O<|.hU O zw
    cases hj1;exact .be O<|.hU O zw
   cases hj1;exact .be O<|.hU O zw
  cases hj1;exact .be O<|.hU O zw
 cases h;exact .rv O O ⟨O,O⟩ zw
theorem zPv:BX Tryz.prog 122:=en Tryz.func122 (by kernel_rfl)
def jF (size:Int) (part:Int):Option Int:=
 bnd (Be .i64 (wrap .i64 ((wrap .i64 (size+part)) - 1)) part) fun q1=>some q1
theorem cF {size part r} (h:jF size part=some r):
    BA Tryz.prog 122 [.int .i64 size, .int .i64 part] [] (Val (.int .i64 r)):=by
 refine BA.intro Tryz.func122 O O O fun w R=>?_;refine .ab [0,1] O<|.a 5 O<|.bd h fun q1 hq1 h=>.quo O O O hq1<|.b [4] O ?_;cases h;exact .rv O O ⟨O,O⟩ zw
theorem zUQ:BX Tryz.prog 50:=en Tryz.func50 (by kernel_rfl)
def zAH (size:Int) (part:Int):Option (xV × Int):=
 bnd (jL size part) fun r1=>bif !r1 then (none) else (bnd (jF size part) fun r2=>bnd (mkS 1 false r2 r2) fun l1=>bnd (mkS 1 0 size size) fun l2=>some ((⟨size,part,l1,l2⟩:xV),0))
theorem zGo {size part r} (h:zAH size part=some r):
    BA Tryz.prog 50 [.int .i64 size, .int .i64 part] [] (fun v F=>∃ A1 c1 A2 c2,v= .tuple #[.agg (sM r.1 A1 c1 A2 c2).toArray, .int .i64 r.2]∧F= [.ro (AV yW A1 c1 r.1.Have), .ro (AV AQ A2 c2 r.1.Data)]):=by
 refine BA.intro Tryz.func50 O O O fun w R=>?_;refine .seq<|.region<|.alloc O O fun g1=>.b [0,1,4] O<|.seq<|.a 2 O<|.bd h fun r1 hr1 h=>.cv [] (cM hr1) zOO O<|.b [0,1,4,9] O<|.cb h O (fun h=>?_) (fun h=>?_)
 ·cases h
 refine .sk<|.pr [0,1,4] O<|.seq<|.bd h fun r2 hr2 h=>.bd h fun l1 hl1 h=>.bd h fun l2 hl2 h=>.BI (iN [0,4,8,12,18,24] (.alt (iN [23] (iN [31,32] (iN [39,40] .nil))) (iN [31] (iN [23,32] (iN [39,40] .nil))))) _ mixed (by kernel_rfl) (zl [] 1 O)<|.DX (Y:=?IZ) 0 (fun (e:Nat × Nat)=>[4, .s 11 (.int .i64 size), .s 12 (.int .i64 part), .s 16 (.slice (some ⟨e.1,0,none⟩) l1.length (Int.toNat r2)), .s 18 (.slice (some ⟨e.2,0,none⟩) l2.length (Int.toNat size)), .s 19 (.agg #[.int .i64 size, .int .i64 part, .slice (some ⟨e.1,0,none⟩) l1.length (Int.toNat r2), .slice (some ⟨e.2,0,none⟩) l2.length (Int.toNat size)])]) (fun e=>[.res (zI AQ 5 (some ⟨e.2,0,none⟩) (Int.toNat size) l2), .res (zI yW 4 (some ⟨e.1,0,none⟩) (Int.toNat r2) l1)]) O O (fun DL=>?EQ) ?ER
 case EQ=>
  refine .yn 4 O<|.YZ (fun _ h=>h) (cF hr2) zPv O O O O trivial<|.yn 1 O<|.FY ?_ ?_
  ·refine .BV<|.UR (E:=yW) false hl1 O O O O O O O O O O fun g2=>.xk (zl [] 2 O)<|.BV<|.UR (E:=AQ) 0 hl2 O O O O O O O O O O fun g3=>.xk (zl [] 3 O)<|.yn 1 O ?_;refine DL _ _ (g2,g3) ?_ ?_
   ·exact ⟨O,O,O,O,O,O,trivial⟩
   exact fun _ w=>w
  refine .BV<|.UR (E:=AQ) 0 hl2 O O O O O O O O O O fun g3=>.xk (zl [] 2 O)<|.BV<|.UR (E:=yW) false hl1 O O O O O O O O O O fun g2=>.xk (zl [] 3 O)<|.yn 1 O ?_;refine DL _ _ (g2,g3) ?_ ?_
  ·exact ⟨O,O,O,O,O,O,trivial⟩
  exact fun _ w=>(w.sl [1] 0 O)
 case ER=>
  rintro ⟨g2,g3⟩;refine .nm 3 O<|.BV<|.sb 0 2 O<|.xk (zl [] 3 O)<|.yn 1 O<|.CQ<|.AO<|.pr [4,5] O<|.AY (fun _ w=>(w.sl [2] 0 O).BU)<|.AY (fun _ w=>(w.sl [2] 0 O).BU) ?_;cases h;exact .rt O Tryz.results50 (.cell O MQ O (.tmp O .nil)) O ⟨(some ⟨g2,0,none⟩),(Int.toNat r2),(some ⟨g3,0,none⟩),(Int.toNat size),O,O⟩ (zk 2 3 [1,0] [] 0 O)
theorem zUR:BX Tryz.prog 18:=en Tryz.func18 (by kernel_rfl)
def iE (AL:zM) (size:Int) (part:Int):Option (zM × Int):=
 bif (AL.phase==2||(AL.phase==3||false)) then (none) else (bnd (zAH size part) fun r1=>bif (r1.2 != 0) then (none) else (some ((⟨AL.store,AL.devices,AL.needs,1,r1.1,AL.before,AL.order⟩:zM),0)))
theorem zAC {AL size part A1 c1 A2 c2 A3 c3 A4 c4 A5 c5 AZ BJ r} (h:iE AL size part=some r):
    BA Tryz.prog 18 [.pointer (some ⟨AZ,0,none⟩), .int .i64 size, .int .i64 part] [.ro (AV zS A2 c2 AL.needs), .ro (AV yW A3 c3 AL.load.Have), .ro (AV AQ A4 c4 AL.load.Data), .ro (AV zU A5 c5 AL.order), .ro (TS 0 [(2,some 315),(3,some 316)]), .res (Box AZ 144 (zL AL BJ A1 c1 A2 c2 A3 c3 A4 c4 A5 c5)), .res (yU (zT zC) 64 A1 c1 AL.devices)] (fun v F=>∃ A6 c6 A7 c7 A8 c8 A9 c9 EC c10,v= .int .i64 r.2∧F= [.ro (AV zS A7 c7 r.1.needs), .ro (AV yW A8 c8 r.1.load.Have), .ro (AV AQ A9 c9 r.1.load.Data), .ro (AV zU EC c10 r.1.order), .res (Box AZ 144 (zL r.1 BJ A6 c6 A7 c7 A8 c8 A9 c9 EC c10)), .res (yU (zT zC) 64 A6 c6 r.1.devices)]):=by
 refine BA.intro Tryz.func18 O O O fun w R=>?_;refine .ab [0,1,2] O<|.seq<|.seq<|.regionF mixed (by kernel_rfl)<|.DK (zm 4 O) fun gm1=>.ld 0 0 0 O<|.n 3 O<|.lb 3 7 O<|.OW O O O EO O O O O O (by rfl)<|.gq (r:=(AL.phase==2||(AL.phase==3||false))) O O O (by kernel_rfl) O (.inr ⟨O,O⟩)<|.beq O<|.pf [0,1,2,15] [] 2 O O<|.cb h O (fun h=>?_) (fun h=>?_)
 ·cases h
 refine .sk<|.pr [0,1,2] O<|.a 2 O<|.bd h fun r1 hr1 h=>.ct 9 [] [] 0 (zGo hr1) zUQ O fun A6 c6 A7 c7=>.n 3 O<|.alloc O O fun g1=>.sb 0 0 O<|.b [0,7,8] O<|.seq<|.ab [0,7,8,23] O<|.cb h O (fun h=>?_) (fun h=>?_)
 ·cases h
 refine .sk<|.pr [0,7] O<|.a 2 O<|.lb 0 0 O<|.n 2 O<|.sb 4 8 O<|.n 2 O<|.sb 3 0 O<|.bf [] [0,1,1,1] 3 O O<|.ae O ?_;cases h;exact .rv O O ⟨A1,c1,A2,c2,A6,c6,A7,c7,A5,c5,O,O⟩ (zk 6 5 [4,2,3,5] [0,5] 0 O)
theorem D9:BX Tryz.prog 156:=en Tryz.func156 (by kernel_rfl)
def jN (AB:xV) (EI:Int):Option (List Int):=
 bnd (sub AB.Data (wrap .i64 (EI*AB.Part)) (min (wrap .i64 ((wrap .i64 (EI*AB.Part))+AB.Part)) AB.Size)) fun l1=>some l1
theorem cC {AB EI A1 c1 A2 c2 r} (h:jN AB EI=some r):
    BA Tryz.prog 156 [.agg (sM AB A1 c1 A2 c2).toArray, .int .i64 EI] [.ro (AV yW A1 c1 AB.Have), .ro (AV AQ A2 c2 AB.Data)] (fun v F=>∃ A3 c3,v= .slice A3 r.length c3∧F= [.ro (AV AQ A3 c3 r)]):=by
 refine BA.intro Tryz.func156 O O O fun w R=>?_;refine .seq<|.region<|.box O O fun g1=>.b [1,2] O<|.a 2 O<|.lb 1 0 O<|.b [2,5] O<|.a 2 O<|.lb 1 0 O<|.n 2 O<|.lb 0 0 O<|.b [2,5,6] O<|.a 1 O<|.lb 3 0 O<|.n 3 O<|.bd h fun l1 hl1 h=>.Yz (E:=(CY AQ)) O O (zm 2 O) O O O O O O O O hl1 fun A3 c3=>.bf [4] [0] 3 O O ?_;cases h;exact .rv O O ⟨A3,c3,O,O⟩ (zk 1 1 [0] [] 0 O)
theorem zST:BX Tryz.prog 229:=en Tryz.func229 (by kernel_rfl)
def lA (BF:Int):Option Bool:=
 some (BF != 0)
theorem zCq {BF r} (h:lA BF=some r):
    BA Tryz.prog 229 [.int .u8 BF] [] (Val (.bool r)):=by
 unfold lA at h
 refine BA.intro Tryz.func229 O O O fun w R=>?_;refine .ab [0] O<|.ab [2] O ?_;cases h;exact .rv O O ⟨O,O⟩ zw
def sY [AP] (AX:(List Int)):Option Int:=
 bnd (yC (τ:=Int ⊕ Unit) (fun (s1:Int)=>bif decide (s1<(AX.length:Int)) then (bnd (BP AX s1) fun x1=>bnd (lA x1) fun r1=>bif r1 then (some (.done (.inl s1))) else (some (.next (wrap .i64 (s1+1))))) else (some (.done (.inr ())))) 0) fun o1=>xL o1 fun o2=>some (-1)
theorem lB [AP] {AX A1 c1 r} (h:sY AX=some r):
    BA Tryz.prog 255 [.slice A1 AX.length c1, .func (.func 229) #[] #[]] [.ro (AV AQ A1 c1 AX)] (Val (.int .i64 r)):=by
 refine BA.intro Tryz.func255 O O O fun w R=>?_;refine .ab [0,1] O<|.seq<|.ab [0,1,7,8] O<|.bd h fun o1 hl1 h=>.ES 1 (fun (o2:Unit) (e2:Unit)=>[]) (fun o2 e2=>[]) O O (fun o2=>o1= .inr o2) ?_ ?_
 ·refine .block<|.BM hl1 0 (fun (s1:Int) (e1:Unit)=>[0,1,7, .s 8 (.int .i64 s1)]) (fun s1 e1=>[]) O O () (zb O) (fun _ w=>w) ?_;rintro s1 e1 st1 hm1 hd1 h1;refine .ae O<|.seq<|.cb h1 O (fun h1=>?_) (fun h1=>?_)
  ·refine .sk<|.pr [0,1,7,8] O<|.seq<|.block<|.ab [0,1,5,7,8] O<|.a 3 O<|.bd h1 fun x1 hx1 h1=>.IB hx1 0 O fun b1 DY=>.ld DY 0 0 O<|.bd h1 fun r1 hr1 h1=>.cv [] (zCq hr1) zST O<|.bf [0,1,5,7,8,16] [] 1 O O<|.cb h1 O (fun h1=>?_) (fun h1=>?_)
   ·refine .EK [4] [] 1 O O ?_;cases h1;cases hd1 _ rfl
    have h:some _=some _:=h;cases h;exact .rv O O ⟨O,O⟩ zw
   refine .skip<|.BL<|.AO<|.pr [0,1,7,8] O<|.region ?_;cases h1;exact .be O<|.ag () hm1 O zw
  refine .xq O ?_;cases h1;cases hd1 _ rfl
  exact .AO<|.CZ () () O trivial (zl [] 1 O)
 rintro o2 e2 ho;subst ho;have h:=JG h;refine .ae O ?_;cases h;exact .rv O O ⟨O,O⟩ zw
def tP [AP] (AX:(List Int)):Option Bool:=
 bnd (sY AX) fun r1=>some (decide (r1≥0))
theorem nI [AP] {AX A1 c1 r} (h:tP AX=some r):
    BA Tryz.prog 222 [.slice A1 AX.length c1, .func (.func 229) #[] #[]] [.ro (AV AQ A1 c1 AX)] (Val (.bool r)):=by
 refine BA.intro Tryz.func222 O O O fun w R=>?_;refine .ab [0,1] O<|.a 2 O<|.bd h fun r1 hr1 h=>.cv [0] (lB hr1) zQI O<|.bf [4] [] 1 O O ?_;cases h;exact .rv O O ⟨O,O⟩ zw
theorem E5:BX Tryz.prog 155:=en Tryz.func155 (by kernel_rfl)
def nO [AP] (AB:xV):Option Bool:=
 bnd ((bnd (jL AB.Size AB.Part) fun r1=>bif !r1 then (some true) else (bnd (jF AB.Size AB.Part) fun r2=>bif ((AB.Have.length:Int) != r2) then (some true) else (some ((AB.Data.length:Int) != AB.Size))):Option Bool)) fun o1=>bif o1 then (some false) else (bnd (yC (τ:=Bool ⊕ Unit) (fun (s1:Int)=>bif decide (s1<(AB.Have.length:Int)) then (bnd (BP AB.Have s1) fun x1=>bnd ((bif !x1 then (bnd (jN AB s1) fun r3=>bnd (tP r3) fun r4=>some r4) else (some false):Option Bool)) fun o4=>bif o4 then (some (.done (.inl false))) else (some (.next (wrap .i64 (s1+1))))) else (some (.done (.inr ())))) 0) fun o2=>xL o2 fun o3=>some true)
theorem jK [AP] {AB A1 c1 A2 c2 r} (h:nO AB=some r):
    BA Tryz.prog 155 [.agg (sM AB A1 c1 A2 c2).toArray] [.ro (AV yW A1 c1 AB.Have), .ro (AV AQ A2 c2 AB.Data)] (Val (.bool r)):=by
 refine BA.intro Tryz.func155 O O O fun w R=>?_;refine .seq<|.region<|.box O O fun g1=>.b [1] O<|.seq<|.seq<|.bd h fun o1 hj1 h=>.cu 0 [1, .s 29 (.bool o1)] [] O O ?_ ?_
 ·refine .regionF mixed (by kernel_rfl)<|.p O O<|.lb 0 0 O<|.p O O<|.lb 1 0 O<|.bd hj1 fun r1 hr1 hj1=>.cv [] (cM hr1) zOO O<|.n 2 O<|.gs 11 hj1 O (fun hj1=>?_) (fun hj1=>?_)
  ·cases hj1;exact .beq O<|.hU O zw
  refine .n 1 O<|.BN O O<|.lb 2 0 O<|.n 2 O<|.BN O O<|.lb 0 0 O<|.n 1 O<|.BN O O<|.lb 1 0 O<|.BN O O<|.bd hj1 fun r2 hr2 hj1=>.cv [] (cF hr2) zPv O<|.n 3 O<|.gs 22 hj1 O (fun hj1=>?_) (fun hj1=>?_)
  ·cases hj1;exact .beq O<|.hU O zw
  refine .n 1 O<|.BN O O<|.lb 3 0 O<|.n 2 O<|.BN O O<|.lb 0 0 O ?_;cases hj1;exact .beq O<|.hU O zw
 refine .cb h O (fun h=>?_) (fun h=>?_)
 ·refine .EK [2] [] 3 O O ?_;cases h;exact .rv O O ⟨O,O⟩ zw
 refine .sk<|.pr [1] O<|.seq<|.a 1 O<|.lb 2 0 O<|.b [1,31,32,33] O<|.bd h fun o2 hl1 h=>.ES 3 (fun (o3:Unit) (e3:Unit)=>[]) (fun o3 e3=>[]) O O (fun o3=>o2= .inr o3) ?_ ?_
 ·refine .block<|.BM hl1 0 (fun (s1:Int) (e2:Unit)=>[1,31,32, .s 33 (.int .i64 s1)]) (fun s1 e2=>[]) O O () (zb O) (fun _ w=>w) ?_;rintro s1 e2 st1 hm1 hd1 h1;refine .ae O<|.seq<|.cb h1 O (fun h1=>?_) (fun h1=>?_)
  ·refine .sk<|.pr [1,31,32,33] O<|.seq<|.block<|.a 1 O<|.bd h1 fun x1 hx1 h1=>.IB hx1 1 O fun b1 DY=>.ld DY 0 0 O<|.bf [1,3,4,31,32,33] [] 1 O O<|.seq<|.bd h1 fun o4 hj2 h1=>.cu 0 [1,31,32,33, .s 45 (.bool o4)] [] O O ?_ ?_
   ·refine .region<|.n 3 O<|.gs 40 hj2 O (fun hj2=>?_) (fun hj2=>?_)
    ·refine .BN O O<|.lb 0 0 O<|.n 1 O<|.BN O O<|.bd hj2 fun r3 hr3 hj2=>.cr 4 [1,2] [] 0 (cC hr3) D9 O fun A3 c3=>.BN O O<|.bd hj2 fun r4 hr4 hj2=>.cv [0] (nI hr4) zQx O ?_;cases hj2;exact .be O<|.hU O (zl [] 1 O)
    cases hj2;exact .be O<|.hU O zw
   refine .cb h1 O (fun h1=>?_) (fun h1=>?_)
   ·refine .EK [2] [] 3 O O ?_;cases h1;cases hd1 _ rfl
    have h:some _=some _:=h;cases h;exact .rv O O ⟨O,O⟩ zw
   refine .skip<|.BL<|.AO<|.pr [1,31,32,33] O<|.region ?_;cases h1;exact .be O<|.ag () hm1 O zw
  refine .xq O ?_;cases h1;cases hd1 _ rfl
  exact .AO<|.CZ () () O trivial (zl [] 3 O)
 rintro o3 e3 ho;subst ho;have h:=JG h;refine .ae O ?_;cases h;exact .rv O O ⟨O,O⟩ zw
theorem zPJ:BX Tryz.prog 158:=en Tryz.func158 (by kernel_rfl)
def rG (AX:(List Bool)):Option (List Bool):=
 bnd (app 1 ([]) AX) fun l1=>some l1
theorem nT {AX A1 c1 r} (h:rG AX=some r):
    BA Tryz.prog 158 [.slice A1 AX.length c1] [.ro (AV yW A1 c1 AX)] (fun v F=>∃ A2 c2,v= .slice A2 r.length c2∧F= [.res (zI yW 4 A2 c2 r)]):=by
 unfold rG at h
 refine BA.intro Tryz.func158 O O O fun w R=>?_
 rcases A1 with _ | ad
 ·refine .fact (φ:=AX= []) (fun w hf=>(hf.ro (r:=AV yW none c1 AX) (.head _)).2.2.1 O) fun hs=>?_;subst hs;have h:(some ([]):Option (List Bool))=some r:=by simpa [app,bnd] using h
  refine .ab [0] O<|.seq<|.ab [0,4] O<|.EP O<|.EK [2] [] 1 O O<|.AY (fun _ w=>w.HY yW 4) ?_;cases h;exact .rv O O ⟨none,0,O,O⟩ zw
 refine .ab [0] O<|.seq<|.ab [0,4] O<|.FU O<|.sk<|.pr [0] O<|.seq<|.region<|.bS O fun g1=>.p O O<|.AY (fun _ w=>w.IL (E:=yW) (e:=4) [] O O)<|.bd h fun l1 hl1 h=>.app (E:=yW) hl1 O O O .z O O O O O O O O (gU EO) O O fun A2 c2=>.bf [2] [0] 1 O O ?_;cases h;exact .rv O O ⟨A2,c2,O,O⟩ zw
def gF (AB:xV) (EI:Int):Option (Nat × Nat):=
 bnd (tD AB.Data.length (wrap .i64 (EI*AB.Part)) (min (wrap .i64 ((wrap .i64 (EI*AB.Part))+AB.Part)) AB.Size)) fun n1=>some (Int.toNat (wrap .i64 (EI*AB.Part)),n1)
theorem zBm {AB EI A1 c1 A2 c2 r} (h:gF AB EI=some r):
    BA Tryz.prog 156 [.agg (sM AB A1 c1 A2 c2).toArray, .int .i64 EI] [.res (zI yW 4 A1 c1 AB.Have), .res (zI AQ 5 A2 c2 AB.Data)] (fun v F=>∃ A3 c3,zRS A3 A2 r.2 c2 r.1 1∧v= .slice A3 r.2 c3∧F= [.res (zI yW 4 A1 c1 AB.Have), .res (zI AQ 5 A2 c2 AB.Data)]):=by
 refine BA.intro Tryz.func156 O O O fun w R=>?_;refine .seq<|.region<|.box O O fun g1=>.b [1,2] O<|.a 2 O<|.lb 1 0 O<|.b [2,5] O<|.a 2 O<|.lb 1 0 O<|.n 2 O<|.lb 0 0 O<|.b [2,5,6] O<|.a 1 O<|.lb 3 0 O<|.n 3 O<|.bd h fun n1 hn1 h=>.Dk (E:=AQ) hn1 O O (zm 2 O) O O O O O O O O fun A3 c3 hp1=>.bf [4] [] 1 O O ?_;cases h;exact .rv O O ⟨A3,c3,hp1,O,O⟩ zw
theorem zVb:BX Tryz.prog 69:=en Tryz.func69 (by kernel_rfl)
def eZ [AP] (AB:xV) (index:Int) (data:(List Int)):Option (xV × Int):=
 bnd (nO AB) fun r1=>bif !r1 then (none) else (bif decide (index<0) then (none) else (bif decide (index≥(AB.Have.length:Int)) then (none) else (bnd (jN AB index) fun r2=>bif ((data.length:Int) != (r2.length:Int)) then (none) else (bnd (BP AB.Have index) fun x1=>bif x1 then (none) else (bnd (rG AB.Have) fun r3=>bnd (zV AB.Data) fun r4=>bnd (BP r3 index) fun x2=>bnd (rJ r3 index true) fun l1=>bnd (gF (⟨AB.Size,AB.Part,l1,r4⟩:xV) index) fun r5=>bnd (eB r4 r5.1 r5.2 data) fun l2=>some ((⟨AB.Size,AB.Part,l1,l2⟩:xV),0))))))
theorem zCu [AP] {AB index data A1 c1 A2 c2 A3 c3 r} (h:eZ AB index data=some r):
    BA Tryz.prog 69 [.agg (sM AB A1 c1 A2 c2).toArray, .int .i64 index, .slice A3 data.length c3] [.ro (AV yW A1 c1 AB.Have), .ro (AV AQ A2 c2 AB.Data), .ro (AV AQ A3 c3 data)] (fun v F=>∃ A4 c4 A5 c5,v= .tuple #[.agg (sM r.1 A4 c4 A5 c5).toArray, .int .i64 r.2]∧F= [.ro (AV yW A4 c4 r.1.Have), .ro (AV AQ A5 c5 r.1.Data)]):=by
 refine BA.intro Tryz.func69 O O O fun w R=>?_;refine .seq<|.region<|.box O O fun g1=>.alloc O O fun g2=>.b [1,2,3,6] O<|.seq<|.seq<|.region<|.lb 0 1 O<|.bd h fun r1 hr1 h=>.cv [2,3] (jK hr1) E5 O<|.b [1,2,3,6,10] O<|.cb h O (fun h=>?_) (fun h=>?_)
 ·cases h
 refine .sk<|.pr [1,2,3,6] O<|.seq<|.a 3 O<|.gs 14 h O (fun h=>?_) (fun h=>?_)
 ·cases h
 refine .n 2 O<|.BN O O<|.lb 2 1 O<|.b [1,2,3,6,20] O<|.cb h O (fun h=>?_) (fun h=>?_)
 ·cases h
 refine .sk<|.pr [1,2,3,6] O<|.seq<|.a 2 O<|.lb 0 1 O<|.p O O<|.bd h fun r2 hr2 h=>.cr 6 [2,3] [] 0 (cC hr2) D9 O fun A4 c4=>.bf [1,2,3,6,28] [] 1 O O<|.cb h O (fun h=>?_) (fun h=>?_)
 ·cases h
 refine .sk<|.pr [1,2,3,6] O<|.seq<|.a 1 O<|.lb 2 1 O<|.p O O<|.bd h fun x1 hx1 h=>.IB hx1 2 O fun b1 DY=>.ld DY 0 0 O<|.p O O<|.gs 35 h O (fun h=>?_) (fun h=>?_)
 ·cases h
 refine .bf [1,2,3,6,42] [] 1 O O<|.FU O<|.sk<|.pr [1,2,3,6] O<|.seq<|.bd h fun r3 hr3 h=>.bd h fun r4 hr4 h=>.BI (iN [0,12] (.alt (iN [7] (.alt (iN [11] (iN [19,24] (iN [23] (iN [31,32] (iN [39] .nil))))) (iN [19] (iN [11,24] (iN [23] (iN [31,32] (iN [39] .nil))))))) (iN [19] (iN [7] (iN [11,24] (iN [23] (iN [31,32] (iN [39] .nil)))))))) _ mixed (by kernel_rfl) (zl [0] 1 O)<|.DX (Y:=?IZ) 0 (fun (e:Option Addr × Nat)=>[1,2,3,6, .s 46 (.slice e.1 r3.length e.2), .s 48 (.slice A2 AB.Data.length c2), .s 50 (.pointer (some ⟨g1,2,none⟩))]) (fun e=>[.res (zI yW 4 e.1 e.2 r3)]) O O (fun DL=>?EQ) ?ER
 case EQ=>
  refine .DX (Y:=?KZ) 0 (fun (e:Unit)=>[1,2,3,6, .s 45 (.slice A1 AB.Have.length c1), .s 48 (.slice A2 AB.Data.length c2)]) (fun e=>[]) O O (fun EU=>?GL) ?GN
  case GL=>
   refine .yn 2 O<|.FY ?_ ?_
   ·refine .BV<|.lb 2 1 O<|.xk (zl [0] 1 O)<|.FY ?_ ?_
    ·refine .BV<|.cr 6 [2] [] 0 (nT hr3) zPJ O fun A5 c5=>.xk (zl [1] 2 O)<|.BV<|.lb 3 2 O<|.xk (zl [1] 2 O)<|.yn 1 O ?_;refine DL _ _ (A5,c5) ?_ ?_
     ·exact ⟨O,O,O,O,O,O,O,trivial⟩
     exact fun _ w=>w
    refine .BV<|.lb 3 1 O<|.xk (zl [0] 1 O) ?_;refine EU _ _ () ?_ ?_
    ·exact ⟨O,O,O,O,O,O,trivial⟩
    exact fun _ w=>w
   refine .BV<|.lb 3 1 O<|.xk (zl [0] 1 O)<|.BV<|.lb 2 1 O<|.xk (zl [0] 1 O) ?_;refine EU _ _ () ?_ ?_
   ·exact ⟨O,O,O,O,O,O,trivial⟩
   exact fun _ w=>w
  case GN=>
   rintro ⟨⟩;refine .nm 5 O<|.BV<|.cr 6 [2] [] 0 (nT hr3) zPJ O fun A5 c5=>.xk (zl [1] 2 O)<|.yn 1 O ?_;refine DL _ _ (A5,c5) ?_ ?_
   ·exact ⟨O,O,O,O,O,O,O,trivial⟩
   exact fun _ w=>w
 case ER=>
  rintro ⟨A5,c5⟩;refine .nm 6 O<|.BV<|.cr 7 [4] [] 0 (yN hr4) aJ O fun A6 c6=>.xk (zl [2] 3 O)<|.BV<|.sb 2 3 O<|.xk (zl [] 3 O)<|.yn 1 O<|.BV<|.sb 3 0 O<|.xk (zl [] 3 O)<|.CQ<|.AO<|.pf [1,2,3,6] [0,0,0,0] 2 O O<|.a 1 O<|.lb 2 0 O<|.p O O<|.bd h fun x2 hx2 h=>.PW hx2 2 O fun g3 hA=>?_;subst hA;refine .bd h fun l1 hl1 h=>.TB 0 hx2 hl1 O O (CS 2 O) O O O O O ?_;refine .ss 53 (wY hl1)<|.AY (F':=.res (zI yW 4 (some ⟨g3,0,none⟩) c5 l1):: .res (Box g1 114 [.int .i64 AB.Size, .int .i64 AB.Part, .slice (some ⟨g3,0,none⟩) l1.length c5, .slice A6 r4.length c6]):: .res (zI AQ 5 A6 c6 r4):: .res (Box g2 114 [.int .i64 0, .int .i64 0, .slice none 0 0, .slice none 0 0]):: .ro (AV AQ A3 c3 data)::R) (fun _ w=>by rw [sV hl1]; exact w)<|.b [1,2,3,6] O<|.seq<|.region<|.lb 0 1 O<|.p O O<|.bd h fun r5 JH h=>.call (zBm JH) D9 O O O (zl [0,1] 0 O) ?_;rintro _ _ ⟨A7,c7,hp1,rfl,rfl⟩;refine .nm 5 O<|.p O O<|.bd h fun l2 hl2 h=>.VF (E:=AQ) hl2 O O O O hp1 (.s .z) (zMZ (.tail _ (.tail _ (.tail _ (.tail _ (.head _)))))) O O O O<|.AY (F':=.res (zI AQ 5 A6 c6 l2):: .res (zI yW 4 (some ⟨g3,0,none⟩) c5 l1):: .res (Box g1 114 [.int .i64 AB.Size, .int .i64 AB.Part, .slice (some ⟨g3,0,none⟩) l1.length c5, .slice A6 l2.length c6]):: .res (Box g2 114 [.int .i64 0, .int .i64 0, .slice none 0 0, .slice none 0 0]):: .ro (AV AQ A3 c3 data)::R) (fun _ w=>by rw [zHX hl2]; exact w)<|.bf [3,6] [0,0,0,0] 1 O O<|.seq<|.region<|.lb 0 2 O<|.sb 0 3 O<|.bf [6,7] [0,0,0] 1 O O<|.AY (fun _ w=>(w.sl [2] 0 O).BU)<|.AY (fun _ w=>(w.sl [2] 0 O).BU) ?_;cases h;exact .rt O Tryz.results69 (.cell O MQ O (.tmp O .nil)) O ⟨(some ⟨g3,0,none⟩),c5,A6,c6,O,O⟩ (zk 2 3 [1,0] [] 0 O)
theorem zVs:BX Tryz.prog 19:=en Tryz.func19 (by kernel_rfl)
def gG [AP] (AL:zM) (index:Int) (data:(List Int)):Option (zM × Int):=
 bif (AL.phase != 1) then (none) else (bnd (eZ AL.load index data) fun r1=>bif (r1.2==0) then (some ((⟨AL.store,AL.devices,AL.needs,AL.phase,r1.1,AL.before,AL.order⟩:zM),r1.2)) else (none))
theorem zBu [AP] {AL index data A1 c1 A2 c2 A3 c3 A4 c4 A5 c5 A6 c6 AZ BJ r} (h:gG AL index data=some r):
    BA Tryz.prog 19 [.pointer (some ⟨AZ,0,none⟩), .int .i64 index, .slice A6 data.length c6] [.ro (AV zS A2 c2 AL.needs), .ro (AV yW A3 c3 AL.load.Have), .ro (AV AQ A4 c4 AL.load.Data), .ro (AV zU A5 c5 AL.order), .ro (AV AQ A6 c6 data), .res (Box AZ 144 (zL AL BJ A1 c1 A2 c2 A3 c3 A4 c4 A5 c5)), .res (yU (zT zC) 64 A1 c1 AL.devices)] (fun v F=>∃ A7 c7 A8 c8 A9 c9 EC c10 EW c11,v= .int .i64 r.2∧F= [.ro (AV zS A8 c8 r.1.needs), .ro (AV yW A9 c9 r.1.load.Have), .ro (AV AQ EC c10 r.1.load.Data), .ro (AV zU EW c11 r.1.order), .res (Box AZ 144 (zL r.1 BJ A7 c7 A8 c8 A9 c9 EC c10 EW c11)), .res (yU (zT zC) 64 A7 c7 r.1.devices)]):=by
 refine BA.intro Tryz.func19 O O O fun w R=>?_;refine .ab [0,1,2] O<|.seq<|.a 3 O<|.lb 3 5 O<|.b [0,1,2,13] O<|.cb h O (fun h=>?_) (fun h=>?_)
 ·cases h
 refine .sk<|.pr [0,1,2] O<|.a 3 O<|.lb 4 5 O<|.n 2 O<|.bd h fun r1 hr1 h=>.ct 9 [1,2,4] [] 0 (zCu hr1) zVb O fun A7 c7 A8 c8=>.n 3 O<|.alloc O O fun g1=>.sb 0 0 O<|.bf [0,7,8] [0,0,0,0,0,0,0] 1 O O<|.seq<|.ab [0,7,8,25] O<|.cb h O (fun h=>?_) (fun h=>?_)
 ·refine .region<|.p O O<|.lb 0 0 O<|.n 2 O<|.sb 4 7 O<|.bf [8] [0,1,1,1] 3 O O<|.ab [6] O ?_;cases h;exact .rv O O ⟨A1,c1,A2,c2,A7,c7,A8,c8,A5,c5,O,O⟩ (zk 6 4 [4,2,3,5] [0,4] 0 O)
 cases h
theorem zTh:BX Tryz.prog 230:=en Tryz.func230 (by kernel_rfl)
def nS [AP] (AX:(List Bool)) (IC:Bool):Option Int:=
 bnd (yC (τ:=Int ⊕ Unit) (fun (s1:Int)=>bif decide (s1<(AX.length:Int)) then (bnd (BP AX s1) fun x1=>bif (IC==x1) then (none) else (some (.next (wrap .i64 (s1+1))))) else (some (.done (.inr ())))) 0) fun o1=>xL o1 fun o2=>some (-1)
theorem eK [AP] {AX IC A1 c1 r} (h:nS AX IC=some r):
    BA Tryz.prog 230 [.slice A1 AX.length c1, .bool IC] [.ro (AV yW A1 c1 AX)] (Val (.int .i64 r)):=by
 refine BA.intro Tryz.func230 O O O fun w R=>?_;refine .ab [0,1] O<|.seq<|.ab [0,1,7,8] O<|.bd h fun o1 hl1 h=>.ES 1 (fun (o2:Unit) (e2:Unit)=>[]) (fun o2 e2=>[]) O O (fun o2=>o1= .inr o2) ?_ ?_
 ·refine .block<|.BM hl1 0 (fun (s1:Int) (e1:Unit)=>[0,1,7, .s 8 (.int .i64 s1)]) (fun s1 e1=>[]) O O () (zb O) (fun _ w=>w) ?_;rintro s1 e1 st1 hm1 hd1 h1;refine .ae O<|.seq<|.cb h1 O (fun h1=>?_) (fun h1=>?_)
  ·refine .sk<|.pr [0,1,7,8] O<|.seq<|.block<|.ab [0,1,5,7,8] O<|.a 3 O<|.bd h1 fun x1 hx1 h1=>.IB hx1 0 O fun b1 DY=>.ld DY 0 0 O<|.bf [0,1,5,7,8,16] [] 1 O O<|.cb h1 O (fun h1=>?_) (fun h1=>?_)
   ·cases h1
   refine .skip<|.BL<|.AO<|.pr [0,1,7,8] O<|.region ?_;cases h1;exact .be O<|.ag () hm1 O zw
  refine .xq O ?_;cases h1;cases hd1 _ rfl
  exact .AO<|.CZ () () O trivial (zl [] 1 O)
 rintro o2 e2 ho;subst ho;have h:=JG h;refine .ae O ?_;cases h;exact .rv O O ⟨O,O⟩ zw
theorem zSM:BX Tryz.prog 159:=en Tryz.func159 (by kernel_rfl)
def pY [AP] (AX:(List Bool)) (IC:Bool):Option Bool:=
 bnd (nS AX IC) fun r1=>some (decide (r1≥0))
theorem iT [AP] {AX IC A1 c1 r} (h:pY AX IC=some r):
    BA Tryz.prog 159 [.slice A1 AX.length c1, .bool IC] [.ro (AV yW A1 c1 AX)] (Val (.bool r)):=by
 refine BA.intro Tryz.func159 O O O fun w R=>?_;refine .ab [0,1] O<|.a 2 O<|.bd h fun r1 hr1 h=>.cv [0] (eK hr1) zTh O<|.bf [4] [] 1 O O ?_;cases h;exact .rv O O ⟨O,O⟩ zw
theorem zRZ:BX Tryz.prog 77:=en Tryz.func77 (by kernel_rfl)
def nY [AP] (AB:xV):Option Bool:=
 bnd (nO AB) fun r1=>bif r1 then (bnd (pY AB.Have false) fun r2=>some (!r2)) else (none)
theorem gA [AP] {AB A1 c1 A2 c2 r} (h:nY AB=some r):
    BA Tryz.prog 77 [.agg (sM AB A1 c1 A2 c2).toArray] [.ro (AV yW A1 c1 AB.Have), .ro (AV AQ A2 c2 AB.Data)] (Val (.bool r)):=by
 refine BA.intro Tryz.func77 O O O fun w R=>?_;refine .seq<|.region<|.box O O fun g1=>.b [1] O<|.seq<|.region<|.lb 0 0 O<|.bd h fun r1 hr1 h=>.cv [1,2] (jK hr1) E5 O<|.p O O<|.gs 5 h O (fun h=>?_) (fun h=>?_)
 ·refine .n 1 O<|.BN O O<|.lb 2 0 O<|.BN O O<|.bd h fun r2 hr2 h=>.cv [1] (iT hr2) zSM O<|.bf [2] [] 3 O O ?_;cases h;exact .rv O O ⟨O,O⟩ zw
 cases h
theorem zVv:BX Tryz.prog 78:=en Tryz.func78 (by kernel_rfl)
def cE [AP] (AB:xV):Option ((List Int) × Int):=
 bnd (nO AB) fun r1=>bif !r1 then (none) else (bnd (nY AB) fun r2=>bif !r2 then (none) else (bnd (zV AB.Data) fun r3=>some (r3,0)))
theorem zDr [AP] {AB A1 c1 A2 c2 r} (h:cE AB=some r):
    BA Tryz.prog 78 [.agg (sM AB A1 c1 A2 c2).toArray] [.ro (AV yW A1 c1 AB.Have), .ro (AV AQ A2 c2 AB.Data)] (fun v F=>∃ A3 c3,v= .tuple #[.slice A3 r.1.length c3, .int .i64 r.2]∧F= [.res (zI AQ 5 A3 c3 r.1)]):=by
 refine BA.intro Tryz.func78 O O O fun w R=>?_;refine .seq<|.region<|.box O O fun g1=>.b [1] O<|.seq<|.seq<|.region<|.lb 0 0 O<|.bd h fun r1 hr1 h=>.cv [1,2] (jK hr1) E5 O<|.b [1,6] O<|.cb h O (fun h=>?_) (fun h=>?_)
 ·cases h
 refine .sk<|.pr [1] O<|.seq<|.seq<|.region<|.lb 0 0 O<|.bd h fun r2 hr2 h=>.cv [1,2] (gA hr2) zRZ O<|.b [1,9] O<|.cb h O (fun h=>?_) (fun h=>?_)
 ·cases h
 refine .sk<|.pr [1] O<|.a 1 O<|.lb 3 0 O<|.bd h fun r3 hr3 h=>.cr 4 [2] [] 0 (yN hr3) aJ O fun A3 c3=>.bf [2,3] [0] 3 O O ?_;cases h;exact .rv O O ⟨A3,c3,O,O⟩ zw
theorem Ru:BX Tryz.prog 72:=en Tryz.func72 (by kernel_rfl)
def vN (FO:xM) (EN:Int):Option (xM × (List Int)):=
 bif FO.bad then (none) else (bif decide (EN>(wrap .i64 ((FO.b.length:Int) - FO.at_))) then (none) else (bnd (sub FO.b (wrap .i64 ((wrap .i64 (FO.at_+EN)) - EN)) (wrap .i64 (FO.at_+EN))) fun l1=>some ((⟨FO.b,wrap .i64 (FO.at_+EN),FO.bad⟩:xM),l1)))
theorem rP {FO EN A1 c1 AZ r} (h:vN FO EN=some r):
    BA Tryz.prog 72 [.pointer (some ⟨AZ,0,none⟩), .int .i64 EN] [.ro (AV AQ A1 c1 FO.b), .res (Box AZ 152 [.slice A1 FO.b.length c1, .int .i64 FO.at_, .bool FO.bad])] (fun v F=>∃ A2 c2 A3 c3,v= .slice A3 r.2.length c3∧F= [.ro (AV AQ A2 c2 r.1.b), .ro (AV AQ A3 c3 r.2), .res (Box AZ 152 [.slice A2 r.1.b.length c2, .int .i64 r.1.at_, .bool r.1.bad])]):=by
 unfold vN at h
 refine BA.intro Tryz.func72 O O O fun w R=>?_;refine .ab [0,1] O<|.seq<|.seq<|.regionF mixed (by kernel_rfl)<|.n 3 O<|.lb 2 1 O<|.p O O<|.gs 9 h O (fun h=>?_) (fun h=>?_)
 ·cases h
 refine .n 4 O<|.BN O O<|.lb 0 1 O<|.n 4 O<|.BN O O<|.lb 1 1 O<|.bq [0,1,22] O<|.cb h O (fun h=>?_) (fun h=>?_)
 ·cases h
 refine .sk<|.pr [0,1] O<|.a 3 O<|.lb 1 1 O<|.n 4 O<|.sb 1 1 O<|.b [0,1] O<|.seq<|.regionF mixed (by kernel_rfl)<|.n 3 O<|.lb 0 0 O<|.n 3 O<|.lb 1 0 O<|.n 5 O<|.lb 1 0 O<|.bd h fun l1 hl1 h=>.sub (E:=(CY AQ)) O O EO O O O O O O O hl1 fun A2 c2=>.bq [4] O ?_;cases h;exact .rv O O ⟨A1,c1,A2,c2,O,O⟩ (zk 3 2 [2,1] [1] 0 O)
theorem YF:BX Tryz.prog 70:=en Tryz.func70 (by kernel_rfl)
def xB [AP] (FO:xM) (EN:Int):Option (xM × Int):=
 bnd (vN FO EN) fun r1=>bnd (yC (τ:=Int) (fun (s1:Int × Int)=>bif decide (s1.2<(r1.2.length:Int)) then (bnd (BP r1.2 s1.2) fun x1=>some (.next (FK .i64 (gZ .i64 s1.1 8) (wrap .i64 x1),wrap .i64 (s1.2+1)))) else (some (.done s1.1))) (0,0)) fun o1=>some (r1.1,o1)
theorem xF [AP] {FO EN A1 c1 AZ r} (h:xB FO EN=some r):
    BA Tryz.prog 70 [.pointer (some ⟨AZ,0,none⟩), .int .i64 EN] [.ro (AV AQ A1 c1 FO.b), .res (Box AZ 152 [.slice A1 FO.b.length c1, .int .i64 FO.at_, .bool FO.bad])] (fun v F=>∃ A2 c2,v= .int .i64 r.2∧F= [.ro (AV AQ A2 c2 r.1.b), .res (Box AZ 152 [.slice A2 r.1.b.length c2, .int .i64 r.1.at_, .bool r.1.bad])]):=by
 refine BA.intro Tryz.func70 O O O fun w R=>?_;refine .ab [0,1] O<|.ae O<|.seq<|.a 2 O<|.bd h fun r1 hr1 h=>.ct 4 [1] [1] 0 (rP hr1) Ru O fun A2 c2 A3 c3=>.bf [5,10,11,12] [0,0,0] 1 O O<|.bd h fun o1 hl1 h=>.cu 2 [.s 5 (.int .i64 o1)] [0] O O ?_ ?_
 ·refine .block<|.BM hl1 0 (fun (s1:Int × Int) (e1:Unit)=>[.s 5 (.int .i64 s1.1),10,11, .s 12 (.int .i64 s1.2)]) (fun s1 e1=>[]) O O () (zb O) (fun _ w=>w) ?_;rintro s1 e1 st1 hm1 hd1 h1;refine .ae O<|.seq<|.cb h1 O (fun h1=>?_) (fun h1=>?_)
  ·refine .sk<|.pr [5,10,11,12] O<|.seq<|.block<|.seq<|.region<|.bd h1 fun x1 hx1 h1=>.IB hx1 1 O fun b1 DY=>.ld DY 0 0 O<|.bf [5,7,10,11,12] [] 1 O O<|.region<|.n 6 O<|.done<|.BL<|.AO<|.pr [5,10,11,12] O<|.region ?_;cases h1;exact .be O<|.ag () hm1 O zw
  refine .xq O ?_;cases h1;cases hd1 _ rfl
  exact .AO<|.hU O (zl [0] 1 O)
 refine .ab [4] O ?_;cases h;exact .rv O O ⟨A2,c2,O,O⟩ (zk 2 1 [1] [1] 0 O)
theorem zVo:BX Tryz.prog 73:=en Tryz.func73 (by kernel_rfl)
def iP [AP] (FO:xM):Option (xM × ByteArray):=
 bnd (xB FO 1) fun r1=>bnd (vN r1.1 r1.2) fun r2=>some (r2.1,YT r2.2)
theorem zAv [AP] {FO A1 c1 AZ r} (h:iP FO=some r):
    BA Tryz.prog 73 [.pointer (some ⟨AZ,0,none⟩)] [.ro (AV AQ A1 c1 FO.b), .res (Box AZ 152 [.slice A1 FO.b.length c1, .int .i64 FO.at_, .bool FO.bad])] (fun v F=>∃ A2 c2,v= .string r.2∧F= [.ro (AV AQ A2 c2 r.1.b), .res (Box AZ 152 [.slice A2 r.1.b.length c2, .int .i64 r.1.at_, .bool r.1.bad])]):=by
 refine BA.intro Tryz.func73 O O O fun w R=>?_;refine .ab [0] O<|.a 2 O<|.bd h fun r1 hr1 h=>.cr 3 [1] [1] 0 (xF hr1) YF O fun A2 c2=>.bd h fun r2 hr2 h=>.ct 5 [1] [1] 0 (rP hr2) Ru O fun A3 c3 A4 c4=>.Bf O O O O O O O O O (gU (E:=AQ) EO)<|.bf [2] [0,1] 3 O O ?_;cases h;exact .rv O O ⟨A3,c3,O,O⟩ (zk 2 1 [1] [1] 0 O)
theorem zVd:BX Tryz.prog 74:=en Tryz.func74 (by kernel_rfl)
def lG [AP] (FO:xM):Option (xM × zQ):=
 bnd (xB FO 2) fun r1=>bnd (xB r1.1 2) fun r2=>bnd (xB r2.1 2) fun r3=>some (r3.1,(⟨r1.2,r2.2,r3.2⟩:zQ))
theorem cI [AP] {FO A1 c1 AZ r} (h:lG FO=some r):
    BA Tryz.prog 74 [.pointer (some ⟨AZ,0,none⟩)] [.ro (AV AQ A1 c1 FO.b), .res (Box AZ 152 [.slice A1 FO.b.length c1, .int .i64 FO.at_, .bool FO.bad])] (fun v F=>∃ A2 c2,v= .agg #[.int .i64 r.2.BZ, .int .i64 r.2.CB, .int .i64 r.2.CJ]∧F= [.ro (AV AQ A2 c2 r.1.b), .res (Box AZ 152 [.slice A2 r.1.b.length c2, .int .i64 r.1.at_, .bool r.1.bad])]):=by
 refine BA.intro Tryz.func74 O O O fun w R=>?_;refine .seq<|.region<|.alloc O O fun g1=>.done<|.AO<|.a 1 O<|.bd h fun r1 hr1 h=>.cr 4 [2] [2] 0 (xF hr1) YF O fun A2 c2=>.p O O<|.bd h fun r2 hr2 h=>.cr 5 [1] [1] 0 (xF hr2) YF O fun A3 c3=>.p O O<|.bd h fun r3 hr3 h=>.cr 6 [1] [1] 0 (xF hr3) YF O fun A4 c4=>.p O O<|.sb 0 4 O<|.bf [2] [0,0,0] 3 O O ?_;cases h;exact .rt O Tryz.results74 (.cell O (.head _) O .nil) O ⟨A4,c4,O,O⟩ (zk 2 2 [2] [2] 0 O)
theorem zUX:BX Tryz.prog 20:=en Tryz.func20 (by kernel_rfl)
def aK [AP] (BF:(List Int)):Option (iI × Int):=
 bif decide ((BF.length:Int)>8192) then (none) else (bif decide ((BF.length:Int)<10) then (none) else (bnd (sub BF (wrap .i64 ((BF.length:Int) - 4)) (BF.length:Int)) fun l1=>bnd (sub BF 0 (wrap .i64 ((BF.length:Int) - 4))) fun l2=>bnd (xB (⟨l1,0,false⟩:xM) 4) fun r1=>bnd (uT l2) fun r2=>bif ((wrap .u32 r1.2) != r2) then (none) else (bnd (vN (⟨l2,0,false⟩:xM) 4) fun r3=>bnd (xB r3.1 1) fun r4=>bnd (yC (τ:=Bool × List Int × Int × Bool × List zN) (fun (s1:Bool × Int × List Int × Int × Bool × List zN)=>bnd ((bif decide (s1.2.1>0) then (some (!s1.2.2.2.2.1)) else (some false):Option Bool)) fun o2=>bif o2 then (bnd (iP (⟨s1.2.2.1,s1.2.2.2.1,s1.2.2.2.2.1⟩:xM)) fun r5=>bnd (lG r5.1) fun r6=>bnd (xB r6.1 2) fun r7=>bnd (vN r7.1 r7.2) fun r8=>bnd (zV r8.2) fun r9=>bnd (xB r8.1 4) fun r10=>bif s1.1 then (bif !r10.1.bad then (bnd (sub l2 s1.2.2.2.1 r8.1.at_) fun l3=>bnd (uT l3) fun r11=>bnd (app 64 s1.2.2.2.2.2 [(⟨r5.2,r6.2,r9⟩:zN)]) fun l4=>some (.next (((wrap .u32 r10.2)==r11),wrap .i64 (s1.2.1 - 1),r10.1.b,r10.1.at_,r10.1.bad,l4))) else (none)) else (none)) else (some (.done (s1.1,s1.2.2.1,s1.2.2.2.1,s1.2.2.2.2.1,s1.2.2.2.2.2)))) (true,r4.2,r4.1.b,r4.1.at_,r4.1.bad, [])) fun o1=>bnd (xB (⟨o1.2.1,o1.2.2.1,o1.2.2.2.1⟩:xM) 1) fun r12=>bnd (yC (τ:=Unit) (fun (s2:Int)=>bif decide (s2>0) then (none) else (some (.done ()))) r12.2) fun o3=>bif !((YT r3.2).toList==((⟨#[66,77,67,70]⟩):ByteArray).toList) then (none) else (bif r12.1.bad then (none) else (bif (r12.1.at_ != (l2.length:Int)) then (none) else (bif !o1.1 then (none) else (bnd (lQ (⟨o1.2.2.2.2, []⟩:iI)) fun r13=>bif (r13 != 0) then (none) else (some ((⟨o1.2.2.2.2, []⟩:iI),0)))))))))
theorem zEA [AP] {BF A1 c1 r} (h:aK BF=some r):
    BA Tryz.prog 20 [.slice A1 BF.length c1] [.ro (AV AQ A1 c1 BF)] (fun v F=>∃ A2 c2 A3 c3,v= .tuple #[.agg #[.slice A2 r.1.ET.length c2, .slice A3 r.1.Needs.length c3], .int .i64 r.2]∧F= [.ro (Sl (zT tJ) A2 c2 r.1.ET), .ro (AV zS A3 c3 r.1.Needs)]):=by
 refine BA.intro Tryz.func20 O O O fun w R=>?_;refine .seq<|.region<|.alloc O O fun g1=>.b [0,2] O<|.seq<|.ab [0,2,19] O<|.cb h O (fun h=>?_) (fun h=>?_)
 ·cases h
 refine .sk<|.pr [0,2] O<|.seq<|.ab [0,2,23] O<|.cb h O (fun h=>?_) (fun h=>?_)
 ·cases h
 refine .sk<|.pr [0,2] O<|.a 4 O<|.bd h fun l1 hl1 h=>.sub (E:=(CY AQ)) O O EO O O O O O O O hl1 fun A2 c2=>.p O O<|.box O O fun g2=>.b [0,2,4] O<|.a 4 O<|.bd h fun l2 hl2 h=>.sub (E:=(CY AQ)) O O (zm 3 O) O O O O O O O hl2 fun A3 c3=>.bf [2,4,5] [0,0,0,0] 1 O O<|.seq<|.a 1 O<|.bd h fun r1 hr1 h=>.cr 5 [2] [1] 0 (xF hr1) YF O fun A4 c4=>.n 2 O<|.bd h fun r2 hr2 h=>.cv [2] (nG hr2) Rl O<|.bf [2,5,42] [2] 3 O O<|.cb h O (fun h=>?_) (fun h=>?_)
 ·cases h
 refine .sk<|.pr [2,5] O<|.a 2 O<|.box O O fun g3=>.b [2,5,6] O<|.seq<|.region<|.alloc O O fun g4=>.done<|.AO<|.ae O<|.a 1 O<|.bd h fun r3 hr3 h=>.ct 6 [2] [1] 0 (rP hr3) Ru O fun A5 c5 A6 c6=>.Bf O O O O O O O O O (gU (E:=AQ) EO)<|.bf [2,5,6,7,8,9] [0] 1 O O<|.seq<|.a 1 O<|.bd h fun r4 hr4 h=>.cr 6 [1] [1] 0 (xF hr4) YF O fun A7 c7=>.bf [2,5,6,7,8,9,10] [0,0] 1 O O<|.AY (fun _ w=>w.MK (zT tJ) 58)<|.bd h fun o1 hl1 h=>.DV 4 (fun (e2:Option Addr × Nat × Option Addr × Nat)=>[2,5,6,7, .s 8 (.bool o1.1),9]) (fun e2=>[.res (yU (zT tJ) 58 e2.2.2.1 e2.2.2.2 o1.2.2.2.2), .ro (AV AQ e2.1 e2.2.1 o1.2.1), .res (Box g3 152 [.slice e2.1 o1.2.1.length e2.2.1, .int .i64 o1.2.2.1, .bool o1.2.2.2.1]), .res (Box g4 46 [.slice e2.2.2.1 o1.2.2.2.2.length e2.2.2.2, .slice none 0 0])]) O O ?_ ?_
 ·refine .block<|.BM hl1 4 (fun (s1:Bool × Int × List Int × Int × Bool × List zN) (e1:Option Addr × Nat × Option Addr × Nat)=>[2,5,6,7, .s 8 (.bool s1.1),9, .s 10 (.int .i64 s1.2.1)]) (fun s1 e1=>[.res (yU (zT tJ) 58 e1.2.2.1 e1.2.2.2 s1.2.2.2.2.2), .ro (AV AQ e1.1 e1.2.1 s1.2.2.1), .res (Box g3 152 [.slice e1.1 s1.2.2.1.length e1.2.1, .int .i64 s1.2.2.2.1, .bool s1.2.2.2.2.1]), .res (Box g4 46 [.slice e1.2.2.1 s1.2.2.2.2.2.length e1.2.2.2, .slice none 0 0])]) O O (A7,c7,none,0) (zb O) (fun _ w=>w) ?_;rintro s1 ⟨A8,c8,A9,c9⟩ st1 hm1 hd1 h1;refine .seq<|.seq<|.bd h1 fun o2 hj1 h1=>.cu 0 [2,5,6,7,8,9,10, .s 61 (.bool o2)] [] O O ?_ ?_
  ·refine .region<|.n 3 O<|.gs 55 hj1 O (fun hj1=>?_) (fun hj1=>?_)
   ·refine .n 3 O<|.BN O O<|.lb 2 2 O ?_;cases hj1;exact .be O<|.hU O zw
   cases hj1;exact .be O<|.hU O zw
  refine .cb h1 O (fun h1=>?_) (fun h1=>?_)
  ·refine .sk<|.pr [2,5,6,7,8,9,10] O<|.seq<|.block<|.a 3 O<|.lb 1 2 O<|.b [2,5,6,7,8,9,10,11] O<|.a 1 O<|.bd h1 fun r5 JH h1=>.cr 7 [2] [2] 0 (zAv JH) zVo O fun FX c12=>.p O O<|.bd h1 fun r6 KU h1=>.cr 8 [1] [1] 0 (cI KU) zVd O fun IE c13=>.p O O<|.alloc O O fun g5=>.sb 0 0 O<|.bf [2,5,6,7,8,9,10,11,12] [0,0,0,1] 2 O O<|.a 2 O<|.bd h1 fun r7 OY h1=>.cr 8 [2] [2] 0 (xF OY) YF O fun GU c14=>.bd h1 fun r8 OZ h1=>.ct 10 [1] [1] 0 (rP OZ) Ru O fun KL c15 LG c16=>.bd h1 fun r9 QW h1=>.cr 11 [1] [] 0 (yN QW) aJ O fun LY c17=>.p O O<|.sb 4 5 O<|.bf [2,5,6,7,8,9,10,11,12] [0,0,0,1] 3 O O<|.a 3 O<|.lb 1 3 O<|.b [2,5,6,7,8,9,10,11,12,13] O<|.a 1 O<|.bd h1 fun r10 LH h1=>.cr 9 [3] [3] 0 (xF LH) YF O fun KO c18=>.bf [2,5,6,7,8,9,10,11,12,13,14] [0,0,0,0] 1 O O<|.a 2 O<|.gs 87 h1 O (fun h1=>?_) (fun h1=>?_)
   ·refine .n 3 O<|.BN O O<|.lb 2 1 O<|.n 3 O<|.gs 94 h1 O (fun h1=>?_) (fun h1=>?_)
    ·refine .n 4 O<|.BN O O<|.bd h1 fun l3 hl3 h1=>.sub (E:=(CY AQ)) O O (zm 6 O) O O O O O O O hl3 fun JS c19=>.BN O O<|.bd h1 fun r11 PD h1=>.cv [0] (nG PD) Rl O<|.bf [2,5,6,7,8,9,10,12] [] 1 O O<|.region<|.p O O<|.lb 0 5 O<|.lb 0 2 O<|.bS O fun g6=>.bd h1 fun l4 hl4 h1=>.AY (fun _ w=>(w.sl [4] 0 O).BU)<|.LW (E:=(zT tJ)) hl4 O O O (CS 5 O) O O O O O O O O (cV (ls:=tJ) [((⟨r5.2,r6.2,r9⟩:zN),((LY,c17),()))] EO O O O ⟨(.head _),trivial⟩) O O fun JU c20=>.p O O<|.sb 0 6 O<|.done<|.BL<|.AO<|.pf [2,5,6,7,8,9,10] [0,0,2,2] 3 O O<|.region ?_;cases h1;exact .be O<|.ag (KO,c18,JU,c20) hm1 O (zl [1,1,1] 0 O)
    cases h1
   cases h1
  refine .xq O ?_;cases h1;cases hd1 _ rfl
  exact .AO<|.hE (A8,c8,A9,c9) O zw
 rintro ⟨EC,c10,EW,c11⟩;refine .seq<|.a 1 O<|.bd h fun r12 PE h=>.cr 7 [2] [2] 0 (xF PE) YF O fun KE c21=>.bf [2,5,6,7,8,9,15] [0,0,0] 1 O O<|.bd h fun o3 hl2 h=>.cu 0 [2,5,6,7,8,9] [] O O ?_ ?_
 ·refine .block<|.BM hl2 0 (fun (s2:Int) (e4:Unit)=>[2,5,6,7,8,9, .s 15 (.int .i64 s2)]) (fun s2 e4=>[]) O O () (zb O) (fun _ w=>w) ?_;rintro s2 e4 st2 hm2 hd2 h2;refine .seq<|.a 3 O<|.gs 113 h2 O (fun h2=>?_) (fun h2=>?_)
  ·cases h2
  refine .b [2,5,6,7,8,9,15,119] O<|.FU O<|.xq O ?_;cases h2;cases hd2 _ rfl
  exact .AO<|.hU O zw
 refine .seq<|.a 3 O<|.gs 138 h O (fun h=>?_) (fun h=>?_)
 ·cases h
 refine .n 3 O<|.BN O O<|.lb 2 1 O<|.n 2 O<|.gs 144 h O (fun h=>?_) (fun h=>?_)
 ·cases h
 refine .n 3 O<|.BN O O<|.lb 1 1 O<|.bf [2,7,8,152] [2,2] 3 O O<|.cb h O (fun h=>?_) (fun h=>?_)
 ·cases h
 refine .sk<|.pr [2,7,8] O<|.seq<|.ab [2,7,155] O<|.cb h O (fun h=>?_) (fun h=>?_)
 ·cases h
 refine .sk<|.pr [2,7] O<|.seq<|.seq<|.region<|.lb 0 1 O<|.AY (fun _ w=>w.IJ)<|.AY (fun _ w=>w.CU (CY zS))<|.bd h fun r13 RU h=>.cv [1,0] (zAL RU) zSo O<|.bf [2,7,16] [] 1 O O<|.ab [2,7,16,160] O<|.cb h O (fun h=>?_) (fun h=>?_)
 ·cases h
 refine .sk<|.pr [2,7] O<|.seq<|.region<|.lb 0 1 O<|.sb 0 2 O<|.bf [2,3] [0,0] 1 O O<|.AY (fun _ w=>w.CU (CY zS)) ?_;cases h;exact .rt O Tryz.results20 (.cell O EO O (.tmp O .nil)) O ⟨EW,c11,none,0,O,O⟩ (zk 2 3 [2,0] [] 0 O)
theorem zUy:BX Tryz.prog 91:=en Tryz.func91 (by kernel_rfl)
def kV [AP] (AB:zB):Option zQ:=
 bnd (sF AB) fun r1=>bif !r1 then (some (⟨0,0,0⟩:zQ)) else (bnd (BP [AB.Slots.e0,AB.Slots.e1] AB.Running) fun x1=>some x1.AU.Version)
theorem zGa [AP] {AB A1 c1 A2 c2 r} (h:kV AB=some r):
    BA Tryz.prog 91 [.agg (zF AB A1 c1 A2 c2).toArray] [.ro (AV AQ A1 c1 AB.Slots.e0.AU.Data), .ro (AV AQ A2 c2 AB.Slots.e1.AU.Data)] (Val (.agg #[.int .i64 r.BZ, .int .i64 r.CB, .int .i64 r.CJ])):=by
 refine BA.intro Tryz.func91 O O O fun w R=>?_;refine .seq<|.region<|.box O O fun g1=>.alloc O O fun g2=>.b [1,2] O<|.seq<|.seq<|.region<|.lb 0 1 O<|.bd h fun r1 hr1 h=>.cv [2,3] (nK hr1) xw O<|.b [1,2,5] O<|.cb h O (fun h=>?_) (fun h=>?_)
 ·refine .a 1 O<|.sb 0 0 O<|.bf [2] [0] 3 O O ?_;cases h;exact .rt O Tryz.results91 (.cell O (.head _) O .nil) O ⟨O,O⟩ (zl [] 1 O)
 refine .sk<|.pr [1,2] O<|.a 1 O<|.lb 14 1 O<|.p O O<|.bd h fun x1 hx1 h=>.TG (sz:=6) hx1 O O O O O O O O<|.n 2 O<|.UH (ls:=vO) 1 [.string AB.Name] [.int .i64 AB.Active, .int .i64 AB.Running, .bool AB.BK] [(AB.Slots.e0,((A1,c1),())),(AB.Slots.e1,((A2,c2),()))] (fun ex=>.agg #[.int .i64 x1.AU.Version.BZ, .int .i64 x1.AU.Version.CB, .int .i64 x1.AU.Version.CJ]) hx1 O O EO O O O ⟨(zm 2 O),(zm 3 O),trivial⟩ O (fun _=>O) fun FC=>?_;obtain ⟨⟨A3,c3⟩,_⟩:=FC;refine .nm 5 O<|.sb 0 1 O<|.bf [2] [0] 4 O O ?_;cases h;exact .rt O Tryz.results91 (.cell O (.head _) O .nil) O ⟨O,O⟩ (zl [] 1 O)
theorem Ec:BX Tryz.prog 38:=en Tryz.func38 (by kernel_rfl)
def wQ [AP] (AL:zM):Option (List yE):=
 bnd (mkS 40 (⟨⟨#[]⟩,(⟨0,0,0⟩:zQ)⟩:yE) 0 (AL.devices.length:Int)) fun l1=>bnd (yC (τ:=List yE) (fun (s1:List yE × Int)=>bif decide (s1.2<(AL.devices.length:Int)) then (bnd (BP AL.devices s1.2) fun x1=>bnd (kV x1) fun r1=>bnd (app 40 s1.1 [(⟨x1.Name,r1⟩:yE)]) fun l2=>some (.next (l2,wrap .i64 (s1.2+1)))) else (some (.done s1.1))) (l1,0)) fun o1=>some o1
theorem vL [AP] {AL A1 c1 A2 c2 A3 c3 A4 c4 A5 c5 AZ BJ r} (h:wQ AL=some r):
    BA Tryz.prog 38 [.pointer (some ⟨AZ,0,none⟩)] [.ro (AV zS A2 c2 AL.needs), .ro (AV yW A3 c3 AL.load.Have), .ro (AV AQ A4 c4 AL.load.Data), .ro (AV zU A5 c5 AL.order), .res (Box AZ 144 (zL AL BJ A1 c1 A2 c2 A3 c3 A4 c4 A5 c5)), .res (yU (zT zC) 64 A1 c1 AL.devices)] (fun v F=>∃ A6 c6,v= .slice A6 r.length c6∧F= [.res (Box AZ 144 (zL AL BJ A1 c1 A2 c2 A3 c3 A4 c4 A5 c5)), .res (yU (zT zC) 64 A1 c1 AL.devices), .res (zI zK 85 A6 c6 r)]):=by
 refine BA.intro Tryz.func38 O O O fun w R=>?_;refine .ab [0] O<|.a 3 O<|.lb 1 4 O<|.p O O<|.bd h fun l1 hl1 h=>.UR (E:=zK) (⟨⟨#[]⟩,(⟨0,0,0⟩:zQ)⟩:yE) hl1 O O O O O O O O O O fun g1=>.b [0,3] O<|.seq<|.a 3 O<|.lb 1 5 O<|.b [3,15,16,17] O<|.bd h fun o1 hl1 h=>.DV 1 (fun (e2:Option Addr × Nat)=>[.s 3 (.slice e2.1 o1.length e2.2)]) (fun e2=>[.res (zI zK 85 e2.1 e2.2 o1)]) O O ?_ ?_
 ·refine .block<|.BM hl1 1 (fun (s1:List yE × Int) (e1:Option Addr × Nat)=>[.s 3 (.slice e1.1 s1.1.length e1.2),15,16, .s 17 (.int .i64 s1.2)]) (fun s1 e1=>[.res (zI zK 85 e1.1 e1.2 s1.1)]) O O ((some ⟨g1,0,none⟩),(Int.toNat (AL.devices.length:Int))) (zb O) (fun _ w=>w) ?_;rintro s1 ⟨A6,c6⟩ st1 hm1 hd1 h1;refine .ae O<|.seq<|.cb h1 O (fun h1=>?_) (fun h1=>?_)
  ·refine .sk<|.pr [3,15,16,17] O<|.seq<|.block<|.seq<|.region<|.bd h1 fun x1 hx1 h1=>.TR hx1 O O O (zm 6 O) O O O O O fun g2 hA=>?_;subst hA;refine .OI (ls:=zC) 0 (fun ex=>.agg (zF x1 ex.1.1 ex.1.2 ex.2.1.1 ex.2.1.2).toArray) hx1 O O (zm 6 O) O (fun _=>O) fun FC=>?_;obtain ⟨⟨A8,c8⟩,⟨⟨A9,c9⟩,_⟩⟩:=FC;refine .nm 9 O<|.alloc O O fun g3=>.sb 0 0 O<|.b [3,5,15,16,17] O<|.BI (iN [0,4,9,13,18,20,27,31,32] .nil) _ mixed (by kernel_rfl) (zl [0,0,0] 1 O)<|.yn 2 O<|.yx 0 0 O<|.yx 0 0 O<|.bd h1 fun r1 hr1 h1=>.YZ (fun _ h=>h) (zGa hr1) zUy O O O O (za [1,2] O)<|.yn 1 O<|.BV<|.bS O fun g4=>.xk (zl [1,1,1] 2 O)<|.BV<|.bd h1 fun l2 hl2 h1=>.app (E:=zK) hl2 O O O (CS 4 O) O O O O O O O O (iV (.head _) O O) O O fun EC c10=>.xk (zl [] 2 O)<|.yn 1 O<|.CQ<|.BL<|.AO<|.pf [3,15,16,17] [0] 4 O O<|.region ?_;cases h1;exact .be O<|.ag (EC,c10) hm1 O zw
  refine .xq O ?_;cases h1;cases hd1 _ rfl
  exact .AO<|.hE (A6,c6) O zw
 rintro ⟨A7,c7⟩;refine .ab [2] O ?_;cases h;exact .rv O O ⟨A7,c7,O,O⟩ (zl [5,5,0] 4 O)
theorem zTg:BX Tryz.prog 161:=en Tryz.func161 (by kernel_rfl)
def oO (DI:yE) (cap0:zN):Option Bool:=
 some (DI.Name.toList==cap0.Name.toList)
theorem zAb {DI cap0 A1 c1 AZ r} (h:oO DI cap0=some r):
    BA Tryz.prog 161 [.agg (lS DI).toArray, .pointer (some ⟨AZ,0,none⟩)] [.ro (AV AQ A1 c1 cap0.Data), .res (Box AZ 58 (yO cap0 A1 c1))] (fun v F=>v= .bool r∧F= [.res (Box AZ 58 (yO cap0 A1 c1))]):=by
 unfold oO at h
 refine BA.intro Tryz.func161 O O O fun w R=>?_;refine .seq<|.region<|.box O O fun g1=>.b [1,2] O<|.a 1 O<|.lb 0 0 O<|.p O O<|.lb 0 2 O<|.bf [3] [] 1 O O ?_;cases h;exact .rv O O ⟨O,O⟩ (zl [] 1 O)
theorem zSt:BX Tryz.prog 160:=en Tryz.func160 (by kernel_rfl)
def wE [AP] (AX:(List yE)) (GK:zN):Option Int:=
 bnd (yC (τ:=Int ⊕ Unit) (fun (s1:Int)=>bif decide (s1<(AX.length:Int)) then (bnd (BP AX s1) fun x1=>bnd (oO x1 GK) fun r1=>bif r1 then (some (.done (.inl s1))) else (some (.next (wrap .i64 (s1+1))))) else (none)) 0) fun o1=>xL o1 fun o2=>some (-1)
theorem tG [AP] {AX GK A1 c1 A2 c2 AZ r} (h:wE AX GK=some r):
    BA Tryz.prog 160 [.slice A1 AX.length c1, .func (.func 161) #[] #[.pointer (some ⟨AZ,0,none⟩)]] [.ro (AV AQ A2 c2 GK.Data), .res (zI zK 85 A1 c1 AX), .res (Box AZ 58 (yO GK A2 c2))] (fun v F=>v= .int .i64 r∧F= [.res (Box AZ 58 (yO GK A2 c2)), .res (zI zK 85 A1 c1 AX)]):=by
 refine BA.intro Tryz.func160 O O O fun w R=>?_;refine .ab [0,1] O<|.seq<|.ab [0,1,7,8] O<|.bd h fun o1 hl1 h=>.ES 0 (fun (o2:Unit) (e2:Unit)=>[]) (fun o2 e2=>[]) O O (fun o2=>o1= .inr o2) ?_ ?_
 ·refine .block<|.BM hl1 0 (fun (s1:Int) (e1:Unit)=>[0,1,7, .s 8 (.int .i64 s1)]) (fun s1 e1=>[]) O O () (zb O) (fun _ w=>w) ?_;rintro s1 e1 st1 hm1 hd1 h1;refine .ae O<|.seq<|.cb h1 O (fun h1=>?_) (fun h1=>?_)
  ·refine .sk<|.pr [0,1,7,8] O<|.seq<|.block<|.ab [0,1,5,7,8] O<|.a 3 O<|.bd h1 fun x1 hx1 h1=>.PW hx1 1 O fun g1 hA=>?_;subst hA;refine .MJ 0 hx1 O O EO O O<|.bd h1 fun r1 hr1 h1=>.QD (args:= [.agg (lS x1).toArray]) (us:= [.pointer (some ⟨AZ,0,none⟩)]) (zAb hr1) zTg O O O (zd [1] [2] 0 O) ?_;rintro _ _ ⟨rfl,rfl⟩;refine .nm 3 O<|.b [0,1,5,7,8,16] O<|.cb h1 O (fun h1=>?_) (fun h1=>?_)
   ·refine .ab [4] O ?_;cases h1;cases hd1 _ rfl
    have h:some _=some _:=h;cases h;exact .rv O O ⟨O,O⟩ (zl [0] 1 O)
   refine .skip<|.BL<|.AO<|.pr [0,1,7,8] O<|.region ?_;cases h1;exact .be O<|.ag () hm1 O (zl [1,1] 0 O)
  cases h1
 rintro o2 e2 ho;subst ho;have h:=JG h;refine .ae O ?_;cases h;exact .rv O O ⟨O,O⟩ (zl [2] 1 O)
theorem zVx:BX Tryz.prog 79:=en Tryz.func79 (by kernel_rfl)
def gJ [AP] (AL:zM) (DC:iI):Option (lZ × Int):=
 bnd (wQ AL) fun r1=>bnd (wQ AL) fun r2=>bnd (xC AL.needs) fun r3=>bnd (yC (τ:=(lZ × Int) ⊕ List yE) (fun (s1:Int × List yE)=>bif decide (s1.1<(DC.ET.length:Int)) then (bnd (BP DC.ET s1.1) fun x1=>bnd (wE s1.2 x1) fun r4=>bif decide (r4<0) then (none) else (bnd (BP s1.2 r4) fun x2=>bnd (rJ s1.2 r4 (⟨x2.Name,x1.Version⟩:yE)) fun l1=>some (.next (wrap .i64 (s1.1+1),l1)))) else (some (.done (.inr s1.2)))) (0,r2)) fun o1=>xL o1 fun o2=>bnd (yC (τ:=(lZ × Int) ⊕ Unit) (fun (s2:Int)=>bif decide (s2<(DC.Needs.length:Int)) then (none) else (some (.done (.inr ())))) 0) fun o3=>xL o3 fun o4=>some ((⟨r1,o2,r3⟩:lZ),0)
theorem zBn [AP] {AL DC A1 c1 A2 c2 A3 c3 A4 c4 A5 c5 A6 c6 A7 c7 AZ BJ r} (h:gJ AL DC=some r):
    BA Tryz.prog 79 [.pointer (some ⟨AZ,0,none⟩), .agg #[.slice A6 DC.ET.length c6, .slice A7 DC.Needs.length c7]] [.ro (AV zS A2 c2 AL.needs), .ro (AV yW A3 c3 AL.load.Have), .ro (AV AQ A4 c4 AL.load.Data), .ro (AV zU A5 c5 AL.order), .ro (Sl (zT tJ) A6 c6 DC.ET), .ro (AV zS A7 c7 DC.Needs), .res (Box AZ 144 (zL AL BJ A1 c1 A2 c2 A3 c3 A4 c4 A5 c5)), .res (yU (zT zC) 64 A1 c1 AL.devices)] (fun v F=>∃ A8 c8 A9 c9 EC c10,v= .tuple #[.agg #[.slice A8 r.1.Now.length c8, .slice A9 r.1.Next.length c9, .slice EC r.1.Needs.length c10], .int .i64 r.2]∧F= [.ro (AV zK A8 c8 r.1.Now), .ro (AV zK A9 c9 r.1.Next), .ro (AV zS EC c10 r.1.Needs), .res (Box AZ 144 (zL AL BJ A1 c1 A2 c2 A3 c3 A4 c4 A5 c5)), .res (yU (zT zC) 64 A1 c1 AL.devices)]):=by
 refine BA.intro Tryz.func79 O O O fun w R=>?_;refine .seq<|.region<|.box O O fun g1=>.alloc O O fun g2=>.b [0,3,4] O<|.seq<|.bd h fun r1 hr1 h=>.bd h fun r2 hr2 h=>.bd h fun r3 hr3 h=>.BI (iN [0,8,16,20,24,28] (.alt (iN [7] (.alt (iN [15] (.alt (iN [35,36] (iN [43] (iN [47] .nil))) (iN [43] (iN [35,36] (iN [47] .nil))))) (iN [43] (iN [15] (iN [35,36] (iN [47] .nil)))))) (iN [43] (iN [7] (iN [15] (iN [35,36] (iN [47] .nil))))))) _ mixed (by kernel_rfl) zw<|.DX (Y:=?IZ) 10 (fun (e:Option Addr × Nat × Option Addr × Nat × Option Addr × Nat × Nat)=>[0,3,4, .s 6 (.pointer (some ⟨e.2.2.2.2.2.2,0,none⟩)), .s 13 (.slice e.1 r1.length e.2.1), .s 15 (.slice e.2.2.1 r2.length e.2.2.2.1), .s 20 (.slice e.2.2.2.2.1 r3.length e.2.2.2.2.2.1), .s 21 (.agg #[.slice e.1 r1.length e.2.1, .slice e.2.2.1 r2.length e.2.2.2.1, .slice e.2.2.2.2.1 r3.length e.2.2.2.2.2.1])]) (fun e=>[.res (Box e.2.2.2.2.2.2 83 [.slice none 0 0, .slice none 0 0, .slice none 0 0]), .res (zI zS 123 e.2.2.2.2.1 e.2.2.2.2.2.1 r3),8,9, .res (zI zK 85 e.2.2.1 e.2.2.2.1 r2), .res (zI zK 85 e.1 e.2.1 r1),0,1,2,3,4,5,6,7]) O O (fun DL=>?EQ) ?ER
 case EQ=>
  refine .DX (Y:=?KZ) 10 (fun (e:Option Addr × Nat × Option Addr × Nat × Nat)=>[0,3,4, .s 6 (.pointer (some ⟨e.2.2.2.2,0,none⟩)), .s 13 (.slice e.1 r1.length e.2.1), .s 15 (.slice e.2.2.1 r2.length e.2.2.2.1), .s 19 (.slice A2 AL.needs.length c2)]) (fun e=>[.res (Box e.2.2.2.2 83 [.slice none 0 0, .slice none 0 0, .slice none 0 0]),8,9, .res (zI zK 85 e.2.2.1 e.2.2.2.1 r2), .res (zI zK 85 e.1 e.2.1 r1),0,1,2,3,4,5,6,7]) O O (fun EU=>?GL) ?GN
  case GL=>
   refine .DX (Y:=?RV) 10 (fun (e:Option Addr × Nat × Nat)=>[0,3,4, .s 6 (.pointer (some ⟨e.2.2,0,none⟩)), .s 13 (.slice e.1 r1.length e.2.1), .s 14 (.pointer (some ⟨AZ,0,none⟩)), .s 19 (.slice A2 AL.needs.length c2)]) (fun e=>[.res (Box e.2.2 83 [.slice none 0 0, .slice none 0 0, .slice none 0 0]),8,9, .res (zI zK 85 e.1 e.2.1 r1),0,1,2,3,4,5,6,7]) O O (fun JI=>?LJ) ?LK
   case LJ=>
    refine .yn 5 O<|.yl 2 8 O<|.FY ?_ ?_
    ·refine .BV<|.cr 11 [4,5,6,7] [8,8] 0 (vL (AZ:=AZ) hr1) Ec O fun A8 c8=>.xk (zl [3,3,3,3,3,3,3,3,0,0] 1 O)<|.FY ?_ ?_
     ·refine .BV<|.cr 12 [5,6,7,8] [] 0 (vL (AZ:=AZ) hr2) Ec O fun A9 c9=>.xk (zl [4,4,4,4,4,4,4,4,0,0] 2 O)<|.FY ?_ ?_
      ·refine .BV<|.cr 13 [6] [] 0 (vU hr3) C9 O fun EC c10=>.xk (zl [5,5,5,5,5,5,5,5,1,1] 3 O)<|.yn 1 O<|.BV<|.alloc O O fun g3=>.xk (zl [6,6,6,6,6,6,6,6,2,2] 4 O) ?_;refine DL _ _ (A8,c8,A9,c9,EC,c10,g3) ?_ ?_
       ·exact ⟨O,O,O,O,O,O,O,O,trivial⟩
       exact fun _ w=>w
      refine .BV<|.alloc O O fun g3=>.xk (zl [5,5,5,5,5,5,5,5,1,1] 3 O) ?_;refine EU _ _ (A8,c8,A9,c9,g3) ?_ ?_
      ·exact ⟨O,O,O,O,O,O,O,trivial⟩
      exact fun _ w=>w
     refine .BV<|.alloc O O fun g3=>.xk (zl [4,4,4,4,4,4,4,4,1,1] 2 O) ?_;refine JI _ _ (A8,c8,g3) ?_ ?_
     ·exact ⟨O,O,O,O,O,O,O,trivial⟩
     exact fun _ w=>w
    refine .BV<|.alloc O O fun g3=>.xk (zl [] 1 O)<|.BV<|.cr 12 [5,6,7,8] [9,9] 0 (vL (AZ:=AZ) hr1) Ec O fun A8 c8=>.xk (zl [4,4,4,4,4,4,4,4,0,0] 2 O) ?_;refine JI _ _ (A8,c8,g3) ?_ ?_
    ·exact ⟨O,O,O,O,O,O,O,trivial⟩
    exact fun _ w=>(w.sl [3] 0 O)
   case LK=>
    rintro ⟨A8,c8,g3⟩;refine .nm 12 O<|.BV<|.cr 13 [6,7,8,9] [1,1] 0 (vL (AZ:=AZ) hr2) Ec O fun A9 c9=>.xk (zl [5,5,5,5,5,5,5,5,0,0] 3 O) ?_;refine EU _ _ (A8,c8,A9,c9,g3) ?_ ?_
    ·exact ⟨O,O,O,O,O,O,O,trivial⟩
    exact fun _ w=>(w.sl [3] 0 O)
  case GN=>
   rintro ⟨A8,c8,A9,c9,g3⟩;refine .nm 13 O<|.BV<|.cr 14 [7] [] 0 (vU hr3) C9 O fun EC c10=>.xk (zl [6,6,6,6,6,6,6,6,2,2] 4 O)<|.yn 1 O ?_;refine DL _ _ (A8,c8,A9,c9,EC,c10,g3) ?_ ?_
   ·exact ⟨O,O,O,O,O,O,O,O,trivial⟩
   exact fun _ w=>(w.sl [1] 0 O)
 case ER=>
  rintro ⟨A8,c8,A9,c9,EC,c10,g3⟩;refine .nm 14 O<|.BV<|.sb 0 0 O<|.xk (zl [6,6,6,6,6,6,6,6,2,2] 4 O)<|.CQ<|.AO<|.pr [0,3,4,6] O<|.seq<|.a 1 O<|.lb 0 7 O<|.b [0,3,4,6,23,24,25] O<|.bd h fun o1 hl1 h=>.ES 5 (fun (o2:List yE) (e2:Option Addr × Nat)=>[0,3,4,6]) (fun o2 e2=>[.res (zI zK 85 e2.1 e2.2 o2), .res (Box g3 83 [.slice A8 r1.length c8, .slice e2.1 o2.length e2.2, .slice EC r3.length c10]),1,2,3]) O O (fun o2=>o1= .inr o2) ?_ ?_
  ·refine .block<|.BM hl1 5 (fun (s1:Int × List yE) (e1:Option Addr × Nat)=>[0,3,4,6,23,24, .s 25 (.int .i64 s1.1)]) (fun s1 e1=>[.res (zI zK 85 e1.1 e1.2 s1.2), .res (Box g3 83 [.slice A8 r1.length c8, .slice e1.1 s1.2.length e1.2, .slice EC r3.length c10]),1,2,3]) O O (A9,c9) (zb O) (zl [4] 0 O) ?_;rintro s1 ⟨EW,c11⟩ st1 hm1 hd1 h1;refine .ae O<|.seq<|.cb h1 O (fun h1=>?_) (fun h1=>?_)
   ·refine .sk<|.pr [0,3,4,6,23,24,25] O<|.seq<|.block<|.seq<|.region<|.bd h1 fun x1 hx1 h1=>.KY hx1 12 O fun b1 DY FC=>?_;obtain ⟨⟨IE,c13⟩,_⟩:=FC;refine .nm 16 O<|.ld DY 0 0 O<|.alloc O O fun g4=>.sb 0 0 O<|.bf [0,3,4,6,8,23,24,25] [0] 1 O O<|.a 1 O<|.lb 1 3 O<|.p O O<|.bd h1 fun r4 hr4 h1=>.cq 16 [2] [2] 0 (tG hr4) zSt O<|.b [0,3,4,6,8,9,23,24,25] O<|.seq<|.ab [0,3,4,6,8,9,23,24,25,34] O<|.cb h1 O (fun h1=>?_) (fun h1=>?_)
    ·cases h1
    refine .sk<|.pr [0,3,4,6,8,9,23,24,25] O<|.region<|.p O O<|.lb 1 3 O<|.n 2 O<|.lb 1 0 O<|.bd h1 fun x2 hx2 h1=>.PW hx2 1 O fun g5 hA=>?_;subst hA;refine .p O O<|.bd h1 fun l1 hl1 h1=>.TB 1 hx2 hl1 O O (.s .z) O O O O O ?_;refine .ss 37 (wY hl1)<|.AY (F':=.res (zI zK 85 (some ⟨g5,0,none⟩) c11 l1):: .res (Box g4 58 (yO x1 IE c13)):: .ro (AV AQ IE c13 x1.Data):: .res (Box g3 83 [.slice A8 r1.length c8, .slice (some ⟨g5,0,none⟩) l1.length c11, .slice EC r3.length c10]):: .res (zI zS 123 EC c10 r3):: .res (Box AZ 144 (zL AL BJ A1 c1 A2 c2 A3 c3 A4 c4 A5 c5)):: .res (yU (zT zC) 64 A1 c1 AL.devices):: .res (zI zK 85 A8 c8 r1):: .res (Box g2 83 [.slice none 0 0, .slice none 0 0, .slice none 0 0]):: .res (Box g1 46 [.slice A6 DC.ET.length c6, .slice A7 DC.Needs.length c7]):: .ro (AV zS A2 c2 AL.needs):: .ro (AV yW A3 c3 AL.load.Have):: .ro (AV AQ A4 c4 AL.load.Data):: .ro (AV zU A5 c5 AL.order):: .ro (Sl (zT tJ) A6 c6 DC.ET):: .ro (AV zS A7 c7 DC.Needs)::R) (fun _ w=>by rw [sV hl1]; exact w)<|.done<|.BL<|.AO<|.pf [0,3,4,6,23,24,25] [0] 2 O O<|.region ?_;cases h1;exact .be O<|.ag ((some ⟨g5,0,none⟩),c11) hm1 O zw
   refine .xq O ?_;cases h1;cases hd1 _ rfl
   exact .AO<|.CZ s1.2 (EW,c11) O (zb O) zw
  rintro o2 ⟨FX,c12⟩ ho;subst ho;have h:=JG h;refine .seq<|.a 1 O<|.lb 1 7 O<|.bf [0,4,6,45,46,47] [0,0,0,0,0,0,0,1,1,1,1] 2 O O<|.bd h fun o3 hl2 h=>.ES 12 (fun (o4:Unit) (e4:Unit)=>[4,6]) (fun o4 e4=>[0,1,2,3,4,5,6,7,8,9,10]) O O (fun o4=>o3= .inr o4) ?_ ?_
  ·refine .block<|.BM hl2 0 (fun (s2:Int) (e3:Unit)=>[0,4,6,45,46, .s 47 (.int .i64 s2)]) (fun s2 e3=>[]) O O () (zb O) (fun _ w=>w) ?_;rintro s2 e3 st2 hm2 hd2 h2;refine .ae O<|.seq<|.cb h2 O (fun h2=>?_) (fun h2=>?_)
   ·cases h2
   refine .xq O ?_;cases h2;cases hd2 _ rfl
   exact .AO<|.CZ () () O (zb O) (zl [0,0,0,0,0,0,0,0,0,0,0] 1 O)
  rintro o4 e4 ho;subst ho;have h:=JG h;refine .seq<|.region<|.lb 0 1 O<|.sb 0 6 O<|.bf [4,5] [0,0] 1 O O<|.AY (fun _ w=>(w.sl [5] 0 O).BU)<|.AY (fun _ w=>(w.sl [2] 0 O).BU)<|.AY (fun _ w=>(w.sl [3] 0 O).BU) ?_;cases h;exact .rt O Tryz.results79 (.cell O XI O (.tmp O .nil)) O ⟨A8,c8,FX,c12,EC,c10,O,O⟩ (zk 5 8 [4,3,2] [4,4] 0 O)
theorem zTP:BX Tryz.prog 173:=en Tryz.func173 (by kernel_rfl)
def oZ (AL:yE) (DC:yE):Option Bool:=
 some (AL.Name.toList==DC.Name.toList)
theorem zAc {AL DC r} (h:oZ AL DC=some r):
    BA Tryz.prog 173 [.agg (lS AL).toArray, .agg (lS DC).toArray] [] (Val (.bool r)):=by
 unfold oZ at h
 refine BA.intro Tryz.func173 O O O fun w R=>?_;refine .seq<|.region<|.box O O fun g1=>.box O O fun g2=>.b [2,3] O<|.a 1 O<|.lb 0 1 O<|.p O O<|.lb 0 0 O<|.bf [4] [] 2 O O ?_;cases h;exact .rv O O ⟨O,O⟩ zw
theorem zSz:BX Tryz.prog 172:=en Tryz.func172 (by kernel_rfl)
def yY [AP] (NC:(List yE)) (OL:(List yE)):Option Bool:=
 bif ((NC.length:Int) != (OL.length:Int)) then (none) else (bnd (yC (τ:=Bool ⊕ Unit) (fun (s1:Int)=>bif decide (s1<(NC.length:Int)) then (bnd (BP NC s1) fun x1=>bnd (BP OL s1) fun x2=>bnd (oZ x1 x2) fun r1=>bif !r1 then (none) else (some (.next (wrap .i64 (s1+1))))) else (some (.done (.inr ())))) 0) fun o1=>xL o1 fun o2=>some true)
theorem wF [AP] {NC OL A1 c1 A2 c2 r} (h:yY NC OL=some r):
    BA Tryz.prog 172 [.slice A1 NC.length c1, .slice A2 OL.length c2, .func (.func 173) #[] #[]] [.ro (AV zK A1 c1 NC), .ro (AV zK A2 c2 OL)] (Val (.bool r)):=by
 refine BA.intro Tryz.func172 O O O fun w R=>?_;refine .ab [0,1,2] O<|.seq<|.ab [0,1,2,14] O<|.cb h O (fun h=>?_) (fun h=>?_)
 ·cases h
 refine .sk<|.pr [0,1,2] O<|.seq<|.ab [1,2,15,16,17] O<|.bd h fun o1 hl1 h=>.ES 2 (fun (o2:Unit) (e2:Unit)=>[]) (fun o2 e2=>[]) O O (fun o2=>o1= .inr o2) ?_ ?_
 ·refine .block<|.BM hl1 0 (fun (s1:Int) (e1:Unit)=>[1,2,15,16, .s 17 (.int .i64 s1)]) (fun s1 e1=>[]) O O () (zb O) (fun _ w=>w) ?_;rintro s1 e1 st1 hm1 hd1 h1;refine .ae O<|.seq<|.cb h1 O (fun h1=>?_) (fun h1=>?_)
  ·refine .sk<|.pr [1,2,15,16,17] O<|.seq<|.block<|.a 1 O<|.bd h1 fun x1 hx1 h1=>.IB hx1 0 O fun b1 DY=>.ld DY 0 0 O<|.alloc O O fun g1=>.p O O<|.sb 0 0 O<|.bf [1,2,7,8,15,16,17] [0] 1 O O<|.a 2 O<|.bd h1 fun x2 hx2 h1=>.IB hx2 2 O fun b2 JD=>.ld JD 0 0 O<|.alloc O O fun g2=>.sb 0 0 O<|.bf [1,2,8,9,15,16,17] [0] 1 O O<|.a 1 O<|.lb 0 1 O<|.lb 0 0 O<|.bd h1 fun r1 hr1 h1=>.cv [] (zAc hr1) zTP O<|.bf [1,2,15,16,17,30] [] 2 O O<|.cb h1 O (fun h1=>?_) (fun h1=>?_)
   ·cases h1
   refine .skip<|.BL<|.AO<|.pr [1,2,15,16,17] O<|.region ?_;cases h1;exact .be O<|.ag () hm1 O zw
  refine .xq O ?_;cases h1;cases hd1 _ rfl
  exact .AO<|.CZ () () O trivial (zl [] 2 O)
 rintro o2 e2 ho;subst ho;have h:=JG h;refine .ae O ?_;cases h;exact .rv O O ⟨O,O⟩ zw
theorem zRT:BX Tryz.prog 96:=en Tryz.func96 (by kernel_rfl)
def mX [AP] (BR:lZ):Option Int:=
 bnd (wI BR.Now ([])) fun r1=>bnd (wI BR.Next ([])) fun r2=>bif (r1.2 != 0) then (none) else (bif (r2.2 != 0) then (none) else (bnd (wI ([]) BR.Needs) fun r3=>bif (r3.2 != 0) then (none) else (bnd (yY BR.Now BR.Next) fun r4=>bif !r4 then (none) else (bnd (wI BR.Now BR.Needs) fun r5=>bnd (wI BR.Next BR.Needs) fun r6=>bif decide (r5.1≥0) then (none) else (bif decide (r6.1≥0) then (none) else (some 0))))))
theorem eC [AP] {BR A1 c1 A2 c2 A3 c3 r} (h:mX BR=some r):
    BA Tryz.prog 96 [.agg #[.slice A1 BR.Now.length c1, .slice A2 BR.Next.length c2, .slice A3 BR.Needs.length c3]] [.ro (AV zK A1 c1 BR.Now), .ro (AV zK A2 c2 BR.Next), .ro (AV zS A3 c3 BR.Needs)] (Val (.int .i64 r)):=by
 refine BA.intro Tryz.func96 O O O fun w R=>?_;refine .seq<|.region<|.box O O fun g1=>.b [1] O<|.a 1 O<|.lb 0 0 O<|.AY (fun _ w=>w.CU (CY zS))<|.bd h fun r1 hr1 h=>.cv [2,0] (uK hr1) ZN O<|.bf [1,4] [] 1 O O<|.a 1 O<|.lb 1 0 O<|.AY (fun _ w=>w.CU (CY zS))<|.bd h fun r2 hr2 h=>.cv [3,0] (uK hr2) ZN O<|.bf [1,4,6] [] 1 O O<|.seq<|.a 3 O<|.gs 21 h O (fun h=>?_) (fun h=>?_)
 ·cases h
 refine .b [1,24] O<|.cb h O (fun h=>?_) (fun h=>?_)
 ·cases h
 refine .sk<|.pr [1] O<|.seq<|.a 1 O<|.lb 2 0 O<|.AY (fun _ w=>w.CU (CY zK))<|.bd h fun r3 hr3 h=>.cv [0,4] (uK hr3) ZN O<|.bf [1,4] [] 1 O O<|.ab [1,32] O<|.cb h O (fun h=>?_) (fun h=>?_)
 ·cases h
 refine .sk<|.pr [1] O<|.seq<|.a 1 O<|.lb 0 0 O<|.p O O<|.lb 1 0 O<|.bd h fun r4 hr4 h=>.cv [1,2] (wF hr4) zSz O<|.b [1,38] O<|.cb h O (fun h=>?_) (fun h=>?_)
 ·cases h
 refine .sk<|.pr [1] O<|.a 1 O<|.lb 0 0 O<|.p O O<|.lb 2 0 O<|.bd h fun r5 JH h=>.cv [1,3] (uK JH) ZN O<|.b [1,3] O<|.a 1 O<|.lb 1 0 O<|.p O O<|.lb 2 0 O<|.bd h fun r6 KU h=>.cv [2,3] (uK KU) ZN O<|.bf [3,5] [] 4 O O<|.seq<|.a 3 O<|.gs 57 h O (fun h=>?_) (fun h=>?_)
 ·cases h
 refine .b [60] O<|.cb h O (fun h=>?_) (fun h=>?_)
 ·cases h
 refine .sk<|.pr [] O<|.ae O ?_;cases h;exact .rv O O ⟨O,O⟩ zw
theorem zSd:BX Tryz.prog 97:=en Tryz.func97 (by kernel_rfl)
def jD [AP] (BR:lZ):Option Int:=
 bnd (yC (τ:=Int) (fun (s1:Int × Int)=>bif decide (s1.2<(BR.Now.length:Int)) then (bnd (BP BR.Now s1.2) fun x1=>bnd (BP BR.Next s1.2) fun x2=>bif !((x1.Version.BZ==x2.Version.BZ)&&((x1.Version.CB==x2.Version.CB)&&((x1.Version.CJ==x2.Version.CJ)&&true))) then (bnd (ay .i64 1 s1.2) fun q1=>some (.next (FK .i64 s1.1 q1,wrap .i64 (s1.2+1)))) else (none)) else (some (.done s1.1))) (0,0)) fun o1=>some o1
theorem cZ [AP] {BR A1 c1 A2 c2 A3 c3 r} (h:jD BR=some r):
    BA Tryz.prog 97 [.agg #[.slice A1 BR.Now.length c1, .slice A2 BR.Next.length c2, .slice A3 BR.Needs.length c3]] [.ro (AV zK A1 c1 BR.Now), .ro (AV zK A2 c2 BR.Next), .ro (AV zS A3 c3 BR.Needs)] (Val (.int .i64 r)):=by
 refine BA.intro Tryz.func97 O O O fun w R=>?_;refine .seq<|.region<|.box O O fun g1=>.b [1] O<|.ae O<|.seq<|.a 1 O<|.lb 0 0 O<|.b [1,3,7,8] O<|.bd h fun o1 hl1 h=>.cu 4 [.s 3 (.int .i64 o1)] [] O O ?_ ?_
 ·refine .block<|.BM hl1 0 (fun (s1:Int × Int) (e1:Unit)=>[1, .s 3 (.int .i64 s1.1),7, .s 8 (.int .i64 s1.2)]) (fun s1 e1=>[]) O O () (zb O) (fun _ w=>w) ?_;rintro s1 e1 st1 hm1 hd1 h1;refine .ae O<|.seq<|.cb h1 O (fun h1=>?_) (fun h1=>?_)
  ·refine .sk<|.pr [1,3,7,8] O<|.seq<|.block<|.ab [1,3,4,7,8] O<|.seq<|.regionF mixed (by kernel_rfl)<|.p O O<|.lb 0 0 O<|.p O O<|.bd h1 fun x1 hx1 h1=>.IB hx1 1 O fun b1 DY=>.p O O<|.ld DY 1 0 O<|.p O O<|.lb 1 1 O<|.p O O<|.bd h1 fun x2 hx2 h1=>.IB hx2 3 O fun b2 JD=>.p O O<|.ld JD 1 0 O<|.beq O<|.pf [1,3,4,7,8,23] [] 2 O O<|.cb h1 O (fun h1=>?_) (fun h1=>?_)
   ·refine .region<|.n 2 O<|.bd h1 fun q1 hq1 h1=>.shl O O O hq1<|.n 2 O<|.done<|.BL<|.AO<|.pr [1,3,7,8] O<|.region ?_;cases h1;exact .be O<|.ag () hm1 O zw
   cases h1
  refine .xq O ?_;cases h1;cases hd1 _ rfl
  exact .AO<|.hU O (zl [] 4 O)
 refine .ab [2] O ?_;cases h;exact .rv O O ⟨O,O⟩ zw
theorem zSJ:BX Tryz.prog 234:=en Tryz.func234 (by kernel_rfl)
def wA (AX:(List yE)):Option (List yE):=
 bnd (app 40 ([]) AX) fun l1=>some l1
theorem pJ {AX A1 c1 r} (h:wA AX=some r):
    BA Tryz.prog 234 [.slice A1 AX.length c1] [.ro (AV zK A1 c1 AX)] (fun v F=>∃ A2 c2,v= .slice A2 r.length c2∧F= [.res (zI zK 85 A2 c2 r)]):=by
 unfold wA at h
 refine BA.intro Tryz.func234 O O O fun w R=>?_
 rcases A1 with _ | ad
 ·refine .fact (φ:=AX= []) (fun w hf=>(hf.ro (r:=AV zK none c1 AX) (.head _)).2.2.1 O) fun hs=>?_;subst hs;have h:(some ([]):Option (List yE))=some r:=by simpa [app,bnd] using h
  refine .ab [0] O<|.seq<|.ab [0,4] O<|.EP O<|.EK [2] [] 1 O O<|.AY (fun _ w=>w.HY zK 85) ?_;cases h;exact .rv O O ⟨none,0,O,O⟩ zw
 refine .ab [0] O<|.seq<|.ab [0,4] O<|.FU O<|.sk<|.pr [0] O<|.seq<|.region<|.bS O fun g1=>.p O O<|.AY (fun _ w=>w.IL (E:=zK) (e:=85) [] O O)<|.bd h fun l1 hl1 h=>.app (E:=zK) hl1 O O O .z O O O O O O O O (gU EO) O O fun A2 c2=>.bf [2] [0] 1 O O ?_;cases h;exact .rv O O ⟨A2,c2,O,O⟩ zw
theorem zSU:BX Tryz.prog 174:=en Tryz.func174 (by kernel_rfl)
def fR [AP] (BR:lZ) (set:Int):Option (List yE):=
 bnd (wA BR.Now) fun r1=>bnd (yC (τ:=List yE) (fun (s1:Int × List yE)=>bif decide (s1.1<(r1.length:Int)) then (bnd (WJ .i64 set s1.1) fun q1=>bif ((sN .i64 q1 1)==1) then (bnd (BP BR.Next s1.1) fun x1=>bnd (BP s1.2 s1.1) fun x2=>bnd (rJ s1.2 s1.1 x1) fun l1=>some (.next (wrap .i64 (s1.1+1),l1))) else (some (.next (wrap .i64 (s1.1+1),s1.2)))) else (some (.done s1.2))) (0,r1)) fun o1=>some o1
theorem zBY [AP] {BR set A1 c1 A2 c2 A3 c3 r} (h:fR BR set=some r):
    BA Tryz.prog 174 [.agg #[.slice A1 BR.Now.length c1, .slice A2 BR.Next.length c2, .slice A3 BR.Needs.length c3], .int .i64 set] [.ro (AV zK A1 c1 BR.Now), .ro (AV zK A2 c2 BR.Next), .ro (AV zS A3 c3 BR.Needs)] (fun v F=>∃ A4 c4,v= .slice A4 r.length c4∧F= [.res (zI zK 85 A4 c4 r)]):=by
 refine BA.intro Tryz.func174 O O O fun w R=>?_;refine .seq<|.region<|.box O O fun g1=>.b [1,2] O<|.a 1 O<|.lb 0 0 O<|.bd h fun r1 hr1 h=>.cr 5 [1] [] 0 (pJ hr1) zSJ O fun A4 c4=>.b [1,2,5] O<|.seq<|.ab [1,2,5,11,12] O<|.bd h fun o1 hl1 h=>.DV 5 (fun (e2:Option Addr × Nat)=>[.s 5 (.slice e2.1 o1.length e2.2)]) (fun e2=>[.res (zI zK 85 e2.1 e2.2 o1)]) O O ?_ ?_
 ·refine .block<|.BM hl1 1 (fun (s1:Int × List yE) (e1:Option Addr × Nat)=>[1,2, .s 5 (.slice e1.1 s1.2.length e1.2),11, .s 12 (.int .i64 s1.1)]) (fun s1 e1=>[.res (zI zK 85 e1.1 e1.2 s1.2)]) O O (A4,c4) (zb O) (fun _ w=>w) ?_;rintro s1 ⟨A5,c5⟩ st1 hm1 hd1 h1;refine .ae O<|.seq<|.cb h1 O (fun h1=>?_) (fun h1=>?_)
  ·refine .sk<|.pr [1,2,5,11,12] O<|.seq<|.block<|.ab [1,2,5,6,11,12] O<|.a 2 O<|.bd h1 fun q1 hq1 h1=>.shr O O O hq1<|.b [1,2,5,6,11,12,19] O<|.cb h1 O (fun h1=>?_) (fun h1=>?_)
   ·refine .region<|.n 3 O<|.lb 1 1 O<|.p O O<|.bd h1 fun x1 hx1 h1=>.IB hx1 3 O fun b1 DY=>.ld DY 0 0 O<|.bd h1 fun x2 hx2 h1=>.PW hx2 1 O fun g2 hA=>?_;subst hA;refine .bd h1 fun l1 hl1 h1=>.TB 0 hx2 hl1 O O (.s .z) O O O O O ?_;refine .ss 5 (wY hl1) ?_;refine .ss 20 (wY hl1)<|.done<|.BL<|.AO<|.pf [1,2,5,11,12] [0] 1 O O<|.region ?_;cases h1;exact .be O<|.ag ((some ⟨g2,0,none⟩),c5) hm1 O zw
   refine .skip<|.BL<|.AO<|.pr [1,2,5,11,12] O<|.region ?_;cases h1;exact .be O<|.ag (A5,c5) hm1 O zw
  refine .xq O ?_;cases h1;cases hd1 _ rfl
  exact .AO<|.hE (A5,c5) O (zl [0] 4 O)
 rintro ⟨A6,c6⟩;refine .ab [4] O ?_;cases h;exact .rv O O ⟨A6,c6,O,O⟩ zw
theorem zVl:BX Tryz.prog 99:=en Tryz.func99 (by kernel_rfl)
def kH [AP] (BR:lZ) (set:Int):Option Bool:=
 bnd (fR BR set) fun r1=>bnd (wI r1 BR.Needs) fun r2=>bif (r2.2==0) then (some (decide (r2.1<0))) else (none)
theorem zCx [AP] {BR set A1 c1 A2 c2 A3 c3 r} (h:kH BR set=some r):
    BA Tryz.prog 99 [.agg #[.slice A1 BR.Now.length c1, .slice A2 BR.Next.length c2, .slice A3 BR.Needs.length c3], .int .i64 set] [.ro (AV zK A1 c1 BR.Now), .ro (AV zK A2 c2 BR.Next), .ro (AV zS A3 c3 BR.Needs)] (Val (.bool r)):=by
 unfold kH at h
 refine BA.intro Tryz.func99 O O O fun w R=>?_;refine .seq<|.region<|.box O O fun g1=>.b [1,2] O<|.seq<|.BI (iN [1,4,12,16,11,23,24,28,32,36,40] .nil) _ mixed (by kernel_rfl) zw<|.yx 0 0 O<|.yn 2 O<|.yl 2 0 O<|.BV<|.bd h fun r1 hr1 h=>.cr 5 [1,2,3] [] 0 (zBY hr1) zSU O fun A4 c4=>.xk (zl [] 1 O)<|.BV<|.AY (fun _ w=>w.BU)<|.bd h fun r2 hr2 h=>.cv [0,4] (uK hr2) ZN O<|.xk (zl [] 1 O)<|.yn 5 O<|.CQ<|.AO<|.pf [5,6] [] 5 O O<|.a 3 O<|.gs 18 h O (fun h=>?_) (fun h=>?_)
 ·refine .b [4] O ?_;cases h;exact .rv O O ⟨O,O⟩ zw
 cases h
def E8 [AP] (full:Int) (p:lZ) (rec:List (Int × Bool)→Int→List Int→Option (List (Int × Bool) × (List Int × Bool))) (dead:List (Int × Bool)) (set:Int) (order:List Int):Option (List (Int × Bool) × (List Int × Bool)):=
 bif (set==full) then some (dead,order,true) else
 bnd (yC (τ:=(List (Int × Bool) × (List Int × Bool)) ⊕ (List (Int × Bool))) (fun (s1:Int × (List (Int × Bool)))=>bif decide (s1.1<(p.Now.length:Int)) then
  bnd (ay .i64 1 s1.1) fun q1=>bnd (WJ .i64 full s1.1) fun q2=>
  bif ((sN .i64 q2 1)==0) then some (.next (wrap .i64 (s1.1+1),s1.2)) else
  bif ((FK .i64 set q1)==set) then some (.next (wrap .i64 (s1.1+1),s1.2)) else
  bif (vW (yH .i64).eq s1.2 (FK .i64 set q1)).getD false then some (.next (wrap .i64 (s1.1+1),s1.2)) else
  bnd (kH p (FK .i64 set q1)) fun r1=>bif !r1 then some (.next (wrap .i64 (s1.1+1),s1.2)) else
  bnd (app 8 order [s1.1]) fun l1=>bnd (rec s1.2 (FK .i64 set q1) l1) fun r2=>
  bif r2.2.2 then some (.done (.inl (r2.1,r2.2.1,true))) else some (.next (wrap .i64 (s1.1+1),r2.1))
  else some (.done (.inr s1.2))) (0,dead)) fun o2=>xL o2 fun o3=>some (nX (yH .i64).eq o3 set true, [],false)
def Rw [AP] (full:Int) (p:lZ):Nat→List (Int × Bool)→Int→List Int→Option (List (Int × Bool) × (List Int × Bool))
 | 0=>fun _ _ _=>none
 | n_+1=>E8 full p (Rw full p n_)
theorem F5 [AP] {full:Int} {p:lZ} {A1:Option Addr} {c1:Nat} {A2:Option Addr} {c2:Nat} {A3:Option Addr} {c3:Nat} {AZ BJ DW IG gm:Nat}:∀ (n_:Nat) {dead:List (Int × Bool)} {set:Int} {order:List Int} {A:Option Addr} {c:Nat} {r:List (Int × Bool) × (List Int × Bool)},Rw full p n_ dead set order=some r→
    BA Tryz.prog 98 [.int .i64 set, .slice A order.length c, .pointer (some ⟨AZ,0,none⟩), .pointer (some ⟨BJ,0,none⟩), .pointer (some ⟨DW,0,none⟩), .pointer (some ⟨IG,0,none⟩)] [.ro (AV zK A1 c1 p.Now), .ro (AV zK A2 c2 p.Next), .ro (AV zS A3 c3 p.Needs), .res (nH (yH .i64) (fun x=>.bool x) gm dead), .res (zI zU 3 A c order), .res (Box AZ 3 [.int .i64 full]), .res (Box BJ 83 [.slice A1 p.Now.length c1, .slice A2 p.Next.length c2, .slice A3 p.Needs.length c3]), .res (Box DW 181 [.map (some gm)]), .res (Box IG 182 [.func (.func 98) #[] #[.pointer (some ⟨AZ,0,none⟩), .pointer (some ⟨BJ,0,none⟩), .pointer (some ⟨DW,0,none⟩), .pointer (some ⟨IG,0,none⟩)]])] (fun v_ F_=>∃ (A_:Option Addr) (c_:Nat),v_= .tuple #[.slice A_ r.2.1.length c_, .bool r.2.2]∧F_= [.res (nH (yH .i64) (fun x=>.bool x) gm r.1),(bif r.2.2 then .res (zI zU 3 A_ c_ r.2.1) else .res (zI zU 3 A c order)), .res (Box AZ 3 [.int .i64 full]), .res (Box BJ 83 [.slice A1 p.Now.length c1, .slice A2 p.Next.length c2, .slice A3 p.Needs.length c3]), .res (Box DW 181 [.map (some gm)]), .res (Box IG 182 [.func (.func 98) #[] #[.pointer (some ⟨AZ,0,none⟩), .pointer (some ⟨BJ,0,none⟩), .pointer (some ⟨DW,0,none⟩), .pointer (some ⟨IG,0,none⟩)]])])
  | 0,dead,set,order,A,c,r,h=>by cases h
  | n_+1,dead,set,order,A,c,r,h=>by
    have h:E8 full p (Rw full p n_) dead set order=some r:=h
    unfold E8 at h
    refine BA.intro Tryz.func98 O O O fun w R=>?_
    refine St.AY (F':=.ro (AV zK A1 c1 p.Now):: .ro (AV zK A2 c2 p.Next):: .ro (AV zS A3 c3 p.Needs):: .res (nH (yH .i64) (fun x=>.bool x) gm dead):: .res (zI zU 3 A c order):: .res (Box AZ 3 [.int .i64 full]):: .res (Box BJ 83 [.slice A1 p.Now.length c1, .slice A2 p.Next.length c2, .slice A3 p.Needs.length c3]):: .res (Box DW 181 [.map (some gm)]):: .res (Box IG 182 [.func (.func 98) #[] #[.pointer (some ⟨AZ,0,none⟩), .pointer (some ⟨BJ,0,none⟩), .pointer (some ⟨DW,0,none⟩), .pointer (some ⟨IG,0,none⟩)]])::R) (fun _ w=>w) ?_
    refine St.AY (F':=.res (nH (yH .i64) (fun x=>.bool x) gm dead):: .res (zI zU 3 A c order):: .res (Box AZ 3 [.int .i64 full]):: .res (Box BJ 83 [.slice A1 p.Now.length c1, .slice A2 p.Next.length c2, .slice A3 p.Needs.length c3]):: .res (Box DW 181 [.map (some gm)]):: .res (Box IG 182 [.func (.func 98) #[] #[.pointer (some ⟨AZ,0,none⟩), .pointer (some ⟨BJ,0,none⟩), .pointer (some ⟨DW,0,none⟩), .pointer (some ⟨IG,0,none⟩)]]):: .ro (AV zK A1 c1 p.Now):: .ro (AV zK A2 c2 p.Next):: .ro (AV zS A3 c3 p.Needs)::R) (fun _ w=>w.perm (by exact List.perm_append_comm (l₁:= [.ro (AV zK A1 c1 p.Now), .ro (AV zK A2 c2 p.Next), .ro (AV zS A3 c3 p.Needs)]) (l₂:= [.res (nH (yH .i64) (fun x=>.bool x) gm dead), .res (zI zU 3 A c order), .res (Box AZ 3 [.int .i64 full]), .res (Box BJ 83 [.slice A1 p.Now.length c1, .slice A2 p.Next.length c2, .slice A3 p.Needs.length c3]), .res (Box DW 181 [.map (some gm)]), .res (Box IG 182 [.func (.func 98) #[] #[.pointer (some ⟨AZ,0,none⟩), .pointer (some ⟨BJ,0,none⟩), .pointer (some ⟨DW,0,none⟩), .pointer (some ⟨IG,0,none⟩)]])]) |>.append_right R)) ?_
    refine St.seq ?_
    refine St.region ?_
    iterate 2 refine St.p O O ?_
    refine St.done ?_
    refine St.AO ?_
    refine St.seq ?_
    refine St.seq ?_
    refine St.region ?_
    refine St.p O O ?_
    refine St.JO 0 O O MQ O O ?_
    refine St.p O O ?_
    refine St.done ?_
    refine St.AO ?_
    refine St.cond _ O (fun hb1=>?_) (fun hb1=>?_)
    · replace h := cQ hb1 h
      refine St.seq ?_
      refine St.region ?_
      iterate 3 refine St.p O O ?_
      refine St.done ?_
      refine St.AO ?_
      refine St.ret ?_
      repeat (first | refine St.SS ?_ | refine St.XJ ?_)
      injection h with h
      subst h
      exact St.QC Tryz.results98 (.tmp O (.tmp O .nil)) O [.res (nH (yH .i64) (fun x=>.bool x) gm dead), .res (zI zU 3 A c order), .res (Box AZ 3 [.int .i64 full]), .res (Box BJ 83 [.slice A1 p.Now.length c1, .slice A2 p.Next.length c2, .slice A3 p.Needs.length c3]), .res (Box DW 181 [.map (some gm)]), .res (Box IG 182 [.func (.func 98) #[] #[.pointer (some ⟨AZ,0,none⟩), .pointer (some ⟨BJ,0,none⟩), .pointer (some ⟨DW,0,none⟩), .pointer (some ⟨IG,0,none⟩)]])] ⟨A,c,O,O⟩ (fun _ w=>((.k (.k (.k (.k (.k (.k (.d (.d (.d .z))))))))):tI _ _).sat w)
    · replace h := bD hb1 h
      refine St.skip ?_
      refine St.AO ?_
      refine St.prune (Γ':= [(0,_),(1,_),(2,_),(3,_),(4,_),(5,_)]) ⟨O,O,O,O,O,O,trivial⟩ (.k (.k (.k (.k (.k (.k (.k (.k (.k .z))))))))) ?_
      refine St.seq ?_
      refine St.seq ?_
      refine St.region ?_
      refine St.p O O ?_
      refine St.JO 0 O O XI O O ?_
      iterate 2 refine St.p O O ?_
      refine St.done ?_
      refine St.AO ?_
      obtain ⟨o2,hl1,h⟩:=bg h
      refine St.Bh (fun (o3:List (Int × Bool)) (e3:Unit)=> [(0, .int .i64 set),(4, .pointer (some ⟨DW,0,none⟩))]) (fun o3 e3=>.res (nH (yH .i64) (fun x=>.bool x) gm o3):: .res (zI zU 3 A c order):: .res (Box AZ 3 [.int .i64 full]):: .res (Box BJ 83 [.slice A1 p.Now.length c1, .slice A2 p.Next.length c2, .slice A3 p.Needs.length c3]):: .res (Box DW 181 [.map (some gm)]):: .res (Box IG 182 [.func (.func 98) #[] #[.pointer (some ⟨AZ,0,none⟩), .pointer (some ⟨BJ,0,none⟩), .pointer (some ⟨DW,0,none⟩), .pointer (some ⟨IG,0,none⟩)]]):: .ro (AV zK A1 c1 p.Now):: .ro (AV zK A2 c2 p.Next):: .ro (AV zS A3 c3 p.Needs)::R) (fun o3=>o2= .inr o3) ?_ ?_
      · refine St.block ?_
        refine St.loop hl1 (fun (s1:Int × (List (Int × Bool))) (e2:Unit)=> [(0, .int .i64 set),(1, .slice A order.length c),(2, .pointer (some ⟨AZ,0,none⟩)),(3, .pointer (some ⟨BJ,0,none⟩)),(4, .pointer (some ⟨DW,0,none⟩)),(5, .pointer (some ⟨IG,0,none⟩)),(20, .int .i64 (p.Now.length:Int)),(21, .int .i64 s1.1)]) (fun s1 e2=>.res (nH (yH .i64) (fun x=>.bool x) gm s1.2):: .res (zI zU 3 A c order):: .res (Box AZ 3 [.int .i64 full]):: .res (Box BJ 83 [.slice A1 p.Now.length c1, .slice A2 p.Next.length c2, .slice A3 p.Needs.length c3]):: .res (Box DW 181 [.map (some gm)]):: .res (Box IG 182 [.func (.func 98) #[] #[.pointer (some ⟨AZ,0,none⟩), .pointer (some ⟨BJ,0,none⟩), .pointer (some ⟨DW,0,none⟩), .pointer (some ⟨IG,0,none⟩)]]):: .ro (AV zK A1 c1 p.Now):: .ro (AV zK A2 c2 p.Next):: .ro (AV zS A3 c3 p.Needs)::R) (fun _ _=>True) () trivial ⟨O,O,O,O,O,O,O,O,trivial⟩ (fun _ w=>w) ?_
        rintro s1 e2 - F6
        obtain ⟨st1,hm1,hd1⟩:=zPn F6
        have h1:=hm1
        refine St.seq ?_
        refine St.region ?_
        refine St.p O O ?_
        refine St.done ?_
        refine St.AO ?_
        refine St.seq ?_
        refine St.cond _ O (fun hb4=>?_) (fun hb4=>?_)
        · replace h1 := cQ hb4 h1
          refine St.skip ?_
          refine St.AO ?_
          refine St.seq ?_
          refine St.block ?_
          refine St.seq ?_
          refine St.region ?_
          iterate 2 refine St.p O O ?_
          refine St.done ?_
          refine St.AO ?_
          refine St.seq ?_
          refine St.region ?_
          iterate 2 refine St.p O O ?_
          obtain ⟨q1,hq1,h1⟩:=bg h1
          refine St.shl O O O hq1 ?_
          iterate 2 refine St.p O O ?_
          refine St.done ?_
          refine St.AO ?_
          refine St.seq ?_
          refine St.seq ?_
          refine St.region ?_
          refine St.JO 0 O O MQ O O ?_
          refine St.p O O ?_
          obtain ⟨q2,hq2,h1⟩:=bg h1
          refine St.shr O O O hq2 ?_
          iterate 3 refine St.p O O ?_
          refine St.OQ (dj:=33) _ O (fun hb5=>?_) (fun hb5=>?_)
          · replace h1 := cQ hb5 h1
            iterate 3 refine St.RD (dj:=33) O O O O ?_
            iterate 2 refine St.p O O ?_
            iterate 3 refine St.RD (dj:=38) O O O O ?_
            iterate 2 refine St.p O O ?_
            iterate 4 refine St.RD (dj:=43) O O O O ?_
            refine St.p O O ?_
            refine St.done ?_
            refine St.AO ?_
            refine St.EP O ?_
            refine St.exit ?_
            repeat (first | refine St.OG ?_ | refine St.KN rfl ?_)
            refine St.LU ?_
            refine St.AO ?_
            refine St.region ?_
            iterate 2 refine St.p O O ?_
            refine St.done ?_
            injection h1 with h1
            subst h1
            refine St.AO ?_
            exact St.again _ () hm1 trivial ⟨O,O,O,O,O,O,O,O,trivial⟩ (fun _ w=>((.k (.k (.k (.k (.k (.k (.k (.k (.k .z))))))))):tI _ _).sat w)
          · replace h1 := bD hb5 h1
            refine St.BN (dj:=33) O O ?_
            refine St.p O O ?_
            refine St.BN (dj:=33) O O ?_
            refine St.p O O ?_
            refine St.BN (dj:=33) O O ?_
            refine St.p O O ?_
            iterate 2 refine St.p O O ?_
            refine St.OQ (dj:=38) _ O (fun hb6=>?_) (fun hb6=>?_)
            · replace h1 := cQ hb6 h1
              iterate 3 refine St.RD (dj:=38) O O O O ?_
              iterate 2 refine St.p O O ?_
              iterate 4 refine St.RD (dj:=43) O O O O ?_
              refine St.p O O ?_
              refine St.done ?_
              refine St.AO ?_
              refine St.EP O ?_
              refine St.exit ?_
              repeat (first | refine St.OG ?_ | refine St.KN rfl ?_)
              refine St.LU ?_
              refine St.AO ?_
              refine St.region ?_
              iterate 2 refine St.p O O ?_
              refine St.done ?_
              injection h1 with h1
              subst h1
              refine St.AO ?_
              exact St.again _ () hm1 trivial ⟨O,O,O,O,O,O,O,O,trivial⟩ (fun _ w=>((.k (.k (.k (.k (.k (.k (.k (.k (.k .z))))))))):tI _ _).sat w)
            · replace h1 := bD hb6 h1
              refine St.BN (dj:=38) O O ?_
              refine St.JO 0 O O (.tail _ (.tail _ (.tail _ (.tail _ (.head _))))) O O ?_
              refine St.BN (dj:=38) O O ?_
              refine St.p O O ?_
              refine St.BN (dj:=38) O O ?_
              refine St.lookup (K:=(yH .i64)) (vv:=(fun x=>.bool x)) (u:=.bool ((vW (yH .i64).eq s1.2 (FK .i64 set q1)).getD false)) false (FK .i64 set q1) O O O (.head _) O O O O O O O ?_
              iterate 2 refine St.p O O ?_
              refine St.OQ (dj:=43) _ O (fun hb7=>?_) (fun hb7=>?_)
              · replace h1 := cQ hb7 h1
                iterate 4 refine St.RD (dj:=43) O O O O ?_
                refine St.p O O ?_
                refine St.done ?_
                refine St.AO ?_
                refine St.EP O ?_
                refine St.exit ?_
                repeat (first | refine St.OG ?_ | refine St.KN rfl ?_)
                refine St.LU ?_
                refine St.AO ?_
                refine St.region ?_
                iterate 2 refine St.p O O ?_
                refine St.done ?_
                injection h1 with h1
                subst h1
                refine St.AO ?_
                exact St.again _ () hm1 trivial ⟨O,O,O,O,O,O,O,O,trivial⟩ (fun _ w=>((.k (.k (.k (.k (.k (.k (.k (.k (.k .z))))))))):tI _ _).sat w)
              · replace h1 := bD hb7 h1
                refine St.BN (dj:=43) O O ?_
                refine St.JO 0 O O XI O O ?_
                refine St.BN (dj:=43) O O ?_
                refine St.p O O ?_
                refine St.BN (dj:=43) O O ?_
                obtain ⟨r1,hr1,h1⟩:=bg h1
                refine St.YS (zCx hr1) zVl O O O O ⟨(.tail _ (.tail _ (.tail _ (.tail _ (.tail _ (.tail _ (.head _))))))),(.tail _ (.tail _ (.tail _ (.tail _ (.tail _ (.tail _ (.tail _ (.head _)))))))),(.tail _ (.tail _ (.tail _ (.tail _ (.tail _ (.tail _ (.tail _ (.tail _ (.head _))))))))),trivial⟩ ?_
                refine St.BN (dj:=43) O O ?_
                refine St.p O O ?_
                refine St.p O O ?_
                refine St.done ?_
                refine St.AO ?_
                refine St.cond _ O (fun hb8=>?_) (fun hb8=>?_)
                · replace h1 := cQ hb8 h1
                  refine St.exit ?_
                  repeat (first | refine St.OG ?_ | refine St.KN rfl ?_)
                  refine St.LU ?_
                  refine St.AO ?_
                  refine St.region ?_
                  iterate 2 refine St.p O O ?_
                  refine St.done ?_
                  injection h1 with h1
                  subst h1
                  refine St.AO ?_
                  exact St.again _ () hm1 trivial ⟨O,O,O,O,O,O,O,O,trivial⟩ (fun _ w=>((.k (.k (.k (.k (.k (.k (.k (.k (.k .z))))))))):tI _ _).sat w)
                · replace h1 := bD hb8 h1
                  obtain ⟨l1,hl2,h2⟩:=bg h1
                  have hz1:=(Pn hl2).1
                  subst hz1
                  obtain ⟨r2,hr2,h3⟩:=bg h2
                  refine St.skip ?_
                  refine St.AO ?_
                  refine St.seq ?_
                  refine St.BI (iL [(.fl,0),(.fl,1),(.fl,2),(.fl,3),(.ef,4),(.ef,5),(.ef,6),(.fl,7),(.fl,8),(.fl,9),(.fl,10),(.fl,11)] .nil) (.res (Box AZ 3 [.int .i64 full]):: .res (Box BJ 83 [.slice A1 p.Now.length c1, .slice A2 p.Next.length c2, .slice A3 p.Needs.length c3]):: .res (Box DW 181 [.map (some gm)]):: .res (Box IG 182 [.func (.func 98) #[] #[.pointer (some ⟨AZ,0,none⟩), .pointer (some ⟨BJ,0,none⟩), .pointer (some ⟨DW,0,none⟩), .pointer (some ⟨IG,0,none⟩)]]):: .ro (AV zK A1 c1 p.Now):: .ro (AV zK A2 c2 p.Next):: .ro (AV zS A3 c3 p.Needs)::R) mixed (by kernel_rfl) (fun _ w=>((.d (.d (.k (.k (.k (.k (.k (.k (.k .z))))))))):tI _ _).sat w) ?_
                  refine St.KT (fun _ h=>h) (Rd.JO 0 O XI O O) O ?_
                  iterate 3 refine St.KT (fun _ h=>h) (Rd.p O) O ?_
                  refine St.BV ?_
                  refine St.buildSlice O O O O O O O O fun g5=>?_
                  refine St.xk (fun _ w=>((.d (.d (.d (.k (.k (.k (.k (.k (.k (.k .z)))))))))):tI _ _).sat w) ?_
                  refine St.BV ?_
                  refine St.JK (E:=zU) hl2 O O O (CS 2 O) O O O O O O O O (iV (.head _) O O) O O ?_ (fun A4 c4=>?_)
                  · refine St.xk (fun _ w => ((.d (.d (.d (.k (.k (.k (.k (.k (.k (.k .z)))))))))) : tI _ _).sat w) ?_
                    refine St.BV ?_
                    refine St.QD (args:= [.int .i64 (FK .i64 set q1), .slice A (order++ [s1.1]).length c]) (us:= [.pointer (some ⟨AZ,0,none⟩), .pointer (some ⟨BJ,0,none⟩), .pointer (some ⟨DW,0,none⟩), .pointer (some ⟨IG,0,none⟩)]) (F5 n_ (A:=A) (c:=c) hr2) y5 O O O (fun _ w=>Sat.dup (G:= [.ro (AV zK A1 c1 p.Now), .ro (AV zK A2 c2 p.Next), .ro (AV zS A3 c3 p.Needs)]) O ⟨(.tail _ (.tail _ (.tail _ (.tail _ (.tail _ (.tail _ (.tail _ (.head _)))))))),(.tail _ (.tail _ (.tail _ (.tail _ (.tail _ (.tail _ (.tail _ (.tail _ (.head _))))))))),(.tail _ (.tail _ (.tail _ (.tail _ (.tail _ (.tail _ (.tail _ (.tail _ (.tail _ (.head _)))))))))),trivial⟩ ((((((w.front (CS 6 O)).front (CS 6 O)).front (CS 6 O)).front (CS 6 O)).front (CS 4 O)).front (CS 6 O))) ?_
                    rintro _ _ ⟨A5,c5,rfl,rfl⟩
                    refine St.AY (F':=.res (nH (yH .i64) (fun x=>.bool x) gm r2.1)::(bif r2.2.2 then .res (zI zU 3 A5 c5 r2.2.1) else .res (zI zU 3 A c (order++ [s1.1]))):: .res (Box AZ 3 [.int .i64 full]):: .res (Box BJ 83 [.slice A1 p.Now.length c1, .slice A2 p.Next.length c2, .slice A3 p.Needs.length c3]):: .res (Box DW 181 [.map (some gm)]):: .res (Box IG 182 [.func (.func 98) #[] #[.pointer (some ⟨AZ,0,none⟩), .pointer (some ⟨BJ,0,none⟩), .pointer (some ⟨DW,0,none⟩), .pointer (some ⟨IG,0,none⟩)]]):: .res (Box g5 3 [.int .i64 s1.1]):: .ro (AV zK A1 c1 p.Now):: .ro (AV zK A2 c2 p.Next):: .ro (AV zS A3 c3 p.Needs)::R) (fun _ w=>w) ?_
                    refine St.xk (fun _ w=>(((.d (.d (.k (.k (.k (.k (.d (.k (.k (.k .z)))))))))):tI _ _).sat w)) ?_
                    refine St.KT (fun _ h=>h) (Rd.p O) O ?_
                    refine St.KT (fun _ h=>h) (Rd.p O) O ?_
                    refine St.KT (fun _ h=>h) (Rd.p O) O ?_
                    refine St.KT (fun _ h=>h) (Rd.p O) O ?_
                    refine St.KT (fun _ h=>h) (Rd.p O) O ?_
                    refine St.CQ ?_
                    refine St.AO ?_
                    refine St.seq ?_
                    refine St.region ?_
                    refine St.p O O ?_
                    refine St.done ?_
                    refine St.AO ?_
                    refine St.cond _ O (fun VJ=>?_) (fun VJ=>?_)
                    · replace h3 := cQ VJ h3
                      refine St.seq ?_
                      refine St.region ?_
                      iterate 3 refine St.p O O ?_
                      refine St.done ?_
                      refine St.AO ?_
                      refine St.ret ?_
                      repeat (first | refine St.SS ?_ | refine St.XJ ?_)
                      injection h3 with h3
                      subst h3
                      have ho:=hd1 _ O
                      subst ho
                      have h:some _=some _:=h
                      injection h with h
                      subst h
                      refine St.AY (F':=.res (nH (yH .i64) (fun x=>.bool x) gm r2.1):: .res (zI zU 3 A5 c5 r2.2.1):: .res (Box AZ 3 [.int .i64 full]):: .res (Box BJ 83 [.slice A1 p.Now.length c1, .slice A2 p.Next.length c2, .slice A3 p.Needs.length c3]):: .res (Box DW 181 [.map (some gm)]):: .res (Box IG 182 [.func (.func 98) #[] #[.pointer (some ⟨AZ,0,none⟩), .pointer (some ⟨BJ,0,none⟩), .pointer (some ⟨DW,0,none⟩), .pointer (some ⟨IG,0,none⟩)]]):: .res (Box g5 3 [.int .i64 s1.1]):: .ro (AV zK A1 c1 p.Now):: .ro (AV zK A2 c2 p.Next):: .ro (AV zS A3 c3 p.Needs)::R) (fun _ w=>by rw [VJ] at w; exact w) ?_
                      exact St.QC Tryz.results98 (.tmp O (.tmp O .nil)) O [.res (nH (yH .i64) (fun x=>.bool x) gm r2.1), .res (zI zU 3 A5 c5 r2.2.1), .res (Box AZ 3 [.int .i64 full]), .res (Box BJ 83 [.slice A1 p.Now.length c1, .slice A2 p.Next.length c2, .slice A3 p.Needs.length c3]), .res (Box DW 181 [.map (some gm)]), .res (Box IG 182 [.func (.func 98) #[] #[.pointer (some ⟨AZ,0,none⟩), .pointer (some ⟨BJ,0,none⟩), .pointer (some ⟨DW,0,none⟩), .pointer (some ⟨IG,0,none⟩)]])] ⟨A5,c5,O,O⟩ (fun _ w=>((.k (.k (.k (.k (.k (.k (.d (.d (.d (.d .z)))))))))):tI _ _).sat w)
                    · replace h3 := bD VJ h3
                      refine St.skip ?_
                      skip
                      refine St.BL ?_
                      refine St.AO ?_
                      refine St.region ?_
                      iterate 2 refine St.p O O ?_
                      refine St.done ?_
                      injection h3 with h3
                      subst h3
                      refine St.AY (F':=.res (nH (yH .i64) (fun x=>.bool x) gm r2.1):: .res (zI zU 3 A c (order++ [s1.1])):: .res (Box AZ 3 [.int .i64 full]):: .res (Box BJ 83 [.slice A1 p.Now.length c1, .slice A2 p.Next.length c2, .slice A3 p.Needs.length c3]):: .res (Box DW 181 [.map (some gm)]):: .res (Box IG 182 [.func (.func 98) #[] #[.pointer (some ⟨AZ,0,none⟩), .pointer (some ⟨BJ,0,none⟩), .pointer (some ⟨DW,0,none⟩), .pointer (some ⟨IG,0,none⟩)]]):: .res (Box g5 3 [.int .i64 s1.1]):: .ro (AV zK A1 c1 p.Now):: .ro (AV zK A2 c2 p.Next):: .ro (AV zS A3 c3 p.Needs)::R) (fun _ w=>by rw [VJ] at w; exact w) ?_
                      refine St.AO ?_
                      exact St.again _ () hm1 trivial ⟨O,O,O,O,O,O,O,O,trivial⟩ (fun _ w=>((.k (.k (.k (.k (.k (.k (.d (.k (.k (.k .z)))))))))):tI _ _).sat ((Sat.shrink (w.front (.s .z))).front (.s .z)))
                  · refine St.xk (fun _ w => ((.d (.d (.d (.d (.k (.k (.k (.k (.k (.k (.k .z))))))))))) : tI _ _).sat w) ?_
                    refine St.BV ?_
                    refine St.QD (args:= [.int .i64 (FK .i64 set q1), .slice A4 (order++ [s1.1]).length c4]) (us:= [.pointer (some ⟨AZ,0,none⟩), .pointer (some ⟨BJ,0,none⟩), .pointer (some ⟨DW,0,none⟩), .pointer (some ⟨IG,0,none⟩)]) (F5 n_ (A:=A4) (c:=c4) hr2) y5 O O O (fun _ w=>Sat.dup (G:= [.ro (AV zK A1 c1 p.Now), .ro (AV zK A2 c2 p.Next), .ro (AV zS A3 c3 p.Needs)]) O ⟨(.tail _ (.tail _ (.tail _ (.tail _ (.tail _ (.tail _ (.tail _ (.tail _ (.head _))))))))),(.tail _ (.tail _ (.tail _ (.tail _ (.tail _ (.tail _ (.tail _ (.tail _ (.tail _ (.head _)))))))))),(.tail _ (.tail _ (.tail _ (.tail _ (.tail _ (.tail _ (.tail _ (.tail _ (.tail _ (.tail _ (.head _))))))))))),trivial⟩ ((((((w.front (CS 7 O)).front (CS 7 O)).front (CS 7 O)).front (CS 7 O)).front (CS 4 O)).front (CS 7 O))) ?_
                    rintro _ _ ⟨A5,c5,rfl,rfl⟩
                    refine St.AY (F':=.res (nH (yH .i64) (fun x=>.bool x) gm r2.1)::(bif r2.2.2 then .res (zI zU 3 A5 c5 r2.2.1) else .res (zI zU 3 A4 c4 (order++ [s1.1]))):: .res (Box AZ 3 [.int .i64 full]):: .res (Box BJ 83 [.slice A1 p.Now.length c1, .slice A2 p.Next.length c2, .slice A3 p.Needs.length c3]):: .res (Box DW 181 [.map (some gm)]):: .res (Box IG 182 [.func (.func 98) #[] #[.pointer (some ⟨AZ,0,none⟩), .pointer (some ⟨BJ,0,none⟩), .pointer (some ⟨DW,0,none⟩), .pointer (some ⟨IG,0,none⟩)]]):: .res (zI zU 3 A c order):: .res (Box g5 3 [.int .i64 s1.1]):: .ro (AV zK A1 c1 p.Now):: .ro (AV zK A2 c2 p.Next):: .ro (AV zS A3 c3 p.Needs)::R) (fun _ w=>w) ?_
                    refine St.xk (fun _ w=>(((.d (.d (.k (.k (.k (.k (.d (.d (.k (.k (.k .z))))))))))):tI _ _).sat w)) ?_
                    refine St.KT (fun _ h=>h) (Rd.p O) O ?_
                    refine St.KT (fun _ h=>h) (Rd.p O) O ?_
                    refine St.KT (fun _ h=>h) (Rd.p O) O ?_
                    refine St.KT (fun _ h=>h) (Rd.p O) O ?_
                    refine St.KT (fun _ h=>h) (Rd.p O) O ?_
                    refine St.CQ ?_
                    refine St.AO ?_
                    refine St.seq ?_
                    refine St.region ?_
                    refine St.p O O ?_
                    refine St.done ?_
                    refine St.AO ?_
                    refine St.cond _ O (fun VJ=>?_) (fun VJ=>?_)
                    · replace h3 := cQ VJ h3
                      refine St.seq ?_
                      refine St.region ?_
                      iterate 3 refine St.p O O ?_
                      refine St.done ?_
                      refine St.AO ?_
                      refine St.ret ?_
                      repeat (first | refine St.SS ?_ | refine St.XJ ?_)
                      injection h3 with h3
                      subst h3
                      have ho:=hd1 _ O
                      subst ho
                      have h:some _=some _:=h
                      injection h with h
                      subst h
                      refine St.AY (F':=.res (nH (yH .i64) (fun x=>.bool x) gm r2.1):: .res (zI zU 3 A5 c5 r2.2.1):: .res (Box AZ 3 [.int .i64 full]):: .res (Box BJ 83 [.slice A1 p.Now.length c1, .slice A2 p.Next.length c2, .slice A3 p.Needs.length c3]):: .res (Box DW 181 [.map (some gm)]):: .res (Box IG 182 [.func (.func 98) #[] #[.pointer (some ⟨AZ,0,none⟩), .pointer (some ⟨BJ,0,none⟩), .pointer (some ⟨DW,0,none⟩), .pointer (some ⟨IG,0,none⟩)]]):: .res (zI zU 3 A c order):: .res (Box g5 3 [.int .i64 s1.1]):: .ro (AV zK A1 c1 p.Now):: .ro (AV zK A2 c2 p.Next):: .ro (AV zS A3 c3 p.Needs)::R) (fun _ w=>by rw [VJ] at w; exact w) ?_
                      exact St.QC Tryz.results98 (.tmp O (.tmp O .nil)) O [.res (nH (yH .i64) (fun x=>.bool x) gm r2.1), .res (zI zU 3 A5 c5 r2.2.1), .res (Box AZ 3 [.int .i64 full]), .res (Box BJ 83 [.slice A1 p.Now.length c1, .slice A2 p.Next.length c2, .slice A3 p.Needs.length c3]), .res (Box DW 181 [.map (some gm)]), .res (Box IG 182 [.func (.func 98) #[] #[.pointer (some ⟨AZ,0,none⟩), .pointer (some ⟨BJ,0,none⟩), .pointer (some ⟨DW,0,none⟩), .pointer (some ⟨IG,0,none⟩)]])] ⟨A5,c5,O,O⟩ (fun _ w=>((.k (.k (.k (.k (.k (.k (.d (.d (.d (.d (.d .z))))))))))):tI _ _).sat w)
                    · replace h3 := bD VJ h3
                      refine St.skip ?_
                      skip
                      refine St.BL ?_
                      refine St.AO ?_
                      refine St.region ?_
                      iterate 2 refine St.p O O ?_
                      refine St.done ?_
                      injection h3 with h3
                      subst h3
                      refine St.AY (F':=.res (nH (yH .i64) (fun x=>.bool x) gm r2.1):: .res (zI zU 3 A4 c4 (order++ [s1.1])):: .res (Box AZ 3 [.int .i64 full]):: .res (Box BJ 83 [.slice A1 p.Now.length c1, .slice A2 p.Next.length c2, .slice A3 p.Needs.length c3]):: .res (Box DW 181 [.map (some gm)]):: .res (Box IG 182 [.func (.func 98) #[] #[.pointer (some ⟨AZ,0,none⟩), .pointer (some ⟨BJ,0,none⟩), .pointer (some ⟨DW,0,none⟩), .pointer (some ⟨IG,0,none⟩)]]):: .res (zI zU 3 A c order):: .res (Box g5 3 [.int .i64 s1.1]):: .ro (AV zK A1 c1 p.Now):: .ro (AV zK A2 c2 p.Next):: .ro (AV zS A3 c3 p.Needs)::R) (fun _ w=>by rw [VJ] at w; exact w) ?_
                      refine St.AO ?_
                      exact St.again _ () hm1 trivial ⟨O,O,O,O,O,O,O,O,trivial⟩ (fun _ w=>((.k (.k (.k (.k (.k (.k (.k (.k (.k (.d (.d .z))))))))))):tI _ _).sat (((((((((w.front (CS 10 O)).front (CS 10 O)).front (CS 10 O)).front (CS 8 O)).front (CS 8 O)).front (CS 8 O)).front (CS 8 O)).front (CS 9 O)).front (CS 8 O)))
        · replace h1 := bD hb4 h1
          refine St.exit ?_
          repeat (first | refine St.OG ?_ | refine St.KN rfl ?_)
          refine St.LU ?_
          injection h1 with h1
          subst h1
          have ho:=hd1 _ O
          subst ho
          refine St.AO ?_
          exact St.CZ s1.2 () O ⟨O,O,trivial⟩ (fun _ w=>w)
      · rintro o3 e3 ho
        subst ho
        have h:_=some _:=h
        refine St.seq ?_
        refine St.region ?_
        refine St.JO 0 O O (.tail _ (.tail _ (.tail _ (.tail _ (.head _))))) O O ?_
        refine St.p O O ?_
        refine St.mapUpdate (K:=(yH .i64)) (vv:=(fun x=>.bool x)) set true O O O .z O O O O ?_
        refine St.done ?_
        refine St.AO ?_
        refine St.seq ?_
        refine St.region ?_
        iterate 2 refine St.p O O ?_
        refine St.done ?_
        refine St.AO ?_
        refine St.ret ?_
        repeat (first | refine St.SS ?_ | refine St.XJ ?_)
        have h:some _=some _:=h
        injection h with h
        subst h
        exact St.QC Tryz.results98 (.tmp O (.tmp O .nil)) O [.res (nH (yH .i64) (fun x=>.bool x) gm (nX (yH .i64).eq o3 set true)), .res (zI zU 3 A c order), .res (Box AZ 3 [.int .i64 full]), .res (Box BJ 83 [.slice A1 p.Now.length c1, .slice A2 p.Next.length c2, .slice A3 p.Needs.length c3]), .res (Box DW 181 [.map (some gm)]), .res (Box IG 182 [.func (.func 98) #[] #[.pointer (some ⟨AZ,0,none⟩), .pointer (some ⟨BJ,0,none⟩), .pointer (some ⟨DW,0,none⟩), .pointer (some ⟨IG,0,none⟩)]])] ⟨none,0,O,O⟩ (fun _ w=>((.k (.k (.k (.k (.k (.k (.d (.d (.d .z))))))))):tI _ _).sat w)
def zJZ:Nat:=1000
def fF [AP] (p:lZ):Option (List Int × Int):=
 bnd (mX p) fun r1=>bif (r1 != 0) then some ([],r1) else
 bnd (jD p) fun r2=>bnd (Rw r2 p zJZ [] 0 []) fun r3=>bif !r3.2.2 then some ([],41) else some (r3.2.1,0)
theorem zUw:BX Tryz.prog 40:=en Tryz.func40 (by kernel_rfl)
theorem zBO [AP] {p:lZ} {A1:Option Addr} {c1:Nat} {A2:Option Addr} {c2:Nat} {A3:Option Addr} {c3:Nat} {r:List Int × Int} (h:fF p=some r):
    BA Tryz.prog 40 [.agg #[.slice A1 p.Now.length c1, .slice A2 p.Next.length c2, .slice A3 p.Needs.length c3]] [.ro (AV zK A1 c1 p.Now), .ro (AV zK A2 c2 p.Next), .ro (AV zS A3 c3 p.Needs)] (fun v_ F_=>∃ (A_:Option Addr) (c_:Nat),v_= .tuple #[.slice A_ r.1.length c_, .int .i64 r.2]∧F_= [.res (zI zU 3 A_ c_ r.1)]):=by
 refine BA.intro Tryz.func40 O O O fun w R=>?_;refine .seq<|.region<|.box O O fun BJ=>.be O<|.seq<|.seq<|.region<|.lb 0 0 O<|.bd h fun r1 hr1 h=>.cv [1,2,3] (eC hr1) zRT O<|.be O<|.ae O<|.cb h O (fun h=>?_) (fun h=>?_)
 ·refine .ae O<|.AY (fun _ w=>w.HY zU 3) ?_;cases h;exact .rv O O ⟨none,0,O,O⟩ (zl [0] 4 O)
 refine .sk<|.seq<|.region<|.lb 0 0 O<|.bd h fun r2 hr2 h=>.cv [1,2,3] (cZ hr2) zSd O<|.alloc O O fun AZ=>.sb 0 0 O<|.done<|.AO<|.seq<|.region<|.makeMap (K:=(yH .i64)) (vv:=(fun x=>.bool x)) O fun gm=>.alloc O O fun DW=>.sb 0 0 O<|.done<|.AO<|.seq<|.region<|.alloc O O fun IG=>.done<|.AO<|.a 1 O<|.sb 0 0 O<|.done<|.AO<|.seq<|.region<|.lb 0 0 O<|.bd h fun r3 hr3 h=>.AY (fun _ w=>w.HY zU 3)<|.QD (args:= [.int .i64 0, .slice none ([]:List Int).length 0]) (us:= [.pointer (some ⟨AZ,0,none⟩), .pointer (some ⟨BJ,0,none⟩), .pointer (some ⟨DW,0,none⟩), .pointer (some ⟨IG,0,none⟩)]) (F5 zJZ (A:=none) (c:=0) hr3) y5 O O O (zd [6,7,8] [3,0,2,2,1] 0 O) ?_;rintro _ _ ⟨A5,c5,rfl,rfl⟩;refine .nm 9 O<|.be O<|.seq<|.ae O ?_;cases hb2:r3.2.2
 ·rw [hb2] at h
  refine .EP O<|.ae O<|.AY (fun _ w=>w.HY zU 3) ?_;cases h;exact .rv O O ⟨none,0,O,O⟩ (zl [0] 9 O)
 rw [hb2] at h
 refine .FU O<|.sk<|.nm 9 O<|.ae O ?_;cases h;exact .rv O O ⟨A5,c5,O,O⟩ (zl [1] 8 O)
theorem zVB:BX Tryz.prog 80:=en Tryz.func80 (by kernel_rfl)
def eF [AP] (BR:lZ):Option (List Int):=
 bnd (mX BR) fun r1=>bif (r1 != 0) then (none) else (bnd (jD BR) fun r2=>bnd (yC (τ:=List Int) (fun (s1:List Int × Int × Int)=>bif decide (s1.2.2>0) then (bif ((sN .i64 s1.2.2 1)==1) then (bnd (app 8 s1.1 [s1.2.1]) fun l1=>some (.next (l1,wrap .i64 (s1.2.1+1),rM .i64 s1.2.2 1))) else (none)) else (some (.done s1.1))) ([],0,r2)) fun o1=>some o1)
theorem zBX [AP] {BR A1 c1 A2 c2 A3 c3 r} (h:eF BR=some r):
    BA Tryz.prog 80 [.agg #[.slice A1 BR.Now.length c1, .slice A2 BR.Next.length c2, .slice A3 BR.Needs.length c3]] [.ro (AV zK A1 c1 BR.Now), .ro (AV zK A2 c2 BR.Next), .ro (AV zS A3 c3 BR.Needs)] (fun v F=>∃ A4 c4,v= .slice A4 r.length c4∧F= [.res (zI zU 3 A4 c4 r)]):=by
 refine BA.intro Tryz.func80 O O O fun w R=>?_;refine .seq<|.region<|.box O O fun g1=>.b [1] O<|.seq<|.seq<|.region<|.lb 0 0 O<|.bd h fun r1 hr1 h=>.cv [1,2,3] (eC hr1) zRT O<|.b [1,8] O<|.cb h O (fun h=>?_) (fun h=>?_)
 ·cases h
 refine .sk<|.pr [1] O<|.ae O<|.seq<|.seq<|.region<|.lb 0 0 O<|.bd h fun r2 hr2 h=>.cv [1,2,3] (cZ hr2) zSd O<|.bf [3,4,5] [] 4 O O<|.AY (fun _ w=>w.HY zU 3)<|.bd h fun o1 hl1 h=>.DV 1 (fun (e2:Option Addr × Nat)=>[.s 3 (.slice e2.1 o1.length e2.2)]) (fun e2=>[.res (zI zU 3 e2.1 e2.2 o1)]) O O ?_ ?_
 ·refine .block<|.BM hl1 1 (fun (s1:List Int × Int × Int) (e1:Option Addr × Nat)=>[.s 3 (.slice e1.1 s1.1.length e1.2), .s 4 (.int .i64 s1.2.1), .s 5 (.int .i64 s1.2.2)]) (fun s1 e1=>[.res (zI zU 3 e1.1 e1.2 s1.1)]) O O (none,0) (zb O) (fun _ w=>w) ?_;rintro s1 ⟨A4,c4⟩ st1 hm1 hd1 h1;refine .seq<|.ab [3,4,5,12] O<|.cb h1 O (fun h1=>?_) (fun h1=>?_)
  ·refine .sk<|.pr [3,4,5] O<|.seq<|.block<|.ab [3,4,5,19] O<|.cb h1 O (fun h1=>?_) (fun h1=>?_)
   ·refine .region<|.n 2 O<|.bS O fun g2=>.bd h1 fun l1 hl1 h1=>.app (E:=zU) hl1 O O O (.s .z) O O O O O O O O (iV (.head _) O O) O O fun A6 c6=>.p O O<|.done<|.BL<|.AO<|.pf [3,4,5] [0] 1 O O<|.region ?_;cases h1;exact .be O<|.ag (A6,c6) hm1 O zw
   cases h1
  refine .xq O ?_;cases h1;cases hd1 _ rfl
  exact .AO<|.hE (A4,c4) O zw
 rintro ⟨A5,c5⟩;refine .ab [2] O ?_;cases h;exact .rv O O ⟨A5,c5,O,O⟩ zw
theorem zUV:BX Tryz.prog 85:=en Tryz.func85 (by kernel_rfl)
def iS (CP:zN) (cap0:ByteArray):Option Bool:=
 some (CP.Name.toList==cap0.toList)
theorem zEF {CP cap0 A1 c1 AZ r} (h:iS CP cap0=some r):
    BA Tryz.prog 85 [.agg (yO CP A1 c1).toArray, .pointer (some ⟨AZ,0,none⟩)] [.ro (AV AQ A1 c1 CP.Data), .res (Box AZ 9 [.string cap0])] (fun v F=>v= .bool r∧F= [.res (Box AZ 9 [.string cap0])]):=by
 unfold iS at h
 refine BA.intro Tryz.func85 O O O fun w R=>?_;refine .seq<|.region<|.box O O fun g1=>.b [1,2] O<|.a 1 O<|.lb 0 0 O<|.lb 0 2 O<|.bf [3] [] 2 O O ?_;cases h;exact .rv O O ⟨O,O⟩ zw
theorem zVp:BX Tryz.prog 84:=en Tryz.func84 (by kernel_rfl)
def vV [AP] (AX:(List zN)) (GK:ByteArray):Option Int:=
 bnd (yC (τ:=Int ⊕ Unit) (fun (s1:Int)=>bif decide (s1<(AX.length:Int)) then (bnd (BP AX s1) fun x1=>bnd (iS x1 GK) fun r1=>bif r1 then (some (.done (.inl s1))) else (some (.next (wrap .i64 (s1+1))))) else (none)) 0) fun o1=>xL o1 fun o2=>some (-1)
theorem pK [AP] {AX GK A1 c1 AZ r} (h:vV AX GK=some r):
    BA Tryz.prog 84 [.slice A1 AX.length c1, .func (.func 85) #[] #[.pointer (some ⟨AZ,0,none⟩)]] [.ro (Sl (zT tJ) A1 c1 AX), .res (Box AZ 9 [.string GK])] (fun v F=>v= .int .i64 r∧F= [.res (Box AZ 9 [.string GK])]):=by
 refine BA.intro Tryz.func84 O O O fun w R=>?_;refine .ab [0,1] O<|.seq<|.ab [0,1,7,8] O<|.bd h fun o1 hl1 h=>.ES 1 (fun (o2:Unit) (e2:Unit)=>[]) (fun o2 e2=>[]) O O (fun o2=>o1= .inr o2) ?_ ?_
 ·refine .block<|.BM hl1 0 (fun (s1:Int) (e1:Unit)=>[0,1,7, .s 8 (.int .i64 s1)]) (fun s1 e1=>[]) O O () (zb O) (fun _ w=>w) ?_;rintro s1 e1 st1 hm1 hd1 h1;refine .ae O<|.seq<|.cb h1 O (fun h1=>?_) (fun h1=>?_)
  ·refine .sk<|.pr [0,1,7,8] O<|.seq<|.block<|.ab [0,1,5,7,8] O<|.a 3 O<|.bd h1 fun x1 hx1 h1=>.KY hx1 0 O fun b1 DY FC=>?_;obtain ⟨⟨A2,c2⟩,_⟩:=FC;refine .nm 4 O<|.ld DY 0 0 O<|.bd h1 fun r1 hr1 h1=>.QD (args:= [.agg (yO x1 A2 c2).toArray]) (us:= [.pointer (some ⟨AZ,0,none⟩)]) (zEF hr1) zUV O O O (zd [2] [3] 0 O) ?_;rintro _ _ ⟨rfl,rfl⟩;refine .nm 4 O<|.bf [0,1,5,7,8,16] [0] 2 O O<|.cb h1 O (fun h1=>?_) (fun h1=>?_)
   ·refine .EK [4] [0] 1 O O ?_;cases h1;cases hd1 _ rfl
    have h:some _=some _:=h;cases h;exact .rv O O ⟨O,O⟩ zw
   refine .skip<|.BL<|.AO<|.pr [0,1,7,8] O<|.region ?_;cases h1;exact .be O<|.ag () hm1 O (zl [1] 0 O)
  cases h1
 rintro o2 e2 ho;subst ho;have h:=JG h;refine .ae O ?_;cases h;exact .rv O O ⟨O,O⟩ zw
theorem zUE:BX Tryz.prog 26:=en Tryz.func26 (by kernel_rfl)
def zBx [AP] (BF:iI) (name:ByteArray):Option Int:=
 bnd (vV BF.ET name) fun r1=>some r1
theorem zHm [AP] {BF name A1 c1 A2 c2 r} (h:zBx BF name=some r):
    BA Tryz.prog 26 [.agg #[.slice A1 BF.ET.length c1, .slice A2 BF.Needs.length c2], .string name] [.ro (Sl (zT tJ) A1 c1 BF.ET), .ro (AV zS A2 c2 BF.Needs)] (Val (.int .i64 r)):=by
 refine BA.intro Tryz.func26 O O O fun w R=>?_;refine .seq<|.region<|.box O O fun g1=>.box O O fun g2=>.b [2,3] O<|.a 1 O<|.lb 0 1 O<|.p O O<|.bd h fun r1 hr1 h=>.cq 4 [2] [] 0 (pK hr1) zVp O<|.bf [4] [] 4 O O ?_;cases h;exact .rv O O ⟨O,O⟩ zw
theorem Rx:BX Tryz.prog 93:=en Tryz.func93 (by kernel_rfl)
def pZ [AP] (AB:zB):Option Int:=
 bnd (sF AB) fun r1=>bif !r1 then (none) else (bif (AB.Running != AB.Active) then (none) else (bif AB.BK then (none) else (some 0)))
theorem mQ [AP] {AB A1 c1 A2 c2 r} (h:pZ AB=some r):
    BA Tryz.prog 93 [.agg (zF AB A1 c1 A2 c2).toArray] [.ro (AV AQ A1 c1 AB.Slots.e0.AU.Data), .ro (AV AQ A2 c2 AB.Slots.e1.AU.Data)] (Val (.int .i64 r)):=by
 refine BA.intro Tryz.func93 O O O fun w R=>?_;refine .seq<|.region<|.box O O fun g1=>.b [1] O<|.seq<|.seq<|.region<|.lb 0 0 O<|.bd h fun r1 hr1 h=>.cv [1,2] (nK hr1) xw O<|.b [1,5] O<|.cb h O (fun h=>?_) (fun h=>?_)
 ·cases h
 refine .sk<|.pr [1] O<|.seq<|.a 1 O<|.lb 14 0 O<|.p O O<|.lb 13 0 O<|.n 2 O<|.gs 11 h O (fun h=>?_) (fun h=>?_)
 ·cases h
 refine .n 1 O<|.BN O O<|.lb 15 0 O<|.bf [14] [] 3 O O<|.cb h O (fun h=>?_) (fun h=>?_)
 ·cases h
 refine .sk<|.pr [] O<|.ae O ?_;cases h;exact .rv O O ⟨O,O⟩ zw
theorem zSL:BX Tryz.prog 163:=en Tryz.func163 (by kernel_rfl)
def zCD [AP] (AB:zB):Option (zB × Int):=
 bnd (pZ AB) fun r1=>bif (r1 != 0) then (none) else (bnd (uX AB) fun r2=>bnd (qE r2) fun r3=>bnd (BP [r2.Slots.e0,r2.Slots.e1] r3) fun x1=>bnd (tH.set r2.Slots r3 (⟨(⟨⟨#[]⟩,(⟨0,0,0⟩:zQ), []⟩:zN),0⟩:yA)) fun z1=>some ((⟨r2.Name,z1,r2.Active,r2.Running,r2.BK⟩:zB),0))
theorem zJd [AP] {AB A1 c1 A2 c2 r} (h:zCD AB=some r):
    BA Tryz.prog 163 [.agg (zF AB A1 c1 A2 c2).toArray] [.ro (AV AQ A1 c1 AB.Slots.e0.AU.Data), .ro (AV AQ A2 c2 AB.Slots.e1.AU.Data)] (fun v F=>∃ A3 c3 A4 c4,v= .tuple #[.agg (zF r.1 A3 c3 A4 c4).toArray, .int .i64 r.2]∧F= [.ro (AV AQ A3 c3 r.1.Slots.e0.AU.Data), .ro (AV AQ A4 c4 r.1.Slots.e1.AU.Data)]):=by
 refine BA.intro Tryz.func163 O O O fun w R=>?_;refine .seq<|.region<|.box O O fun g1=>.alloc O O fun g2=>.b [1,2] O<|.seq<|.seq<|.region<|.lb 0 1 O<|.bd h fun r1 hr1 h=>.cv [2,3] (mQ hr1) Rx O<|.b [1,2,4] O<|.ab [1,2,4,9] O<|.cb h O (fun h=>?_) (fun h=>?_)
 ·cases h
 refine .sk<|.pr [1,2] O<|.seq<|.region<|.lb 0 1 O<|.bd h fun r2 hr2 h=>.ct 6 [2,3] [] 0 (oI hr2) jd O fun A3 c3 A4 c4=>.alloc O O fun g3=>.sb 0 0 O<|.bf [2,5] [0,0,0,0] 3 O O<|.seq<|.region<|.bd h fun r3 hr3 h=>.cq 4 [1,2] [] 0 (nR hr3) xu O<|.n 2 O<|.bd h fun x1 hx1 h=>.AY (fun _ w=>w.CU (CY AQ))<|.bd h fun z1 hz1 h=>.dm (ls:=vO) 0 [.string r2.Name] [.int .i64 r2.Active, .int .i64 r2.Running, .bool r2.BK] [(r2.Slots.e0,((A3,c3),())),(r2.Slots.e1,((A4,c4),()))] (fun ex=>((none,0),())) hx1 (tH.MI hz1) O O (.s .z) O O O ⟨EO,(zm 2 O),trivial⟩ O O O O (fun _=>O) (fun _=>⟨EO,trivial⟩) fun yc LZ=>?_;obtain ⟨FC,JQ,rfl⟩:=iw LZ;obtain ⟨⟨A5,c5⟩,_⟩:=FC;obtain ⟨⟨A6,c6⟩,_⟩:=JQ;refine .nm 7 O<|.bf [2,5] [0,0,0] 3 O O<|.seq<|.region<|.lb 0 0 O<|.sb 0 3 O<|.bf [2,3] [0] 1 O O ?_;cases h;exact .rt O Tryz.results163 (.cell O (.head _) O (.tmp O .nil)) O ⟨A5,c5,A6,c6,O,O⟩ (zk 2 3 [1,2] [] 0 O)
theorem zSI:BX Tryz.prog 164:=en Tryz.func164 (by kernel_rfl)
def zCN [AP] (AB:zB) (EI:zN) (GR:Int):Option (zB × Int):=
 bnd (pZ AB) fun r1=>bif (r1 != 0) then (none) else (bnd (tE EI) fun r2=>bif !r2 then (none) else (bif !(EI.Name.toList==AB.Name.toList) then (none) else (bif decide (GR<0) then (none) else (bif decide (GR>(EI.Data.length:Int)) then (none) else (bnd (uX AB) fun r3=>bnd (sub EI.Data 0 GR) fun l1=>bnd (qE r3) fun r4=>bnd (pR (⟨EI.Name,EI.Version,l1⟩:zN)) fun r5=>bnd (BP [r3.Slots.e0,r3.Slots.e1] r4) fun x1=>bnd (tH.set r3.Slots r4 (⟨r5,0⟩:yA)) fun z1=>some ((⟨r3.Name,z1,r3.Active,r3.Running,r3.BK⟩:zB),0))))))
theorem zJD [AP] {AB EI GR A1 c1 A2 c2 A3 c3 r} (h:zCN AB EI GR=some r):
    BA Tryz.prog 164 [.agg (zF AB A1 c1 A2 c2).toArray, .agg (yO EI A3 c3).toArray, .int .i64 GR] [.ro (AV AQ A1 c1 AB.Slots.e0.AU.Data), .ro (AV AQ A2 c2 AB.Slots.e1.AU.Data), .ro (AV AQ A3 c3 EI.Data)] (fun v F=>∃ A4 c4 A5 c5,v= .tuple #[.agg (zF r.1 A4 c4 A5 c5).toArray, .int .i64 r.2]∧F= [.ro (AV AQ A4 c4 r.1.Slots.e0.AU.Data), .ro (AV AQ A5 c5 r.1.Slots.e1.AU.Data)]):=by
 refine BA.intro Tryz.func164 O O O fun w R=>?_;refine .seq<|.region<|.box O O fun g1=>.box O O fun g2=>.alloc O O fun g3=>.b [2,3,4,6] O<|.seq<|.seq<|.region<|.lb 0 2 O<|.bd h fun r1 hr1 h=>.cv [3,4] (mQ hr1) Rx O<|.b [2,3,4,6,8] O<|.ab [2,3,4,6,8,13] O<|.cb h O (fun h=>?_) (fun h=>?_)
 ·cases h
 refine .sk<|.pr [2,3,4,6] O<|.seq<|.seq<|.region<|.lb 0 1 O<|.bd h fun r2 hr2 h=>.cv [5] (oY hr2) Ea O<|.n 2 O<|.gs 19 h O (fun h=>?_) (fun h=>?_)
 ·cases h
 refine .n 1 O<|.BN O O<|.lb 0 1 O<|.n 1 O<|.BN O O<|.lb 0 2 O<|.n 3 O<|.gs 26 h O (fun h=>?_) (fun h=>?_)
 ·cases h
 refine .n 4 O<|.gs 30 h O (fun h=>?_) (fun h=>?_)
 ·cases h
 refine .n 2 O<|.BN O O<|.lb 4 1 O<|.b [2,3,4,6,36] O<|.cb h O (fun h=>?_) (fun h=>?_)
 ·cases h
 refine .sk<|.pr [2,3,4,6] O<|.seq<|.region<|.lb 0 2 O<|.bd h fun r3 hr3 h=>.ct 8 [3,4] [] 0 (oI hr3) jd O fun A4 c4 A5 c5=>.alloc O O fun g4=>.sb 0 0 O<|.bf [2,4,6,9] [0,0,0,0,0] 3 O O<|.a 1 O<|.lb 4 4 O<|.p O O<|.bd h fun l1 hl1 h=>.sub (E:=(CY AQ)) O O (zm 5 O) O O O O O O O hl1 fun A6 c6=>.p O O<|.sb 4 5 O<|.bf [4,6,9] [0,0,0,0,0,0] 1 O O<|.seq<|.BI (iN [4,3,11,12,16,23] .nil) _ mixed (by kernel_rfl) (zl [0,0] 1 O)<|.yl 0 0 O<|.BV<|.bd h fun r4 hr4 h=>.cq 6 [3,4] [2] 0 (nR hr4) xu O<|.xk (zl [] 1 O)<|.BV<|.bd h fun r5 JH h=>.cr 7 [2] [] 0 (gS JH) xh O fun A7 c7=>.xk (zl [] 2 O)<|.yn 2 O<|.BV<|.bd h fun x1 hx1 h=>.bd h fun z1 hz1 h=>.dm (ls:=vO) 0 [.string r3.Name] [.int .i64 r3.Active, .int .i64 r3.Running, .bool r3.BK] [(r3.Slots.e0,((A4,c4),())),(r3.Slots.e1,((A5,c5),()))] (fun ex=>((A7,c7),())) hx1 (tH.MI hz1) O O (.s .z) O O O ⟨(zm 3 O),(zm 4 O),trivial⟩ O O O O (fun _=>O) (fun _=>⟨EO,trivial⟩) fun yc LZ=>?_;obtain ⟨FC,JQ,rfl⟩:=iw LZ;obtain ⟨⟨A8,c8⟩,_⟩:=FC;obtain ⟨⟨A9,c9⟩,_⟩:=JQ;refine .nm 9 O<|.xk (zl [] 4 O)<|.CQ<|.AO<|.pf [6,9] [0,0,0] 5 O O<|.seq<|.region<|.lb 0 0 O<|.sb 0 3 O<|.bf [6,7] [0] 1 O O ?_;cases h;exact .rt O Tryz.results164 (.cell O (.head _) O (.tmp O .nil)) O ⟨A8,c8,A9,c9,O,O⟩ (zk 2 3 [1,2] [] 0 O)
theorem zSN:BX Tryz.prog 165:=en Tryz.func165 (by kernel_rfl)
def zBE [AP] (AB:zB) (sum:Int):Option (zB × Int):=
 bnd (pZ AB) fun r1=>bif (r1 != 0) then (none) else (bnd (uX AB) fun r2=>bnd (qE r2) fun r3=>bnd (BP [r2.Slots.e0,r2.Slots.e1] r3) fun x1=>bnd (tH.set r2.Slots r3 (⟨x1.AU,sum⟩:yA)) fun z1=>bnd (qE (⟨r2.Name,z1,r2.Active,r2.Running,r2.BK⟩:zB)) fun r4=>bnd (BP [z1.e0,z1.e1] r4) fun x2=>bnd (nE (⟨r2.Name,z1,r2.Active,r2.Running,r2.BK⟩:zB) x2) fun r5=>bif !r5 then (none) else (some ((⟨r2.Name,z1,r2.Active,r2.Running,r2.BK⟩:zB),0)))
theorem zHh [AP] {AB sum A1 c1 A2 c2 r} (h:zBE AB sum=some r):
    BA Tryz.prog 165 [.agg (zF AB A1 c1 A2 c2).toArray, .int .u32 sum] [.ro (AV AQ A1 c1 AB.Slots.e0.AU.Data), .ro (AV AQ A2 c2 AB.Slots.e1.AU.Data)] (fun v F=>∃ A3 c3 A4 c4,v= .tuple #[.agg (zF r.1 A3 c3 A4 c4).toArray, .int .i64 r.2]∧F= [.ro (AV AQ A3 c3 r.1.Slots.e0.AU.Data), .ro (AV AQ A4 c4 r.1.Slots.e1.AU.Data)]):=by
 refine BA.intro Tryz.func165 O O O fun w R=>?_;refine .seq<|.region<|.box O O fun g1=>.alloc O O fun g2=>.b [1,2,4] O<|.seq<|.seq<|.region<|.lb 0 1 O<|.bd h fun r1 hr1 h=>.cv [2,3] (mQ hr1) Rx O<|.b [1,2,4,6] O<|.ab [1,2,4,6,11] O<|.cb h O (fun h=>?_) (fun h=>?_)
 ·cases h
 refine .sk<|.pr [1,2,4] O<|.seq<|.region<|.lb 0 1 O<|.bd h fun r2 hr2 h=>.ct 6 [2,3] [] 0 (oI hr2) jd O fun A3 c3 A4 c4=>.alloc O O fun g3=>.sb 0 0 O<|.bf [1,4,7] [0,0,0,0] 3 O O<|.seq<|.region<|.bd h fun r3 hr3 h=>.cq 4 [1,2] [] 0 (nR hr3) xu O<|.n 3 O<|.bd h fun x1 hx1 h=>.bd h fun z1 hz1 h=>.dm (ls:=vO) 5 [.string r2.Name] [.int .i64 r2.Active, .int .i64 r2.Running, .bool r2.BK] [(r2.Slots.e0,((A3,c3),())),(r2.Slots.e1,((A4,c4),()))] (fun ex=>((ex.1.1,ex.1.2),())) hx1 (tH.MI hz1) O O .z O O O ⟨(.head _),EO,trivial⟩ O O O O (fun _=>O) (fun _=>⟨(.head _),trivial⟩) fun yc LZ=>?_;obtain ⟨FC,JQ,rfl⟩:=iw LZ;obtain ⟨⟨A5,c5⟩,_⟩:=FC;obtain ⟨⟨A6,c6⟩,_⟩:=JQ;refine .nm 6 O<|.bf [4,7] [0,0,0] 2 O O<|.seq<|.seq<|.BI (iN [0,7,8,15,19,20] .nil) _ mixed (by kernel_rfl) zw<|.yl 0 0 O<|.BV<|.bd h fun r4 hr4 h=>.cq 4 [1,2] [] 0 (nR hr4) xu O<|.xk zw<|.yn 1 O<|.BV<|.bd h fun x2 hx2 h=>.UH (ls:=vO) 0 [.string r2.Name] [.int .i64 r2.Active, .int .i64 r2.Running, .bool r2.BK] [(z1.e0,((A5,c5),())),(z1.e1,((A6,c6),()))] (fun ex=>.agg (tN x2 ex.1.1 ex.1.2).toArray) hx2 O O (.head _) O O O ⟨EO,(zm 2 O),trivial⟩ O (fun _=>O) fun MX=>?_;obtain ⟨⟨A7,c7⟩,_⟩:=MX;refine .nm 5 O<|.xk (zl [] 1 O)<|.BV<|.bd h fun r5 JH h=>.cv [2,3,0] (fM JH) Eb O<|.xk (zl [] 1 O)<|.yn 1 O<|.CQ<|.AO<|.pf [4,7,25] [] 1 O O<|.cb h O (fun h=>?_) (fun h=>?_)
 ·cases h
 refine .sk<|.pr [4,7] O<|.seq<|.region<|.lb 0 0 O<|.sb 0 3 O<|.bf [4,5] [0] 1 O O ?_;cases h;exact .rt O Tryz.results165 (.cell O (.head _) O (.tmp O .nil)) O ⟨A5,c5,A6,c6,O,O⟩ (zk 2 3 [1,2] [] 0 O)
theorem zVf:BX Tryz.prog 81:=en Tryz.func81 (by kernel_rfl)
def iB [AP] (AL:zM) (QM:Int) (PG:zN):Option (zM × Int):=
 bnd (BP AL.devices QM) fun x1=>bnd (zCD x1) fun r1=>bif (r1.2 != 0) then (none) else (bnd (BP AL.devices QM) fun x2=>bnd (rJ AL.devices QM r1.1) fun l1=>bnd (zCN r1.1 PG (PG.Data.length:Int)) fun r2=>bif (r2.2 != 0) then (none) else (bnd (pP PG) fun r3=>bnd (zBE r2.1 r3) fun r4=>bif (r4.2 != 0) then (none) else (bnd (BP l1 QM) fun x3=>bnd (rJ l1 QM r4.1) fun l2=>some ((⟨AL.store,l2,AL.needs,AL.phase,AL.load,AL.before,AL.order⟩:zM),0))))
theorem zAo [AP] {AL QM PG A1 c1 A2 c2 A3 c3 A4 c4 A5 c5 A6 c6 AZ BJ r} (h:iB AL QM PG=some r):
    BA Tryz.prog 81 [.pointer (some ⟨AZ,0,none⟩), .int .i64 QM, .agg (yO PG A6 c6).toArray] [.ro (AV zS A2 c2 AL.needs), .ro (AV yW A3 c3 AL.load.Have), .ro (AV AQ A4 c4 AL.load.Data), .ro (AV zU A5 c5 AL.order), .ro (AV AQ A6 c6 PG.Data), .res (Box AZ 144 (zL AL BJ A1 c1 A2 c2 A3 c3 A4 c4 A5 c5)), .res (yU (zT zC) 64 A1 c1 AL.devices)] (fun v F=>∃ A7 c7 A8 c8 A9 c9 EC c10 EW c11,v= .int .i64 r.2∧F= [.ro (AV zS A8 c8 r.1.needs), .ro (AV yW A9 c9 r.1.load.Have), .ro (AV AQ EC c10 r.1.load.Data), .ro (AV zU EW c11 r.1.order), .res (Box AZ 144 (zL r.1 BJ A7 c7 A8 c8 A9 c9 EC c10 EW c11)), .res (yU (zT zC) 64 A7 c7 r.1.devices)]):=by
 refine BA.intro Tryz.func81 O O O fun w R=>?_;refine .seq<|.region<|.box O O fun g1=>.b [0,1,5] O<|.a 3 O<|.lb 1 6 O<|.p O O<|.bd h fun x1 hx1 h=>.TR hx1 O O O (zm 7 O) O O O O O fun g2 hA=>?_;subst hA;refine .OI (ls:=zC) 0 (fun ex=>.agg (zF x1 ex.1.1 ex.1.2 ex.2.1.1 ex.2.1.2).toArray) hx1 O O (zm 7 O) O (fun _=>O) fun FC=>?_;obtain ⟨⟨A7,c7⟩,⟨⟨A8,c8⟩,_⟩⟩:=FC;refine .nm 10 O<|.bd h fun r1 hr1 h=>.ct 12 [0,1] [] 0 (zJd hr1) zSL O fun A9 c9 EC c10=>.n 3 O<|.alloc O O fun g3=>.sb 0 0 O<|.bf [0,1,5,7,8] [0,0,0] 2 O O<|.seq<|.ab [0,1,5,7,8,21] O<|.cb h O (fun h=>?_) (fun h=>?_)
 ·cases h
 refine .sk<|.pr [0,1,5,7] O<|.seq<|.BI (iN [0,4,8,13,16,21,25,31] .nil) _ mixed (by kernel_rfl) (zl [0,0,0,0,0,0,0,0,0] 2 O)<|.yn 3 O<|.yx 1 9 O<|.yn 1 O<|.yx 0 0 O<|.bd h fun x2 hx2 h=>.JC (Rd.OC (n':=16) hx2 O O O O O O O) O<|.BV<|.bd h fun l1 hl1 h=>.Ci (ls:=zC) 0 (fun ex=>((A9,c9),((EC,c10),()))) hx2 hl1 O O (CS 10 O) O O O O (fun _=>O) (fun _=>⟨(zm 3 O),(zm 4 O),trivial⟩) ?_;refine .ss 26 (wY hl1)<|.AY (F':=.res (yU (zT zC) 64 (some ⟨g2,0,none⟩) c1 l1):: .res (Box g3 64 (zF r1.1 A9 c9 EC c10)):: .ro (AV AQ A9 c9 r1.1.Slots.e0.AU.Data):: .ro (AV AQ EC c10 r1.1.Slots.e1.AU.Data):: .res (Box g1 58 (yO PG A6 c6)):: .ro (AV zS A2 c2 AL.needs):: .ro (AV yW A3 c3 AL.load.Have):: .ro (AV AQ A4 c4 AL.load.Data):: .ro (AV zU A5 c5 AL.order):: .ro (AV AQ A6 c6 PG.Data):: .res (Box AZ 144 [.pointer (kR AL.store BJ), .slice (some ⟨g2,0,none⟩) l1.length c1, .slice A2 AL.needs.length c2, .int .i64 AL.phase, .int .i64 AL.load.Size, .int .i64 AL.load.Part, .slice A3 AL.load.Have.length c3, .slice A4 AL.load.Data.length c4, .int .u8 AL.before, .slice A5 AL.order.length c5])::R) (fun _ w=>by rw [sV hl1]; exact w)<|.xk (zl [1,1,1,1,1,1,1,1,1] 2 O)<|.CQ<|.AO<|.pr [0,1,5,7] O<|.seq<|.seq<|.region<|.lb 0 1 O<|.lb 0 4 O<|.p O O<|.lb 4 4 O<|.p O O<|.bd h fun r2 hr2 h=>.ct 13 [2,3,9] [] 0 (zJD hr2) zSI O fun EW c11 FX c12=>.n 3 O<|.sb 0 3 O<|.bf [0,1,5,7,8] [0,0,0,0] 2 O O<|.ab [0,1,5,7,8,40] O<|.cb h O (fun h=>?_) (fun h=>?_)
 ·cases h
 refine .sk<|.pr [0,1,5,7] O<|.seq<|.seq<|.BI (iN [1,5,10,15,16,20,24,31,32] .nil) _ mixed (by kernel_rfl) (zl [] 1 O)<|.yx 0 0 O<|.yx 0 4 O<|.bd h fun r3 hr3 h=>.YZ (fun _ h=>h) (gT hr3) Rn O O O O (za [8] O)<|.BV<|.bd h fun r4 hr4 h=>.ct 13 [1,2] [] 0 (zHh hr4) zSN O fun IE c13 GU c14=>.xk (zl [] 3 O)<|.yn 3 O<|.BV<|.sb 0 2 O<|.xk (zl [] 3 O)<|.yn 1 O<|.CQ<|.AO<|.pf [0,1,7,8] [0,0,0,2,3,3,3,3] 4 O O<|.ab [0,1,7,8,50] O<|.cb h O (fun h=>?_) (fun h=>?_)
 ·cases h
 refine .sk<|.pr [0,1,7] O<|.seq<|.BI (iN [0,4,8,13,16,21,25,31] .nil) _ mixed (by kernel_rfl) (zl [0,0,0,1,1,1,1] 2 O)<|.yn 3 O<|.yx 1 8 O<|.yn 1 O<|.yx 0 0 O<|.bd h fun x3 hx3 h=>.JC (Rd.OC (n':=16) hx3 O O O O O O O) O<|.BV<|.bd h fun l2 hl2 h=>.Ci (ls:=zC) 0 (fun ex=>((IE,c13),((GU,c14),()))) hx3 hl2 O O (CS 3 O) O O O O (fun _=>O) (fun _=>⟨(zm 3 O),(zm 4 O),trivial⟩) ?_;refine .ss 55 (wY hl2)<|.AY (F':=.res (yU (zT zC) 64 (some ⟨g2,0,none⟩) c1 l2):: .res (Box g3 64 (zF r4.1 IE c13 GU c14)):: .ro (AV AQ IE c13 r4.1.Slots.e0.AU.Data):: .ro (AV AQ GU c14 r4.1.Slots.e1.AU.Data):: .ro (AV zS A2 c2 AL.needs):: .ro (AV yW A3 c3 AL.load.Have):: .ro (AV AQ A4 c4 AL.load.Data):: .ro (AV zU A5 c5 AL.order):: .res (Box AZ 144 [.pointer (kR AL.store BJ), .slice (some ⟨g2,0,none⟩) l2.length c1, .slice A2 AL.needs.length c2, .int .i64 AL.phase, .int .i64 AL.load.Size, .int .i64 AL.load.Part, .slice A3 AL.load.Have.length c3, .slice A4 AL.load.Data.length c4, .int .u8 AL.before, .slice A5 AL.order.length c5])::R) (fun _ w=>by rw [sV hl2]; exact w)<|.xk (zl [1,1,1,1,1,1,1] 2 O)<|.CQ<|.AO<|.pf [] [0] 3 O O<|.ae O ?_;cases h;exact .rv O O ⟨(some ⟨g2,0,none⟩),c1,A2,c2,A3,c3,A4,c4,A5,c5,O,O⟩ (zk 6 4 [2,3,4,5] [5] 0 O)
theorem zSk:BX Tryz.prog 82:=en Tryz.func82 (by kernel_rfl)
def kD [AP] (AL:zM) (phase:Int):Option (List Int):=
 bnd (yC (τ:=List Int) (fun (s1:List Int × Int)=>bif decide (s1.2<(AL.order.length:Int)) then (bnd (BP AL.order s1.2) fun x1=>bnd (app 1 s1.1 [wrap .u8 x1]) fun l1=>some (.next (l1,wrap .i64 (s1.2+1)))) else (some (.done s1.1))) ([wrap .u8 phase,AL.before],0)) fun o1=>some o1
theorem kO [AP] {AL phase A1 c1 A2 c2 A3 c3 A4 c4 A5 c5 AZ BJ r} (h:kD AL phase=some r):
    BA Tryz.prog 82 [.pointer (some ⟨AZ,0,none⟩), .int .i64 phase] [.ro (AV zS A2 c2 AL.needs), .ro (AV yW A3 c3 AL.load.Have), .ro (AV AQ A4 c4 AL.load.Data), .ro (AV zU A5 c5 AL.order), .res (Box AZ 144 (zL AL BJ A1 c1 A2 c2 A3 c3 A4 c4 A5 c5)), .res (yU (zT zC) 64 A1 c1 AL.devices)] (fun v F=>∃ A6 c6,v= .slice A6 r.length c6∧F= [.res (Box AZ 144 (zL AL BJ A1 c1 A2 c2 A3 c3 A4 c4 A5 c5)), .res (yU (zT zC) 64 A1 c1 AL.devices), .res (zI AQ 5 A6 c6 r)]):=by
 refine BA.intro Tryz.func82 O O O fun w R=>?_;refine .ab [0,1] O<|.a 5 O<|.lb 8 4 O<|.bS O fun g1=>.b [0,5] O<|.seq<|.a 3 O<|.lb 9 5 O<|.b [5,18,19,20] O<|.AY (fun _ w=>w.IL (E:=AQ) (e:=5) [wrap .u8 phase,AL.before] O O)<|.bd h fun o1 hl1 h=>.DV 1 (fun (e2:Option Addr × Nat)=>[.s 5 (.slice e2.1 o1.length e2.2)]) (fun e2=>[.res (zI AQ 5 e2.1 e2.2 o1)]) O O ?_ ?_
 ·refine .block<|.BM hl1 1 (fun (s1:List Int × Int) (e1:Option Addr × Nat)=>[.s 5 (.slice e1.1 s1.1.length e1.2),18,19, .s 20 (.int .i64 s1.2)]) (fun s1 e1=>[.res (zI AQ 5 e1.1 e1.2 s1.1)]) O O ((some ⟨g1,0,none⟩),([wrap .u8 phase,AL.before]:List Int).length) (zb O) (fun _ w=>w) ?_;rintro s1 ⟨A6,c6⟩ st1 hm1 hd1 h1;refine .ae O<|.seq<|.cb h1 O (fun h1=>?_) (fun h1=>?_)
  ·refine .sk<|.pr [5,18,19,20] O<|.seq<|.block<|.seq<|.region<|.bd h1 fun x1 hx1 h1=>.IB hx1 4 O fun b1 DY=>.ld DY 0 0 O<|.bf [5,7,18,19,20] [] 1 O O<|.region<|.n 3 O<|.bS O fun g2=>.bd h1 fun l1 hl1 h1=>.app (E:=AQ) hl1 O O O (.s .z) O O O O O O O O (iV (.head _) O O) O O fun A8 c8=>.p O O<|.done<|.BL<|.AO<|.pf [5,18,19,20] [0] 1 O O<|.region ?_;cases h1;exact .be O<|.ag (A8,c8) hm1 O zw
  refine .xq O ?_;cases h1;cases hd1 _ rfl
  exact .AO<|.hE (A6,c6) O zw
 rintro ⟨A7,c7⟩;refine .ab [4] O ?_;cases h;exact .rv O O ⟨A7,c7,O,O⟩ (zl [5,5,0] 4 O)
theorem Ed:BX Tryz.prog 45:=en Tryz.func45 (by kernel_rfl)
def xQ [AP] (AX:zE) (key:Int) (value:(List Int)) (DR:zA):Option (zE × zA × Int):=
 bnd (yT AX ([(⟨key,value,false⟩:zD)]) DR) fun r1=>some (r1.1,r1.2.1,r1.2.2)
theorem tF [AP] {AX key value DR A1 c1 A2 c2 A3 c3 M1 AZ BJ r} (h:xQ AX key value DR=some r):
    BA Tryz.prog 45 [.pointer (some ⟨AZ,0,none⟩), .int .u8 key, .slice A1 value.length c1] [.ro (AV AQ A1 c1 value), .res (Box AZ 135 (zR AX BJ M1)), .res (yV (yH .u8) (CY AQ) M1 AX.all), .res (Box BJ 131 (zG DR A2 c2 A3 c3)), .res (zI AQ 5 A2 c2 DR.bytes), .res (zI zU 3 A3 c3 DR.BD)] (fun v F=>∃ M2 A4 c4 A5 c5,v= .int .i64 r.2.2∧F= [.res (Box AZ 135 (zR r.1 BJ M2)), .res (yV (yH .u8) (CY AQ) M2 r.1.all), .res (Box BJ 131 (zG r.2.1 A4 c4 A5 c5)), .res (zI AQ 5 A4 c4 r.2.1.bytes), .res (zI zU 3 A5 c5 r.2.1.BD)]):=by
 refine BA.intro Tryz.func45 O O O fun w R=>?_;refine .ab [0,1,2] O<|.a 4 O<|.bS O fun g1=>.AY (fun _ w=>Sat.OU (ls:=zJ) (e:=107) [((⟨key,value,false⟩:zD),((A1,c1),()))] O O O ⟨(.head _),trivial⟩ w)<|.AY (fun _ w=>w.IJ)<|.bd h fun r1 hr1 h=>.call (lF (AZ:=AZ) (BJ:=BJ) hr1) zOS O O O (zd [5] [2,2,2,2,2] 0 O) ?_;rintro _ _ ⟨M2,A4,c4,A5,c5,rfl,rfl⟩;refine .nm 7 O<|.bf [6] [0,0,0,0,0] 2 O O ?_;cases h;exact .rv O O ⟨M2,A4,c4,A5,c5,O,O⟩ zw
theorem zUG:BX Tryz.prog 21:=en Tryz.func21 (by kernel_rfl)
def oN [AP] (AL:zM) (BG:zE) (BB:zA):Option (zM × zE × zA × Int):=
 bif (AL.phase != 1) then (none) else (bnd (nY AL.load) fun r1=>bif !r1 then (none) else (bnd (cE AL.load) fun r2=>bif (r2.2 != 0) then (none) else (bnd (aK r2.1) fun r3=>bif (r3.2 != 0) then (none) else (bnd (gJ AL r3.1) fun r4=>bif (r4.2 != 0) then (none) else (bnd (fF r4.1) fun r5=>bif (r5.2 != 0) then (none) else (bif ((r5.1.length:Int)==0) then (none) else (bnd (eF r4.1) fun r6=>bnd (yC (τ:=(zM × zE × zA × Int) ⊕ zM) (fun (s1:zM × Int)=>bif decide (s1.2<(r6.length:Int)) then (bnd (BP r6 s1.2) fun x1=>bnd (BP s1.1.devices x1) fun x2=>bnd (zBx r3.1 x2.Name) fun r7=>bnd (BP r3.1.ET r7) fun x3=>bnd (iB s1.1 x1 x3) fun r8=>bif (r8.2 != 0) then (none) else (some (.next (r8.1,wrap .i64 (s1.2+1))))) else (some (.done (.inr s1.1)))) (AL,0)) fun o1=>xL o1 fun o2=>bnd (yC (τ:=Int) (fun (s2:Int × Int)=>bif decide (s2.1<(o2.devices.length:Int)) then (bnd (BP o2.devices s2.1) fun x4=>bnd (ay .u8 (wrap .u8 x4.Active) s2.1) fun q1=>some (.next (wrap .i64 (s2.1+1),FK .u8 s2.2 q1))) else (some (.done s2.2))) (0,0)) fun o3=>bnd (kD (⟨o2.store,o2.devices,o2.needs,o2.phase,o2.load,o3,r5.1⟩:zM) 2) fun r9=>bnd (nD o2.store) fun bb1=>bnd (xQ BG 32 r9 BB) fun r10=>bif (r10.2.2 != 0) then (none) else (some ((⟨o2.store,o2.devices,o2.needs,2,(⟨0,0, [], []⟩:xV),o3,r5.1⟩:zM),r10.1,r10.2.1,0)))))))))
theorem aW [AP] {AL BG BB A1 c1 A2 c2 A3 c3 A4 c4 A5 c5 A6 c6 A7 c7 M1 AZ BJ DW r} (h:oN AL BG BB=some r):
    BA Tryz.prog 21 [.pointer (some ⟨AZ,0,none⟩)] [.ro (AV zS A2 c2 AL.needs), .ro (AV yW A3 c3 AL.load.Have), .ro (AV AQ A4 c4 AL.load.Data), .ro (AV zU A5 c5 AL.order), .res (Box AZ 144 (zL AL BJ A1 c1 A2 c2 A3 c3 A4 c4 A5 c5)), .res (yU (zT zC) 64 A1 c1 AL.devices), .res (Box BJ 135 (zR BG DW M1)), .res (yV (yH .u8) (CY AQ) M1 BG.all), .res (Box DW 131 (zG BB A6 c6 A7 c7)), .res (zI AQ 5 A6 c6 BB.bytes), .res (zI zU 3 A7 c7 BB.BD)] (fun v F=>∃ A8 c8 A9 c9 EC c10 EW c11 FX c12 M2 IE c13 GU c14,v= .int .i64 r.2.2.2∧F= [.ro (AV zS A9 c9 r.1.needs), .ro (AV yW EC c10 r.1.load.Have), .ro (AV AQ EW c11 r.1.load.Data), .ro (AV zU FX c12 r.1.order), .res (Box AZ 144 (zL r.1 BJ A8 c8 A9 c9 EC c10 EW c11 FX c12)), .res (yU (zT zC) 64 A8 c8 r.1.devices), .res (Box BJ 135 (zR r.2.1 DW M2)), .res (yV (yH .u8) (CY AQ) M2 r.2.1.all), .res (Box DW 131 (zG r.2.2.1 IE c13 GU c14)), .res (zI AQ 5 IE c13 r.2.2.1.bytes), .res (zI zU 3 GU c14 r.2.2.1.BD)]):=by
 unfold oN at h
 refine BA.intro Tryz.func21 O O O fun w R=>?_;refine .ab [0] O<|.seq<|.a 3 O<|.lb 3 4 O<|.n 2 O<|.gs 17 h O (fun h=>?_) (fun h=>?_)
 ·cases h
 refine .n 3 O<|.BN O O<|.lb 4 4 O<|.BN O O<|.bd h fun r1 hr1 h=>.cv [1,2] (gA hr1) zRZ O<|.b [0,24] O<|.cb h O (fun h=>?_) (fun h=>?_)
 ·cases h
 refine .sk<|.pr [0] O<|.a 3 O<|.lb 4 4 O<|.bd h fun r2 hr2 h=>.cr 12 [1,2] [] 0 (zDr hr2) zVv O fun A8 c8=>.b [0,3,4] O<|.seq<|.ab [0,3,4,34] O<|.cb h O (fun h=>?_) (fun h=>?_)
 ·cases h
 refine .sk<|.pr [0,3] O<|.a 1 O<|.AY (fun _ w=>w.BU)<|.bd h fun r3 hr3 h=>.ct 14 [0] [] 0 (zEA hr3) zUX O fun A9 c9 EC c10=>.n 3 O<|.alloc O O fun g1=>.sb 0 0 O<|.bf [0,4,5] [0,0,0] 1 O O<|.seq<|.ab [0,4,5,42] O<|.cb h O (fun h=>?_) (fun h=>?_)
 ·cases h
 refine .sk<|.pr [0,5] O<|.a 1 O<|.lb 0 0 O<|.bd h fun r4 hr4 h=>.call (zBn (AZ:=AZ) hr4) zVx O O O (zd [5,6,7,8,3,4] [7,7] 0 O) ?_;rintro _ _ ⟨EW,c11,FX,c12,IE,c13,rfl,rfl⟩;refine .nm 17 O<|.n 3 O<|.alloc O O fun g2=>.sb 0 0 O<|.b [0,4,5,6] O<|.seq<|.ab [0,4,5,6,51] O<|.cb h O (fun h=>?_) (fun h=>?_)
 ·cases h
 refine .sk<|.pr [0,5,6] O<|.seq<|.region<|.lb 0 0 O<|.bd h fun r5 JH h=>.cr 19 [1,2,3] [] 0 (zBO JH) zUw O fun GU c14=>.b [0,4,5,6,7] O<|.seq<|.ab [0,4,5,6,7,59] O<|.cb h O (fun h=>?_) (fun h=>?_)
 ·cases h
 refine .sk<|.pr [0,5,6,7] O<|.seq<|.ab [0,5,6,7,63] O<|.cb h O (fun h=>?_) (fun h=>?_)
 ·cases h
 refine .sk<|.pr [0,5,6,7] O<|.seq<|.seq<|.region<|.lb 0 1 O<|.bd h fun r6 KU h=>.cr 20 [2,3,4] [] 0 (zBX KU) zVB O fun KL c15=>.bf [0,5,7,72,73,74] [0,0] 4 O O<|.bd h fun o1 hl1 h=>.ES 11 (fun (o2:zM) (e2:Option Addr × Nat × Option Addr × Nat × Option Addr × Nat × Option Addr × Nat × Option Addr × Nat)=>[0,7]) (fun o2 e2=>[.ro (AV zU e2.2.2.2.2.2.2.2.2.1 e2.2.2.2.2.2.2.2.2.2 o2.order), .ro (AV AQ e2.2.2.2.2.2.2.1 e2.2.2.2.2.2.2.2.1 o2.load.Data), .ro (AV yW e2.2.2.2.2.1 e2.2.2.2.2.2.1 o2.load.Have), .ro (AV zS e2.2.2.1 e2.2.2.2.1 o2.needs), .res (yU (zT zC) 64 e2.1 e2.2.1 o2.devices),1, .res (Box AZ 144 (zL o2 BJ e2.1 e2.2.1 e2.2.2.1 e2.2.2.2.1 e2.2.2.2.2.1 e2.2.2.2.2.2.1 e2.2.2.2.2.2.2.1 e2.2.2.2.2.2.2.2.1 e2.2.2.2.2.2.2.2.2.1 e2.2.2.2.2.2.2.2.2.2))]) O O (fun o2=>o1= .inr o2) ?_ ?_
 ·refine .block<|.BM hl1 11 (fun (s1:zM × Int) (e1:Option Addr × Nat × Option Addr × Nat × Option Addr × Nat × Option Addr × Nat × Option Addr × Nat)=>[0,5,7,72,73, .s 74 (.int .i64 s1.2)]) (fun s1 e1=>[.ro (AV zU e1.2.2.2.2.2.2.2.2.1 e1.2.2.2.2.2.2.2.2.2 s1.1.order), .ro (AV AQ e1.2.2.2.2.2.2.1 e1.2.2.2.2.2.2.2.1 s1.1.load.Data), .ro (AV yW e1.2.2.2.2.1 e1.2.2.2.2.2.1 s1.1.load.Have), .ro (AV zS e1.2.2.1 e1.2.2.2.1 s1.1.needs), .res (yU (zT zC) 64 e1.1 e1.2.1 s1.1.devices),0,1, .res (Box AZ 144 (zL s1.1 BJ e1.1 e1.2.1 e1.2.2.1 e1.2.2.2.1 e1.2.2.2.2.1 e1.2.2.2.2.2.1 e1.2.2.2.2.2.2.1 e1.2.2.2.2.2.2.2.1 e1.2.2.2.2.2.2.2.2.1 e1.2.2.2.2.2.2.2.2.2)),4,5,6]) O O (A1,c1,A2,c2,A3,c3,A4,c4,A5,c5) (zb O) (zl [10,9,8,7,3] 0 O) ?_;rintro s1 ⟨LG,c16,LY,c17,KO,c18,JS,c19,JU,c20⟩ st1 hm1 hd1 h1;refine .ae O<|.seq<|.cb h1 O (fun h1=>?_) (fun h1=>?_)
  ·refine .sk<|.pr [0,5,7,72,73,74] O<|.seq<|.block<|.seq<|.region<|.bd h1 fun x1 hx1 h1=>.PW hx1 5 O fun g3 hA=>?_;subst hA;refine .MJ 0 hx1 O O (zm 5 O) O O<|.b [0,5,7,9,72,73,74] O<|.seq<|.BI (iN [0,4,8,12,16,20,24,28,33,36,41,44,51,54,57,61,67,68] .nil) _ mixed (by kernel_rfl) (zl [0,0,0,0,1,1] 2 O)<|.yn 3 O<|.yl 0 6 O<|.yl 0 6 O<|.yn 3 O<|.yx 1 7 O<|.yn 1 O<|.bd h1 fun x2 hx2 h1=>.RI (zm 4 O) hx2 fun g4 hA=>?_;subst hA;refine .JC (Rd.OC (n':=16) hx2 O O O O O O O) O<|.yn 1 O<|.BV<|.OI (ls:=zC) 0 (fun ex=>.string x2.Name) hx2 O O (zm 4 O) O (fun _=>O) fun FC=>?_;obtain ⟨⟨UI,QL⟩,⟨⟨RQ,RS⟩,_⟩⟩:=FC;refine .nm 18 O<|.xk (zl [2,2,2,2,3,3] 4 O)<|.bd h1 fun r7 OY h1=>.YZ (fun _ h=>h) (zHm OY) zUE O O O O (za [7,8] O)<|.bd h1 fun x3 hx3 h1=>.UZ (zm 11 O) hx3 fun b1 DY JQ JA=>?_;obtain ⟨⟨QX,c28⟩,_⟩:=JQ;refine .nm 20 O<|.JC (Rd.ZA JA hx3 O O O O O O O) O<|.JC (Rd.load DY 0 O (.head _) O O) O<|.BV<|.bd h1 fun r8 OZ h1=>.call (zAo (AZ:=AZ) OZ) zVf O O O (zd [9,8,7,6,3] [11,8] 0 O) ?_;rintro _ _ ⟨QY,c29,WT,WU,WV,c31,YE,c32,ZO,ZP,rfl,rfl⟩;refine .nm 24 O<|.xk (zl [] 10 O)<|.yn 1 O<|.CQ<|.AO<|.pf [0,4,5,7,72,73,74] [0,0,0,0,0,0] 8 O O<|.ab [0,4,5,7,72,73,74,96] O<|.cb h1 O (fun h1=>?_) (fun h1=>?_)
   ·cases h1
   refine .skip<|.BL<|.AO<|.pr [0,5,7,72,73,74] O<|.region ?_;cases h1;exact .be O<|.ag (QY,c29,WT,WU,WV,c31,YE,c32,ZO,ZP) hm1 O (zl [3,2,1,0,1,1,1] 0 O)
  refine .xq O ?_;cases h1;cases hd1 _ rfl
  exact .AO<|.CZ s1.1 (LG,c16,LY,c17,KO,c18,JS,c19,JU,c20) O (zb O) (zl [0,0,0,0,0,1,1] 4 O)
 rintro o2 ⟨KE,c21,LP,LQ,OJ,c23,TM,c24,RP,c25⟩ ho;subst ho;have h:=JG h;refine .a 5 O<|.sb 8 6 O<|.n 2 O<|.sb 9 0 O<|.bf [0] [0] 1 O O<|.seq<|.a 3 O<|.lb 1 0 O<|.b [0,109,110,111] O<|.bd h fun o3 hl2 h=>.cu 1 [0] [.res (Box AZ 144 [.pointer (kR o2.store BJ), .slice KE o2.devices.length c21, .slice LP o2.needs.length LQ, .int .i64 o2.phase, .int .i64 o2.load.Size, .int .i64 o2.load.Part, .slice OJ o2.load.Have.length c23, .slice TM o2.load.Data.length c24, .int .u8 o3, .slice GU r5.1.length c14])] O O ?_ ?_
 ·refine .block<|.BM hl2 1 (fun (s2:Int × Int) (e3:Unit)=>[0,109,110, .s 111 (.int .i64 s2.1)]) (fun s2 e3=>[.res (Box AZ 144 [.pointer (kR o2.store BJ), .slice KE o2.devices.length c21, .slice LP o2.needs.length LQ, .int .i64 o2.phase, .int .i64 o2.load.Size, .int .i64 o2.load.Part, .slice OJ o2.load.Have.length c23, .slice TM o2.load.Data.length c24, .int .u8 s2.2, .slice GU r5.1.length c14])]) O O () (zb O) (fun _ w=>w) ?_;rintro s2 e3 st2 hm2 hd2 h2;refine .ae O<|.seq<|.cb h2 O (fun h2=>?_) (fun h2=>?_)
  ·refine .sk<|.pr [0,109,110,111] O<|.seq<|.block<|.a 1 O<|.bd h2 fun x4 hx4 h2=>.TR hx4 O O O (zm 4 O) O O O O O fun g5 hA=>?_;subst hA;refine .OI (ls:=zC) 0 (fun ex=>.agg (zF x4 ex.1.1 ex.1.2 ex.2.1.1 ex.2.1.2).toArray) hx4 O O (zm 4 O) O (fun _=>O) fun MX=>?_;obtain ⟨⟨VI,c34⟩,⟨⟨WW,WX⟩,_⟩⟩:=MX;refine .nm 13 O<|.alloc O O fun g6=>.p O O<|.sb 0 0 O<|.b [0,10,11,109,110,111] O<|.BI (iN [0,4,8,13,16,21,24,28,33,36,40,44,51] .nil) _ mixed (by kernel_rfl) (zl [0,0,0] 1 O)<|.yn 3 O<|.yx 8 3 O<|.yn 1 O<|.yx 13 0 O<|.yn 2 O<|.bd h2 fun q1 hq1 h2=>.JC (Rd.shl hq1 O O) O<|.yn 3 O<|.BV<|.sb 8 3 O<|.xk (zl [] 1 O)<|.CQ<|.BL<|.AO<|.pf [0,109,110,111] [0] 3 O O<|.region ?_;cases h2;exact .be O<|.ag () hm2 O zw
  refine .xq O ?_;cases h2;cases hd2 _ rfl
  exact .AO<|.hU O zw
 refine .seq<|.seq<|.bd h fun r9 QW h=>.bd h fun bb1 KD h=>.bd h fun r10 LH h=>.BI (iN [0,4,8,16] (.alt (iN [15] (iN [23] (iN [27,28] .nil))) (iN [23] (iN [15] (iN [27,28] .nil))))) _ mixed (by kernel_rfl) (zl [1,1,1,1] 7 O)<|.DX (Y:=?IZ) 6 (fun (e:Option Addr × Nat)=>[0, .s 132 (.pointer (kR o2.store BJ)), .s 134 (.slice e.1 r9.length e.2)]) (fun e=>[0,4, .res (zI AQ 5 e.1 e.2 r9), .ro (AV zU GU c14 r5.1),1,2,3]) O O (fun DL=>?EQ) ?ER
 case EQ=>
  refine .yn 4 O<|.FY ?_ ?_
  ·refine .BV<|.lb 0 0 O<|.xk (zl [1,1,1,1] 7 O)<|.BV<|.AY (fun _ w=>(w.sl [5] 0 O).BU)<|.cr 12 [5,4,3,2] [1,4] 0 (kO (AZ:=AZ) QW) zSk O fun VK VL=>.xk (zl [4,4,4,1] 8 O) ?_;refine DL _ _ (VK,VL) ?_ ?_
   ·exact ⟨O,O,O,trivial⟩
   exact fun _ w=>w
  refine .BV<|.AY (fun _ w=>(w.sl [5] 0 O).BU)<|.cr 12 [5,4,3,2] [1,4] 0 (kO (AZ:=AZ) QW) zSk O fun VK VL=>.xk (zl [4,4,4,1] 8 O)<|.BV<|.lb 0 0 O<|.xk (zl [4,4,4,1] 8 O) ?_;refine DL _ _ (VK,VL) ?_ ?_
  ·exact ⟨O,O,O,trivial⟩
  exact fun _ w=>w
 case ER=>
  rintro ⟨VK,VL⟩;refine .nm 12 O<|.BV ?_;refine .ss 132 (uD KD)<|.AY (fun _ w=>(w.sl [2] 0 O).BU)<|.call (tF (AZ:=BJ) (BJ:=DW) LH) Ed O O O (zd [5] [7,7,7,7,7] 0 O) ?_;rintro _ _ ⟨M2,Ee,c37,Ef,Eg,rfl,rfl⟩;refine .nm 12 O<|.xk (zl [9,9,9,7] 8 O)<|.yn 1 O<|.CQ<|.AO<|.pf [0,4] [0,0,0,0,0] 1 O O<|.ab [0,4,137] O<|.cb h O (fun h=>?_) (fun h=>?_)
  ·cases h
  refine .sk<|.pr [0] O<|.a 5 O<|.sb 4 5 O<|.n 2 O<|.sb 3 0 O<|.bf [] [0,0,0,0,0,0,0,0] 2 O O<|.ae O<|.AY (fun _ w=>w.CU (CY yW))<|.AY (fun _ w=>w.CU (CY AQ)) ?_;cases h;exact .rv O O ⟨KE,c21,LP,LQ,none,0,none,0,GU,c14,M2,Ee,c37,Ef,Eg,O,O⟩ (zk 11 4 [10,8,7,9] [2,7,2,2,2,2,2] 0 O)
theorem zUB:BX Tryz.prog 34:=en Tryz.func34 (by kernel_rfl)
def zBK [AP] (AB:zB):Option (zB × Int):=
 bnd (pZ AB) fun r1=>bif (r1 != 0) then (none) else (bnd (qE AB) fun r2=>bnd (BP [AB.Slots.e0,AB.Slots.e1] r2) fun x1=>bnd (nE AB x1) fun r3=>bif !r3 then (none) else (bnd (uX AB) fun r4=>some ((⟨r4.Name,r4.Slots,r4.Active,r4.Running,true⟩:zB),0)))
theorem zGY [AP] {AB A1 c1 A2 c2 r} (h:zBK AB=some r):
    BA Tryz.prog 34 [.agg (zF AB A1 c1 A2 c2).toArray] [.ro (AV AQ A1 c1 AB.Slots.e0.AU.Data), .ro (AV AQ A2 c2 AB.Slots.e1.AU.Data)] (fun v F=>∃ A3 c3 A4 c4,v= .tuple #[.agg (zF r.1 A3 c3 A4 c4).toArray, .int .i64 r.2]∧F= [.ro (AV AQ A3 c3 r.1.Slots.e0.AU.Data), .ro (AV AQ A4 c4 r.1.Slots.e1.AU.Data)]):=by
 refine BA.intro Tryz.func34 O O O fun w R=>?_;refine .seq<|.region<|.box O O fun g1=>.alloc O O fun g2=>.b [1,2] O<|.seq<|.seq<|.region<|.lb 0 1 O<|.bd h fun r1 hr1 h=>.cv [2,3] (mQ hr1) Rx O<|.b [1,2,4] O<|.ab [1,2,4,9] O<|.cb h O (fun h=>?_) (fun h=>?_)
 ·cases h
 refine .sk<|.pr [1,2] O<|.seq<|.seq<|.BI (iN [0,7,8,15,19,20] .nil) _ mixed (by kernel_rfl) zw<|.yl 0 1 O<|.BV<|.bd h fun r2 hr2 h=>.cq 4 [2,3] [1] 0 (nR hr2) xu O<|.xk (zl [1] 0 O)<|.yn 1 O<|.BV<|.bd h fun x1 hx1 h=>.UH (ls:=vO) 0 [.string AB.Name] [.int .i64 AB.Active, .int .i64 AB.Running, .bool AB.BK] [(AB.Slots.e0,((A1,c1),())),(AB.Slots.e1,((A2,c2),()))] (fun ex=>.agg (tN x1 ex.1.1 ex.1.2).toArray) hx1 O O (.head _) O O O ⟨(zm 2 O),(zm 3 O),trivial⟩ O (fun _=>O) fun FC=>?_;obtain ⟨⟨A3,c3⟩,_⟩:=FC;refine .nm 5 O<|.xk (zl [2] 1 O)<|.BV<|.bd h fun r3 hr3 h=>.cv [3,4,0] (fM hr3) Eb O<|.xk (zl [2] 1 O)<|.yn 1 O<|.CQ<|.AO<|.pf [1,2,17] [] 1 O O<|.cb h O (fun h=>?_) (fun h=>?_)
 ·cases h
 refine .sk<|.pr [1,2] O<|.seq<|.region<|.lb 0 0 O<|.bd h fun r4 hr4 h=>.ct 6 [2,3] [] 0 (oI hr4) jd O fun A4 c4 A5 c5=>.alloc O O fun g3=>.sb 0 0 O<|.bf [2,5] [0,0,0,1] 3 O O<|.a 1 O<|.sb 15 0 O<|.b [2,5] O<|.seq<|.region<|.lb 0 0 O<|.sb 0 3 O<|.bf [2,3] [0] 1 O O ?_;cases h;exact .rt O Tryz.results34 (.cell O (.head _) O (.tmp O .nil)) O ⟨A4,c4,A5,c5,O,O⟩ (zk 2 3 [1,2] [] 0 O)
theorem zTF:BX Tryz.prog 317:=en Tryz.func317 (by kernel_rfl)
def zAI [AP] (AB:zB):Option (zB × Int):=
 bnd (sF AB) fun r1=>bif !r1 then (none) else (bif AB.BK then (none) else (bnd (uX AB) fun r2=>some ((⟨r2.Name,r2.Slots,r2.Running,r2.Running,r2.BK⟩:zB),0)))
theorem zFj [AP] {AB A1 c1 A2 c2 r} (h:zAI AB=some r):
    BA Tryz.prog 317 [.agg (zF AB A1 c1 A2 c2).toArray] [.ro (AV AQ A1 c1 AB.Slots.e0.AU.Data), .ro (AV AQ A2 c2 AB.Slots.e1.AU.Data)] (fun v F=>∃ A3 c3 A4 c4,v= .tuple #[.agg (zF r.1 A3 c3 A4 c4).toArray, .int .i64 r.2]∧F= [.ro (AV AQ A3 c3 r.1.Slots.e0.AU.Data), .ro (AV AQ A4 c4 r.1.Slots.e1.AU.Data)]):=by
 refine BA.intro Tryz.func317 O O O fun w R=>?_;refine .seq<|.region<|.box O O fun g1=>.alloc O O fun g2=>.b [1,2] O<|.seq<|.seq<|.region<|.lb 0 1 O<|.bd h fun r1 hr1 h=>.cv [2,3] (nK hr1) xw O<|.b [1,2,7] O<|.cb h O (fun h=>?_) (fun h=>?_)
 ·cases h
 refine .sk<|.pr [1,2] O<|.seq<|.a 1 O<|.lb 15 1 O<|.b [1,2,10] O<|.cb h O (fun h=>?_) (fun h=>?_)
 ·cases h
 refine .sk<|.pr [1,2] O<|.seq<|.region<|.lb 0 1 O<|.bd h fun r2 hr2 h=>.ct 6 [2,3] [] 0 (oI hr2) jd O fun A3 c3 A4 c4=>.alloc O O fun g3=>.sb 0 0 O<|.bf [2,4] [0,0,0,0] 3 O O<|.a 1 O<|.lb 14 0 O<|.p O O<|.sb 13 0 O<|.b [2,4] O<|.seq<|.region<|.lb 0 0 O<|.sb 0 3 O<|.bf [2,3] [0] 1 O O ?_;cases h;exact .rt O Tryz.results317 (.cell O (.head _) O (.tmp O .nil)) O ⟨A3,c3,A4,c4,O,O⟩ (zk 2 3 [1,2] [] 0 O)
theorem zTH:BX Tryz.prog 315:=en Tryz.func315 (by kernel_rfl)
def pF [AP] (AL:zM) (good:Bool) (BG:zE) (BB:zA):Option (zM × zE × zA × Int × Int):=
 bnd (wN AL.order AL) fun r1=>bnd (BP AL.order r1) fun x1=>bnd (BP AL.devices x1) fun x2=>bnd (zBK x2) fun r2=>bif (r2.2 != 0) then (none) else (bnd (eN r2.1) fun r3=>bif good then (bnd (zAI r3) fun r4=>bif (r4.2 != 0) then (none) else (bnd (BP AL.devices x1) fun x3=>bnd (rJ AL.devices x1 r4.1) fun l1=>bnd (vD (⟨AL.store,l1,AL.needs,AL.phase,AL.load,AL.before,AL.order⟩:zM) BG BB) fun r5=>bif (r5.2.2.2 != 0) then (none) else (some (r5.1,r5.2.1,r5.2.2.1,x1,0)))) else (none))
theorem cT [AP] {AL good BG BB A1 c1 A2 c2 A3 c3 A4 c4 A5 c5 A6 c6 A7 c7 M1 AZ BJ DW r} (h:pF AL good BG BB=some r):
    BA Tryz.prog 315 [.pointer (some ⟨AZ,0,none⟩), .bool good] [.ro (AV zS A2 c2 AL.needs), .ro (AV yW A3 c3 AL.load.Have), .ro (AV AQ A4 c4 AL.load.Data), .ro (AV zU A5 c5 AL.order), .res (Box AZ 144 (zL AL BJ A1 c1 A2 c2 A3 c3 A4 c4 A5 c5)), .res (yU (zT zC) 64 A1 c1 AL.devices), .res (Box BJ 135 (zR BG DW M1)), .res (yV (yH .u8) (CY AQ) M1 BG.all), .res (Box DW 131 (zG BB A6 c6 A7 c7)), .res (zI AQ 5 A6 c6 BB.bytes), .res (zI zU 3 A7 c7 BB.BD)] (fun v F=>∃ A8 c8 A9 c9 EC c10 EW c11 FX c12 M2 IE c13 GU c14,v= .tuple #[.int .i64 r.2.2.2.1, .int .i64 r.2.2.2.2]∧F= [.ro (AV zS A9 c9 r.1.needs), .ro (AV yW EC c10 r.1.load.Have), .ro (AV AQ EW c11 r.1.load.Data), .ro (AV zU FX c12 r.1.order), .res (Box AZ 144 (zL r.1 BJ A8 c8 A9 c9 EC c10 EW c11 FX c12)), .res (yU (zT zC) 64 A8 c8 r.1.devices), .res (Box BJ 135 (zR r.2.1 DW M2)), .res (yV (yH .u8) (CY AQ) M2 r.2.1.all), .res (Box DW 131 (zG r.2.2.1 IE c13 GU c14)), .res (zI AQ 5 IE c13 r.2.2.1.bytes), .res (zI zU 3 GU c14 r.2.2.1.BD)]):=by
 unfold pF at h
 refine BA.intro Tryz.func315 O O O fun w R=>?_;refine .ab [0,1] O<|.seq<|.BI (iN [0,4,8,12,16,20,24,29,32,36,43,45,49,52] .nil) _ mixed (by kernel_rfl) zw<|.yn 3 O<|.yl 9 4 O<|.yn 3 O<|.yx 9 4 O<|.yn 2 O<|.BV<|.bd h fun r1 hr1 h=>.cq 11 [5,2,3,4,5] [4,4] 0 (rX (AZ:=AZ) hr1) D5 O<|.xk (zl [2,2,2,2] 0 O)<|.bd h fun x1 hx1 h=>.JZ (zm 5 O) hx1 fun b1 DY JA=>.AY (fun _ w=>Sat.JE JA (zm 5 O) hx1 w) ?_;have hc1:=fun w h=>Sat.JE JA (zm 3 O) hx1 ((fun (w:World) (h:Sat (.ro (AV zS A2 c2 AL.needs):: .ro (AV yW A3 c3 AL.load.Have):: .ro (AV AQ A4 c4 AL.load.Data):: .ro (AV zU A5 c5 AL.order):: .res (Box AZ 144 (zL AL BJ A1 c1 A2 c2 A3 c3 A4 c4 A5 c5)):: .res (yU (zT zC) 64 A1 c1 AL.devices):: .res (Box BJ 135 (zR BG DW M1)):: .res (yV (yH .u8) (CY AQ) M1 BG.all):: .res (Box DW 131 (zG BB A6 c6 A7 c7)):: .res (zI AQ 5 A6 c6 BB.bytes):: .res (zI zU 3 A7 c7 BB.BD)::R) w)=>h) w h);refine .JC (Rd.SY (E:=zU) JA hx1 O O O O O O O) O<|.JC (Rd.load DY 0 O (.head _) O O) O<|.yn 1 O<|.CQ<|.AO<|.pf [0,1,6] [] 1 O O<|.a 3 O<|.lb 1 0 O<|.p O O<|.bd h fun x2 hx2 h=>.TR hx2 O O O EO O O O O O fun g1 hA=>?_;subst hA;refine .OI (ls:=zC) 0 (fun ex=>.agg (zF x2 ex.1.1 ex.1.2 ex.2.1.1 ex.2.1.2).toArray) hx2 O O EO O (fun _=>O) fun FC=>?_;obtain ⟨⟨A8,c8⟩,⟨⟨A9,c9⟩,_⟩⟩:=FC;refine .nm 13 O<|.bd h fun r2 hr2 h=>.ct 15 [0,1] [] 0 (zGY hr2) zUB O fun EC c10 EW c11=>.n 3 O<|.alloc O O fun g2=>.sb 0 0 O<|.bf [0,1,6,7,8] [0,0,0] 2 O O<|.seq<|.ab [0,1,6,7,8,34] O<|.cb h O (fun h=>?_) (fun h=>?_)
 ·cases h
 refine .sk<|.pr [0,1,6,7] O<|.seq<|.region<|.lb 0 0 O<|.bd h fun r3 hr3 h=>.ct 16 [1,2] [] 0 (zKc hr3) zRU O fun FX c12 IE c13=>.sb 0 2 O<|.bf [0,1,6,7] [0,0,0] 2 O O<|.seq<|.ab [0,6,7,38] O<|.cb h O (fun h=>?_) (fun h=>?_)
 ·refine .seq<|.seq<|.region<|.lb 0 0 O<|.bd h fun r4 hr4 h=>.ct 16 [1,2] [] 0 (zFj hr4) zTF O fun GU c14 KL c15=>.n 3 O<|.sb 0 2 O<|.bf [0,6,7,8] [0,0,0] 2 O O<|.ab [0,6,7,8,45] O<|.cb h O (fun h=>?_) (fun h=>?_)
  ·cases h
  refine .sk<|.pr [0,6,7] O<|.seq<|.BI (iN [0,4,8,13,16,21,25,31] .nil) _ mixed (by kernel_rfl) (zl [0,0,0] 2 O)<|.yn 3 O<|.yx 1 3 O<|.yn 1 O<|.yx 0 0 O<|.bd h fun x3 hx3 h=>.JC (Rd.OC (n':=16) hx3 O O O O O O O) O<|.BV<|.bd h fun l1 hl1 h=>.Ci (ls:=zC) 0 (fun ex=>((GU,c14),((KL,c15),()))) hx3 hl1 O O (CS 4 O) O O O O (fun _=>O) (fun _=>⟨(zm 3 O),(zm 4 O),trivial⟩) ?_;refine .ss 50 (wY hl1)<|.AY (F':=.res (yU (zT zC) 64 (some ⟨g1,0,none⟩) c1 l1):: .res (Box g2 64 (zF r4.1 GU c14 KL c15)):: .ro (AV AQ GU c14 r4.1.Slots.e0.AU.Data):: .ro (AV AQ KL c15 r4.1.Slots.e1.AU.Data):: .res (Box AZ 144 [.pointer (kR AL.store BJ), .slice (some ⟨g1,0,none⟩) l1.length c1, .slice A2 AL.needs.length c2, .int .i64 AL.phase, .int .i64 AL.load.Size, .int .i64 AL.load.Part, .slice A3 AL.load.Have.length c3, .slice A4 AL.load.Data.length c4, .int .u8 AL.before, .slice A5 AL.order.length c5]):: .ro (AV zS A2 c2 AL.needs):: .ro (AV yW A3 c3 AL.load.Have):: .ro (AV AQ A4 c4 AL.load.Data):: .ro (AV zU A5 c5 AL.order):: .res (Box BJ 135 (zR BG DW M1)):: .res (yV (yH .u8) (CY AQ) M1 BG.all):: .res (Box DW 131 (zG BB A6 c6 A7 c7)):: .res (zI AQ 5 A6 c6 BB.bytes):: .res (zI zU 3 A7 c7 BB.BD)::R) (fun _ w=>by rw [sV hl1]; exact w)<|.xk (zl [1,1,1] 2 O)<|.CQ<|.AO<|.pf [0,6] [0] 3 O O<|.seq<|.a 1 O<|.bd h fun r5 JH h=>.call (jC (AZ:=AZ) (BJ:=BJ) (DW:=DW) JH) zRX O O O (zd [7,8,9,10] [1,0,4,4,4,4,4] 0 O) ?_;rintro _ _ ⟨LG,c16,LY,c17,KO,c18,JS,c19,JU,c20,M2,KE,c21,LP,LQ,rfl,rfl⟩;refine .nm 15 O<|.bf [6,8] [0,0,0,0,0,0,0,0,0,0,0] 4 O O<|.ab [6,8,57] O<|.cb h O (fun h=>?_) (fun h=>?_)
  ·cases h
  refine .sk<|.pr [6] O<|.ab [4,5] O ?_;cases h;exact .rv O O ⟨LG,c16,LY,c17,KO,c18,JS,c19,JU,c20,M2,KE,c21,LP,LQ,O,O⟩ (zk 11 4 [7,8,9,10] [4,4,4,4,4,4,4] 0 O)
 cases h
theorem zSm:BX Tryz.prog 25:=en Tryz.func25 (by kernel_rfl)
def nZ [AP] (AL:zM) (good:Bool) (BG:zE) (BB:zA):Option (zM × zE × zA × Int × Int):=
 bif !(AL.phase==2||(AL.phase==3||false)) then (none) else (bif AL.phase==2 then (bnd (pF AL good BG BB) fun r1=>some (r1.1,r1.2.1,r1.2.2.1,r1.2.2.2.1,r1.2.2.2.2)) else (bif AL.phase==3 then (none) else (none)))
theorem gC [AP] {AL good BG BB A1 c1 A2 c2 A3 c3 A4 c4 A5 c5 A6 c6 A7 c7 M1 AZ BJ DW r} (h:nZ AL good BG BB=some r):
    BA Tryz.prog 25 [.pointer (some ⟨AZ,0,none⟩), .bool good] [.ro (AV zS A2 c2 AL.needs), .ro (AV yW A3 c3 AL.load.Have), .ro (AV AQ A4 c4 AL.load.Data), .ro (AV zU A5 c5 AL.order), .ro (TS 0 [(2,some 315),(3,some 316)]), .res (Box AZ 144 (zL AL BJ A1 c1 A2 c2 A3 c3 A4 c4 A5 c5)), .res (yU (zT zC) 64 A1 c1 AL.devices), .res (Box BJ 135 (zR BG DW M1)), .res (yV (yH .u8) (CY AQ) M1 BG.all), .res (Box DW 131 (zG BB A6 c6 A7 c7)), .res (zI AQ 5 A6 c6 BB.bytes), .res (zI zU 3 A7 c7 BB.BD)] (fun v F=>∃ A8 c8 A9 c9 EC c10 EW c11 FX c12 M2 IE c13 GU c14,v= .tuple #[.int .i64 r.2.2.2.1, .int .i64 r.2.2.2.2]∧F= [.ro (AV zS A9 c9 r.1.needs), .ro (AV yW EC c10 r.1.load.Have), .ro (AV AQ EW c11 r.1.load.Data), .ro (AV zU FX c12 r.1.order), .res (Box AZ 144 (zL r.1 BJ A8 c8 A9 c9 EC c10 EW c11 FX c12)), .res (yU (zT zC) 64 A8 c8 r.1.devices), .res (Box BJ 135 (zR r.2.1 DW M2)), .res (yV (yH .u8) (CY AQ) M2 r.2.1.all), .res (Box DW 131 (zG r.2.2.1 IE c13 GU c14)), .res (zI AQ 5 IE c13 r.2.2.1.bytes), .res (zI zU 3 GU c14 r.2.2.1.BD)]):=by
 refine BA.intro Tryz.func25 O O O fun w R=>?_;refine .ab [0,1] O<|.seq<|.regionF mixed (by kernel_rfl)<|.DK (zm 4 O) fun gm1=>.ld 0 0 0 O<|.n 3 O<|.lb 3 7 O<|.OW O O O EO O O O O O (by rfl)<|.beq O<|.pf [0,1,6] [] 2 O O<|.seq<|.a 1 O<|.gq (r:=!(AL.phase==2||(AL.phase==3||false))) O O O (by kernel_rfl) O (.inl ⟨O,O⟩)<|.b [0,1,6,14] O<|.cb h O (fun h=>?_) (fun h=>?_)
 ·cases h
 refine .sk<|.pr [0,1,6] O<|.a 3 O ?_
 rcases hb2:(AL.phase==2) with _ | _
 ·replace h:=bD hb2 h
  rcases hb3:(AL.phase==3) with _ | _
  ·replace h:=bD hb3 h;cases h
  replace h:=cQ hb3 h;cases h
 replace h:=cQ hb2 h;refine .ss 6 (zSp (Yy hb2)) ?_;refine .ss 15 (zSp (Yy hb2))<|.bd h fun r1 hr1 h=>.call (cT (AZ:=AZ) (BJ:=BJ) (DW:=DW) hr1) zTH O O O (zd [7,8,9,10] [5,5,5,5,5,5,5] 0 O) ?_;rintro _ _ ⟨A8,c8,A9,c9,EC,c10,EW,c11,FX,c12,M2,IE,c13,GU,c14,rfl,rfl⟩;refine .nm 16 O<|.bf [4,5] [0,0,0,0,0,0,0,0,0,0,0] 4 O O ?_;cases h;exact .rv O O ⟨A8,c8,A9,c9,EC,c10,EW,c11,FX,c12,M2,IE,c13,GU,c14,O,O⟩ (zk 11 5 [7,8,9,10] [4,4,4,4,4,4,4] 0 O)
theorem zSb:BX Tryz.prog 22:=en Tryz.func22 (by kernel_rfl)
def uY (AL:zM):Option Int:=
 some AL.phase
theorem iR {AL A1 c1 A2 c2 A3 c3 A4 c4 A5 c5 AZ BJ r} (h:uY AL=some r):
    BA Tryz.prog 22 [.pointer (some ⟨AZ,0,none⟩)] [.ro (AV zS A2 c2 AL.needs), .ro (AV yW A3 c3 AL.load.Have), .ro (AV AQ A4 c4 AL.load.Data), .ro (AV zU A5 c5 AL.order), .res (Box AZ 144 (zL AL BJ A1 c1 A2 c2 A3 c3 A4 c4 A5 c5)), .res (yU (zT zC) 64 A1 c1 AL.devices)] (fun v F=>v= .int .i64 r∧F= [.res (Box AZ 144 (zL AL BJ A1 c1 A2 c2 A3 c3 A4 c4 A5 c5)), .res (yU (zT zC) 64 A1 c1 AL.devices)]):=by
 unfold uY at h
 refine BA.intro Tryz.func22 O O O fun w R=>?_;refine .ab [0] O<|.a 3 O<|.lb 3 4 O<|.b [2] O ?_;cases h;exact .rv O O ⟨O,O⟩ (zl [] 4 O)
theorem zVe:BX Tryz.prog 10:=en Tryz.func10 (by kernel_rfl)
def zBD [AP]:Option Bool:=
 bnd (uJ 2 1024) fun r1=>sI r1.1 (none) (fun q1=>bnd (xN q1 0) fun r2=>sI r2.2.1 (none) (fun q2=>bif (r1.2 != 0) then (none) else (bif (r2.2.2 != 0) then (none) else (bnd (y8 (⟨⟨#[98,105,111,115]⟩,(⟨1,0,0⟩:zQ), [1]⟩:zN)) fun r3=>bnd (y8 (⟨⟨#[109,101]⟩,(⟨1,0,0⟩:zQ), [1]⟩:zN)) fun r4=>bnd (qI q2 ([r3.1,r4.1]) ([(⟨⟨#[98,105,111,115]⟩,(⟨2,0,0⟩:zQ),⟨#[109,101]⟩,(⟨2,0,0⟩:zQ)⟩:yX)]) r2.1) fun r5=>sI r5.2.2.1 (none) (fun q3=>bnd (aM (⟨[(⟨⟨#[98,105,111,115]⟩,(⟨2,0,0⟩:zQ), [2]⟩:zN),(⟨⟨#[109,101]⟩,(⟨2,0,0⟩:zQ), [2]⟩:zN)], []⟩:iI)) fun r6=>bif (r5.2.2.2 != 0) then (none) else (bif (r6.2 != 0) then (none) else (bif decide ((r6.1.length:Int)<1) then (none) else (bif decide ((r6.1.length:Int)>128) then (none) else (bnd (iE q3 (r6.1.length:Int) 64) fun r7=>bnd (sub r6.1 0 (min (r6.1.length:Int) 64)) fun l1=>bnd (gG r7.1 0 l1) fun r8=>bif decide ((r6.1.length:Int)>64) then (none) else (bnd (oN r8.1 r5.1 r5.2.1) fun r9=>bnd (nZ r9.1 true r9.2.1 r9.2.2.1) fun r10=>bnd (nZ r10.1 true r10.2.1 r10.2.2.1) fun r11=>bif (r7.2==0) then (bif (r8.2==0) then (bif (r9.2.2.2==0) then (bif (r10.2.2.2.2==0) then (bif (r11.2.2.2.2==0) then (bif (r10.2.2.2.1==1) then (bif (r11.2.2.2.1==0) then (bnd (uY r11.1) fun r12=>some (r12==0)) else (none)) else (none)) else (none)) else (none)) else (none)) else (none)) else (none)))))))))))
theorem zHf [AP] {r:Bool} (h:zBD=some r):
    BA Tryz.prog 10 [] [.ro (TS 0 [(2,some 315),(3,some 316)])] (Val (.bool r)):=by
 refine BA.intro Tryz.func10 O O O fun w R=>?_;refine .ab [] O<|.seq<|.region<|.bd h fun r1 hr1 h=>.call (nC hr1) iy O O O (fun _ w=>w) ?_
 intro v_ F_ CX
 rcases hq1:r1.1 with _ | q1
 ·replace h:=wJ hq1 h;cases h
 replace CX:=wL hq1 CX;replace h:=wK hq1 h;obtain ⟨g1,A1,c1,A2,c2,rfl,rfl⟩:=CX;refine .nm 4 O<|.b [1,2] O<|.a 1 O<|.bd h fun r2 hr2 h=>.call (uI hr2) ZM O O O (fun _ w=>w) ?_
 intro v_ F_ CX
 rcases hq2:r2.2.1 with _ | q2
 ·replace h:=wJ hq2 h;cases h
 replace CX:=wL hq2 CX;replace h:=wK hq2 h;obtain ⟨g2,A5,c5,A6,c6,M1,rfl,rfl⟩:=CX;refine .nm 6 O<|.b [2,3,4] O<|.seq<|.a 3 O<|.gs 34 h O (fun h=>?_) (fun h=>?_)
 ·cases h
 refine .b [3,37] O<|.cb h O (fun h=>?_) (fun h=>?_)
 ·cases h
 refine .sk<|.pr [3] O<|.a 2 O<|.alloc O O fun g3=>.alloc O O fun g4=>.sb 0 1 O<|.sb 0 1 O<|.b [3,5,6] O<|.seq<|.region<|.lb 0 1 O<|.bS O fun g5=>.p O O<|.AY (fun _ w=>w.IL (E:=AQ) (e:=5) [1] O O)<|.AY (fun _ w=>w.BU)<|.bd h fun r3 hr3 h=>.ct 11 [0] [] 0 (zGM hr3) zSn O fun A7 c7 A8 c8=>.n 3 O<|.alloc O O fun g6=>.sb 0 0 O<|.bf [3,5,6,7] [0,0,0] 1 O O<|.seq<|.region<|.lb 0 4 O<|.bS O fun g7=>.p O O<|.AY (fun _ w=>w.IL (E:=AQ) (e:=5) [1] O O)<|.AY (fun _ w=>w.BU)<|.bd h fun r4 hr4 h=>.ct 14 [0] [] 0 (zGM hr4) zSn O fun A9 c9 EC c10=>.n 3 O<|.alloc O O fun g8=>.sb 0 0 O<|.bf [3,6,7,9] [0,0,0,1,1,1,1] 2 O O<|.a 1 O<|.lb 0 3 O<|.lb 0 0 O<|.bS O fun g9=>.lb 0 7 O<|.lb 0 7 O<|.p O O<|.bS O fun g10=>.AY (fun _ w=>Sat.OU (ls:=zC) (e:=64) [(r3.1,((A7,c7),((A8,c8),()))),(r4.1,((A9,c9),((EC,c10),())))] O O O ⟨(zm 5 O),(zm 6 O),(zm 2 O),(zm 3 O),trivial⟩ (w.sl [1] 0 O))<|.AY (fun _ w=>w.IJ)<|.AY (fun _ w=>(w.sl [1] 0 O).IL (E:=zS) (e:=123) [(⟨⟨#[98,105,111,115]⟩,(⟨2,0,0⟩:zQ),⟨#[109,101]⟩,(⟨2,0,0⟩:zQ)⟩:yX)] O O)<|.AY (fun _ w=>w.BU)<|.bd h fun r5 JH h=>.call (zBy (AZ:=g2) (BJ:=g1) JH) zSj O O O (zd [6,5,14] [12,12,9,9,9] 0 O) ?_
 intro v_ F_ CX
 rcases hq3:r5.2.2.1 with _ | q3
 ·replace h:=wJ hq3 h;cases h
 replace CX:=wL hq3 CX;replace h:=wK hq3 h;obtain ⟨g11,M3,IE,c13,GU,c14,KL,c15,LG,c16,LY,c17,KO,c18,JS,c19,rfl,rfl⟩:=CX;refine .nm 21 O<|.bf [6,11,12] [0,0,0,0,0,0,0,0,0,0,0] 8 O O<|.seq<|.region<|.lb 0 11 O<|.bS O fun g12=>.p O O<|.lb 0 12 O<|.bS O fun g13=>.p O O<|.bS O fun g14=>.p O O<|.AY (fun _ w=>(w.sl [2] 0 O).IL (E:=AQ) (e:=5) [2] O O)<|.AY (fun _ w=>w.BU)<|.AY (fun _ w=>(w.sl [2] 0 O).IL (E:=AQ) (e:=5) [2] O O)<|.AY (fun _ w=>w.BU)<|.AY (fun _ w=>Sat.OU (ls:=tJ) (e:=58) [((⟨⟨#[98,105,111,115]⟩,(⟨2,0,0⟩:zQ), [2]⟩:zN),(((some ⟨g12,0,none⟩),([2]:List Int).length),())),((⟨⟨#[109,101]⟩,(⟨2,0,0⟩:zQ), [2]⟩:zN),(((some ⟨g13,0,none⟩),([2]:List Int).length),()))] O O O ⟨EO,(.head _),trivial⟩ (w.sl [2] 0 O))<|.AY (fun _ w=>w.IJ)<|.AY (fun _ w=>w.CU (CY zS))<|.bd h fun r6 KU h=>.cr 18 [1,0] [] 0 (zEB KU) zUL O fun JU c20=>.bf [11,12,13,14] [0,4,4,4,4,4,4,4,4,4,4,4] 5 O O<|.seq<|.a 3 O<|.gs 80 h O (fun h=>?_) (fun h=>?_)
 ·cases h
 refine .n 4 O<|.gs 84 h O (fun h=>?_) (fun h=>?_)
 ·cases h
 refine .n 9 O<|.gs 93 h O (fun h=>?_) (fun h=>?_)
 ·cases h
 refine .b [11,13,97] O<|.cb h O (fun h=>?_) (fun h=>?_)
 ·cases h
 refine .sk<|.pr [11,13] O<|.a 3 O<|.bd h fun r7 OY h=>.call (zAC (AZ:=g11) OY) zUR O O O (zd [3,4,5,6,12] [10,10] 0 O) ?_;rintro _ _ ⟨KE,c21,LP,LQ,OJ,c23,TM,c24,RP,c25,rfl,rfl⟩;refine .nm 17 O<|.bf [11,13,15] [0,0,0,0,0,0,0] 4 O O<|.a 5 O<|.AY (fun _ w=>(w.sl [6] 0 O).BU)<|.bd h fun l1 hl1 h=>.sub (E:=(CY AQ)) O O (.head _) O O O O O O O hl1 fun UI QL=>.bd h fun r8 OZ h=>.call (zBu (AZ:=g11) OZ) zVs O O O (zd [4,5,6,7,2] [6,6] 0 O) ?_;rintro _ _ ⟨RQ,RS,QX,c28,QY,c29,WT,WU,WV,c31,rfl,rfl⟩;refine .nm 18 O<|.bf [11,13,15,16] [0,0,0,0,0,0,1] 5 O O<|.ae O<|.seq<|.ab [11,13,15,16,17,111] O<|.cb h O (fun h=>?_) (fun h=>?_)
 ·cases h
 refine .sk<|.pf [11,15,16,17] [0,0,0,0,0,0] 1 O O<|.a 1 O<|.bd h fun r9 QW h=>.call (aW (AZ:=g11) (BJ:=g2) (DW:=g1) QW) zUG O O O (zd [7,8,9,10] [4,4,4,4,4,4,4] 0 O) ?_;rintro _ _ ⟨YE,c32,ZO,ZP,VI,c34,WW,WX,VK,VL,M4,Ee,c37,Ef,Eg,rfl,rfl⟩;refine .nm 16 O<|.bf [11,15,16,17,18] [0,0,0,0,0,0,0,0,0,0,0] 4 O O<|.a 1 O<|.bd h fun r10 LH h=>.call (gC (AZ:=g11) (BJ:=g2) (DW:=g1) LH) zSm O O O (zd [7,8,9,10,11] [4,4,4,4,4,4,4] 0 O) ?_;rintro _ _ ⟨F7,F8,F9,c40,Ry,Rz,G5,G6,A43,c43,M5,G7,G8,G9,H6,rfl,rfl⟩;refine .nm 16 O<|.bf [11,15,16,17,18,19,20] [0,0,0,0,0,0,0,0,0,0,0] 4 O O<|.a 1 O<|.bd h fun r11 PD h=>.call (gC (AZ:=g11) (BJ:=g2) (DW:=g1) PD) zSm O O O (zd [7,8,9,10,11] [4,4,4,4,4,4,4] 0 O) ?_;rintro _ _ ⟨A46,c46,A47,c47,A48,c48,A49,c49,A50,c50,M6,A51,c51,A52,c52,rfl,rfl⟩;refine .nm 16 O<|.bf [11,15,16,17,18,19,20,21,22] [0,0,0,0,0,0,0,0,0,0,0] 4 O O<|.a 3 O<|.gs 130 h O (fun h=>?_) (fun h=>?_)
 ·refine .n 4 O<|.gs 134 h O (fun h=>?_) (fun h=>?_)
  ·refine .n 8 O<|.gs 142 h O (fun h=>?_) (fun h=>?_)
   ·refine .n 4 O<|.gs 146 h O (fun h=>?_) (fun h=>?_)
    ·refine .n 4 O<|.gs 150 h O (fun h=>?_) (fun h=>?_)
     ·refine .n 4 O<|.gs 154 h O (fun h=>?_) (fun h=>?_)
      ·refine .n 4 O<|.gs 158 h O (fun h=>?_) (fun h=>?_)
       ·refine .n 1 O<|.BN O O<|.bd h fun r12 PE h=>.cq 12 [2,3,4,5] [4,4] 0 (iR (AZ:=g11) PE) zSb O<|.bf [0] [] 11 O O ?_;cases h;exact .rv O O ⟨O,O⟩ (zl [] 1 O)
       cases h
      cases h
     cases h
    cases h
   cases h
  cases h
 cases h
theorem zVu:BX Tryz.prog 11:=en Tryz.func11 (by kernel_rfl)
def eX (BO:(List Int)) (most:Int):Option yS:=
 bnd (sub BO 0 (min (BO.length:Int) most)) fun l1=>some (⟨l1,0⟩:yS)
theorem zJM {BO most A1 c1 r} (h:eX BO most=some r):
    BA Tryz.prog 11 [.slice A1 BO.length c1, .int .i64 most] [.ro (AV AQ A1 c1 BO)] (fun v F=>∃ g1 A2 c2,v= .pointer (some ⟨g1,0,none⟩)∧F= [.ro (AV AQ A2 c2 r.L), .res (Box g1 127 [.slice A2 r.L.length c2, .int .i64 r.At])]):=by
 refine BA.intro Tryz.func11 O O O fun w R=>?_;refine .ab [0,1] O<|.a 5 O<|.bd h fun l1 hl1 h=>.sub (E:=(CY AQ)) O O (.head _) O O O O O O O hl1 fun A2 c2=>.p O O<|.box O O fun g1=>.bf [4] [0,0] 1 O O ?_;cases h;exact .rv O O ⟨g1,A2,c2,O,O⟩ (zk 2 1 [1] [] 0 O)
theorem zSh:BX Tryz.prog 30:=en Tryz.func30 (by kernel_rfl)
def sQ (DJ:yS):Option Bool:=
 some (decide (DJ.At<(DJ.L.length:Int)))
theorem eA {DJ A1 c1 AZ r} (h:sQ DJ=some r):
    BA Tryz.prog 30 [.pointer (some ⟨AZ,0,none⟩)] [.ro (AV AQ A1 c1 DJ.L), .res (Box AZ 127 [.slice A1 DJ.L.length c1, .int .i64 DJ.At])] (fun v F=>v= .bool r∧F= [.res (Box AZ 127 [.slice A1 DJ.L.length c1, .int .i64 DJ.At])]):=by
 unfold sQ at h
 refine BA.intro Tryz.func30 O O O fun w R=>?_;refine .ab [0] O<|.seq<|.regionF mixed (by kernel_rfl)<|.n 3 O<|.lb 1 1 O<|.n 3 O<|.lb 0 1 O<|.bq [2] O ?_;cases h;exact .rv O O ⟨O,O⟩ (zl [] 1 O)
theorem uS:BX Tryz.prog 31:=en Tryz.func31 (by kernel_rfl)
def zP (DJ:yS) (EN:Int):Option (yS × Int):=
 bnd ((bnd (sQ DJ) fun r1=>bif !r1 then (some true) else (some (decide (EN<1))):Option Bool)) fun o1=>bif o1 then (some (DJ,0)) else (bnd (BP DJ.L DJ.At) fun x1=>bnd ((bif decide (EN>256) then (bnd (sQ (⟨DJ.L,wrap .i64 (DJ.At+1)⟩:yS)) fun r2=>some r2) else (some false):Option Bool)) fun o2=>bif o2 then (bnd (BP DJ.L (wrap .i64 (DJ.At+1))) fun x2=>bnd (YU (FK .i64 (wrap .i64 x1) (gZ .i64 (wrap .i64 x2) 8)) EN) fun q1=>some ((⟨DJ.L,wrap .i64 ((wrap .i64 (DJ.At+1))+1)⟩:yS),q1)) else (bnd (YU (wrap .i64 x1) EN) fun q2=>some ((⟨DJ.L,wrap .i64 (DJ.At+1)⟩:yS),q2)))
theorem zO {DJ EN A1 c1 AZ r} (h:zP DJ EN=some r):
    BA Tryz.prog 31 [.pointer (some ⟨AZ,0,none⟩), .int .i64 EN] [.ro (AV AQ A1 c1 DJ.L), .res (Box AZ 127 [.slice A1 DJ.L.length c1, .int .i64 DJ.At])] (fun v F=>∃ A2 c2,v= .int .i64 r.2∧F= [.ro (AV AQ A2 c2 r.1.L), .res (Box AZ 127 [.slice A2 r.1.L.length c2, .int .i64 r.1.At])]):=by
 refine BA.intro Tryz.func31 O O O fun w R=>?_;refine .ab [0,1] O<|.seq<|.seq<|.bd h fun o1 hj1 h=>.cu 0 [0,1, .s 12 (.bool o1)] [] O O ?_ ?_
 ·refine .region<|.p O O<|.bd hj1 fun r1 hr1 hj1=>.cq 2 [1] [1] 0 (eA hr1) zSh O<|.n 2 O<|.gs 9 hj1 O (fun hj1=>?_) (fun hj1=>?_)
  ·cases hj1;exact .be O<|.hU O (zl [1] 0 O)
  cases hj1;exact .be O<|.hU O (zl [1] 0 O)
 refine .cb h O (fun h=>?_) (fun h=>?_)
 ·refine .ab [4] O ?_;cases h;exact .rv O O ⟨A1,c1,O,O⟩ (zk 2 1 [1] [1] 0 O)
 refine .sk<|.pr [0,1] O<|.seq<|.regionF mixed (by kernel_rfl)<|.n 3 O<|.lb 0 1 O<|.n 3 O<|.lb 1 1 O<|.bd h fun x1 hx1 h=>.IB hx1 0 O fun b1 DY=>.ld DY 0 0 O<|.beq O<|.pf [0,1,5] [] 1 O O<|.a 3 O<|.lb 1 1 O<|.n 3 O<|.sb 1 1 O<|.b [0,1,5] O<|.seq<|.seq<|.bd h fun o2 hj2 h=>.cu 0 [0,1,5, .s 36 (.bool o2)] [] O O ?_ ?_
 ·refine .region<|.n 3 O<|.gs 33 hj2 O (fun hj2=>?_) (fun hj2=>?_)
  ·refine .n 1 O<|.BN O O<|.bd hj2 fun r2 hr2 hj2=>.cq 2 [1] [] 0 (eA hr2) zSh O ?_;cases hj2;exact .be O<|.hU O zw
  cases hj2;exact .be O<|.hU O zw
 refine .cb h O (fun h=>?_) (fun h=>?_)
 ·refine .seq<|.regionF mixed (by kernel_rfl)<|.n 4 O<|.lb 0 0 O<|.n 3 O<|.lb 1 0 O<|.bd h fun x2 hx2 h=>.IB hx2 1 O fun b2 JD=>.ld JD 0 0 O<|.beq O<|.pf [0,1,5] [] 1 O O<|.region<|.n 3 O<|.lb 1 0 O<|.n 3 O<|.sb 1 0 O<|.b [1,5] O<|.a 2 O<|.bd h fun q1 hq1 h=>.rem O O O hq1<|.b [4] O ?_;cases h;exact .rv O O ⟨A1,c1,O,O⟩ (zk 2 1 [1] [] 0 O)
 refine .sk<|.pr [1,5] O<|.a 2 O<|.bd h fun q2 hq2 h=>.rem O O O hq2<|.b [4] O ?_;cases h;exact .rv O O ⟨A1,c1,O,O⟩ (zk 2 1 [1] [] 0 O)
theorem Sj:BX Tryz.prog 100:=en Tryz.func100 (by kernel_rfl)
def uF (DJ:yS):Option (yS × zQ):=
 bnd (zP DJ 3) fun r1=>bnd (zP r1.1 5) fun r2=>some (r2.1,(⟨wrap .i64 (1+r1.2),wrap .i64 (r2.2.tdiv 4),0⟩:zQ))
theorem qV {DJ A1 c1 AZ r} (h:uF DJ=some r):
    BA Tryz.prog 100 [.pointer (some ⟨AZ,0,none⟩)] [.ro (AV AQ A1 c1 DJ.L), .res (Box AZ 127 [.slice A1 DJ.L.length c1, .int .i64 DJ.At])] (fun v F=>∃ A2 c2,v= .agg #[.int .i64 r.2.BZ, .int .i64 r.2.CB, .int .i64 r.2.CJ]∧F= [.ro (AV AQ A2 c2 r.1.L), .res (Box AZ 127 [.slice A2 r.1.L.length c2, .int .i64 r.1.At])]):=by
 refine BA.intro Tryz.func100 O O O fun w R=>?_;refine .seq<|.region<|.alloc O O fun g1=>.done<|.AO<|.a 1 O<|.bd h fun r1 hr1 h=>.cr 4 [2] [2] 0 (zO hr1) uS O fun A2 c2=>.n 2 O<|.bd h fun r2 hr2 h=>.cr 5 [1] [1] 0 (zO hr2) uS O fun A3 c3=>.n 2 O<|.sb 0 3 O<|.bf [2] [0,0,0] 2 O O ?_;cases h;exact .rt O Tryz.results100 (.cell O (.head _) O .nil) O ⟨A3,c3,O,O⟩ (zk 2 2 [2] [2] 0 O)
theorem Sm:BX Tryz.prog 216:=en Tryz.func216 (by kernel_rfl)
def pQ [AP] (AX:ByteArray):Option Bool:=
 bnd ((bif decide ((AX.size:Int)<1) then (some true) else (bif decide ((AX.size:Int)>16) then (some true) else (bnd (FM AX 0) fun y1=>bif decide (y1<97) then (some true) else (some (decide (y1>122))))):Option Bool)) fun o1=>bif o1 then (some false) else (bnd (yC (τ:=Bool ⊕ Unit) (fun (s1:Int)=>bif decide (s1<(AX.size:Int)) then (bnd ((bnd (FM AX s1) fun y2=>bif decide (y2≥97) then (bif decide (y2≤122) then (some false) else (bif decide (y2≥48) then (bif decide (y2≤57) then (some false) else (some (!(y2==45)))) else (some (!(y2==45))))) else (bif decide (y2≥48) then (bif decide (y2≤57) then (some false) else (some (!(y2==45)))) else (some (!(y2==45)))):Option Bool)) fun o4=>bif o4 then (some (.done (.inl false))) else (some (.next (wrap .i64 (s1+1))))) else (some (.done (.inr ())))) 0) fun o2=>xL o2 fun o3=>some true)
theorem gQ [AP] {AX r} (h:pQ AX=some r):
    BA Tryz.prog 216 [.string AX] [] (Val (.bool r)):=by
 refine BA.intro Tryz.func216 O O O fun w R=>?_;refine .ab [0] O<|.seq<|.seq<|.bd h fun o1 hj1 h=>.cu 0 [0, .s 21 (.bool o1)] [] O O ?_ ?_
 ·refine .region<|.n 4 O<|.gs 7 hj1 O (fun hj1=>?_) (fun hj1=>?_)
  ·cases hj1;exact .be O<|.hU O zw
  refine .n 5 O<|.gs 12 hj1 O (fun hj1=>?_) (fun hj1=>?_)
  ·cases hj1;exact .be O<|.hU O zw
  refine .n 1 O<|.BN O O<|.bd hj1 fun y1 hy1 hj1=>.FM O O O O O hy1<|.n 3 O<|.gs 17 hj1 O (fun hj1=>?_) (fun hj1=>?_)
  ·cases hj1;exact .be O<|.hU O zw
  refine .n 1 O<|.BN O O<|.FM O O O O O hy1 ?_;cases hj1;exact .be O<|.hU O zw
 refine .cb h O (fun h=>?_) (fun h=>?_)
 ·refine .ab [2] O ?_;cases h;exact .rv O O ⟨O,O⟩ zw
 refine .sk<|.pr [0] O<|.seq<|.ae O<|.bd h fun o2 hl1 h=>.ES 0 (fun (o3:Unit) (e3:Unit)=>[]) (fun o3 e3=>[]) O O (fun o3=>o2= .inr o3) ?_ ?_
 ·refine .block<|.BM hl1 0 (fun (s1:Int) (e2:Unit)=>[0, .s 3 (.int .i64 s1)]) (fun s1 e2=>[]) O O () (zb O) (fun _ w=>w) ?_;rintro s1 e2 st1 hm1 hd1 h1;refine .seq<|.ab [0,3,25] O<|.cb h1 O (fun h1=>?_) (fun h1=>?_)
  ·refine .sk<|.pr [0,3] O<|.seq<|.block<|.seq<|.bd h1 fun o4 hj2 h1=>.cu 0 [0,3, .s 56 (.bool o4)] [] O O ?_ ?_
   ·refine .region<|.n 2 O<|.bd hj2 fun y2 hy2 hj2=>.FM O O O O O hy2<|.n 2 O<|.gs 32 hj2 O (fun hj2=>?_) (fun hj2=>?_)
    ·refine .n 2 O<|.BN O O<|.FM O O O O O hy2<|.n 3 O<|.gs 38 hj2 O (fun hj2=>?_) (fun hj2=>?_)
     ·cases hj2;exact .be O<|.hU O zw
     refine .n 2 O<|.BN O O<|.FM O O O O O hy2<|.n 2 O<|.gs 43 hj2 O (fun hj2=>?_) (fun hj2=>?_)
     ·refine .n 2 O<|.BN O O<|.FM O O O O O hy2<|.n 4 O<|.gs 50 hj2 O (fun hj2=>?_) (fun hj2=>?_)
      ·cases hj2;exact .be O<|.hU O zw
      refine .n 2 O<|.BN O O<|.FM O O O O O hy2 ?_;cases hj2;exact .be O<|.hU O zw
     refine .n 9 O<|.BN O O<|.FM O O O O O hy2 ?_;cases hj2;exact .be O<|.hU O zw
    refine .n 8 O<|.BN O O<|.FM O O O O O hy2<|.n 2 O<|.gs 43 hj2 O (fun hj2=>?_) (fun hj2=>?_)
    ·refine .n 2 O<|.BN O O<|.FM O O O O O hy2<|.n 4 O<|.gs 50 hj2 O (fun hj2=>?_) (fun hj2=>?_)
     ·cases hj2;exact .be O<|.hU O zw
     refine .n 2 O<|.BN O O<|.FM O O O O O hy2 ?_;cases hj2;exact .be O<|.hU O zw
    refine .n 9 O<|.BN O O<|.FM O O O O O hy2 ?_;cases hj2;exact .be O<|.hU O zw
   refine .cb h1 O (fun h1=>?_) (fun h1=>?_)
   ·refine .ab [2] O ?_;cases h1;cases hd1 _ rfl
    have h:some _=some _:=h;cases h;exact .rv O O ⟨O,O⟩ zw
   refine .skip<|.BL<|.AO<|.pr [0,3] O<|.region ?_;cases h1;exact .be O<|.ag () hm1 O zw
  refine .xq O ?_;cases h1;cases hd1 _ rfl
  exact .AO<|.CZ () () O trivial zw
 rintro o3 e3 ho;subst ho;have h:=JG h;refine .ae O ?_;cases h;exact .rv O O ⟨O,O⟩ zw
theorem H7:BX Tryz.prog 217:=en Tryz.func217 (by kernel_rfl)
def oG (EM:zQ):Option Bool:=
 bnd ((bif decide (EM.BZ≥0) then (bif decide (EM.BZ≤999) then (bif decide (EM.CB≥0) then (bif decide (EM.CB≤999) then (bif decide (EM.CJ≥0) then (some (decide (EM.CJ≤999))) else (some false)) else (some false)) else (some false)) else (some false)) else (some false):Option Bool)) fun o1=>some o1
theorem dN {EM r} (h:oG EM=some r):
    BA Tryz.prog 217 [.agg #[.int .i64 EM.BZ, .int .i64 EM.CB, .int .i64 EM.CJ]] [] (Val (.bool r)):=by
 refine BA.intro Tryz.func217 O O O fun w R=>?_;refine .seq<|.region<|.box O O fun g1=>.b [1] O<|.seq<|.bd h fun o1 hj1 h=>.cu 1 [.s 2 (.bool o1)] [] O O ?_ ?_
 ·refine .region<|.p O O<|.lb 0 0 O<|.n 2 O<|.gs 6 hj1 O (fun hj1=>?_) (fun hj1=>?_)
  ·refine .n 1 O<|.BN O O<|.lb 0 0 O<|.n 3 O<|.gs 11 hj1 O (fun hj1=>?_) (fun hj1=>?_)
   ·refine .n 1 O<|.BN O O<|.lb 1 0 O<|.n 3 O<|.gs 16 hj1 O (fun hj1=>?_) (fun hj1=>?_)
    ·refine .n 1 O<|.BN O O<|.lb 1 0 O<|.n 3 O<|.gs 21 hj1 O (fun hj1=>?_) (fun hj1=>?_)
     ·refine .n 1 O<|.BN O O<|.lb 2 0 O<|.n 3 O<|.gs 26 hj1 O (fun hj1=>?_) (fun hj1=>?_)
      ·refine .n 1 O<|.BN O O<|.lb 2 0 O ?_;cases hj1;exact .be O<|.hU O (zl [] 1 O)
      cases hj1;exact .be O<|.hU O (zl [] 1 O)
     cases hj1;exact .be O<|.hU O (zl [] 1 O)
    cases hj1;exact .be O<|.hU O (zl [] 1 O)
   cases hj1;exact .be O<|.hU O (zl [] 1 O)
  cases hj1;exact .be O<|.hU O (zl [] 1 O)
 cases h;exact .rv O O ⟨O,O⟩ zw
theorem Sr:BX Tryz.prog 134:=en Tryz.func134 (by kernel_rfl)
def qH [AP] (CP:zN):Option Bool:=
 bnd ((bnd (pQ CP.Name) fun r1=>bif r1 then (bnd (oG CP.Version) fun r2=>bif r2 then (bif decide ((CP.Data.length:Int)≥1) then (some (decide ((CP.Data.length:Int)≤512))) else (some false)) else (some false)) else (some false):Option Bool)) fun o1=>some o1
theorem jZ [AP] {CP A1 c1 r} (h:qH CP=some r):
    BA Tryz.prog 134 [.agg (yO CP A1 c1).toArray] [.ro (AV AQ A1 c1 CP.Data)] (Val (.bool r)):=by
 refine BA.intro Tryz.func134 O O O fun w R=>?_;refine .seq<|.region<|.box O O fun g1=>.b [1] O<|.seq<|.bd h fun o1 hj1 h=>.cu 2 [.s 2 (.bool o1)] [] O O ?_ ?_
 ·refine .region<|.p O O<|.lb 0 0 O<|.bd hj1 fun r1 hr1 hj1=>.cv [] (gQ hr1) Sm O<|.p O O<|.gs 6 hj1 O (fun hj1=>?_) (fun hj1=>?_)
  ·refine .n 1 O<|.BN O O<|.lb 1 0 O<|.BN O O<|.bd hj1 fun r2 hr2 hj1=>.cv [] (dN hr2) H7 O<|.n 2 O<|.gs 11 hj1 O (fun hj1=>?_) (fun hj1=>?_)
   ·refine .n 1 O<|.BN O O<|.lb 4 0 O<|.n 4 O<|.gs 17 hj1 O (fun hj1=>?_) (fun hj1=>?_)
    ·refine .n 1 O<|.BN O O<|.lb 4 0 O ?_;cases hj1;exact .be O<|.hU O (zl [] 2 O)
    cases hj1;exact .be O<|.hU O (zl [] 2 O)
   cases hj1;exact .be O<|.hU O (zl [] 2 O)
  cases hj1;exact .be O<|.hU O (zl [] 2 O)
 cases h;exact .rv O O ⟨O,O⟩ zw
theorem yg:BX Tryz.prog 135:=en Tryz.func135 (by kernel_rfl)
def qF (CP:zN):Option zN:=
 bnd (app 1 ([]) CP.Data) fun l1=>some (⟨CP.Name,CP.Version,l1⟩:zN)
theorem oK {CP A1 c1 r} (h:qF CP=some r):
    BA Tryz.prog 135 [.agg (yO CP A1 c1).toArray] [.ro (AV AQ A1 c1 CP.Data)] (fun v F=>∃ A2 c2,v= .agg (yO r A2 c2).toArray∧F= [.ro (AV AQ A2 c2 r.Data)]):=by
 refine BA.intro Tryz.func135 O O O fun w R=>?_;refine .seq<|.region<|.box O O fun g1=>.alloc O O fun g2=>.b [1,2] O<|.a 1 O<|.lb 4 1 O<|.AY (fun _ w=>w.HY AQ 5)<|.bd h fun l1 hl1 h=>.app (E:=AQ) hl1 O O O .z O O O O O O O O (gU XI) O O fun A2 c2=>.p O O<|.sb 4 2 O<|.bf [1,2] [0,0,0] 1 O O<|.seq<|.region<|.lb 0 0 O<|.sb 0 2 O<|.bf [2] [0] 1 O O<|.AY (fun _ w=>(w.sl [1] 0 O).BU) ?_;cases h;exact .rt O Tryz.results135 (.cell O EO O .nil) O ⟨A2,c2,O,O⟩ (zk 1 2 [0] [] 0 O)
theorem zSv:BX Tryz.prog 152:=en Tryz.func152 (by kernel_rfl)
def aH (AX:ByteArray):Option (List Int):=
 bnd (app 1 ([wrap .u8 (AX.size:Int)]) (bytesOf AX)) fun l1=>some l1
theorem zIK {AX r} (h:aH AX=some r):
    BA Tryz.prog 152 [.string AX] [] (fun v F=>∃ A1 c1,v= .slice A1 r.length c1∧F= [.res (zI AQ 5 A1 c1 r)]):=by
 refine BA.intro Tryz.func152 O O O fun w R=>?_;refine .ab [0] O<|.a 3 O<|.bS O fun g1=>.p O O<|.AY (fun _ w=>w.IL (E:=AQ) (e:=5) [wrap .u8 (AX.size:Int)] O O)<|.bd h fun l1 hl1 h=>.app (E:=AQ) hl1 O O O .z O O O O O O O (by simp [bytesOf,ByteArray.toList_eq]) (zVk AX) O O fun A1 c1=>.b [2] O ?_;cases h;exact .rv O O ⟨A1,c1,O,O⟩ zw
theorem Sv:BX Tryz.prog 228:=en Tryz.func228 (by kernel_rfl)
def nB (LM:Int):Option (List Int):=
 some ([wrap .u8 (rM .i64 LM 8),wrap .u8 LM])
theorem dF {LM r} (h:nB LM=some r):
    BA Tryz.prog 228 [.int .i64 LM] [] (fun v F=>∃ A1 c1,v= .slice A1 r.length c1∧F= [.res (zI AQ 5 A1 c1 r)]):=by
 unfold nB at h
 refine BA.intro Tryz.func228 O O O fun w R=>?_;refine .ab [0] O<|.a 5 O<|.bS O fun g1=>.b [2] O<|.AY (fun _ w=>w.IL (E:=AQ) (e:=5) [wrap .u8 (rM .i64 LM 8),wrap .u8 LM] O O) ?_;cases h;exact .rv O O ⟨(some ⟨g1,0,none⟩),([wrap .u8 (rM .i64 LM 8),wrap .u8 LM]:List Int).length,O,O⟩ zw
theorem zSG:BX Tryz.prog 153:=en Tryz.func153 (by kernel_rfl)
def mV (EM:zQ):Option (List Int):=
 bnd (nB EM.BZ) fun r1=>bnd (nB EM.CB) fun r2=>bnd (app 1 r1 r2) fun l1=>bnd (nB EM.CJ) fun r3=>bnd (app 1 l1 r3) fun l2=>some l2
theorem zEu {EM r} (h:mV EM=some r):
    BA Tryz.prog 153 [.agg #[.int .i64 EM.BZ, .int .i64 EM.CB, .int .i64 EM.CJ]] [] (fun v F=>∃ A1 c1,v= .slice A1 r.length c1∧F= [.res (zI AQ 5 A1 c1 r)]):=by
 unfold mV at h
 refine BA.intro Tryz.func153 O O O fun w R=>?_;refine .seq<|.region<|.box O O fun g1=>.b [1] O<|.seq<|.BI (iN [0,5,12,16,28,32,11,23,27,39,43,44] .nil) _ mixed (by kernel_rfl) zw<|.yn 1 O<|.yx 0 0 O<|.yn 1 O<|.yl 1 0 O<|.yn 1 O<|.yl 2 0 O<|.BV<|.bd h fun r1 hr1 h=>.cr 2 [] [] 0 (dF hr1) Sv O fun A1 c1=>.xk (zl [] 1 O)<|.BV<|.bd h fun r2 hr2 h=>.cr 3 [] [] 0 (dF hr2) Sv O fun A2 c2=>.xk (zl [] 2 O)<|.BV<|.AY (fun _ w=>w.BU)<|.bd h fun l1 hl1 h=>.app (E:=AQ) hl1 O O O (.s .z) O O O O O O O O (gU (.head _)) O O fun A3 c3=>.xk (zl [] 2 O)<|.BV<|.bd h fun r3 hr3 h=>.cr 4 [] [] 0 (dF hr3) Sv O fun A4 c4=>.xk (zl [] 3 O)<|.BV<|.AY (fun _ w=>w.BU)<|.bd h fun l2 hl2 h=>.app (E:=AQ) hl2 O O O (.s .z) O O O O O O O O (gU (.head _)) O O fun A5 c5=>.xk (zl [] 3 O)<|.yn 1 O<|.CQ<|.AO<|.pf [2] [0] 3 O O ?_;cases h;exact .rv O O ⟨A5,c5,O,O⟩ zw
theorem zTu:BX Tryz.prog 150:=en Tryz.func150 (by kernel_rfl)
def mC (CP:zN):Option (List Int):=
 bnd (aH CP.Name) fun r1=>bnd (mV CP.Version) fun r2=>bnd (app 1 r1 r2) fun l1=>bnd (nB (CP.Data.length:Int)) fun r3=>bnd (app 1 l1 r3) fun l2=>bnd (app 1 l2 CP.Data) fun l3=>some l3
theorem zGZ {CP A1 c1 r} (h:mC CP=some r):
    BA Tryz.prog 150 [.agg (yO CP A1 c1).toArray] [.ro (AV AQ A1 c1 CP.Data)] (fun v F=>∃ A2 c2,v= .slice A2 r.length c2∧F= [.res (zI AQ 5 A2 c2 r)]):=by
 unfold mC at h
 refine BA.intro Tryz.func150 O O O fun w R=>?_;refine .seq<|.region<|.box O O fun g1=>.b [1] O<|.seq<|.BI (iN [0,5,12,16,11,23,27,28] .nil) _ mixed (by kernel_rfl) zw<|.yn 1 O<|.yx 0 0 O<|.yn 1 O<|.yl 1 0 O<|.BV<|.bd h fun r1 hr1 h=>.cr 3 [] [] 0 (zIK hr1) zSv O fun A2 c2=>.xk (zl [] 1 O)<|.BV<|.bd h fun r2 hr2 h=>.cr 4 [] [] 0 (zEu hr2) zSG O fun A3 c3=>.xk (zl [] 2 O)<|.BV<|.AY (fun _ w=>w.BU)<|.bd h fun l1 hl1 h=>.app (E:=AQ) hl1 O O O (.s .z) O O O O O O O O (gU (.head _)) O O fun A4 c4=>.xk (zl [] 2 O)<|.yn 1 O<|.CQ<|.AO<|.pf [1,3] [0] 1 O O<|.a 2 O<|.lb 4 1 O<|.p O O<|.bd h fun r3 hr3 h=>.cr 4 [] [] 0 (dF hr3) Sv O fun A5 c5=>.AY (fun _ w=>w.BU)<|.bd h fun l2 hl2 h=>.app (E:=AQ) hl2 O O O (.s .z) O O O O O O O O (gU (.head _)) O O fun A6 c6=>.bf [1,3] [0] 1 O O<|.a 2 O<|.lb 4 1 O<|.bd h fun l3 hl3 h=>.app (E:=AQ) hl3 O O O .z O O O O O O O O (gU MQ) O O fun A7 c7=>.bf [2] [0] 2 O O ?_;cases h;exact .rv O O ⟨A7,c7,O,O⟩ zw
theorem zTI:BX Tryz.prog 154:=en Tryz.func154 (by kernel_rfl)
def jU [AP] (BF:(List Int)):Option Int:=
 bnd (yC (τ:=Int) (fun (s1:Int × Int)=>bif decide (s1.2<(BF.length:Int)) then (bnd (BP BF s1.2) fun x1=>bnd (yC (τ:=Int) (fun (s2:Int × Int)=>bif decide (s2.2<8) then (bif ((s2.1.tmod 2)==1) then (some (.next (eJ .u32 (wrap .u32 (s2.1.tdiv 2)) 3988292384,wrap .i64 (s2.2+1)))) else (some (.next (wrap .u32 (s2.1.tdiv 2),wrap .i64 (s2.2+1))))) else (some (.done s2.1))) (eJ .u32 s1.1 (wrap .u32 x1),0)) fun o2=>some (.next (o2,wrap .i64 (s1.2+1)))) else (some (.done s1.1))) (4294967295,0)) fun o1=>some (wrap .u32 (4294967295 - o1))
theorem zGP [AP] {BF A1 c1 r} (h:jU BF=some r):
    BA Tryz.prog 154 [.slice A1 BF.length c1] [.ro (AV AQ A1 c1 BF)] (Val (.int .u32 r)):=by
 refine BA.intro Tryz.func154 O O O fun w R=>?_;refine .ab [0] O<|.ae O<|.seq<|.ae O<|.bd h fun o1 hl1 h=>.cu 1 [.s 3 (.int .u32 o1)] [] O O ?_ ?_
 ·refine .block<|.BM hl1 0 (fun (s1:Int × Int) (e1:Unit)=>[0, .s 3 (.int .u32 s1.1), .s 4 (.int .i64 s1.2)]) (fun s1 e1=>[]) O O () (zb O) (fun _ w=>w) ?_;rintro s1 e1 st1 hm1 hd1 h1;refine .seq<|.ab [0,3,4,10] O<|.cb h1 O (fun h1=>?_) (fun h1=>?_)
  ·refine .sk<|.pr [0,3,4] O<|.seq<|.block<|.a 3 O<|.bd h1 fun x1 hx1 h1=>.IB hx1 0 O fun b1 DY=>.ld DY 0 0 O<|.bf [0,3,4] [] 1 O O<|.ae O<|.bd h1 fun o2 hl2 h1=>.IV<|.cu 0 [0, .s 3 (.int .u32 o2),4] [] O O ?_ ?_
   ·refine .block<|.BM hl2 0 (fun (s2:Int × Int) (e3:Unit)=>[0, .s 3 (.int .u32 s2.1),4, .s 5 (.int .i64 s2.2)]) (fun s2 e3=>[]) O O () (zb O) (fun _ w=>w) ?_;rintro s2 e3 st2 hm2 hd2 h2;refine .seq<|.ab [0,3,4,5,21] O<|.cb h2 O (fun h2=>?_) (fun h2=>?_)
    ·refine .sk<|.pr [0,3,4,5] O<|.seq<|.block<|.ab [0,3,4,5,6] O<|.ab [0,3,4,5,6] O<|.ab [0,3,4,5,29] O<|.cb h2 O (fun h2=>?_) (fun h2=>?_)
     ·refine .region<|.n 3 O<|.done<|.BL<|.AO<|.pr [0,3,4,5] O<|.region ?_;cases h2;exact .be O<|.ag () hm2 O zw
     refine .skip<|.BL<|.AO<|.pr [0,3,4,5] O<|.region ?_;cases h2;exact .be O<|.ag () hm2 O zw
    refine .xq O ?_;cases h2;cases hd2 _ rfl
    exact .AO<|.hU O zw
   refine .BL<|.AO<|.region ?_;cases h1;exact .be O<|.ag () hm1 O zw
  refine .xq O ?_;cases h1;cases hd1 _ rfl
  exact .AO<|.hU O (zl [] 1 O)
 refine .ab [2] O ?_;cases h;exact .rv O O ⟨O,O⟩ zw
theorem zQa:BX Tryz.prog 136:=en Tryz.func136 (by kernel_rfl)
def iF [AP] (CP:zN):Option Int:=
 bnd (qH CP) fun r1=>bif !r1 then (some 0) else (bnd (mC CP) fun r2=>bnd (jU r2) fun r3=>some r3)
theorem zEa [AP] {CP A1 c1 r} (h:iF CP=some r):
    BA Tryz.prog 136 [.agg (yO CP A1 c1).toArray] [.ro (AV AQ A1 c1 CP.Data)] (Val (.int .u32 r)):=by
 refine BA.intro Tryz.func136 O O O fun w R=>?_;refine .seq<|.region<|.box O O fun g1=>.b [1] O<|.seq<|.seq<|.region<|.lb 0 0 O<|.bd h fun r1 hr1 h=>.cv [1] (jZ hr1) Sr O<|.b [1,5] O<|.cb h O (fun h=>?_) (fun h=>?_)
 ·refine .EK [2] [] 2 O O ?_;cases h;exact .rv O O ⟨O,O⟩ zw
 refine .sk<|.pr [1] O<|.seq<|.region<|.lb 0 0 O<|.bd h fun r2 hr2 h=>.cr 3 [1] [] 0 (zGZ hr2) zTu O fun A2 c2=>.AY (fun _ w=>w.BU)<|.bd h fun r3 hr3 h=>.cv [0] (zGP hr3) zTI O<|.bf [2] [] 3 O O ?_;cases h;exact .rv O O ⟨O,O⟩ zw
theorem zRY:BX Tryz.prog 56:=en Tryz.func56 (by kernel_rfl)
def iJ [AP] (CP:zN):Option (zB × Int):=
 bnd (qH CP) fun r1=>bif !r1 then (some ((⟨⟨#[]⟩,(⟨(⟨(⟨⟨#[]⟩,(⟨0,0,0⟩:zQ), []⟩:zN),0⟩:yA),(⟨(⟨⟨#[]⟩,(⟨0,0,0⟩:zQ), []⟩:zN),0⟩:yA)⟩:(tH yA)),0,0,false⟩:zB),1)) else (bnd (qF CP) fun r2=>bnd (iF CP) fun r3=>some ((⟨CP.Name,(⟨(⟨r2,r3⟩:yA),(⟨(⟨⟨#[]⟩,(⟨0,0,0⟩:zQ), []⟩:zN),0⟩:yA)⟩:(tH yA)),0,0,false⟩:zB),0))
theorem zEk [AP] {CP A1 c1 r} (h:iJ CP=some r):
    BA Tryz.prog 56 [.agg (yO CP A1 c1).toArray] [.ro (AV AQ A1 c1 CP.Data)] (fun v F=>∃ A2 c2 A3 c3,v= .tuple #[.agg (zF r.1 A2 c2 A3 c3).toArray, .int .i64 r.2]∧F= [.ro (AV AQ A2 c2 r.1.Slots.e0.AU.Data), .ro (AV AQ A3 c3 r.1.Slots.e1.AU.Data)]):=by
 refine BA.intro Tryz.func56 O O O fun w R=>?_;refine .seq<|.region<|.box O O fun g1=>.alloc O O fun g2=>.b [1,2] O<|.seq<|.seq<|.region<|.lb 0 1 O<|.bd h fun r1 hr1 h=>.cv [2] (jZ hr1) Sr O<|.b [1,2,7] O<|.cb h O (fun h=>?_) (fun h=>?_)
 ·refine .a 1 O<|.sb 0 0 O<|.bf [2,3] [0] 2 O O<|.AY (fun _ w=>w.CU (CY AQ))<|.AY (fun _ w=>w.CU (CY AQ)) ?_;cases h;exact .rt O Tryz.results56 (.cell O MQ O (.tmp O .nil)) O ⟨none,0,none,0,O,O⟩ (zk 2 3 [0,0] [] 0 O)
 refine .sk<|.pr [1,2] O<|.a 1 O<|.lb 0 1 O<|.p O O<|.alloc O O fun g3=>.sb 0 0 O<|.b [1,2,4] O<|.seq<|.BI (iN [1,8,20,7,14,16,24,31] .nil) _ mixed (by kernel_rfl) (zl [] 1 O)<|.yx 0 2 O<|.yl 0 1 O<|.yn 1 O<|.BV<|.bd h fun r2 hr2 h=>.cr 5 [3] [] 0 (oK hr2) yg O fun A2 c2=>.xk (zl [] 2 O)<|.bd h fun r3 hr3 h=>.YZ (fun _ h=>h) (zEa hr3) zQa O O O O (za [2] O)<|.yn 2 O<|.BV<|.sb 1 1 O<|.xk (zl [] 2 O)<|.CQ<|.AO<|.pf [2,4] [0,0,0] 2 O O<|.seq<|.region<|.lb 0 0 O<|.sb 0 2 O<|.bf [2,3] [0] 1 O O<|.AY (fun _ w=>w.CU (CY AQ)) ?_;cases h;exact .rt O Tryz.results56 (.cell O EO O (.tmp O .nil)) O ⟨A2,c2,none,0,O,O⟩ (zk 2 3 [2,0] [] 0 O)
theorem Eh:BX Tryz.prog 175:=en Tryz.func175 (by kernel_rfl)
def tX [AP] (DJ:yS) (EN:Int):Option (yS × (List Int)):=
 bnd (zP DJ (wrap .i64 (EN+1))) fun r1=>bnd (yC (τ:=List Int × List Int × Int) (fun (s1:List Int × Int × List Int × Int)=>bif decide (s1.2.1>0) then (bnd (zP (⟨s1.2.2.1,s1.2.2.2⟩:yS) 256) fun r2=>bnd (app 1 s1.1 [wrap .u8 r2.2]) fun l1=>some (.next (l1,wrap .i64 (s1.2.1 - 1),r2.1.L,r2.1.At))) else (some (.done (s1.1,s1.2.2.1,s1.2.2.2)))) ([],r1.2,r1.1.L,r1.1.At)) fun o1=>some ((⟨o1.2.1,o1.2.2⟩:yS),o1.1)
theorem tW [AP] {DJ EN A1 c1 AZ r} (h:tX DJ EN=some r):
    BA Tryz.prog 175 [.pointer (some ⟨AZ,0,none⟩), .int .i64 EN] [.ro (AV AQ A1 c1 DJ.L), .res (Box AZ 127 [.slice A1 DJ.L.length c1, .int .i64 DJ.At])] (fun v F=>∃ A2 c2 A3 c3,v= .slice A3 r.2.length c3∧F= [.ro (AV AQ A2 c2 r.1.L), .res (Box AZ 127 [.slice A2 r.1.L.length c2, .int .i64 r.1.At]), .res (zI AQ 5 A3 c3 r.2)]):=by
 refine BA.intro Tryz.func175 O O O fun w R=>?_;refine .ab [0,1] O<|.ae O<|.seq<|.a 3 O<|.bd h fun r1 hr1 h=>.cr 3 [1] [1] 0 (zO hr1) uS O fun A2 c2=>.bf [0,5,6] [0,0] 1 O O<|.AY (fun _ w=>w.HY AQ 5)<|.bd h fun o1 hl1 h=>.DV 3 (fun (e2:Option Addr × Nat × Option Addr × Nat)=>[.s 5 (.slice e2.1 o1.1.length e2.2.1)]) (fun e2=>[.ro (AV AQ e2.2.2.1 e2.2.2.2 o1.2.1), .res (zI AQ 5 e2.1 e2.2.1 o1.1), .res (Box AZ 127 [.slice e2.2.2.1 o1.2.1.length e2.2.2.2, .int .i64 o1.2.2])]) O O ?_ ?_
 ·refine .block<|.BM hl1 3 (fun (s1:List Int × Int × List Int × Int) (e1:Option Addr × Nat × Option Addr × Nat)=>[0, .s 5 (.slice e1.1 s1.1.length e1.2.1), .s 6 (.int .i64 s1.2.1)]) (fun s1 e1=>[.ro (AV AQ e1.2.2.1 e1.2.2.2 s1.2.2.1), .res (zI AQ 5 e1.1 e1.2.1 s1.1), .res (Box AZ 127 [.slice e1.2.2.1 s1.2.2.1.length e1.2.2.2, .int .i64 s1.2.2.2])]) O O (none,0,A2,c2) (zb O) (zl [1] 0 O) ?_;rintro s1 ⟨A3,c3,A4,c4⟩ st1 hm1 hd1 h1;refine .seq<|.ab [0,5,6,12] O<|.cb h1 O (fun h1=>?_) (fun h1=>?_)
  ·refine .sk<|.pr [0,5,6] O<|.seq<|.block<|.region<|.n 2 O<|.bd h1 fun r2 hr2 h1=>.cr 4 [1] [2] 0 (zO hr2) uS O fun A7 c7=>.p O O<|.bS O fun g1=>.bd h1 fun l1 hl1 h1=>.app (E:=AQ) hl1 O O O (CS 4 O) O O O O O O O O (iV (.head _) O O) O O fun A8 c8=>.p O O<|.done<|.BL<|.AO<|.pf [0,5,6] [0,1,1] 2 O O<|.region ?_;cases h1;exact .be O<|.ag (A8,c8,A7,c7) hm1 O (zl [1] 0 O)
  refine .xq O ?_;cases h1;cases hd1 _ rfl
  exact .AO<|.hE (A3,c3,A4,c4) O zw
 rintro ⟨A5,c5,A6,c6⟩;refine .ab [4] O ?_;cases h;exact .rv O O ⟨A6,c6,A5,c5,O,O⟩ (zk 3 1 [2] [2,1] 0 O)
theorem zPH:BX Tryz.prog 258:=en Tryz.func258 (by kernel_rfl)
def iG (LM:Int):Option Bool:=
 bnd ((bif (LM==0) then (some true) else (some (LM==1)):Option Bool)) fun o1=>some o1
theorem zEc {LM r} (h:iG LM=some r):
    BA Tryz.prog 258 [.int .i64 LM] [] (Val (.bool r)):=by
 refine BA.intro Tryz.func258 O O O fun w R=>?_;refine .ab [0] O<|.seq<|.bd h fun o1 hj1 h=>.cu 0 [.s 2 (.bool o1)] [] O O ?_ ?_
 ·refine .region<|.n 3 O<|.gs 5 hj1 O (fun hj1=>?_) (fun hj1=>?_)
  ·cases hj1;exact .be O<|.hU O zw
  cases hj1;exact .be O<|.hU O zw
 cases h;exact .rv O O ⟨O,O⟩ zw
theorem zUv:BX Tryz.prog 257:=en Tryz.func257 (by kernel_rfl)
def jS [AP] (AX:yA):Option Bool:=
 bnd ((bnd (qH AX.AU) fun r1=>bif r1 then (bnd (iF AX.AU) fun r2=>some (r2==AX.Sum)) else (some false):Option Bool)) fun o1=>some o1
theorem zGT [AP] {AX A1 c1 r} (h:jS AX=some r):
    BA Tryz.prog 257 [.agg (tN AX A1 c1).toArray] [.ro (AV AQ A1 c1 AX.AU.Data)] (Val (.bool r)):=by
 refine BA.intro Tryz.func257 O O O fun w R=>?_;refine .seq<|.region<|.box O O fun g1=>.b [1] O<|.seq<|.bd h fun o1 hj1 h=>.cu 2 [.s 2 (.bool o1)] [] O O ?_ ?_
 ·refine .regionF mixed (by kernel_rfl)<|.p O O<|.lb 0 0 O<|.bd hj1 fun r1 hr1 hj1=>.cv [1] (jZ hr1) Sr O<|.p O O<|.gs 6 hj1 O (fun hj1=>?_) (fun hj1=>?_)
  ·refine .n 1 O<|.BN O O<|.lb 0 0 O<|.BN O O<|.bd hj1 fun r2 hr2 hj1=>.cv [1] (zEa hr2) zQa O<|.n 1 O<|.BN O O<|.lb 5 0 O ?_;cases hj1;exact .beq O<|.hU O (zl [] 2 O)
  cases hj1;exact .beq O<|.hU O (zl [] 2 O)
 cases h;exact .rv O O ⟨O,O⟩ zw
theorem Ei:BX Tryz.prog 237:=en Tryz.func237 (by kernel_rfl)
def rT [AP] (AX:yA) (name:ByteArray):Option Bool:=
 bnd ((bnd (jS AX) fun r1=>bif r1 then (some (AX.AU.Name.toList==name.toList)) else (some false):Option Bool)) fun o1=>some o1
theorem kU [AP] {AX name A1 c1 r} (h:rT AX name=some r):
    BA Tryz.prog 237 [.agg (tN AX A1 c1).toArray, .string name] [.ro (AV AQ A1 c1 AX.AU.Data)] (Val (.bool r)):=by
 refine BA.intro Tryz.func237 O O O fun w R=>?_;refine .seq<|.region<|.box O O fun g1=>.b [1,2] O<|.seq<|.bd h fun o1 hj1 h=>.cu 2 [.s 4 (.bool o1)] [] O O ?_ ?_
 ·refine .region<|.lb 0 0 O<|.bd hj1 fun r1 hr1 hj1=>.cv [1] (zGT hr1) zUv O<|.p O O<|.gs 7 hj1 O (fun hj1=>?_) (fun hj1=>?_)
  ·refine .n 2 O<|.BN O O<|.lb 0 0 O ?_;cases hj1;exact .be O<|.hU O (zl [] 2 O)
  cases hj1;exact .be O<|.hU O (zl [] 2 O)
 cases h;exact .rv O O ⟨O,O⟩ zw
theorem Ej:BX Tryz.prog 238:=en Tryz.func238 (by kernel_rfl)
def sL [AP] (AB:zB):Option Bool:=
 bnd ((bnd (pQ AB.Name) fun r1=>bif !r1 then (some true) else (bnd (iG AB.Active) fun r2=>bif !r2 then (some true) else (bnd (iG AB.Running) fun r3=>bif !r3 then (some true) else (bnd (BP [AB.Slots.e0,AB.Slots.e1] AB.Active) fun x1=>bnd (rT x1 AB.Name) fun r4=>bif !r4 then (some true) else (bnd (BP [AB.Slots.e0,AB.Slots.e1] AB.Running) fun x2=>bnd (rT x2 AB.Name) fun r5=>some (!r5))))):Option Bool)) fun o1=>bif o1 then (some false) else (bnd ((bif !AB.BK then (some true) else (bif (AB.Running==AB.Active) then (bnd (BP [AB.Slots.e0,AB.Slots.e1] (wrap .i64 (1 - AB.Active))) fun x3=>bnd (rT x3 AB.Name) fun r6=>some r6) else (some false)):Option Bool)) fun o2=>some o2)
theorem mD [AP] {AB A1 c1 A2 c2 r} (h:sL AB=some r):
    BA Tryz.prog 238 [.agg (zF AB A1 c1 A2 c2).toArray] [.ro (AV AQ A1 c1 AB.Slots.e0.AU.Data), .ro (AV AQ A2 c2 AB.Slots.e1.AU.Data)] (Val (.bool r)):=by
 refine BA.intro Tryz.func238 O O O fun w R=>?_;refine .seq<|.region<|.box O O fun g1=>.b [1] O<|.seq<|.seq<|.bd h fun o1 hj1 h=>.DV 0 (fun (e1:Unit)=>[1, .s 40 (.bool o1)]) (fun e1=>[]) O O ?_ ?_
 ·refine .regionF mixed (by kernel_rfl)<|.p O O<|.lb 0 0 O<|.bd hj1 fun r1 hr1 hj1=>.cv [] (gQ hr1) Sm O<|.n 2 O<|.gs 7 hj1 O (fun hj1=>?_) (fun hj1=>?_)
  ·cases hj1;exact .beq O<|.hU O zw
  refine .n 1 O<|.BN O O<|.lb 13 0 O<|.BN O O<|.bd hj1 fun r2 hr2 hj1=>.cv [] (zEc hr2) zPH O<|.n 3 O<|.gs 13 hj1 O (fun hj1=>?_) (fun hj1=>?_)
  ·cases hj1;exact .beq O<|.hU O zw
  refine .n 1 O<|.BN O O<|.lb 14 0 O<|.BN O O<|.bd hj1 fun r3 hr3 hj1=>.cv [] (zEc hr3) zPH O<|.n 3 O<|.gs 19 hj1 O (fun hj1=>?_) (fun hj1=>?_)
  ·cases hj1;exact .beq O<|.hU O zw
  refine .n 1 O<|.BN O O<|.lb 13 0 O<|.n 1 O<|.BN O O<|.bd hj1 fun x1 hx1 hj1=>.TG (sz:=6) hx1 O O O O O O O O<|.BN O O<|.UH (ls:=vO) 0 [.string AB.Name] [.int .i64 AB.Active, .int .i64 AB.Running, .bool AB.BK] [(AB.Slots.e0,((A1,c1),())),(AB.Slots.e1,((A2,c2),()))] (fun ex=>.agg (tN x1 ex.1.1 ex.1.2).toArray) hx1 O O (.head _) O O O ⟨EO,(zm 2 O),trivial⟩ O (fun _=>O) fun FC=>?_;obtain ⟨⟨A3,c3⟩,_⟩:=FC;refine .nm 4 O<|.n 1 O<|.BN O O<|.lb 0 1 O<|.BN O O<|.bd hj1 fun r4 hr4 hj1=>.cv [0] (kU hr4) Ei O<|.n 3 O<|.gs 30 hj1 O (fun hj1=>?_) (fun hj1=>?_)
  ·cases hj1;exact .beq O<|.hU O (zl [] 1 O)
  refine .n 1 O<|.BN O O<|.lb 14 1 O<|.n 1 O<|.BN O O<|.bd hj1 fun x2 hx2 hj1=>.TG (sz:=6) hx2 O O O O O O O O<|.BN O O<|.UH (ls:=vO) 0 [.string AB.Name] [.int .i64 AB.Active, .int .i64 AB.Running, .bool AB.BK] [(AB.Slots.e0,((A1,c1),())),(AB.Slots.e1,((A2,c2),()))] (fun ex=>.agg (tN x2 ex.1.1 ex.1.2).toArray) hx2 O O EO O O O ⟨(zm 2 O),(zm 3 O),trivial⟩ O (fun _=>O) fun JQ=>?_;obtain ⟨⟨A4,c4⟩,_⟩:=JQ;refine .nm 5 O<|.n 1 O<|.BN O O<|.lb 0 2 O<|.BN O O<|.bd hj1 fun r5 JH hj1=>.cv [0] (kU JH) Ei O ?_;cases hj1;exact .beq O<|.hU O (zl [] 2 O)
 rintro e1;refine .cb h O (fun h=>?_) (fun h=>?_)
 ·refine .EK [2] [] 3 O O ?_;cases h;exact .rv O O ⟨O,O⟩ zw
 refine .sk<|.pr [1] O<|.seq<|.bd h fun o2 hj2 h=>.cu 3 [.s 2 (.bool o2)] [] O O ?_ ?_
 ·refine .regionF mixed (by kernel_rfl)<|.p O O<|.lb 15 0 O<|.n 2 O<|.gs 44 hj2 O (fun hj2=>?_) (fun hj2=>?_)
  ·cases hj2;exact .beq O<|.hU O (zl [] 3 O)
  refine .n 1 O<|.BN O O<|.lb 14 0 O<|.n 1 O<|.BN O O<|.lb 13 0 O<|.n 2 O<|.gs 50 hj2 O (fun hj2=>?_) (fun hj2=>?_)
  ·refine .n 1 O<|.BN O O<|.lb 13 0 O<|.n 2 O<|.BN O O<|.bd hj2 fun x3 hx3 hj2=>.TG (sz:=6) hx3 O O O O O O O O<|.BN O O<|.UH (ls:=vO) 0 [.string AB.Name] [.int .i64 AB.Active, .int .i64 AB.Running, .bool AB.BK] [(AB.Slots.e0,((A1,c1),())),(AB.Slots.e1,((A2,c2),()))] (fun ex=>.agg (tN x3 ex.1.1 ex.1.2).toArray) hx3 O O (.head _) O O O ⟨EO,(zm 2 O),trivial⟩ O (fun _=>O) fun MX=>?_;obtain ⟨⟨A5,c5⟩,_⟩:=MX;refine .nm 4 O<|.n 1 O<|.BN O O<|.lb 0 1 O<|.BN O O<|.bd hj2 fun r6 KU hj2=>.cv [0] (kU KU) Ei O ?_;cases hj2;exact .beq O<|.hU O (zl [] 4 O)
  cases hj2;exact .beq O<|.hU O (zl [] 3 O)
 cases h;exact .rv O O ⟨O,O⟩ zw
theorem Em:BX Tryz.prog 235:=en Tryz.func235 (by kernel_rfl)
def uH [AP] (AB:zB):Option Int:=
 bnd (sL AB) fun r1=>bif !r1 then (some 1) else (bnd ((bif (AB.Running != AB.Active) then (some true) else (some AB.BK):Option Bool)) fun o1=>bif o1 then (some 46) else (some 0))
theorem oE [AP] {AB A1 c1 A2 c2 r} (h:uH AB=some r):
    BA Tryz.prog 235 [.agg (zF AB A1 c1 A2 c2).toArray] [.ro (AV AQ A1 c1 AB.Slots.e0.AU.Data), .ro (AV AQ A2 c2 AB.Slots.e1.AU.Data)] (Val (.int .i64 r)):=by
 refine BA.intro Tryz.func235 O O O fun w R=>?_;refine .seq<|.region<|.box O O fun g1=>.b [1] O<|.seq<|.block<|.seq<|.region<|.lb 0 0 O<|.bd h fun r1 hr1 h=>.cv [1,2] (mD hr1) Ej O<|.b [1,3] O<|.cb h O (fun h=>?_) (fun h=>?_)
 ·refine .EK [2] [] 3 O O ?_;cases h;exact .rv O O ⟨O,O⟩ zw
 refine .seq<|.bd h fun o1 hj1 h=>.cu 3 [.s 7 (.bool o1)] [] O O ?_ ?_
 ·refine .region<|.p O O<|.lb 14 0 O<|.p O O<|.lb 13 0 O<|.n 2 O<|.gs 13 hj1 O (fun hj1=>?_) (fun hj1=>?_)
  ·cases hj1;exact .be O<|.hU O (zl [] 3 O)
  refine .n 1 O<|.BN O O<|.lb 15 0 O ?_;cases hj1;exact .be O<|.hU O (zl [] 3 O)
 refine .cb h O (fun h=>?_) (fun h=>?_)
 ·refine .ab [2] O ?_;cases h;exact .rv O O ⟨O,O⟩ zw
 refine .skip<|.BL<|.AO<|.pr [] O<|.ae O ?_;cases h;exact .rv O O ⟨O,O⟩ zw
theorem bK:BX Tryz.prog 236:=en Tryz.func236 (by kernel_rfl)
def vG (AB:zB):Option zB:=
 bnd (qF AB.Slots.e0.AU) fun r1=>bnd (qF AB.Slots.e1.AU) fun r2=>some (⟨AB.Name,(⟨(⟨r1,AB.Slots.e0.Sum⟩:yA),(⟨r2,AB.Slots.e1.Sum⟩:yA)⟩:(tH yA)),AB.Active,AB.Running,AB.BK⟩:zB)
theorem sA {AB A1 c1 A2 c2 r} (h:vG AB=some r):
    BA Tryz.prog 236 [.agg (zF AB A1 c1 A2 c2).toArray] [.ro (AV AQ A1 c1 AB.Slots.e0.AU.Data), .ro (AV AQ A2 c2 AB.Slots.e1.AU.Data)] (fun v F=>∃ A3 c3 A4 c4,v= .agg (zF r A3 c3 A4 c4).toArray∧F= [.ro (AV AQ A3 c3 r.Slots.e0.AU.Data), .ro (AV AQ A4 c4 r.Slots.e1.AU.Data)]):=by
 refine BA.intro Tryz.func236 O O O fun w R=>?_;refine .seq<|.region<|.box O O fun g1=>.alloc O O fun g2=>.b [1,2] O<|.seq<|.bd h fun r1 hr1 h=>.bd h fun r2 hr2 h=>.BI (iN [0,4,8,20,24,28,40,56] (.alt (iN [15] (.alt (iN [19] (iN [35,44,48] (iN [39] (iN [55,60,64] (iN [71] .nil))))) (iN [35] (iN [19,44,48] (iN [39] (iN [55,60,64] (iN [71] .nil))))))) (iN [35] (iN [15] (iN [19,44,48] (iN [39] (iN [55,60,64] (iN [71] .nil)))))))) _ mixed (by kernel_rfl) (zl [0] 1 O)<|.DX (Y:=?IZ) 0 (fun (e:Option Addr × Nat)=>[1,2, .s 7 (.agg (yO r1 e.1 e.2).toArray), .s 11 (.agg (yO AB.Slots.e1.AU A2 c2).toArray), .s 13 (.pointer (some ⟨g1,1,none⟩)), .s 14 (.pointer (some ⟨g1,1,none⟩)), .s 15 (.pointer (some ⟨g1,1,none⟩)), .s 16 (.pointer (some ⟨g1,1,none⟩))]) (fun e=>[.ro (AV AQ e.1 e.2 r1.Data)]) O O (fun DL=>?EQ) ?ER
 case EQ=>
  refine .DX (Y:=?KZ) 0 (fun (e:Unit)=>[1,2, .s 6 (.agg (yO AB.Slots.e0.AU A1 c1).toArray), .s 11 (.agg (yO AB.Slots.e1.AU A2 c2).toArray), .s 13 (.pointer (some ⟨g1,1,none⟩)), .s 16 (.pointer (some ⟨g1,1,none⟩))]) (fun e=>[]) O O (fun EU=>?GL) ?GN
  case GL=>
   refine .yn 8 O<|.FY ?_ ?_
   ·refine .BV<|.lb 1 1 O<|.xk (zl [0] 1 O)<|.FY ?_ ?_
    ·refine .BV<|.cr 5 [2] [] 0 (oK hr1) yg O fun A3 c3=>.xk (zl [1] 2 O)<|.BV<|.lb 7 2 O<|.xk (zl [1] 2 O)<|.yn 2 O ?_;refine DL _ _ (A3,c3) ?_ ?_
     ·exact ⟨O,O,O,O,O,O,O,O,trivial⟩
     exact fun _ w=>w
    refine .BV<|.lb 7 1 O<|.xk (zl [0] 1 O) ?_;refine EU _ _ () ?_ ?_
    ·exact ⟨O,O,O,O,O,O,trivial⟩
    exact fun _ w=>w
   refine .BV<|.lb 7 1 O<|.xk (zl [0] 1 O)<|.BV<|.lb 1 1 O<|.xk (zl [0] 1 O) ?_;refine EU _ _ () ?_ ?_
   ·exact ⟨O,O,O,O,O,O,trivial⟩
   exact fun _ w=>w
  case GN=>
   rintro ⟨⟩;refine .nm 4 O<|.BV<|.cr 5 [2] [] 0 (oK hr1) yg O fun A3 c3=>.xk (zl [1] 2 O)<|.yn 2 O ?_;refine DL _ _ (A3,c3) ?_ ?_
   ·exact ⟨O,O,O,O,O,O,O,O,trivial⟩
   exact fun _ w=>w
 case ER=>
  rintro ⟨A3,c3⟩;refine .nm 5 O<|.BV<|.cr 6 [4] [] 0 (oK hr2) yg O fun A4 c4=>.xk (zl [2] 3 O)<|.BV<|.sb 1 3 O<|.xk (zl [] 3 O)<|.yn 2 O<|.BV<|.sb 7 0 O<|.xk (zl [] 3 O)<|.CQ<|.AO<|.pf [1,2] [0,0,0,0] 2 O O<|.seq<|.region<|.lb 0 0 O<|.sb 0 3 O<|.bf [2] [0] 1 O O ?_;cases h;exact .rt O Tryz.results236 (.cell O (.head _) O .nil) O ⟨A3,c3,A4,c4,O,O⟩ (zk 2 3 [2,1] [] 0 O)
theorem zSK:BX Tryz.prog 176:=en Tryz.func176 (by kernel_rfl)
def jX [AP] (AB:zB):Option (zB × Int):=
 bnd (uH AB) fun r1=>bif (r1 != 0) then (some ((⟨⟨#[]⟩,(⟨(⟨(⟨⟨#[]⟩,(⟨0,0,0⟩:zQ), []⟩:zN),0⟩:yA),(⟨(⟨⟨#[]⟩,(⟨0,0,0⟩:zQ), []⟩:zN),0⟩:yA)⟩:(tH yA)),0,0,false⟩:zB),r1)) else (bnd (vG AB) fun r2=>bnd (BP [r2.Slots.e0,r2.Slots.e1] (wrap .i64 (1 - r2.Running))) fun x1=>bnd (tH.set r2.Slots (wrap .i64 (1 - r2.Running)) (⟨(⟨⟨#[]⟩,(⟨0,0,0⟩:zQ), []⟩:zN),0⟩:yA)) fun z1=>some ((⟨r2.Name,z1,r2.Active,r2.Running,r2.BK⟩:zB),0))
theorem zHj [AP] {AB A1 c1 A2 c2 r} (h:jX AB=some r):
    BA Tryz.prog 176 [.agg (zF AB A1 c1 A2 c2).toArray] [.ro (AV AQ A1 c1 AB.Slots.e0.AU.Data), .ro (AV AQ A2 c2 AB.Slots.e1.AU.Data)] (fun v F=>∃ A3 c3 A4 c4,v= .tuple #[.agg (zF r.1 A3 c3 A4 c4).toArray, .int .i64 r.2]∧F= [.ro (AV AQ A3 c3 r.1.Slots.e0.AU.Data), .ro (AV AQ A4 c4 r.1.Slots.e1.AU.Data)]):=by
 refine BA.intro Tryz.func176 O O O fun w R=>?_;refine .seq<|.region<|.box O O fun g1=>.alloc O O fun g2=>.b [1,2] O<|.seq<|.seq<|.region<|.lb 0 1 O<|.bd h fun r1 hr1 h=>.cv [2,3] (oE hr1) Em O<|.b [1,2,4] O<|.ab [1,2,4,8] O<|.cb h O (fun h=>?_) (fun h=>?_)
 ·refine .a 2 O<|.sb 0 0 O<|.bf [2,3] [0] 3 O O<|.AY (fun _ w=>w.CU (CY AQ))<|.AY (fun _ w=>w.CU (CY AQ)) ?_;cases h;exact .rt O Tryz.results176 (.cell O MQ O (.tmp O .nil)) O ⟨none,0,none,0,O,O⟩ (zk 2 3 [0,0] [] 0 O)
 refine .sk<|.pr [1,2] O<|.seq<|.region<|.lb 0 1 O<|.bd h fun r2 hr2 h=>.ct 6 [2,3] [] 0 (sA hr2) bK O fun A3 c3 A4 c4=>.sb 0 3 O<|.bf [1,2] [0,0,0,0] 2 O O<|.a 1 O<|.lb 14 0 O<|.n 3 O<|.bd h fun x1 hx1 h=>.TG (sz:=6) hx1 O O O O O O O O<|.AY (fun _ w=>w.CU (CY AQ))<|.bd h fun z1 hz1 h=>.dm (ls:=vO) 0 [.string r2.Name] [.int .i64 r2.Active, .int .i64 r2.Running, .bool r2.BK] [(r2.Slots.e0,((A3,c3),())),(r2.Slots.e1,((A4,c4),()))] (fun ex=>((none,0),())) hx1 (tH.MI hz1) O O (.s .z) O O O ⟨EO,(zm 2 O),trivial⟩ O O O O (fun _=>O) (fun _=>⟨EO,trivial⟩) fun yc LZ=>?_;obtain ⟨FC,JQ,rfl⟩:=iw LZ;obtain ⟨⟨A5,c5⟩,_⟩:=FC;obtain ⟨⟨A6,c6⟩,_⟩:=JQ;refine .nm 7 O<|.bf [1,2] [0,0,0] 3 O O<|.seq<|.region<|.lb 0 0 O<|.sb 0 3 O<|.bf [2,3] [0] 1 O O ?_;cases h;exact .rt O Tryz.results176 (.cell O (.head _) O (.tmp O .nil)) O ⟨A5,c5,A6,c6,O,O⟩ (zk 2 3 [1,2] [] 0 O)
theorem zQQ:BX Tryz.prog 177:=en Tryz.func177 (by kernel_rfl)
def mL [AP] (AB:zB) (EI:zN) (GR:Int):Option (zB × Int):=
 bnd (uH AB) fun r1=>bif (r1 != 0) then (some ((⟨⟨#[]⟩,(⟨(⟨(⟨⟨#[]⟩,(⟨0,0,0⟩:zQ), []⟩:zN),0⟩:yA),(⟨(⟨⟨#[]⟩,(⟨0,0,0⟩:zQ), []⟩:zN),0⟩:yA)⟩:(tH yA)),0,0,false⟩:zB),r1)) else (bnd ((bnd (qH EI) fun r2=>bif !r2 then (some true) else (bif !(EI.Name.toList==AB.Name.toList) then (some true) else (bif decide (GR<0) then (some true) else (some (decide (GR>(EI.Data.length:Int)))))):Option Bool)) fun o1=>bif o1 then (some ((⟨⟨#[]⟩,(⟨(⟨(⟨⟨#[]⟩,(⟨0,0,0⟩:zQ), []⟩:zN),0⟩:yA),(⟨(⟨⟨#[]⟩,(⟨0,0,0⟩:zQ), []⟩:zN),0⟩:yA)⟩:(tH yA)),0,0,false⟩:zB),2)) else (bnd (vG AB) fun r3=>bnd (sub EI.Data 0 GR) fun l1=>bnd (app 1 ([]) l1) fun l2=>bnd (BP [r3.Slots.e0,r3.Slots.e1] (wrap .i64 (1 - r3.Running))) fun x1=>bnd (tH.set r3.Slots (wrap .i64 (1 - r3.Running)) (⟨(⟨EI.Name,EI.Version,l2⟩:zN),0⟩:yA)) fun z1=>some ((⟨r3.Name,z1,r3.Active,r3.Running,r3.BK⟩:zB),0)))
theorem zBz [AP] {AB EI GR A1 c1 A2 c2 A3 c3 r} (h:mL AB EI GR=some r):
    BA Tryz.prog 177 [.agg (zF AB A1 c1 A2 c2).toArray, .agg (yO EI A3 c3).toArray, .int .i64 GR] [.ro (AV AQ A1 c1 AB.Slots.e0.AU.Data), .ro (AV AQ A2 c2 AB.Slots.e1.AU.Data), .ro (AV AQ A3 c3 EI.Data)] (fun v F=>∃ A4 c4 A5 c5,v= .tuple #[.agg (zF r.1 A4 c4 A5 c5).toArray, .int .i64 r.2]∧F= [.ro (AV AQ A4 c4 r.1.Slots.e0.AU.Data), .ro (AV AQ A5 c5 r.1.Slots.e1.AU.Data)]):=by
 refine BA.intro Tryz.func177 O O O fun w R=>?_;refine .seq<|.region<|.box O O fun g1=>.box O O fun g2=>.alloc O O fun g3=>.b [2,3,4,6] O<|.seq<|.seq<|.region<|.lb 0 2 O<|.bd h fun r1 hr1 h=>.cv [3,4] (oE hr1) Em O<|.b [2,3,4,6,8] O<|.ab [2,3,4,6,8,12] O<|.cb h O (fun h=>?_) (fun h=>?_)
 ·refine .a 2 O<|.sb 0 0 O<|.bf [6,7] [0] 5 O O<|.AY (fun _ w=>w.CU (CY AQ))<|.AY (fun _ w=>w.CU (CY AQ)) ?_;cases h;exact .rt O Tryz.results177 (.cell O MQ O (.tmp O .nil)) O ⟨none,0,none,0,O,O⟩ (zk 2 3 [0,0] [] 0 O)
 refine .sk<|.pr [2,3,4,6] O<|.seq<|.seq<|.bd h fun o1 hj1 h=>.DV 0 (fun (e1:Unit)=>[2,3,4,6, .s 35 (.bool o1)]) (fun e1=>[]) O O ?_ ?_
 ·refine .region<|.lb 0 1 O<|.bd hj1 fun r2 hr2 hj1=>.cv [5] (jZ hr2) Sr O<|.n 2 O<|.gs 18 hj1 O (fun hj1=>?_) (fun hj1=>?_)
  ·cases hj1;exact .be O<|.hU O zw
  refine .n 1 O<|.BN O O<|.lb 0 1 O<|.n 1 O<|.BN O O<|.lb 0 2 O<|.n 3 O<|.gs 25 hj1 O (fun hj1=>?_) (fun hj1=>?_)
  ·cases hj1;exact .be O<|.hU O zw
  refine .n 4 O<|.gs 29 hj1 O (fun hj1=>?_) (fun hj1=>?_)
  ·cases hj1;exact .be O<|.hU O zw
  refine .n 2 O<|.BN O O<|.lb 4 1 O ?_;cases hj1;exact .be O<|.hU O zw
 rintro e1;refine .cb h O (fun h=>?_) (fun h=>?_)
 ·refine .a 1 O<|.sb 0 0 O<|.bf [6,7] [0] 5 O O<|.AY (fun _ w=>w.CU (CY AQ))<|.AY (fun _ w=>w.CU (CY AQ)) ?_;cases h;exact .rt O Tryz.results177 (.cell O MQ O (.tmp O .nil)) O ⟨none,0,none,0,O,O⟩ (zk 2 3 [0,0] [] 0 O)
 refine .sk<|.pr [2,3,4,6] O<|.seq<|.region<|.lb 0 2 O<|.bd h fun r3 hr3 h=>.ct 8 [3,4] [] 0 (sA hr3) bK O fun A4 c4 A5 c5=>.sb 0 4 O<|.bf [2,3,4,6] [0,0,0,0,0] 2 O O<|.a 1 O<|.lb 4 4 O<|.p O O<|.bd h fun l1 hl1 h=>.sub (E:=(CY AQ)) O O (zm 5 O) O O O O O O O hl1 fun A6 c6=>.AY (fun _ w=>w.HY AQ 5)<|.bd h fun l2 hl2 h=>.app (E:=AQ) hl2 O O O .z O O O O O O O O (gU EO) O O fun A7 c7=>.p O O<|.sb 4 6 O<|.bf [3,4,6] [0,0,1,1,1,1] 2 O O<|.a 1 O<|.lb 14 2 O<|.p O O<|.lb 0 0 O<|.n 2 O<|.bd h fun x1 hx1 h=>.TG (sz:=6) hx1 O O O O O O O O<|.AY (fun _ w=>(w.sl [1] 0 O).BU)<|.bd h fun z1 hz1 h=>.dm (ls:=vO) 0 [.string r3.Name] [.int .i64 r3.Active, .int .i64 r3.Running, .bool r3.BK] [(r3.Slots.e0,((A4,c4),())),(r3.Slots.e1,((A5,c5),()))] (fun ex=>((A7,c7),())) hx1 (tH.MI hz1) O O (CS 2 O) O O O ⟨(zm 2 O),(zm 3 O),trivial⟩ O O O O (fun _=>O) (fun _=>⟨EO,trivial⟩) fun yc LZ=>?_;obtain ⟨FC,JQ,rfl⟩:=iw LZ;obtain ⟨⟨A8,c8⟩,_⟩:=FC;obtain ⟨⟨A9,c9⟩,_⟩:=JQ;refine .nm 8 O<|.bf [3,6] [0,0,0] 4 O O<|.seq<|.region<|.lb 0 0 O<|.sb 0 3 O<|.bf [6,7] [0] 1 O O ?_;cases h;exact .rt O Tryz.results177 (.cell O (.head _) O (.tmp O .nil)) O ⟨A8,c8,A9,c9,O,O⟩ (zk 2 3 [1,2] [] 0 O)
theorem zSw:BX Tryz.prog 179:=en Tryz.func179 (by kernel_rfl)
def dB [AP] (CP:zN):Option Int:=
 bnd (iJ CP) fun r1=>bif (r1.2 != 0) then (some 0) else (some r1.1.Slots.e0.Sum)
theorem zKO [AP] {CP A1 c1 r} (h:dB CP=some r):
    BA Tryz.prog 179 [.agg (yO CP A1 c1).toArray] [.ro (AV AQ A1 c1 CP.Data)] (Val (.int .u32 r)):=by
 refine BA.intro Tryz.func179 O O O fun w R=>?_;refine .seq<|.region<|.box O O fun g1=>.b [1] O<|.seq<|.region<|.lb 0 0 O<|.bd h fun r1 hr1 h=>.ct 4 [1] [] 0 (zEk hr1) zRY O fun A2 c2 A3 c3=>.n 3 O<|.alloc O O fun g2=>.sb 0 0 O<|.bf [3,4] [0,0,0] 2 O O<|.seq<|.ab [3,11] O<|.cb h O (fun h=>?_) (fun h=>?_)
 ·refine .EK [2] [] 3 O O ?_;cases h;exact .rv O O ⟨O,O⟩ zw
 refine .sk<|.pr [3] O<|.a 3 O<|.lb 6 0 O<|.bf [2] [] 3 O O ?_;cases h;exact .rv O O ⟨O,O⟩ zw
theorem zTw:BX Tryz.prog 178:=en Tryz.func178 (by kernel_rfl)
def kM [AP] (AB:zB) (sum:Int):Option (zB × Int):=
 bnd (uH AB) fun r1=>bif (r1 != 0) then (some ((⟨⟨#[]⟩,(⟨(⟨(⟨⟨#[]⟩,(⟨0,0,0⟩:zQ), []⟩:zN),0⟩:yA),(⟨(⟨⟨#[]⟩,(⟨0,0,0⟩:zQ), []⟩:zN),0⟩:yA)⟩:(tH yA)),0,0,false⟩:zB),r1)) else (bnd (vG AB) fun r2=>bnd (BP [r2.Slots.e0,r2.Slots.e1] (wrap .i64 (1 - r2.Running))) fun x1=>bnd (tH.set r2.Slots (wrap .i64 (1 - r2.Running)) (⟨x1.AU,sum⟩:yA)) fun z1=>bnd (BP [z1.e0,z1.e1] (wrap .i64 (1 - r2.Running))) fun x2=>bnd (rT x2 r2.Name) fun r3=>bif !r3 then (some ((⟨⟨#[]⟩,(⟨(⟨(⟨⟨#[]⟩,(⟨0,0,0⟩:zQ), []⟩:zN),0⟩:yA),(⟨(⟨⟨#[]⟩,(⟨0,0,0⟩:zQ), []⟩:zN),0⟩:yA)⟩:(tH yA)),0,0,false⟩:zB),5)) else (some ((⟨r2.Name,z1,r2.Active,r2.Running,r2.BK⟩:zB),0)))
theorem zGA [AP] {AB sum A1 c1 A2 c2 r} (h:kM AB sum=some r):
    BA Tryz.prog 178 [.agg (zF AB A1 c1 A2 c2).toArray, .int .u32 sum] [.ro (AV AQ A1 c1 AB.Slots.e0.AU.Data), .ro (AV AQ A2 c2 AB.Slots.e1.AU.Data)] (fun v F=>∃ A3 c3 A4 c4,v= .tuple #[.agg (zF r.1 A3 c3 A4 c4).toArray, .int .i64 r.2]∧F= [.ro (AV AQ A3 c3 r.1.Slots.e0.AU.Data), .ro (AV AQ A4 c4 r.1.Slots.e1.AU.Data)]):=by
 refine BA.intro Tryz.func178 O O O fun w R=>?_;refine .seq<|.region<|.box O O fun g1=>.alloc O O fun g2=>.b [1,2,4] O<|.seq<|.seq<|.region<|.lb 0 1 O<|.bd h fun r1 hr1 h=>.cv [2,3] (oE hr1) Em O<|.b [1,2,4,6] O<|.ab [1,2,4,6,11] O<|.cb h O (fun h=>?_) (fun h=>?_)
 ·refine .a 2 O<|.sb 0 0 O<|.bf [4,5] [0] 3 O O<|.AY (fun _ w=>w.CU (CY AQ))<|.AY (fun _ w=>w.CU (CY AQ)) ?_;cases h;exact .rt O Tryz.results178 (.cell O MQ O (.tmp O .nil)) O ⟨none,0,none,0,O,O⟩ (zk 2 3 [0,0] [] 0 O)
 refine .sk<|.pr [1,2,4] O<|.seq<|.region<|.lb 0 1 O<|.bd h fun r2 hr2 h=>.ct 6 [2,3] [] 0 (sA hr2) bK O fun A3 c3 A4 c4=>.sb 0 3 O<|.bf [1,2,4] [0,0,0,0] 2 O O<|.a 1 O<|.lb 14 0 O<|.b [1,2,4,7] O<|.a 3 O<|.bd h fun x1 hx1 h=>.TG (sz:=6) hx1 O O O O O O O O<|.p O O<|.bd h fun z1 hz1 h=>.dm (ls:=vO) 5 [.string r2.Name] [.int .i64 r2.Active, .int .i64 r2.Running, .bool r2.BK] [(r2.Slots.e0,((A3,c3),())),(r2.Slots.e1,((A4,c4),()))] (fun ex=>((ex.1.1,ex.1.2),())) hx1 (tH.MI hz1) O O .z O O O ⟨(.head _),EO,trivial⟩ O O O O (fun _=>O) (fun _=>⟨(.head _),trivial⟩) fun yc LZ=>?_;obtain ⟨FC,JQ,rfl⟩:=iw LZ;obtain ⟨⟨A5,c5⟩,_⟩:=FC;obtain ⟨⟨A6,c6⟩,_⟩:=JQ;refine .nm 6 O<|.bf [2,4,7] [0,0,0] 2 O O<|.seq<|.seq<|.regionF mixed (by kernel_rfl)<|.n 2 O<|.bd h fun x2 hx2 h=>.TG (sz:=6) hx2 O O O O O O O O<|.UH (ls:=vO) 0 [.string r2.Name] [.int .i64 r2.Active, .int .i64 r2.Running, .bool r2.BK] [(z1.e0,((A5,c5),())),(z1.e1,((A6,c6),()))] (fun ex=>.agg (tN x2 ex.1.1 ex.1.2).toArray) hx2 O O (.head _) O O O ⟨EO,(zm 2 O),trivial⟩ O (fun _=>O) fun MX=>?_;obtain ⟨⟨A7,c7⟩,_⟩:=MX;refine .nm 5 O<|.p O O<|.lb 0 1 O<|.bd h fun r3 hr3 h=>.cv [0] (kU hr3) Ei O<|.beq O<|.pf [2,4,31] [] 1 O O<|.cb h O (fun h=>?_) (fun h=>?_)
 ·refine .a 1 O<|.sb 0 3 O<|.bf [4,5] [0] 3 O O<|.AY (fun _ w=>w.CU (CY AQ))<|.AY (fun _ w=>w.CU (CY AQ)) ?_;cases h;exact .rt O Tryz.results178 (.cell O MQ O (.tmp O .nil)) O ⟨none,0,none,0,O,O⟩ (zk 2 3 [0,0] [] 0 O)
 refine .sk<|.pr [2,4] O<|.seq<|.region<|.lb 0 0 O<|.sb 0 3 O<|.bf [4,5] [0] 1 O O ?_;cases h;exact .rt O Tryz.results178 (.cell O (.head _) O (.tmp O .nil)) O ⟨A5,c5,A6,c6,O,O⟩ (zk 2 3 [1,2] [] 0 O)
theorem zTb:BX Tryz.prog 180:=en Tryz.func180 (by kernel_rfl)
def lW [AP] (AB:zB):Option (zB × Int):=
 bnd (uH AB) fun r1=>bif (r1 != 0) then (some ((⟨⟨#[]⟩,(⟨(⟨(⟨⟨#[]⟩,(⟨0,0,0⟩:zQ), []⟩:zN),0⟩:yA),(⟨(⟨⟨#[]⟩,(⟨0,0,0⟩:zQ), []⟩:zN),0⟩:yA)⟩:(tH yA)),0,0,false⟩:zB),r1)) else (bnd (BP [AB.Slots.e0,AB.Slots.e1] (wrap .i64 (1 - AB.Active))) fun x1=>bnd (rT x1 AB.Name) fun r2=>bif !r2 then (some ((⟨⟨#[]⟩,(⟨(⟨(⟨⟨#[]⟩,(⟨0,0,0⟩:zQ), []⟩:zN),0⟩:yA),(⟨(⟨⟨#[]⟩,(⟨0,0,0⟩:zQ), []⟩:zN),0⟩:yA)⟩:(tH yA)),0,0,false⟩:zB),46)) else (bnd (vG AB) fun r3=>some ((⟨r3.Name,r3.Slots,r3.Active,r3.Running,true⟩:zB),0)))
theorem zFK [AP] {AB A1 c1 A2 c2 r} (h:lW AB=some r):
    BA Tryz.prog 180 [.agg (zF AB A1 c1 A2 c2).toArray] [.ro (AV AQ A1 c1 AB.Slots.e0.AU.Data), .ro (AV AQ A2 c2 AB.Slots.e1.AU.Data)] (fun v F=>∃ A3 c3 A4 c4,v= .tuple #[.agg (zF r.1 A3 c3 A4 c4).toArray, .int .i64 r.2]∧F= [.ro (AV AQ A3 c3 r.1.Slots.e0.AU.Data), .ro (AV AQ A4 c4 r.1.Slots.e1.AU.Data)]):=by
 refine BA.intro Tryz.func180 O O O fun w R=>?_;refine .seq<|.region<|.box O O fun g1=>.alloc O O fun g2=>.b [1,2] O<|.seq<|.seq<|.region<|.lb 0 1 O<|.bd h fun r1 hr1 h=>.cv [2,3] (oE hr1) Em O<|.b [1,2,4] O<|.ab [1,2,4,8] O<|.cb h O (fun h=>?_) (fun h=>?_)
 ·refine .a 2 O<|.sb 0 0 O<|.bf [2,3] [0] 3 O O<|.AY (fun _ w=>w.CU (CY AQ))<|.AY (fun _ w=>w.CU (CY AQ)) ?_;cases h;exact .rt O Tryz.results180 (.cell O MQ O (.tmp O .nil)) O ⟨none,0,none,0,O,O⟩ (zk 2 3 [0,0] [] 0 O)
 refine .sk<|.pr [1,2] O<|.seq<|.seq<|.regionF mixed (by kernel_rfl)<|.p O O<|.lb 13 1 O<|.n 2 O<|.bd h fun x1 hx1 h=>.TG (sz:=6) hx1 O O O O O O O O<|.UH (ls:=vO) 0 [.string AB.Name] [.int .i64 AB.Active, .int .i64 AB.Running, .bool AB.BK] [(AB.Slots.e0,((A1,c1),())),(AB.Slots.e1,((A2,c2),()))] (fun ex=>.agg (tN x1 ex.1.1 ex.1.2).toArray) hx1 O O EO O O O ⟨(zm 2 O),(zm 3 O),trivial⟩ O (fun _=>O) fun FC=>?_;obtain ⟨⟨A3,c3⟩,_⟩:=FC;refine .nm 5 O<|.p O O<|.lb 0 2 O<|.bd h fun r2 hr2 h=>.cv [0] (kU hr2) Ei O<|.beq O<|.pf [1,2,20] [] 1 O O<|.cb h O (fun h=>?_) (fun h=>?_)
 ·refine .a 1 O<|.sb 0 0 O<|.bf [2,3] [0] 3 O O<|.AY (fun _ w=>w.CU (CY AQ))<|.AY (fun _ w=>w.CU (CY AQ)) ?_;cases h;exact .rt O Tryz.results180 (.cell O MQ O (.tmp O .nil)) O ⟨none,0,none,0,O,O⟩ (zk 2 3 [0,0] [] 0 O)
 refine .sk<|.pr [1,2] O<|.seq<|.region<|.lb 0 1 O<|.bd h fun r3 hr3 h=>.ct 6 [2,3] [] 0 (sA hr3) bK O fun A4 c4 A5 c5=>.sb 0 3 O<|.bf [1,2] [0,0,0,0] 2 O O<|.a 1 O<|.sb 15 0 O<|.b [1,2] O<|.seq<|.region<|.lb 0 0 O<|.sb 0 3 O<|.bf [2,3] [0] 1 O O ?_;cases h;exact .rt O Tryz.results180 (.cell O (.head _) O (.tmp O .nil)) O ⟨A4,c4,A5,c5,O,O⟩ (zk 2 3 [1,2] [] 0 O)
theorem zTq:BX Tryz.prog 181:=en Tryz.func181 (by kernel_rfl)
def mO [AP] (AB:zB):Option (zB × Int):=
 bnd (sL AB) fun r1=>bif !r1 then (some ((⟨⟨#[]⟩,(⟨(⟨(⟨⟨#[]⟩,(⟨0,0,0⟩:zQ), []⟩:zN),0⟩:yA),(⟨(⟨⟨#[]⟩,(⟨0,0,0⟩:zQ), []⟩:zN),0⟩:yA)⟩:(tH yA)),0,0,false⟩:zB),1)) else (bif AB.BK then (some ((⟨⟨#[]⟩,(⟨(⟨(⟨⟨#[]⟩,(⟨0,0,0⟩:zQ), []⟩:zN),0⟩:yA),(⟨(⟨⟨#[]⟩,(⟨0,0,0⟩:zQ), []⟩:zN),0⟩:yA)⟩:(tH yA)),0,0,false⟩:zB),46)) else (bnd (vG AB) fun r2=>some ((⟨r2.Name,r2.Slots,r2.Running,r2.Running,r2.BK⟩:zB),0)))
theorem zEx [AP] {AB A1 c1 A2 c2 r} (h:mO AB=some r):
    BA Tryz.prog 181 [.agg (zF AB A1 c1 A2 c2).toArray] [.ro (AV AQ A1 c1 AB.Slots.e0.AU.Data), .ro (AV AQ A2 c2 AB.Slots.e1.AU.Data)] (fun v F=>∃ A3 c3 A4 c4,v= .tuple #[.agg (zF r.1 A3 c3 A4 c4).toArray, .int .i64 r.2]∧F= [.ro (AV AQ A3 c3 r.1.Slots.e0.AU.Data), .ro (AV AQ A4 c4 r.1.Slots.e1.AU.Data)]):=by
 refine BA.intro Tryz.func181 O O O fun w R=>?_;refine .seq<|.region<|.box O O fun g1=>.alloc O O fun g2=>.b [1,2] O<|.seq<|.block<|.seq<|.region<|.lb 0 1 O<|.bd h fun r1 hr1 h=>.cv [2,3] (mD hr1) Ej O<|.b [1,2,4] O<|.cb h O (fun h=>?_) (fun h=>?_)
 ·refine .a 1 O<|.sb 0 0 O<|.bf [2,3] [0] 3 O O<|.AY (fun _ w=>w.CU (CY AQ))<|.AY (fun _ w=>w.CU (CY AQ)) ?_;cases h;exact .rt O Tryz.results181 (.cell O MQ O (.tmp O .nil)) O ⟨none,0,none,0,O,O⟩ (zk 2 3 [0,0] [] 0 O)
 refine .a 1 O<|.lb 15 1 O<|.b [1,2,9] O<|.cb h O (fun h=>?_) (fun h=>?_)
 ·refine .a 1 O<|.sb 0 0 O<|.bf [2,3] [0] 3 O O<|.AY (fun _ w=>w.CU (CY AQ))<|.AY (fun _ w=>w.CU (CY AQ)) ?_;cases h;exact .rt O Tryz.results181 (.cell O MQ O (.tmp O .nil)) O ⟨none,0,none,0,O,O⟩ (zk 2 3 [0,0] [] 0 O)
 refine .skip<|.BL<|.AO<|.pr [1,2] O<|.seq<|.region<|.lb 0 1 O<|.bd h fun r2 hr2 h=>.ct 6 [2,3] [] 0 (sA hr2) bK O fun A3 c3 A4 c4=>.sb 0 3 O<|.bf [1,2] [0,0,0,0] 2 O O<|.a 1 O<|.lb 14 0 O<|.p O O<|.sb 13 0 O<|.b [1,2] O<|.seq<|.region<|.lb 0 0 O<|.sb 0 3 O<|.bf [2,3] [0] 1 O O ?_;cases h;exact .rt O Tryz.results181 (.cell O (.head _) O (.tmp O .nil)) O ⟨A3,c3,A4,c4,O,O⟩ (zk 2 3 [1,2] [] 0 O)
theorem zSD:BX Tryz.prog 183:=en Tryz.func183 (by kernel_rfl)
def qW [AP] (DJ:yS) (name:ByteArray):Option (yS × zN):=
 bnd (uF DJ) fun r1=>bnd (zP r1.1 256) fun r2=>bnd (tX r2.1 5) fun r3=>bnd (app 1 ([wrap .u8 r2.2]) r3.2) fun l1=>bnd (zP r3.1 30) fun r4=>bif (r4.2==29) then (some (r4.1,(⟨name,r1.2, []⟩:zN))) else (bif (r4.2==28) then (some (r4.1,(⟨name,(⟨r1.2.BZ,r1.2.CB,(-1)⟩:zQ),l1⟩:zN))) else (bif (r4.2==27) then (bnd (zP r4.1 2) fun r5=>bnd (mkS 1 0 (wrap .i64 (512+r5.2)) (wrap .i64 (512+r5.2))) fun l2=>some (r5.1,(⟨name,r1.2,l2⟩:zN))) else (some (r4.1,(⟨name,r1.2,l1⟩:zN)))))
theorem zBv [AP] {DJ name A1 c1 AZ r} (h:qW DJ name=some r):
    BA Tryz.prog 183 [.pointer (some ⟨AZ,0,none⟩), .string name] [.ro (AV AQ A1 c1 DJ.L), .res (Box AZ 127 [.slice A1 DJ.L.length c1, .int .i64 DJ.At])] (fun v F=>∃ A2 c2 A3 c3,v= .agg (yO r.2 A3 c3).toArray∧F= [.ro (AV AQ A2 c2 r.1.L), .ro (AV AQ A3 c3 r.2.Data), .res (Box AZ 127 [.slice A2 r.1.L.length c2, .int .i64 r.1.At])]):=by
 refine BA.intro Tryz.func183 O O O fun w R=>?_;refine .seq<|.region<|.alloc O O fun g1=>.done<|.AO<|.a 2 O<|.bd h fun r1 hr1 h=>.cr 4 [2] [2] 0 (qV hr1) Sj O fun A2 c2=>.p O O<|.bd h fun r2 hr2 h=>.cr 5 [1] [1] 0 (zO hr2) uS O fun A3 c3=>.p O O<|.bS O fun g2=>.p O O<|.bd h fun r3 hr3 h=>.ct 8 [2] [2] 0 (tW hr3) Eh O fun A4 c4 A5 c5=>.AY (fun _ w=>(w.sl [2] 0 O).BU)<|.AY (fun _ w=>(w.sl [3] 0 O).IL (E:=AQ) (e:=5) [wrap .u8 r2.2] O O)<|.bd h fun l1 hl1 h=>.app (E:=AQ) hl1 O O O .z O O O O O O O O (gU EO) O O fun A6 c6=>.p O O<|.alloc O O fun g3=>.sb 0 0 O<|.bf [0,4,5] [0,0,1,1,3] 4 O O<|.seq<|.a 1 O<|.bd h fun r4 hr4 h=>.cr 6 [3] [3] 0 (zO hr4) uS O fun A7 c7=>.bf [0,4,5,18] [0,0,0,0] 1 O O<|.block<|.ab [0,4,5,18,19] O<|.cb h O (fun h=>?_) (fun h=>?_)
 ·refine .region<|.p O O<|.sb 4 2 O<|.done<|.BL<|.AO<|.pf [4,5] [0,0,0] 1 O O<|.seq<|.region<|.lb 0 0 O<|.sb 0 3 O<|.bf [4] [0] 1 O O<|.AY (fun _ w=>w.CU (CY AQ)) ?_;cases h;exact .rt O Tryz.results183 (.cell O EO O .nil) O ⟨A7,c7,none,0,O,O⟩ (zk 3 3 [3,1] [3] 0 O)
 refine .ab [0,4,5,18,22] O<|.cb h O (fun h=>?_) (fun h=>?_)
 ·refine .region<|.n 2 O<|.sb 3 2 O<|.done<|.BL<|.AO<|.pr [4,5] O<|.seq<|.region<|.lb 0 0 O<|.sb 0 4 O<|.bf [4] [0] 1 O O<|.AY (fun _ w=>(w.sl [3] 0 O).BU) ?_;cases h;exact .rt O Tryz.results183 (.cell O EO O .nil) O ⟨A7,c7,A6,c6,O,O⟩ (zk 3 3 [3,1] [3] 0 O)
 refine .ab [0,4,5,26] O<|.cb h O (fun h=>?_) (fun h=>?_)
 ·refine .region<|.p O O<|.bd h fun r5 JH h=>.cr 6 [1] [1] 0 (zO JH) uS O fun A8 c8=>.p O O<|.bd h fun l2 hl2 h=>.UR (E:=AQ) 0 hl2 O O O O O O O O O O fun g4=>.p O O<|.sb 4 4 O<|.done<|.BL<|.AO<|.pf [4,5] [0,0,0,0] 2 O O<|.seq<|.region<|.lb 0 0 O<|.sb 0 4 O<|.bf [4] [0] 1 O O<|.AY (fun _ w=>(w.sl [1] 0 O).BU) ?_;cases h;exact .rt O Tryz.results183 (.cell O EO O .nil) O ⟨A8,c8,(some ⟨g4,0,none⟩),(Int.toNat (wrap .i64 (512+r5.2))),O,O⟩ (zk 3 3 [3,1] [3] 0 O)
 refine .skip<|.BL<|.AO<|.pr [4,5] O<|.seq<|.region<|.lb 0 2 O<|.sb 0 4 O<|.bf [4] [0,0,0] 1 O O<|.AY (fun _ w=>(w.sl [3] 0 O).BU) ?_;cases h;exact .rt O Tryz.results183 (.cell O EO O .nil) O ⟨A7,c7,A6,c6,O,O⟩ (zk 3 3 [3,1] [3] 0 O)
theorem En:BX Tryz.prog 184:=en Tryz.func184 (by kernel_rfl)
def rO [AP] (AB:zB):Option zB:=
 bnd (sL AB) fun r1=>bif !r1 then (some (⟨⟨#[]⟩,(⟨(⟨(⟨⟨#[]⟩,(⟨0,0,0⟩:zQ), []⟩:zN),0⟩:yA),(⟨(⟨⟨#[]⟩,(⟨0,0,0⟩:zQ), []⟩:zN),0⟩:yA)⟩:(tH yA)),0,0,false⟩:zB)) else (bnd (vG AB) fun r2=>bif r2.BK then (some (⟨r2.Name,r2.Slots,r2.Active,wrap .i64 (1 - r2.Active),false⟩:zB)) else (some (⟨r2.Name,r2.Slots,r2.Active,r2.Active,r2.BK⟩:zB)))
theorem kB [AP] {AB A1 c1 A2 c2 r} (h:rO AB=some r):
    BA Tryz.prog 184 [.agg (zF AB A1 c1 A2 c2).toArray] [.ro (AV AQ A1 c1 AB.Slots.e0.AU.Data), .ro (AV AQ A2 c2 AB.Slots.e1.AU.Data)] (fun v F=>∃ A3 c3 A4 c4,v= .agg (zF r A3 c3 A4 c4).toArray∧F= [.ro (AV AQ A3 c3 r.Slots.e0.AU.Data), .ro (AV AQ A4 c4 r.Slots.e1.AU.Data)]):=by
 refine BA.intro Tryz.func184 O O O fun w R=>?_;refine .seq<|.region<|.box O O fun g1=>.alloc O O fun g2=>.b [1,2] O<|.seq<|.seq<|.region<|.lb 0 1 O<|.bd h fun r1 hr1 h=>.cv [2,3] (mD hr1) Ej O<|.b [1,2,5] O<|.cb h O (fun h=>?_) (fun h=>?_)
 ·refine .a 1 O<|.sb 0 0 O<|.bf [2] [0] 3 O O<|.AY (fun _ w=>w.CU (CY AQ))<|.AY (fun _ w=>w.CU (CY AQ)) ?_;cases h;exact .rt O Tryz.results184 (.cell O MQ O .nil) O ⟨none,0,none,0,O,O⟩ (zk 2 3 [0,0] [] 0 O)
 refine .sk<|.pr [1,2] O<|.seq<|.region<|.lb 0 1 O<|.bd h fun r2 hr2 h=>.ct 6 [2,3] [] 0 (sA hr2) bK O fun A3 c3 A4 c4=>.sb 0 3 O<|.bf [1,2] [0,0,0,0] 2 O O<|.seq<|.a 1 O<|.lb 15 0 O<|.b [1,2,10] O<|.cb h O (fun h=>?_) (fun h=>?_)
 ·refine .region<|.p O O<|.lb 13 0 O<|.n 2 O<|.sb 14 0 O<|.p O O<|.sb 15 0 O<|.b [1,2] O<|.seq<|.region<|.lb 0 0 O<|.sb 0 3 O<|.bf [2] [0] 1 O O ?_;cases h;exact .rt O Tryz.results184 (.cell O (.head _) O .nil) O ⟨A3,c3,A4,c4,O,O⟩ (zk 2 3 [1,2] [] 0 O)
 refine .region<|.p O O<|.lb 13 0 O<|.p O O<|.sb 14 0 O<|.b [1,2] O<|.seq<|.region<|.lb 0 0 O<|.sb 0 3 O<|.bf [2] [0] 1 O O ?_;cases h;exact .rt O Tryz.results184 (.cell O (.head _) O .nil) O ⟨A3,c3,A4,c4,O,O⟩ (zk 2 3 [1,2] [] 0 O)
theorem zUs:BX Tryz.prog 182:=en Tryz.func182 (by kernel_rfl)
def jR [AP] (AB:zB) (EI:zN) (sum:Int):Option zB:=
 bnd (uH AB) fun r1=>bif (r1==0) then (bnd (vG AB) fun r2=>bnd (qF EI) fun r3=>bnd (BP [r2.Slots.e0,r2.Slots.e1] (wrap .i64 (1 - r2.Running))) fun x1=>bnd (tH.set r2.Slots (wrap .i64 (1 - r2.Running)) (⟨r3,sum⟩:yA)) fun z1=>bnd (rO (⟨r2.Name,z1,r2.Active,r2.Running,r2.BK⟩:zB)) fun r4=>some r4) else (bnd (rO AB) fun r5=>some r5)
theorem zNx: @zBD zSl=some true:=by decide+kernel
def fI:Option Bool:=some true
theorem zFb {r} (h:fI=some r):BA Tryz.prog 10 [] [.ro (TS 0 [(2,some 315),(3,some 316)])] (Val (.bool r)):=by
 cases h;exact @zHf zSl true zNx
end Go.Proofs.YtplchdlgdjcojaaGreatDoor
end
